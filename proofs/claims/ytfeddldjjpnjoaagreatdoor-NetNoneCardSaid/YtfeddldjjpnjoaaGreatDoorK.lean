/- Trees of places for the kernel: each step is one recursor of closed parts; no statement of the set is proved here. -/
import Derived.Test.YtfeddldjjpnjoaaGreatDoorJ
namespace Go.Wg

inductive D8 where
  | d0 | d1 | d2 | d3 | d4 | d5 | d6 | d7
def D8.num : D8 → Nat
  | .d0 => 0 | .d1 => 1 | .d2 => 2 | .d3 => 3 | .d4 => 4 | .d5 => 5 | .d6 => 6 | .d7 => 7
noncomputable section
def d8 (n : Nat) : D8 :=
  Nat.rec .d0 (fun n _ => Nat.rec .d1 (fun n _ => Nat.rec .d2 (fun n _ => Nat.rec .d3 (fun n _ => Nat.rec .d4 (fun n _ => Nat.rec .d5 (fun n _ => Nat.rec .d6 (fun _ _ => .d7) n) n) n) n) n) n) n
theorem d8_num {n : Nat} (h : n < 8) : (d8 n).num = n := by
  rcases N8.eight h with rfl | rfl | rfl | rfl | rfl | rfl | rfl | rfl <;> rfl

def selE1 (a : D8) : Tr 1 V → Tr 0 V := D8.rec (motive := fun _ => Tr 1 V → Tr 0 V)
  (fun t => @N8.c0 (Tr 0 V) t)
  (fun t => @N8.c1 (Tr 0 V) t)
  (fun t => @N8.c2 (Tr 0 V) t)
  (fun t => @N8.c3 (Tr 0 V) t)
  (fun t => @N8.c4 (Tr 0 V) t)
  (fun t => @N8.c5 (Tr 0 V) t)
  (fun t => @N8.c6 (Tr 0 V) t)
  (fun t => @N8.c7 (Tr 0 V) t)
  a
theorem selE1_eq (a : D8) (t : Tr 1 V) : selE1 a t = N8.sel t a.num := by cases a <;> rfl
def modE1 (a : D8) : (Tr 0 V → (Tr 0 V → Bool) → Bool) → (Tr 1 V → Bool) → Tr 0 V → Tr 0 V → Tr 0 V → Tr 0 V → Tr 0 V → Tr 0 V → Tr 0 V → Tr 0 V → Bool := D8.rec (motive := fun _ => (Tr 0 V → (Tr 0 V → Bool) → Bool) → (Tr 1 V → Bool) → Tr 0 V → Tr 0 V → Tr 0 V → Tr 0 V → Tr 0 V → Tr 0 V → Tr 0 V → Tr 0 V → Bool)
  (fun f k c0 c1 c2 c3 c4 c5 c6 c7 => f c0 fun x => k (@N8.mk (Tr 0 V) x c1 c2 c3 c4 c5 c6 c7))
  (fun f k c0 c1 c2 c3 c4 c5 c6 c7 => f c1 fun x => k (@N8.mk (Tr 0 V) c0 x c2 c3 c4 c5 c6 c7))
  (fun f k c0 c1 c2 c3 c4 c5 c6 c7 => f c2 fun x => k (@N8.mk (Tr 0 V) c0 c1 x c3 c4 c5 c6 c7))
  (fun f k c0 c1 c2 c3 c4 c5 c6 c7 => f c3 fun x => k (@N8.mk (Tr 0 V) c0 c1 c2 x c4 c5 c6 c7))
  (fun f k c0 c1 c2 c3 c4 c5 c6 c7 => f c4 fun x => k (@N8.mk (Tr 0 V) c0 c1 c2 c3 x c5 c6 c7))
  (fun f k c0 c1 c2 c3 c4 c5 c6 c7 => f c5 fun x => k (@N8.mk (Tr 0 V) c0 c1 c2 c3 c4 x c6 c7))
  (fun f k c0 c1 c2 c3 c4 c5 c6 c7 => f c6 fun x => k (@N8.mk (Tr 0 V) c0 c1 c2 c3 c4 c5 x c7))
  (fun f k c0 c1 c2 c3 c4 c5 c6 c7 => f c7 fun x => k (@N8.mk (Tr 0 V) c0 c1 c2 c3 c4 c5 c6 x))
  a
def inE1 (a : D8) (t : Tr 1 V) (f : Tr 0 V → (Tr 0 V → Bool) → Bool) (k : Tr 1 V → Bool) : Bool := N8.rec (motive := fun _ => Bool) (fun c0 c1 c2 c3 c4 c5 c6 c7 => modE1 a f k c0 c1 c2 c3 c4 c5 c6 c7) t
theorem inE1_eq (a : D8) (t : Tr 1 V) (f : Tr 0 V → (Tr 0 V → Bool) → Bool) (k : Tr 1 V → Bool) (g : Tr 0 V → Tr 0 V) (hf : ∀ x c, f x c = c (g x)) : inE1 a t f k = k (N8.upd t (g (N8.sel t a.num)) a.num) := by
  cases t; cases a <;> exact hf _ _
def selE2 (a : D8) : Tr 2 V → Tr 1 V := D8.rec (motive := fun _ => Tr 2 V → Tr 1 V)
  (fun t => @N8.c0 (Tr 1 V) t)
  (fun t => @N8.c1 (Tr 1 V) t)
  (fun t => @N8.c2 (Tr 1 V) t)
  (fun t => @N8.c3 (Tr 1 V) t)
  (fun t => @N8.c4 (Tr 1 V) t)
  (fun t => @N8.c5 (Tr 1 V) t)
  (fun t => @N8.c6 (Tr 1 V) t)
  (fun t => @N8.c7 (Tr 1 V) t)
  a
theorem selE2_eq (a : D8) (t : Tr 2 V) : selE2 a t = N8.sel t a.num := by cases a <;> rfl
def modE2 (a : D8) : (Tr 1 V → (Tr 1 V → Bool) → Bool) → (Tr 2 V → Bool) → Tr 1 V → Tr 1 V → Tr 1 V → Tr 1 V → Tr 1 V → Tr 1 V → Tr 1 V → Tr 1 V → Bool := D8.rec (motive := fun _ => (Tr 1 V → (Tr 1 V → Bool) → Bool) → (Tr 2 V → Bool) → Tr 1 V → Tr 1 V → Tr 1 V → Tr 1 V → Tr 1 V → Tr 1 V → Tr 1 V → Tr 1 V → Bool)
  (fun f k c0 c1 c2 c3 c4 c5 c6 c7 => f c0 fun x => k (@N8.mk (Tr 1 V) x c1 c2 c3 c4 c5 c6 c7))
  (fun f k c0 c1 c2 c3 c4 c5 c6 c7 => f c1 fun x => k (@N8.mk (Tr 1 V) c0 x c2 c3 c4 c5 c6 c7))
  (fun f k c0 c1 c2 c3 c4 c5 c6 c7 => f c2 fun x => k (@N8.mk (Tr 1 V) c0 c1 x c3 c4 c5 c6 c7))
  (fun f k c0 c1 c2 c3 c4 c5 c6 c7 => f c3 fun x => k (@N8.mk (Tr 1 V) c0 c1 c2 x c4 c5 c6 c7))
  (fun f k c0 c1 c2 c3 c4 c5 c6 c7 => f c4 fun x => k (@N8.mk (Tr 1 V) c0 c1 c2 c3 x c5 c6 c7))
  (fun f k c0 c1 c2 c3 c4 c5 c6 c7 => f c5 fun x => k (@N8.mk (Tr 1 V) c0 c1 c2 c3 c4 x c6 c7))
  (fun f k c0 c1 c2 c3 c4 c5 c6 c7 => f c6 fun x => k (@N8.mk (Tr 1 V) c0 c1 c2 c3 c4 c5 x c7))
  (fun f k c0 c1 c2 c3 c4 c5 c6 c7 => f c7 fun x => k (@N8.mk (Tr 1 V) c0 c1 c2 c3 c4 c5 c6 x))
  a
def inE2 (a : D8) (t : Tr 2 V) (f : Tr 1 V → (Tr 1 V → Bool) → Bool) (k : Tr 2 V → Bool) : Bool := N8.rec (motive := fun _ => Bool) (fun c0 c1 c2 c3 c4 c5 c6 c7 => modE2 a f k c0 c1 c2 c3 c4 c5 c6 c7) t
theorem inE2_eq (a : D8) (t : Tr 2 V) (f : Tr 1 V → (Tr 1 V → Bool) → Bool) (k : Tr 2 V → Bool) (g : Tr 1 V → Tr 1 V) (hf : ∀ x c, f x c = c (g x)) : inE2 a t f k = k (N8.upd t (g (N8.sel t a.num)) a.num) := by
  cases t; cases a <;> exact hf _ _
def selE3 (a : D8) : Tr 3 V → Tr 2 V := D8.rec (motive := fun _ => Tr 3 V → Tr 2 V)
  (fun t => @N8.c0 (Tr 2 V) t)
  (fun t => @N8.c1 (Tr 2 V) t)
  (fun t => @N8.c2 (Tr 2 V) t)
  (fun t => @N8.c3 (Tr 2 V) t)
  (fun t => @N8.c4 (Tr 2 V) t)
  (fun t => @N8.c5 (Tr 2 V) t)
  (fun t => @N8.c6 (Tr 2 V) t)
  (fun t => @N8.c7 (Tr 2 V) t)
  a
theorem selE3_eq (a : D8) (t : Tr 3 V) : selE3 a t = N8.sel t a.num := by cases a <;> rfl
def modE3 (a : D8) : (Tr 2 V → (Tr 2 V → Bool) → Bool) → (Tr 3 V → Bool) → Tr 2 V → Tr 2 V → Tr 2 V → Tr 2 V → Tr 2 V → Tr 2 V → Tr 2 V → Tr 2 V → Bool := D8.rec (motive := fun _ => (Tr 2 V → (Tr 2 V → Bool) → Bool) → (Tr 3 V → Bool) → Tr 2 V → Tr 2 V → Tr 2 V → Tr 2 V → Tr 2 V → Tr 2 V → Tr 2 V → Tr 2 V → Bool)
  (fun f k c0 c1 c2 c3 c4 c5 c6 c7 => f c0 fun x => k (@N8.mk (Tr 2 V) x c1 c2 c3 c4 c5 c6 c7))
  (fun f k c0 c1 c2 c3 c4 c5 c6 c7 => f c1 fun x => k (@N8.mk (Tr 2 V) c0 x c2 c3 c4 c5 c6 c7))
  (fun f k c0 c1 c2 c3 c4 c5 c6 c7 => f c2 fun x => k (@N8.mk (Tr 2 V) c0 c1 x c3 c4 c5 c6 c7))
  (fun f k c0 c1 c2 c3 c4 c5 c6 c7 => f c3 fun x => k (@N8.mk (Tr 2 V) c0 c1 c2 x c4 c5 c6 c7))
  (fun f k c0 c1 c2 c3 c4 c5 c6 c7 => f c4 fun x => k (@N8.mk (Tr 2 V) c0 c1 c2 c3 x c5 c6 c7))
  (fun f k c0 c1 c2 c3 c4 c5 c6 c7 => f c5 fun x => k (@N8.mk (Tr 2 V) c0 c1 c2 c3 c4 x c6 c7))
  (fun f k c0 c1 c2 c3 c4 c5 c6 c7 => f c6 fun x => k (@N8.mk (Tr 2 V) c0 c1 c2 c3 c4 c5 x c7))
  (fun f k c0 c1 c2 c3 c4 c5 c6 c7 => f c7 fun x => k (@N8.mk (Tr 2 V) c0 c1 c2 c3 c4 c5 c6 x))
  a
def inE3 (a : D8) (t : Tr 3 V) (f : Tr 2 V → (Tr 2 V → Bool) → Bool) (k : Tr 3 V → Bool) : Bool := N8.rec (motive := fun _ => Bool) (fun c0 c1 c2 c3 c4 c5 c6 c7 => modE3 a f k c0 c1 c2 c3 c4 c5 c6 c7) t
theorem inE3_eq (a : D8) (t : Tr 3 V) (f : Tr 2 V → (Tr 2 V → Bool) → Bool) (k : Tr 3 V → Bool) (g : Tr 2 V → Tr 2 V) (hf : ∀ x c, f x c = c (g x)) : inE3 a t f k = k (N8.upd t (g (N8.sel t a.num)) a.num) := by
  cases t; cases a <;> exact hf _ _
inductive PtE where
  | no
  | mk (a3 a2 a1 : D8)
def decE (k : Nat) : PtE := Bool.rec (motive := fun _ => PtE) .no (.mk (d8 (Nat.mod (Nat.div k 64) 8)) (d8 (Nat.mod (Nat.div k 8) 8)) (d8 (Nat.mod k 8))) (Nat.blt k 512)
def getE (t : Tr 3 V) (k : Nat) : Option V := PtE.rec (motive := fun _ => Tr 3 V → Option V) (fun _ => none) (fun a3 a2 a1 t => selE1 a1 (selE2 a2 (selE3 a3 t))) (decE k) t
theorem decE_no {k : Nat} (h : Nat.blt k (8 ^ 3) = false) : decE k = .no := by
  unfold decE; rw [show Nat.blt k 512 = false from h]
theorem decE_mk {k : Nat} (h : Nat.blt k (8 ^ 3) = true) : decE k = .mk (d8 (Nat.mod (Nat.div k 64) 8)) (d8 (Nat.mod (Nat.div k 8) 8)) (d8 (Nat.mod k 8)) := by
  unfold decE; rw [show Nat.blt k 512 = true from h]
theorem getE_eq (t : Tr 3 V) (k : Nat) : getE t k = t.get k := by
  unfold getE Tr.get
  cases h : Nat.blt k (8 ^ 3) with
  | false => rw [decE_no h]
  | true =>
    rw [decE_mk h]
    simp only [selE3_eq, selE2_eq, selE1_eq, d8_num (Tr.mod8 _)]
    rw [show Nat.mod k 8 = Nat.mod (Nat.div k (8 ^ 0)) 8 by show k % 8 = k / 1 % 8; rw [Nat.div_one]]
    rfl
def updE (t : Tr 3 V) (k : Nat) (f : Option V → (Option V → Bool) → Bool) (c : Tr 3 V → Bool) : Bool := PtE.rec (motive := fun _ => Tr 3 V → (Option V → (Option V → Bool) → Bool) → (Tr 3 V → Bool) → Bool) (fun t _ c => c t)
  (fun a3 a2 a1 t f c => (fun t c => inE3 a3 t (fun t c => inE2 a2 t (fun t c => inE1 a1 t f c) c) c) t c) (decE k) t f c
theorem updE_eq (t : Tr 3 V) (k : Nat) (f : Option V → (Option V → Bool) → Bool) (c : Tr 3 V → Bool) (g : Option V → Option V) (hf : ∀ x c, f x c = c (g x)) : updE t k f c = c (t.set k (g (t.get k))) := by
  unfold updE Tr.set Tr.get
  cases h : Nat.blt k (8 ^ 3) with
  | false => rw [decE_no h]
  | true =>
    rw [decE_mk h]
    have e : ∀ j, 8 * j = 8 * j := fun _ => rfl
    show (fun t c => (fun t c => inE3 (d8 (Nat.mod (Nat.div k (8 ^ 2)) 8)) t (fun t c => inE2 (d8 (Nat.mod (Nat.div k (8 ^ 1)) 8)) t (fun t c => inE1 (d8 (Nat.mod k 8)) t f c) c) c) t c) t c = c (Tr.setF 3 t k (g (Tr.getF 3 t k)))
    rw [show Nat.mod k 8 = Nat.mod (Nat.div k (8 ^ 0)) 8 by show k % 8 = k / 1 % 8; rw [Nat.div_one]]
    have h0 : ∀ (x : Tr 0 V) c, f x c = c (Tr.setF 0 x k (g (Tr.getF 0 x k))) := hf
    have h1 : ∀ (x : Tr 1 V) c, (fun t c => inE1 (d8 (Nat.mod (Nat.div k (8 ^ 0)) 8)) t f c) x c = c (Tr.setF 1 x k (g (Tr.getF 1 x k))) := fun x c => by
      refine (inE1_eq _ x _ c (fun y => Tr.setF 0 y k (g (Tr.getF 0 y k))) h0).trans ?_
      rw [d8_num (Tr.mod8 _)]; rfl
    have h2 : ∀ (x : Tr 2 V) c, (fun t c => inE2 (d8 (Nat.mod (Nat.div k (8 ^ 1)) 8)) t (fun t c => inE1 (d8 (Nat.mod (Nat.div k (8 ^ 0)) 8)) t f c) c) x c = c (Tr.setF 2 x k (g (Tr.getF 2 x k))) := fun x c => by
      refine (inE2_eq _ x _ c (fun y => Tr.setF 1 y k (g (Tr.getF 1 y k))) h1).trans ?_
      rw [d8_num (Tr.mod8 _)]; rfl
    have h3 : ∀ (x : Tr 3 V) c, (fun t c => inE3 (d8 (Nat.mod (Nat.div k (8 ^ 2)) 8)) t (fun t c => inE2 (d8 (Nat.mod (Nat.div k (8 ^ 1)) 8)) t (fun t c => inE1 (d8 (Nat.mod (Nat.div k (8 ^ 0)) 8)) t f c) c) c) x c = c (Tr.setF 3 x k (g (Tr.getF 3 x k))) := fun x c => by
      refine (inE3_eq _ x _ c (fun y => Tr.setF 2 y k (g (Tr.getF 2 y k))) h2).trans ?_
      rw [d8_num (Tr.mod8 _)]; rfl
    exact h3 t c
def selM1 (a : D8) : Tr 1 Ob → Tr 0 Ob := D8.rec (motive := fun _ => Tr 1 Ob → Tr 0 Ob)
  (fun t => @N8.c0 (Tr 0 Ob) t)
  (fun t => @N8.c1 (Tr 0 Ob) t)
  (fun t => @N8.c2 (Tr 0 Ob) t)
  (fun t => @N8.c3 (Tr 0 Ob) t)
  (fun t => @N8.c4 (Tr 0 Ob) t)
  (fun t => @N8.c5 (Tr 0 Ob) t)
  (fun t => @N8.c6 (Tr 0 Ob) t)
  (fun t => @N8.c7 (Tr 0 Ob) t)
  a
theorem selM1_eq (a : D8) (t : Tr 1 Ob) : selM1 a t = N8.sel t a.num := by cases a <;> rfl
def modM1 (a : D8) : (Tr 0 Ob → (Tr 0 Ob → Bool) → Bool) → (Tr 1 Ob → Bool) → Tr 0 Ob → Tr 0 Ob → Tr 0 Ob → Tr 0 Ob → Tr 0 Ob → Tr 0 Ob → Tr 0 Ob → Tr 0 Ob → Bool := D8.rec (motive := fun _ => (Tr 0 Ob → (Tr 0 Ob → Bool) → Bool) → (Tr 1 Ob → Bool) → Tr 0 Ob → Tr 0 Ob → Tr 0 Ob → Tr 0 Ob → Tr 0 Ob → Tr 0 Ob → Tr 0 Ob → Tr 0 Ob → Bool)
  (fun f k c0 c1 c2 c3 c4 c5 c6 c7 => f c0 fun x => k (@N8.mk (Tr 0 Ob) x c1 c2 c3 c4 c5 c6 c7))
  (fun f k c0 c1 c2 c3 c4 c5 c6 c7 => f c1 fun x => k (@N8.mk (Tr 0 Ob) c0 x c2 c3 c4 c5 c6 c7))
  (fun f k c0 c1 c2 c3 c4 c5 c6 c7 => f c2 fun x => k (@N8.mk (Tr 0 Ob) c0 c1 x c3 c4 c5 c6 c7))
  (fun f k c0 c1 c2 c3 c4 c5 c6 c7 => f c3 fun x => k (@N8.mk (Tr 0 Ob) c0 c1 c2 x c4 c5 c6 c7))
  (fun f k c0 c1 c2 c3 c4 c5 c6 c7 => f c4 fun x => k (@N8.mk (Tr 0 Ob) c0 c1 c2 c3 x c5 c6 c7))
  (fun f k c0 c1 c2 c3 c4 c5 c6 c7 => f c5 fun x => k (@N8.mk (Tr 0 Ob) c0 c1 c2 c3 c4 x c6 c7))
  (fun f k c0 c1 c2 c3 c4 c5 c6 c7 => f c6 fun x => k (@N8.mk (Tr 0 Ob) c0 c1 c2 c3 c4 c5 x c7))
  (fun f k c0 c1 c2 c3 c4 c5 c6 c7 => f c7 fun x => k (@N8.mk (Tr 0 Ob) c0 c1 c2 c3 c4 c5 c6 x))
  a
def inM1 (a : D8) (t : Tr 1 Ob) (f : Tr 0 Ob → (Tr 0 Ob → Bool) → Bool) (k : Tr 1 Ob → Bool) : Bool := N8.rec (motive := fun _ => Bool) (fun c0 c1 c2 c3 c4 c5 c6 c7 => modM1 a f k c0 c1 c2 c3 c4 c5 c6 c7) t
theorem inM1_eq (a : D8) (t : Tr 1 Ob) (f : Tr 0 Ob → (Tr 0 Ob → Bool) → Bool) (k : Tr 1 Ob → Bool) (g : Tr 0 Ob → Tr 0 Ob) (hf : ∀ x c, f x c = c (g x)) : inM1 a t f k = k (N8.upd t (g (N8.sel t a.num)) a.num) := by
  cases t; cases a <;> exact hf _ _
def selM2 (a : D8) : Tr 2 Ob → Tr 1 Ob := D8.rec (motive := fun _ => Tr 2 Ob → Tr 1 Ob)
  (fun t => @N8.c0 (Tr 1 Ob) t)
  (fun t => @N8.c1 (Tr 1 Ob) t)
  (fun t => @N8.c2 (Tr 1 Ob) t)
  (fun t => @N8.c3 (Tr 1 Ob) t)
  (fun t => @N8.c4 (Tr 1 Ob) t)
  (fun t => @N8.c5 (Tr 1 Ob) t)
  (fun t => @N8.c6 (Tr 1 Ob) t)
  (fun t => @N8.c7 (Tr 1 Ob) t)
  a
theorem selM2_eq (a : D8) (t : Tr 2 Ob) : selM2 a t = N8.sel t a.num := by cases a <;> rfl
def modM2 (a : D8) : (Tr 1 Ob → (Tr 1 Ob → Bool) → Bool) → (Tr 2 Ob → Bool) → Tr 1 Ob → Tr 1 Ob → Tr 1 Ob → Tr 1 Ob → Tr 1 Ob → Tr 1 Ob → Tr 1 Ob → Tr 1 Ob → Bool := D8.rec (motive := fun _ => (Tr 1 Ob → (Tr 1 Ob → Bool) → Bool) → (Tr 2 Ob → Bool) → Tr 1 Ob → Tr 1 Ob → Tr 1 Ob → Tr 1 Ob → Tr 1 Ob → Tr 1 Ob → Tr 1 Ob → Tr 1 Ob → Bool)
  (fun f k c0 c1 c2 c3 c4 c5 c6 c7 => f c0 fun x => k (@N8.mk (Tr 1 Ob) x c1 c2 c3 c4 c5 c6 c7))
  (fun f k c0 c1 c2 c3 c4 c5 c6 c7 => f c1 fun x => k (@N8.mk (Tr 1 Ob) c0 x c2 c3 c4 c5 c6 c7))
  (fun f k c0 c1 c2 c3 c4 c5 c6 c7 => f c2 fun x => k (@N8.mk (Tr 1 Ob) c0 c1 x c3 c4 c5 c6 c7))
  (fun f k c0 c1 c2 c3 c4 c5 c6 c7 => f c3 fun x => k (@N8.mk (Tr 1 Ob) c0 c1 c2 x c4 c5 c6 c7))
  (fun f k c0 c1 c2 c3 c4 c5 c6 c7 => f c4 fun x => k (@N8.mk (Tr 1 Ob) c0 c1 c2 c3 x c5 c6 c7))
  (fun f k c0 c1 c2 c3 c4 c5 c6 c7 => f c5 fun x => k (@N8.mk (Tr 1 Ob) c0 c1 c2 c3 c4 x c6 c7))
  (fun f k c0 c1 c2 c3 c4 c5 c6 c7 => f c6 fun x => k (@N8.mk (Tr 1 Ob) c0 c1 c2 c3 c4 c5 x c7))
  (fun f k c0 c1 c2 c3 c4 c5 c6 c7 => f c7 fun x => k (@N8.mk (Tr 1 Ob) c0 c1 c2 c3 c4 c5 c6 x))
  a
def inM2 (a : D8) (t : Tr 2 Ob) (f : Tr 1 Ob → (Tr 1 Ob → Bool) → Bool) (k : Tr 2 Ob → Bool) : Bool := N8.rec (motive := fun _ => Bool) (fun c0 c1 c2 c3 c4 c5 c6 c7 => modM2 a f k c0 c1 c2 c3 c4 c5 c6 c7) t
theorem inM2_eq (a : D8) (t : Tr 2 Ob) (f : Tr 1 Ob → (Tr 1 Ob → Bool) → Bool) (k : Tr 2 Ob → Bool) (g : Tr 1 Ob → Tr 1 Ob) (hf : ∀ x c, f x c = c (g x)) : inM2 a t f k = k (N8.upd t (g (N8.sel t a.num)) a.num) := by
  cases t; cases a <;> exact hf _ _
def selM3 (a : D8) : Tr 3 Ob → Tr 2 Ob := D8.rec (motive := fun _ => Tr 3 Ob → Tr 2 Ob)
  (fun t => @N8.c0 (Tr 2 Ob) t)
  (fun t => @N8.c1 (Tr 2 Ob) t)
  (fun t => @N8.c2 (Tr 2 Ob) t)
  (fun t => @N8.c3 (Tr 2 Ob) t)
  (fun t => @N8.c4 (Tr 2 Ob) t)
  (fun t => @N8.c5 (Tr 2 Ob) t)
  (fun t => @N8.c6 (Tr 2 Ob) t)
  (fun t => @N8.c7 (Tr 2 Ob) t)
  a
theorem selM3_eq (a : D8) (t : Tr 3 Ob) : selM3 a t = N8.sel t a.num := by cases a <;> rfl
def modM3 (a : D8) : (Tr 2 Ob → (Tr 2 Ob → Bool) → Bool) → (Tr 3 Ob → Bool) → Tr 2 Ob → Tr 2 Ob → Tr 2 Ob → Tr 2 Ob → Tr 2 Ob → Tr 2 Ob → Tr 2 Ob → Tr 2 Ob → Bool := D8.rec (motive := fun _ => (Tr 2 Ob → (Tr 2 Ob → Bool) → Bool) → (Tr 3 Ob → Bool) → Tr 2 Ob → Tr 2 Ob → Tr 2 Ob → Tr 2 Ob → Tr 2 Ob → Tr 2 Ob → Tr 2 Ob → Tr 2 Ob → Bool)
  (fun f k c0 c1 c2 c3 c4 c5 c6 c7 => f c0 fun x => k (@N8.mk (Tr 2 Ob) x c1 c2 c3 c4 c5 c6 c7))
  (fun f k c0 c1 c2 c3 c4 c5 c6 c7 => f c1 fun x => k (@N8.mk (Tr 2 Ob) c0 x c2 c3 c4 c5 c6 c7))
  (fun f k c0 c1 c2 c3 c4 c5 c6 c7 => f c2 fun x => k (@N8.mk (Tr 2 Ob) c0 c1 x c3 c4 c5 c6 c7))
  (fun f k c0 c1 c2 c3 c4 c5 c6 c7 => f c3 fun x => k (@N8.mk (Tr 2 Ob) c0 c1 c2 x c4 c5 c6 c7))
  (fun f k c0 c1 c2 c3 c4 c5 c6 c7 => f c4 fun x => k (@N8.mk (Tr 2 Ob) c0 c1 c2 c3 x c5 c6 c7))
  (fun f k c0 c1 c2 c3 c4 c5 c6 c7 => f c5 fun x => k (@N8.mk (Tr 2 Ob) c0 c1 c2 c3 c4 x c6 c7))
  (fun f k c0 c1 c2 c3 c4 c5 c6 c7 => f c6 fun x => k (@N8.mk (Tr 2 Ob) c0 c1 c2 c3 c4 c5 x c7))
  (fun f k c0 c1 c2 c3 c4 c5 c6 c7 => f c7 fun x => k (@N8.mk (Tr 2 Ob) c0 c1 c2 c3 c4 c5 c6 x))
  a
def inM3 (a : D8) (t : Tr 3 Ob) (f : Tr 2 Ob → (Tr 2 Ob → Bool) → Bool) (k : Tr 3 Ob → Bool) : Bool := N8.rec (motive := fun _ => Bool) (fun c0 c1 c2 c3 c4 c5 c6 c7 => modM3 a f k c0 c1 c2 c3 c4 c5 c6 c7) t
theorem inM3_eq (a : D8) (t : Tr 3 Ob) (f : Tr 2 Ob → (Tr 2 Ob → Bool) → Bool) (k : Tr 3 Ob → Bool) (g : Tr 2 Ob → Tr 2 Ob) (hf : ∀ x c, f x c = c (g x)) : inM3 a t f k = k (N8.upd t (g (N8.sel t a.num)) a.num) := by
  cases t; cases a <;> exact hf _ _
def selM4 (a : D8) : Tr 4 Ob → Tr 3 Ob := D8.rec (motive := fun _ => Tr 4 Ob → Tr 3 Ob)
  (fun t => @N8.c0 (Tr 3 Ob) t)
  (fun t => @N8.c1 (Tr 3 Ob) t)
  (fun t => @N8.c2 (Tr 3 Ob) t)
  (fun t => @N8.c3 (Tr 3 Ob) t)
  (fun t => @N8.c4 (Tr 3 Ob) t)
  (fun t => @N8.c5 (Tr 3 Ob) t)
  (fun t => @N8.c6 (Tr 3 Ob) t)
  (fun t => @N8.c7 (Tr 3 Ob) t)
  a
theorem selM4_eq (a : D8) (t : Tr 4 Ob) : selM4 a t = N8.sel t a.num := by cases a <;> rfl
def modM4 (a : D8) : (Tr 3 Ob → (Tr 3 Ob → Bool) → Bool) → (Tr 4 Ob → Bool) → Tr 3 Ob → Tr 3 Ob → Tr 3 Ob → Tr 3 Ob → Tr 3 Ob → Tr 3 Ob → Tr 3 Ob → Tr 3 Ob → Bool := D8.rec (motive := fun _ => (Tr 3 Ob → (Tr 3 Ob → Bool) → Bool) → (Tr 4 Ob → Bool) → Tr 3 Ob → Tr 3 Ob → Tr 3 Ob → Tr 3 Ob → Tr 3 Ob → Tr 3 Ob → Tr 3 Ob → Tr 3 Ob → Bool)
  (fun f k c0 c1 c2 c3 c4 c5 c6 c7 => f c0 fun x => k (@N8.mk (Tr 3 Ob) x c1 c2 c3 c4 c5 c6 c7))
  (fun f k c0 c1 c2 c3 c4 c5 c6 c7 => f c1 fun x => k (@N8.mk (Tr 3 Ob) c0 x c2 c3 c4 c5 c6 c7))
  (fun f k c0 c1 c2 c3 c4 c5 c6 c7 => f c2 fun x => k (@N8.mk (Tr 3 Ob) c0 c1 x c3 c4 c5 c6 c7))
  (fun f k c0 c1 c2 c3 c4 c5 c6 c7 => f c3 fun x => k (@N8.mk (Tr 3 Ob) c0 c1 c2 x c4 c5 c6 c7))
  (fun f k c0 c1 c2 c3 c4 c5 c6 c7 => f c4 fun x => k (@N8.mk (Tr 3 Ob) c0 c1 c2 c3 x c5 c6 c7))
  (fun f k c0 c1 c2 c3 c4 c5 c6 c7 => f c5 fun x => k (@N8.mk (Tr 3 Ob) c0 c1 c2 c3 c4 x c6 c7))
  (fun f k c0 c1 c2 c3 c4 c5 c6 c7 => f c6 fun x => k (@N8.mk (Tr 3 Ob) c0 c1 c2 c3 c4 c5 x c7))
  (fun f k c0 c1 c2 c3 c4 c5 c6 c7 => f c7 fun x => k (@N8.mk (Tr 3 Ob) c0 c1 c2 c3 c4 c5 c6 x))
  a
def inM4 (a : D8) (t : Tr 4 Ob) (f : Tr 3 Ob → (Tr 3 Ob → Bool) → Bool) (k : Tr 4 Ob → Bool) : Bool := N8.rec (motive := fun _ => Bool) (fun c0 c1 c2 c3 c4 c5 c6 c7 => modM4 a f k c0 c1 c2 c3 c4 c5 c6 c7) t
theorem inM4_eq (a : D8) (t : Tr 4 Ob) (f : Tr 3 Ob → (Tr 3 Ob → Bool) → Bool) (k : Tr 4 Ob → Bool) (g : Tr 3 Ob → Tr 3 Ob) (hf : ∀ x c, f x c = c (g x)) : inM4 a t f k = k (N8.upd t (g (N8.sel t a.num)) a.num) := by
  cases t; cases a <;> exact hf _ _
def selM5 (a : D8) : Tr 5 Ob → Tr 4 Ob := D8.rec (motive := fun _ => Tr 5 Ob → Tr 4 Ob)
  (fun t => @N8.c0 (Tr 4 Ob) t)
  (fun t => @N8.c1 (Tr 4 Ob) t)
  (fun t => @N8.c2 (Tr 4 Ob) t)
  (fun t => @N8.c3 (Tr 4 Ob) t)
  (fun t => @N8.c4 (Tr 4 Ob) t)
  (fun t => @N8.c5 (Tr 4 Ob) t)
  (fun t => @N8.c6 (Tr 4 Ob) t)
  (fun t => @N8.c7 (Tr 4 Ob) t)
  a
theorem selM5_eq (a : D8) (t : Tr 5 Ob) : selM5 a t = N8.sel t a.num := by cases a <;> rfl
def modM5 (a : D8) : (Tr 4 Ob → (Tr 4 Ob → Bool) → Bool) → (Tr 5 Ob → Bool) → Tr 4 Ob → Tr 4 Ob → Tr 4 Ob → Tr 4 Ob → Tr 4 Ob → Tr 4 Ob → Tr 4 Ob → Tr 4 Ob → Bool := D8.rec (motive := fun _ => (Tr 4 Ob → (Tr 4 Ob → Bool) → Bool) → (Tr 5 Ob → Bool) → Tr 4 Ob → Tr 4 Ob → Tr 4 Ob → Tr 4 Ob → Tr 4 Ob → Tr 4 Ob → Tr 4 Ob → Tr 4 Ob → Bool)
  (fun f k c0 c1 c2 c3 c4 c5 c6 c7 => f c0 fun x => k (@N8.mk (Tr 4 Ob) x c1 c2 c3 c4 c5 c6 c7))
  (fun f k c0 c1 c2 c3 c4 c5 c6 c7 => f c1 fun x => k (@N8.mk (Tr 4 Ob) c0 x c2 c3 c4 c5 c6 c7))
  (fun f k c0 c1 c2 c3 c4 c5 c6 c7 => f c2 fun x => k (@N8.mk (Tr 4 Ob) c0 c1 x c3 c4 c5 c6 c7))
  (fun f k c0 c1 c2 c3 c4 c5 c6 c7 => f c3 fun x => k (@N8.mk (Tr 4 Ob) c0 c1 c2 x c4 c5 c6 c7))
  (fun f k c0 c1 c2 c3 c4 c5 c6 c7 => f c4 fun x => k (@N8.mk (Tr 4 Ob) c0 c1 c2 c3 x c5 c6 c7))
  (fun f k c0 c1 c2 c3 c4 c5 c6 c7 => f c5 fun x => k (@N8.mk (Tr 4 Ob) c0 c1 c2 c3 c4 x c6 c7))
  (fun f k c0 c1 c2 c3 c4 c5 c6 c7 => f c6 fun x => k (@N8.mk (Tr 4 Ob) c0 c1 c2 c3 c4 c5 x c7))
  (fun f k c0 c1 c2 c3 c4 c5 c6 c7 => f c7 fun x => k (@N8.mk (Tr 4 Ob) c0 c1 c2 c3 c4 c5 c6 x))
  a
def inM5 (a : D8) (t : Tr 5 Ob) (f : Tr 4 Ob → (Tr 4 Ob → Bool) → Bool) (k : Tr 5 Ob → Bool) : Bool := N8.rec (motive := fun _ => Bool) (fun c0 c1 c2 c3 c4 c5 c6 c7 => modM5 a f k c0 c1 c2 c3 c4 c5 c6 c7) t
theorem inM5_eq (a : D8) (t : Tr 5 Ob) (f : Tr 4 Ob → (Tr 4 Ob → Bool) → Bool) (k : Tr 5 Ob → Bool) (g : Tr 4 Ob → Tr 4 Ob) (hf : ∀ x c, f x c = c (g x)) : inM5 a t f k = k (N8.upd t (g (N8.sel t a.num)) a.num) := by
  cases t; cases a <;> exact hf _ _
def selM6 (a : D8) : Tr 6 Ob → Tr 5 Ob := D8.rec (motive := fun _ => Tr 6 Ob → Tr 5 Ob)
  (fun t => @N8.c0 (Tr 5 Ob) t)
  (fun t => @N8.c1 (Tr 5 Ob) t)
  (fun t => @N8.c2 (Tr 5 Ob) t)
  (fun t => @N8.c3 (Tr 5 Ob) t)
  (fun t => @N8.c4 (Tr 5 Ob) t)
  (fun t => @N8.c5 (Tr 5 Ob) t)
  (fun t => @N8.c6 (Tr 5 Ob) t)
  (fun t => @N8.c7 (Tr 5 Ob) t)
  a
theorem selM6_eq (a : D8) (t : Tr 6 Ob) : selM6 a t = N8.sel t a.num := by cases a <;> rfl
def modM6 (a : D8) : (Tr 5 Ob → (Tr 5 Ob → Bool) → Bool) → (Tr 6 Ob → Bool) → Tr 5 Ob → Tr 5 Ob → Tr 5 Ob → Tr 5 Ob → Tr 5 Ob → Tr 5 Ob → Tr 5 Ob → Tr 5 Ob → Bool := D8.rec (motive := fun _ => (Tr 5 Ob → (Tr 5 Ob → Bool) → Bool) → (Tr 6 Ob → Bool) → Tr 5 Ob → Tr 5 Ob → Tr 5 Ob → Tr 5 Ob → Tr 5 Ob → Tr 5 Ob → Tr 5 Ob → Tr 5 Ob → Bool)
  (fun f k c0 c1 c2 c3 c4 c5 c6 c7 => f c0 fun x => k (@N8.mk (Tr 5 Ob) x c1 c2 c3 c4 c5 c6 c7))
  (fun f k c0 c1 c2 c3 c4 c5 c6 c7 => f c1 fun x => k (@N8.mk (Tr 5 Ob) c0 x c2 c3 c4 c5 c6 c7))
  (fun f k c0 c1 c2 c3 c4 c5 c6 c7 => f c2 fun x => k (@N8.mk (Tr 5 Ob) c0 c1 x c3 c4 c5 c6 c7))
  (fun f k c0 c1 c2 c3 c4 c5 c6 c7 => f c3 fun x => k (@N8.mk (Tr 5 Ob) c0 c1 c2 x c4 c5 c6 c7))
  (fun f k c0 c1 c2 c3 c4 c5 c6 c7 => f c4 fun x => k (@N8.mk (Tr 5 Ob) c0 c1 c2 c3 x c5 c6 c7))
  (fun f k c0 c1 c2 c3 c4 c5 c6 c7 => f c5 fun x => k (@N8.mk (Tr 5 Ob) c0 c1 c2 c3 c4 x c6 c7))
  (fun f k c0 c1 c2 c3 c4 c5 c6 c7 => f c6 fun x => k (@N8.mk (Tr 5 Ob) c0 c1 c2 c3 c4 c5 x c7))
  (fun f k c0 c1 c2 c3 c4 c5 c6 c7 => f c7 fun x => k (@N8.mk (Tr 5 Ob) c0 c1 c2 c3 c4 c5 c6 x))
  a
def inM6 (a : D8) (t : Tr 6 Ob) (f : Tr 5 Ob → (Tr 5 Ob → Bool) → Bool) (k : Tr 6 Ob → Bool) : Bool := N8.rec (motive := fun _ => Bool) (fun c0 c1 c2 c3 c4 c5 c6 c7 => modM6 a f k c0 c1 c2 c3 c4 c5 c6 c7) t
theorem inM6_eq (a : D8) (t : Tr 6 Ob) (f : Tr 5 Ob → (Tr 5 Ob → Bool) → Bool) (k : Tr 6 Ob → Bool) (g : Tr 5 Ob → Tr 5 Ob) (hf : ∀ x c, f x c = c (g x)) : inM6 a t f k = k (N8.upd t (g (N8.sel t a.num)) a.num) := by
  cases t; cases a <;> exact hf _ _
def selM7 (a : D8) : Tr 7 Ob → Tr 6 Ob := D8.rec (motive := fun _ => Tr 7 Ob → Tr 6 Ob)
  (fun t => @N8.c0 (Tr 6 Ob) t)
  (fun t => @N8.c1 (Tr 6 Ob) t)
  (fun t => @N8.c2 (Tr 6 Ob) t)
  (fun t => @N8.c3 (Tr 6 Ob) t)
  (fun t => @N8.c4 (Tr 6 Ob) t)
  (fun t => @N8.c5 (Tr 6 Ob) t)
  (fun t => @N8.c6 (Tr 6 Ob) t)
  (fun t => @N8.c7 (Tr 6 Ob) t)
  a
theorem selM7_eq (a : D8) (t : Tr 7 Ob) : selM7 a t = N8.sel t a.num := by cases a <;> rfl
def modM7 (a : D8) : (Tr 6 Ob → (Tr 6 Ob → Bool) → Bool) → (Tr 7 Ob → Bool) → Tr 6 Ob → Tr 6 Ob → Tr 6 Ob → Tr 6 Ob → Tr 6 Ob → Tr 6 Ob → Tr 6 Ob → Tr 6 Ob → Bool := D8.rec (motive := fun _ => (Tr 6 Ob → (Tr 6 Ob → Bool) → Bool) → (Tr 7 Ob → Bool) → Tr 6 Ob → Tr 6 Ob → Tr 6 Ob → Tr 6 Ob → Tr 6 Ob → Tr 6 Ob → Tr 6 Ob → Tr 6 Ob → Bool)
  (fun f k c0 c1 c2 c3 c4 c5 c6 c7 => f c0 fun x => k (@N8.mk (Tr 6 Ob) x c1 c2 c3 c4 c5 c6 c7))
  (fun f k c0 c1 c2 c3 c4 c5 c6 c7 => f c1 fun x => k (@N8.mk (Tr 6 Ob) c0 x c2 c3 c4 c5 c6 c7))
  (fun f k c0 c1 c2 c3 c4 c5 c6 c7 => f c2 fun x => k (@N8.mk (Tr 6 Ob) c0 c1 x c3 c4 c5 c6 c7))
  (fun f k c0 c1 c2 c3 c4 c5 c6 c7 => f c3 fun x => k (@N8.mk (Tr 6 Ob) c0 c1 c2 x c4 c5 c6 c7))
  (fun f k c0 c1 c2 c3 c4 c5 c6 c7 => f c4 fun x => k (@N8.mk (Tr 6 Ob) c0 c1 c2 c3 x c5 c6 c7))
  (fun f k c0 c1 c2 c3 c4 c5 c6 c7 => f c5 fun x => k (@N8.mk (Tr 6 Ob) c0 c1 c2 c3 c4 x c6 c7))
  (fun f k c0 c1 c2 c3 c4 c5 c6 c7 => f c6 fun x => k (@N8.mk (Tr 6 Ob) c0 c1 c2 c3 c4 c5 x c7))
  (fun f k c0 c1 c2 c3 c4 c5 c6 c7 => f c7 fun x => k (@N8.mk (Tr 6 Ob) c0 c1 c2 c3 c4 c5 c6 x))
  a
def inM7 (a : D8) (t : Tr 7 Ob) (f : Tr 6 Ob → (Tr 6 Ob → Bool) → Bool) (k : Tr 7 Ob → Bool) : Bool := N8.rec (motive := fun _ => Bool) (fun c0 c1 c2 c3 c4 c5 c6 c7 => modM7 a f k c0 c1 c2 c3 c4 c5 c6 c7) t
theorem inM7_eq (a : D8) (t : Tr 7 Ob) (f : Tr 6 Ob → (Tr 6 Ob → Bool) → Bool) (k : Tr 7 Ob → Bool) (g : Tr 6 Ob → Tr 6 Ob) (hf : ∀ x c, f x c = c (g x)) : inM7 a t f k = k (N8.upd t (g (N8.sel t a.num)) a.num) := by
  cases t; cases a <;> exact hf _ _
inductive PtM where
  | no
  | mk (a7 a6 a5 a4 a3 a2 a1 : D8)
def decM (k : Nat) : PtM := Bool.rec (motive := fun _ => PtM) .no (.mk (d8 (Nat.mod (Nat.div k 262144) 8)) (d8 (Nat.mod (Nat.div k 32768) 8)) (d8 (Nat.mod (Nat.div k 4096) 8)) (d8 (Nat.mod (Nat.div k 512) 8)) (d8 (Nat.mod (Nat.div k 64) 8)) (d8 (Nat.mod (Nat.div k 8) 8)) (d8 (Nat.mod k 8))) (Nat.blt k 2097152)
def getM (t : Tr 7 Ob) (k : Nat) : Option Ob := PtM.rec (motive := fun _ => Tr 7 Ob → Option Ob) (fun _ => none) (fun a7 a6 a5 a4 a3 a2 a1 t => selM1 a1 (selM2 a2 (selM3 a3 (selM4 a4 (selM5 a5 (selM6 a6 (selM7 a7 t))))))) (decM k) t
theorem decM_no {k : Nat} (h : Nat.blt k (8 ^ 7) = false) : decM k = .no := by
  unfold decM; rw [show Nat.blt k 2097152 = false from h]
theorem decM_mk {k : Nat} (h : Nat.blt k (8 ^ 7) = true) : decM k = .mk (d8 (Nat.mod (Nat.div k 262144) 8)) (d8 (Nat.mod (Nat.div k 32768) 8)) (d8 (Nat.mod (Nat.div k 4096) 8)) (d8 (Nat.mod (Nat.div k 512) 8)) (d8 (Nat.mod (Nat.div k 64) 8)) (d8 (Nat.mod (Nat.div k 8) 8)) (d8 (Nat.mod k 8)) := by
  unfold decM; rw [show Nat.blt k 2097152 = true from h]
theorem getM_eq (t : Tr 7 Ob) (k : Nat) : getM t k = t.get k := by
  unfold getM Tr.get
  cases h : Nat.blt k (8 ^ 7) with
  | false => rw [decM_no h]
  | true =>
    rw [decM_mk h]
    simp only [selM7_eq, selM6_eq, selM5_eq, selM4_eq, selM3_eq, selM2_eq, selM1_eq, d8_num (Tr.mod8 _)]
    rw [show Nat.mod k 8 = Nat.mod (Nat.div k (8 ^ 0)) 8 by show k % 8 = k / 1 % 8; rw [Nat.div_one]]
    rfl
def updM (t : Tr 7 Ob) (k : Nat) (f : Option Ob → (Option Ob → Bool) → Bool) (c : Tr 7 Ob → Bool) : Bool := PtM.rec (motive := fun _ => Tr 7 Ob → (Option Ob → (Option Ob → Bool) → Bool) → (Tr 7 Ob → Bool) → Bool) (fun t _ c => c t)
  (fun a7 a6 a5 a4 a3 a2 a1 t f c => (fun t c => inM7 a7 t (fun t c => inM6 a6 t (fun t c => inM5 a5 t (fun t c => inM4 a4 t (fun t c => inM3 a3 t (fun t c => inM2 a2 t (fun t c => inM1 a1 t f c) c) c) c) c) c) c) t c) (decM k) t f c
theorem updM_eq (t : Tr 7 Ob) (k : Nat) (f : Option Ob → (Option Ob → Bool) → Bool) (c : Tr 7 Ob → Bool) (g : Option Ob → Option Ob) (hf : ∀ x c, f x c = c (g x)) : updM t k f c = c (t.set k (g (t.get k))) := by
  unfold updM Tr.set Tr.get
  cases h : Nat.blt k (8 ^ 7) with
  | false => rw [decM_no h]
  | true =>
    rw [decM_mk h]
    have e : ∀ j, 8 * j = 8 * j := fun _ => rfl
    show (fun t c => (fun t c => inM7 (d8 (Nat.mod (Nat.div k (8 ^ 6)) 8)) t (fun t c => inM6 (d8 (Nat.mod (Nat.div k (8 ^ 5)) 8)) t (fun t c => inM5 (d8 (Nat.mod (Nat.div k (8 ^ 4)) 8)) t (fun t c => inM4 (d8 (Nat.mod (Nat.div k (8 ^ 3)) 8)) t (fun t c => inM3 (d8 (Nat.mod (Nat.div k (8 ^ 2)) 8)) t (fun t c => inM2 (d8 (Nat.mod (Nat.div k (8 ^ 1)) 8)) t (fun t c => inM1 (d8 (Nat.mod k 8)) t f c) c) c) c) c) c) c) t c) t c = c (Tr.setF 7 t k (g (Tr.getF 7 t k)))
    rw [show Nat.mod k 8 = Nat.mod (Nat.div k (8 ^ 0)) 8 by show k % 8 = k / 1 % 8; rw [Nat.div_one]]
    have h0 : ∀ (x : Tr 0 Ob) c, f x c = c (Tr.setF 0 x k (g (Tr.getF 0 x k))) := hf
    have h1 : ∀ (x : Tr 1 Ob) c, (fun t c => inM1 (d8 (Nat.mod (Nat.div k (8 ^ 0)) 8)) t f c) x c = c (Tr.setF 1 x k (g (Tr.getF 1 x k))) := fun x c => by
      refine (inM1_eq _ x _ c (fun y => Tr.setF 0 y k (g (Tr.getF 0 y k))) h0).trans ?_
      rw [d8_num (Tr.mod8 _)]; rfl
    have h2 : ∀ (x : Tr 2 Ob) c, (fun t c => inM2 (d8 (Nat.mod (Nat.div k (8 ^ 1)) 8)) t (fun t c => inM1 (d8 (Nat.mod (Nat.div k (8 ^ 0)) 8)) t f c) c) x c = c (Tr.setF 2 x k (g (Tr.getF 2 x k))) := fun x c => by
      refine (inM2_eq _ x _ c (fun y => Tr.setF 1 y k (g (Tr.getF 1 y k))) h1).trans ?_
      rw [d8_num (Tr.mod8 _)]; rfl
    have h3 : ∀ (x : Tr 3 Ob) c, (fun t c => inM3 (d8 (Nat.mod (Nat.div k (8 ^ 2)) 8)) t (fun t c => inM2 (d8 (Nat.mod (Nat.div k (8 ^ 1)) 8)) t (fun t c => inM1 (d8 (Nat.mod (Nat.div k (8 ^ 0)) 8)) t f c) c) c) x c = c (Tr.setF 3 x k (g (Tr.getF 3 x k))) := fun x c => by
      refine (inM3_eq _ x _ c (fun y => Tr.setF 2 y k (g (Tr.getF 2 y k))) h2).trans ?_
      rw [d8_num (Tr.mod8 _)]; rfl
    have h4 : ∀ (x : Tr 4 Ob) c, (fun t c => inM4 (d8 (Nat.mod (Nat.div k (8 ^ 3)) 8)) t (fun t c => inM3 (d8 (Nat.mod (Nat.div k (8 ^ 2)) 8)) t (fun t c => inM2 (d8 (Nat.mod (Nat.div k (8 ^ 1)) 8)) t (fun t c => inM1 (d8 (Nat.mod (Nat.div k (8 ^ 0)) 8)) t f c) c) c) c) x c = c (Tr.setF 4 x k (g (Tr.getF 4 x k))) := fun x c => by
      refine (inM4_eq _ x _ c (fun y => Tr.setF 3 y k (g (Tr.getF 3 y k))) h3).trans ?_
      rw [d8_num (Tr.mod8 _)]; rfl
    have h5 : ∀ (x : Tr 5 Ob) c, (fun t c => inM5 (d8 (Nat.mod (Nat.div k (8 ^ 4)) 8)) t (fun t c => inM4 (d8 (Nat.mod (Nat.div k (8 ^ 3)) 8)) t (fun t c => inM3 (d8 (Nat.mod (Nat.div k (8 ^ 2)) 8)) t (fun t c => inM2 (d8 (Nat.mod (Nat.div k (8 ^ 1)) 8)) t (fun t c => inM1 (d8 (Nat.mod (Nat.div k (8 ^ 0)) 8)) t f c) c) c) c) c) x c = c (Tr.setF 5 x k (g (Tr.getF 5 x k))) := fun x c => by
      refine (inM5_eq _ x _ c (fun y => Tr.setF 4 y k (g (Tr.getF 4 y k))) h4).trans ?_
      rw [d8_num (Tr.mod8 _)]; rfl
    have h6 : ∀ (x : Tr 6 Ob) c, (fun t c => inM6 (d8 (Nat.mod (Nat.div k (8 ^ 5)) 8)) t (fun t c => inM5 (d8 (Nat.mod (Nat.div k (8 ^ 4)) 8)) t (fun t c => inM4 (d8 (Nat.mod (Nat.div k (8 ^ 3)) 8)) t (fun t c => inM3 (d8 (Nat.mod (Nat.div k (8 ^ 2)) 8)) t (fun t c => inM2 (d8 (Nat.mod (Nat.div k (8 ^ 1)) 8)) t (fun t c => inM1 (d8 (Nat.mod (Nat.div k (8 ^ 0)) 8)) t f c) c) c) c) c) c) x c = c (Tr.setF 6 x k (g (Tr.getF 6 x k))) := fun x c => by
      refine (inM6_eq _ x _ c (fun y => Tr.setF 5 y k (g (Tr.getF 5 y k))) h5).trans ?_
      rw [d8_num (Tr.mod8 _)]; rfl
    have h7 : ∀ (x : Tr 7 Ob) c, (fun t c => inM7 (d8 (Nat.mod (Nat.div k (8 ^ 6)) 8)) t (fun t c => inM6 (d8 (Nat.mod (Nat.div k (8 ^ 5)) 8)) t (fun t c => inM5 (d8 (Nat.mod (Nat.div k (8 ^ 4)) 8)) t (fun t c => inM4 (d8 (Nat.mod (Nat.div k (8 ^ 3)) 8)) t (fun t c => inM3 (d8 (Nat.mod (Nat.div k (8 ^ 2)) 8)) t (fun t c => inM2 (d8 (Nat.mod (Nat.div k (8 ^ 1)) 8)) t (fun t c => inM1 (d8 (Nat.mod (Nat.div k (8 ^ 0)) 8)) t f c) c) c) c) c) c) c) x c = c (Tr.setF 7 x k (g (Tr.getF 7 x k))) := fun x c => by
      refine (inM7_eq _ x _ c (fun y => Tr.setF 6 y k (g (Tr.getF 6 y k))) h6).trans ?_
      rw [d8_num (Tr.mod8 _)]; rfl
    exact h7 t c
end
end Go.Wg
