/- The small machine for the kernel; no statement of the set is proved here. -/
import Derived.Test.YtfeddldjjpnjoaaGreatDoorK4
namespace Go.Wg

/-! Which operands an operation may read: looked at once for each. -/
def covO (R : List Nat) : Opd → Bool
  | .t n => memb n R
  | .c _ => true
def covL (R : List Nat) : List Opd → Bool
  | [] => true
  | x :: r => covO R x && covL R r
def covP (R : List Nat) : List (Nat × Nat × Opd) → Bool
  | [] => true
  | x :: r => covO R x.2.2 && covP R r
def covM (R : List Nat) : Option Opd → Bool
  | none => true
  | some x => covO R x
def covQ (R : List Nat) : Q → Bool
  | .bad => true
  | .mov x | .ld1 x | .ldn _ x | .nck x | .un _ x | .cvi _ x | .cvs x | .cbs x | .ifc _ x | .fa _ x | .fld _ _ x | .ext _ x | .lenS x | .lenL x | .lenM x | .lenn _ x | .cap x => covO R x
  | .bin _ x y | .bni _ x y | .eqr _ _ x y | .eqs _ _ x y | .ia _ x y | .iaa _ _ x y | .ixs x y | .ixa _ _ _ x y | .lk _ _ _ x y => covO R x && covO R y
  | .pick c a b => covO R c && (covO R a && covO R b)
  | .build _ p => covP R p
  | .mkf _ l => covL R l
  | .sls x a b => covO R x && (covM R a && covM R b)
  | .sl _ x a b c | .sla _ _ x a b c => covO R x && (covM R a && (covM R b && covM R c))
  | .mn x l | .mx x l => covO R x && covL R l
def covA (R : List Nat) : A → Bool
  | .new _ | .mkm => true
  | .box x | .sb x => covO R x
  | .mkSl _ _ _ p => covP R p
  | .mk _ _ _ x y => covO R x && covO R y
def covH (R : List Nat) : H → Bool
  | .st _ a v => covO R a && covO R v
  | .cpy _ d x | .app _ _ d x | .appZ _ _ _ d x => covO R d && covO R x
  | .clr _ _ x => covO R x
  | .mu _ m x v => covO R m && (covO R x && covO R v)
def covI (R : List Nat) : I → Bool
  | .q q => covQ R q
  | .a a => covA R a
  | .h h => covH R h
  | .call f l => covO R f && covL R l
def covG (R : List Nat) : Option (Nat × Bool) → Bool
  | none => true
  | some p => memb p.1 R
def covD (d : DOp) : Bool := covI d.reads d.e.i && covG d.reads d.e.guard
def covDs : List DOp → Bool
  | [] => true
  | d :: r => covD d && covDs r
def plainD : List DOp → Bool
  | [] => true
  | d :: r => (match d.pre, d.post with
    | none, [] => true
    | _, _ => false) && plainD r

section
variable {T : Tm} {R : List Nat}
theorem covO_ok {x : Opd} (h : covO R x = true) : Tm.only T R x = Tm.opd T x := by
  cases x with
  | t n => simp only [covO] at h; simp only [Tm.only, Tm.opd, h]
  | c v => rfl
theorem covL_ok : ∀ {l : List Opd}, covL R l = true → evL (Tm.only T R) l = evL (Tm.opd T) l
  | [], _ => rfl
  | x :: r, h => by
    simp only [covL, Bool.and_eq_true] at h
    simp only [evL, covO_ok h.1, covL_ok h.2]
theorem covP_ok : ∀ {l : List (Nat × Nat × Opd)}, covP R l = true → evP (Tm.only T R) l = evP (Tm.opd T) l
  | [], _ => rfl
  | (a, b, x) :: r, h => by
    simp only [covP, Bool.and_eq_true] at h
    simp only [evP, covO_ok h.1, covP_ok h.2]
theorem covM_ok {x : Option Opd} (h : covM R x = true) : evO (Tm.only T R) x = evO (Tm.opd T) x := by
  cases x with
  | none => rfl
  | some x => simp only [evO, covO_ok (show covO R x = true from h)]
theorem covQ_ok {q : Q} (h : covQ R q = true) (g : Get) : evQ (Tm.only T R) g q = evQ (Tm.opd T) g q := by
  cases q <;> simp only [covQ, Bool.and_eq_true] at h <;> simp only [evQ, ev1, ev2] <;> first
    | done
    | rw [covO_ok h]
    | rw [covO_ok h.1, covO_ok h.2]
    | rw [covO_ok h.1, covO_ok h.2.1, covO_ok h.2.2]
    | rw [covP_ok h]
    | rw [covL_ok h]
    | rw [covO_ok h.1, covL_ok h.2]
    | rw [covO_ok h.1, covM_ok h.2.1, covM_ok h.2.2]
    | rw [covO_ok h.1, covM_ok h.2.1, covM_ok h.2.2.1, covM_ok h.2.2.2]
theorem covQ_rd {q : Q} (h : covQ R q = true) : rdQ (Tm.only T R) q = rdQ (Tm.opd T) q := by
  cases q <;> simp only [covQ, Bool.and_eq_true] at h <;> simp only [rdQ] <;> first
    | done
    | rw [covO_ok h]
    | rw [covO_ok h.1]
theorem covA_ok {a : A} (h : covA R a = true) (s : St) : evA (Tm.only T R) s a = evA (Tm.opd T) s a := by
  cases a <;> simp only [covA, Bool.and_eq_true] at h <;> simp only [evA] <;> first
    | done
    | rw [covO_ok h]
    | rw [covO_ok h.1, covO_ok h.2]
    | rw [covP_ok h]
theorem covH_ok {a : H} (h : covH R a = true) (s : St) : evH (Tm.only T R) s a = evH (Tm.opd T) s a := by
  cases a <;> simp only [covH, Bool.and_eq_true] at h <;> simp only [evH] <;> first
    | done
    | rw [covO_ok h]
    | rw [covO_ok h.1, covO_ok h.2]
    | rw [covO_ok h.1, covO_ok h.2.1, covO_ok h.2.2]
theorem covG_ok {g : Option (Nat × Bool)} (h : covG R g = true) : want (Tm.only T R) g = want (Tm.opd T) g := by
  cases g with
  | none => rfl
  | some p =>
    obtain ⟨d, x⟩ := p
    simp only [want, covO_ok (T := T) (x := .t d) (R := R) h]
theorem one_self (g : Get) (o : Nat) : one g (some o) o = g o := by
  simp only [one, show Nat.beq o o = true from Nat.beq_refl o]
end
end Go.Wg
