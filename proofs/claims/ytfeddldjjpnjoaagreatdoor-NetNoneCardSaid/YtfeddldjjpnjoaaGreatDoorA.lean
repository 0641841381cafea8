/- The values, the memory and the relation to the model's world of a small machine without a tape; no statement of the set is proved here. -/
import Derived.Test.YtfeddldjjpnjoaaGreatDoorS
namespace Go.Wg

/-- Values; an address is an object's number and a place in it. -/
inductive V where
  | b (x : Bool)
  | i (k : IntKind) (n : Int)
  | s (x : ByteArray)
  | nilp
  | p (o off : Nat)
  | nilsl
  | esl (o off esz : Nat)
  | sl (o off len : Nat) (cap : Option Nat) (esz : Nat)
  | nilm
  | m (o : Nat)
  | fn (f : Nat) (caps : List V)
  | yv (o : Nat)
  | nilf
  | nili
  | ifc (t : Nat) (v : V)
  | agg (l : List V)
  | tup (l : List V)
  deriving Inhabited

/-- Where an object lies: a block, the place in it, how many cells. -/
structure Loc where
  blk : Nat
  base : Nat
  size : Nat

abbrev Rho := Nat → Option Loc

def SlRel (L : Loc) (off esz c : Nat) : Option Nat → Prop
  | some c' => c = c' ∧ off + c * esz ≤ L.size
  | none => off + c * esz = L.size

mutual
def Rel (ρ : Rho) : V → Value → Prop
  | .b x, y => y = .bool x
  | .i k n, y => y = .int k n
  | .s x, y => y = .string x
  | .nilp, y => y = .pointer none
  | .p o off, y => ∃ L, ρ o = some L ∧ y = .pointer (some ⟨L.blk, L.base + off, none⟩)
  | .nilsl, y => y = .slice none 0 0
  | .esl o off esz, y => ∃ L c a, ρ o = some L ∧ y = .slice (some a) 0 c ∧ 0 < esz ∧ off + c * esz = L.size ∧ (0 < c → a = ⟨L.blk, L.base + off, none⟩)
  | .sl o off len cap esz, y => ∃ L c, ρ o = some L ∧ y = .slice (some ⟨L.blk, L.base + off, none⟩) len c ∧ 0 < esz ∧ len ≤ c ∧ SlRel L off esz c cap
  | .nilm, y => y = .map none
  | .m o, y => ∃ L, ρ o = some L ∧ y = .map (some L.blk)
  | .fn f caps, y => ∃ cs, RelL ρ caps cs ∧ y = .func (.func f) #[] cs.toArray
  | .yv o, y => ∃ L, ρ o = some L ∧ y = .func (.yield L.blk) #[] #[]
  | .nilf, y => y = .nilFunc
  | .nili, y => y = .nilIface
  | .ifc t v, y => ∃ x, Rel ρ v x ∧ y = .iface t x
  | .agg l, y => ∃ cs, RelL ρ l cs ∧ y = .agg cs.toArray
  | .tup l, y => ∃ cs, RelL ρ l cs ∧ y = .tuple cs.toArray
def RelL (ρ : Rho) : List V → List Value → Prop
  | [], ys => ys = []
  | v :: vs, ys => ∃ y ys', Rel ρ v y ∧ RelL ρ vs ys' ∧ ys = y :: ys'
end

def Rho.le (ρ ρ' : Rho) : Prop := ∀ i L, ρ i = some L → ρ' i = some L

mutual
theorem Rel.mono {ρ ρ' : Rho} (h : Rho.le ρ ρ') : ∀ (v : V) (x : Value), Rel ρ v x → Rel ρ' v x
  | .b _, _, hx | .i _ _, _, hx | .s _, _, hx | .nilp, _, hx | .nilsl, _, hx | .nilm, _, hx | .nilf, _, hx | .nili, _, hx => by
    simpa only [Rel] using hx
  | .p o off, x, hx => by
    simp only [Rel] at hx ⊢; obtain ⟨L, h1, h2⟩ := hx; exact ⟨L, h _ _ h1, h2⟩
  | .esl o off esz, x, hx => by
    simp only [Rel] at hx ⊢; obtain ⟨L, c, a, h1, h2⟩ := hx; exact ⟨L, c, a, h _ _ h1, h2⟩
  | .sl o off len cap esz, x, hx => by
    simp only [Rel] at hx ⊢; obtain ⟨L, c, h1, h2⟩ := hx; exact ⟨L, c, h _ _ h1, h2⟩
  | .m o, x, hx => by
    simp only [Rel] at hx ⊢; obtain ⟨L, h1, h2⟩ := hx; exact ⟨L, h _ _ h1, h2⟩
  | .yv o, x, hx => by
    simp only [Rel] at hx ⊢; obtain ⟨L, h1, h2⟩ := hx; exact ⟨L, h _ _ h1, h2⟩
  | .fn f caps, x, hx => by
    simp only [Rel] at hx ⊢; obtain ⟨cs, h1, h2⟩ := hx; exact ⟨cs, RelL.mono h caps cs h1, h2⟩
  | .ifc t v, x, hx => by
    simp only [Rel] at hx ⊢; obtain ⟨y, h1, h2⟩ := hx; exact ⟨y, Rel.mono h v y h1, h2⟩
  | .agg l, x, hx => by
    simp only [Rel] at hx ⊢; obtain ⟨cs, h1, h2⟩ := hx; exact ⟨cs, RelL.mono h l cs h1, h2⟩
  | .tup l, x, hx => by
    simp only [Rel] at hx ⊢; obtain ⟨cs, h1, h2⟩ := hx; exact ⟨cs, RelL.mono h l cs h1, h2⟩
theorem RelL.mono {ρ ρ' : Rho} (h : Rho.le ρ ρ') : ∀ (l : List V) (cs : List Value), RelL ρ l cs → RelL ρ' l cs
  | [], cs, hx => by simpa only [RelL] using hx
  | v :: vs, cs, hx => by
    simp only [RelL] at hx ⊢
    obtain ⟨y, ys, h1, h2, h3⟩ := hx
    exact ⟨y, ys, Rel.mono h v y h1, RelL.mono h vs ys h2, h3⟩
end

theorem RelL.length {ρ : Rho} : ∀ {l : List V} {cs : List Value}, RelL ρ l cs → cs.length = l.length
  | [], cs, h => by simp only [RelL] at h; subst h; rfl
  | v :: vs, cs, h => by
    simp only [RelL] at h
    obtain ⟨y, ys, _, h2, rfl⟩ := h
    simp [RelL.length h2]

theorem RelL.get {ρ : Rho} : ∀ {l : List V} {cs : List Value}, RelL ρ l cs → ∀ (j : Nat) (v : V), l[j]? = some v → ∃ x, cs[j]? = some x ∧ Rel ρ v x
  | [], cs, _, j, v, hj => by simp at hj
  | u :: vs, cs, h, j, v, hj => by
    simp only [RelL] at h
    obtain ⟨y, ys, h1, h2, rfl⟩ := h
    cases j with
    | zero => simp at hj; subst hj; exact ⟨y, by simp, h1⟩
    | succ j => simp at hj; simpa using RelL.get h2 j v hj

theorem RelL.of_get {ρ : Rho} : ∀ (l : List V) (cs : List Value), cs.length = l.length → (∀ (j : Nat) (v : V), l[j]? = some v → ∃ x, cs[j]? = some x ∧ Rel ρ v x) → RelL ρ l cs
  | [], cs, hl, _ => by simp only [RelL]; simpa using hl
  | v :: vs, cs, hl, h => by
    cases cs with
    | nil => simp at hl
    | cons y ys =>
      simp only [RelL]
      obtain ⟨x, hx, hr⟩ := h 0 v (by simp)
      simp at hx; subst hx
      exact ⟨y, ys, hr, RelL.of_get vs ys (by simpa using hl) (fun j u hj => by simpa using h (j + 1) u (by simpa using hj)), rfl⟩

theorem RelL.append {ρ : Rho} : ∀ {l l' : List V} {cs cs' : List Value}, RelL ρ l cs → RelL ρ l' cs' → RelL ρ (l ++ l') (cs ++ cs')
  | [], l', cs, cs', h, h' => by simp only [RelL] at h; subst h; simpa using h'
  | v :: vs, l', cs, cs', h, h' => by
    simp only [RelL] at h
    obtain ⟨y, ys, h1, h2, rfl⟩ := h
    simp only [List.cons_append, RelL]
    exact ⟨y, ys ++ cs', h1, RelL.append h2 h', rfl⟩

theorem RelL.take {ρ : Rho} {l : List V} {cs : List Value} (h : RelL ρ l cs) (n : Nat) : RelL ρ (l.take n) (cs.take n) := by
  refine RelL.of_get _ _ (by simp [h.length]) fun j v hj => ?_
  rw [List.getElem?_take] at hj ⊢
  split at hj
  · rename_i hlt; simp only [hlt, if_true]; exact h.get j v hj
  · simp at hj

theorem RelL.drop {ρ : Rho} {l : List V} {cs : List Value} (h : RelL ρ l cs) (n : Nat) : RelL ρ (l.drop n) (cs.drop n) := by
  refine RelL.of_get _ _ (by simp [h.length]) fun j v hj => ?_
  rw [List.getElem?_drop] at hj ⊢
  exact h.get _ v hj

/-- Is a value one that a cell holds? -/
def V.flat : V → Bool
  | .agg _ | .tup _ => false
  | _ => true

def V.cells : V → List V
  | .agg l => l
  | v => [v]

theorem Rel.flat {ρ : Rho} {v : V} {x : Value} (h : Rel ρ v x) (hf : v.flat = true) : (∀ cs, x ≠ .agg cs) ∧ (∀ cs, x ≠ .tuple cs) := by
  cases v <;> simp only [Rel] at h <;> first
    | (exact nomatch (show false = true from hf))
    | (subst h; exact ⟨by simp, by simp⟩)
    | (obtain ⟨_, _, rfl⟩ := h; exact ⟨by simp, by simp⟩)
    | (obtain ⟨_, _, _, rfl, _⟩ := h; exact ⟨by simp, by simp⟩)
    | (obtain ⟨_, _, _, _, rfl, _⟩ := h; exact ⟨by simp, by simp⟩)

theorem Rel.cells {ρ : Rho} {v : V} {x : Value} (h : Rel ρ v x) : RelL ρ v.cells x.cells.toList := by
  cases v with
  | agg l => simp only [Rel] at h; obtain ⟨cs, h1, rfl⟩ := h; simpa [V.cells, Value.cells] using h1
  | tup l =>
    have h' := h
    simp only [Rel] at h; obtain ⟨cs, h1, rfl⟩ := h
    simp only [V.cells, RelL, Value.cells]; exact ⟨_, [], h', rfl, rfl⟩
  | _ =>
    have hx := Rel.flat h rfl
    have : x.cells = #[x] := by
      cases x <;> first | rfl | exact absurd rfl (hx.1 _)
    rw [this]
    simp only [V.cells, RelL]
    exact ⟨x, [], h, rfl, rfl⟩

/-- Eight places. -/
structure N8 (α : Type) where
  c0 : α
  c1 : α
  c2 : α
  c3 : α
  c4 : α
  c5 : α
  c6 : α
  c7 : α

namespace N8
variable {α : Type}
def sel (t : N8 α) : Nat → α
  | 0 => t.c0
  | 1 => t.c1
  | 2 => t.c2
  | 3 => t.c3
  | 4 => t.c4
  | 5 => t.c5
  | 6 => t.c6
  | _ => t.c7
def upd (t : N8 α) (x : α) : Nat → N8 α
  | 0 => ⟨x, t.c1, t.c2, t.c3, t.c4, t.c5, t.c6, t.c7⟩
  | 1 => ⟨t.c0, x, t.c2, t.c3, t.c4, t.c5, t.c6, t.c7⟩
  | 2 => ⟨t.c0, t.c1, x, t.c3, t.c4, t.c5, t.c6, t.c7⟩
  | 3 => ⟨t.c0, t.c1, t.c2, x, t.c4, t.c5, t.c6, t.c7⟩
  | 4 => ⟨t.c0, t.c1, t.c2, t.c3, x, t.c5, t.c6, t.c7⟩
  | 5 => ⟨t.c0, t.c1, t.c2, t.c3, t.c4, x, t.c6, t.c7⟩
  | 6 => ⟨t.c0, t.c1, t.c2, t.c3, t.c4, t.c5, x, t.c7⟩
  | _ => ⟨t.c0, t.c1, t.c2, t.c3, t.c4, t.c5, t.c6, x⟩
theorem eight {d : Nat} (h : d < 8) : d = 0 ∨ d = 1 ∨ d = 2 ∨ d = 3 ∨ d = 4 ∨ d = 5 ∨ d = 6 ∨ d = 7 := by omega
theorem sel_upd (t : N8 α) (x : α) {i : Nat} (h : i < 8) : (t.upd x i).sel i = x := by
  rcases eight h with rfl | rfl | rfl | rfl | rfl | rfl | rfl | rfl <;> rfl
theorem sel_upd_ne (t : N8 α) (x : α) {i j : Nat} (h : i < 8) (hj : j < 8) (hne : i ≠ j) : (t.upd x i).sel j = t.sel j := by
  rcases eight h with rfl | rfl | rfl | rfl | rfl | rfl | rfl | rfl <;> rcases eight hj with rfl | rfl | rfl | rfl | rfl | rfl | rfl | rfl <;> first | exact absurd rfl hne | rfl
theorem upd_sel (t : N8 α) (i : Nat) : t.upd (t.sel i) i = t := by
  match i with
  | 0 | 1 | 2 | 3 | 4 | 5 | 6 => rfl
  | _ + 7 => rfl
end N8

/-- A tree of places, by number: so many levels of eight. -/
def Tr : Nat → Type → Type
  | 0, α => Option α
  | d + 1, α => N8 (Tr d α)

namespace Tr
variable {α : Type}
def nil : (d : Nat) → Tr d α
  | 0 => (none : Option α)
  | d + 1 => (⟨nil d, nil d, nil d, nil d, nil d, nil d, nil d, nil d⟩ : N8 (Tr d α))
instance {d : Nat} : Inhabited (Tr d α) := ⟨nil d⟩
def getF : (d : Nat) → Tr d α → Nat → Option α
  | 0, t, _ => t
  | d + 1, t, k => getF d (N8.sel t (Nat.mod (Nat.div k (8 ^ d)) 8)) k
def setF : (d : Nat) → Tr d α → Nat → Option α → Tr d α
  | 0, _, _, v => v
  | d + 1, t, k, v => N8.upd t (setF d (N8.sel t (Nat.mod (Nat.div k (8 ^ d)) 8)) k v) (Nat.mod (Nat.div k (8 ^ d)) 8)
def get {d : Nat} (t : Tr d α) (k : Nat) : Option α := match Nat.blt k (8 ^ d) with
  | true => getF d t k
  | false => none
def set {d : Nat} (t : Tr d α) (k : Nat) (v : Option α) : Tr d α := match Nat.blt k (8 ^ d) with
  | true => setF d t k v
  | false => t
/-- Numbers below it have a place in memory. -/
def lim : Nat := 8 ^ 7

theorem mod8 (j : Nat) : Nat.mod j 8 < 8 := Nat.mod_lt j (by decide)

theorem getF_set_self : ∀ (d : Nat) (t : Tr d α) (k : Nat) (v : Option α), getF d (setF d t k v) k = v
  | 0, _, _, _ => rfl
  | d + 1, t, k, v => by
    refine (congrArg (fun x => getF d x k) (N8.sel_upd (α := Tr d α) t _ (mod8 _))).trans ?_
    exact getF_set_self d _ k v

theorem getF_set_ne : ∀ (d : Nat) (t : Tr d α) (k j : Nat) (v : Option α), k % 8 ^ d ≠ j % 8 ^ d → getF d (setF d t k v) j = getF d t j
  | 0, _, k, j, _, h => by simp [Nat.mod_one] at h
  | d + 1, t, k, j, v, h => by
    show getF d (N8.sel (N8.upd t _ (Nat.mod (Nat.div k (8 ^ d)) 8)) (Nat.mod (Nat.div j (8 ^ d)) 8)) j = getF d (N8.sel t (Nat.mod (Nat.div j (8 ^ d)) 8)) j
    by_cases e : Nat.mod (Nat.div k (8 ^ d)) 8 = Nat.mod (Nat.div j (8 ^ d)) 8
    · rw [← e]
      refine (congrArg (fun x => getF d x j) (N8.sel_upd (α := Tr d α) t _ (mod8 _))).trans ?_
      refine getF_set_ne d _ k j v fun e' => h ?_
      have e1 : k / 8 ^ d % 8 = j / 8 ^ d % 8 := e
      rw [Nat.pow_succ, Nat.mod_mul, Nat.mod_mul, e', e1]
    · exact congrArg (fun x => getF d x j) (N8.sel_upd_ne (α := Tr d α) t _ (mod8 _) (mod8 _) e)

theorem setF_get_self : ∀ (d : Nat) (t : Tr d α) (k : Nat), setF d t k (getF d t k) = t
  | 0, _, _ => rfl
  | d + 1, t, k => by
    refine (congrArg (fun x => N8.upd (α := Tr d α) t x _) (setF_get_self d _ k)).trans ?_
    exact N8.upd_sel (α := Tr d α) t _

theorem set_get_self {d : Nat} (t : Tr d α) (k : Nat) : t.set k (t.get k) = t := by
  unfold set get
  cases h : Nat.blt k (8 ^ d) with
  | true => exact setF_get_self d t k
  | false => rfl

theorem blt_iff {k n : Nat} : Nat.blt k n = true ↔ k < n := by show Nat.ble (k + 1) n = true ↔ _; rw [Nat.ble_eq]; rfl

theorem get_lt' {d : Nat} {t : Tr d α} {k : Nat} {v : α} (h : t.get k = some v) : k < 8 ^ d := by
  unfold get at h
  split at h
  · rename_i e; exact blt_iff.1 e
  · cases h
theorem get_set_self {d : Nat} (t : Tr d α) (k : Nat) (v : Option α) (h : k < 8 ^ d) : (t.set k v).get k = v := by
  unfold get set
  rw [blt_iff.2 h]
  exact getF_set_self d t k v
theorem get_set_ne {d : Nat} (t : Tr d α) {k j : Nat} (v : Option α) (h : k ≠ j) : (t.set k v).get j = t.get j := by
  unfold get set
  split
  · rename_i e
    split
    · rename_i e'
      refine getF_set_ne d t k j v ?_
      rw [Nat.mod_eq_of_lt (blt_iff.1 e'), Nat.mod_eq_of_lt (blt_iff.1 e)]
      exact h
    · rfl
  · rfl
theorem get_set {d : Nat} (t : Tr d α) (k j : Nat) (v : Option α) (h : k < 8 ^ d) : (t.set k v).get j = if j = k then v else t.get j := by
  by_cases e : j = k
  · subst e; simp [get_set_self t j v h]
  · simp [e, get_set_ne t v (Ne.symm e)]
theorem getF_nil : ∀ (d k : Nat), getF d (nil d : Tr d α) k = none
  | 0, _ => rfl
  | d + 1, k => by
    show getF d (N8.sel _ _) k = none
    rcases N8.eight (mod8 (Nat.div k (8 ^ d))) with e | e | e | e | e | e | e | e <;> rw [e] <;> exact getF_nil d k
theorem get_nil (d k : Nat) : (nil d : Tr d α).get k = none := by
  unfold get
  split
  · exact getF_nil d k
  · rfl
end Tr

/-- An object of memory. -/
inductive Ob where
  | row (cells : List V) (slack : Bool) (partner : Option Nat) (ver : Nat)
  | map (ents : List (V × V)) (ver : Nat)
  | loop (k : Nat) (T : Tr 3 V) (site : Nat) (ver : Nat)
  deriving Inhabited

def Ob.ver : Ob → Nat
  | .row _ _ _ v | .map _ v | .loop _ _ _ v => v
def Ob.partner : Ob → Option Nat
  | .row _ _ p _ => p
  | _ => none

/-- Memory: the objects, the next number, a count of the changes. -/
structure St where
  h : Tr 7 Ob
  next : Nat
  ver : Nat
  deriving Inhabited

abbrev Get := Nat → Option Ob
abbrev St.get (s : St) : Get := fun o => s.h.get o

def RowRel (ρ : Rho) (cells : List V) (slack : Bool) (L : Loc) (w : World) : Prop :=
  ∃ (c : Array Value) (e : TypeId) (fz : Nat × Nat), w.heap[L.blk]? = some (.cells c e fz) ∧ L.base + L.size ≤ c.size ∧ cells.length ≤ L.size ∧
    (slack = false → cells.length = L.size) ∧ (∀ j, j < c.size → ¬ (fz.1 ≤ j ∧ j < fz.2)) ∧
    ∀ (j : Nat) (v : V), cells[j]? = some v → ∃ x, c[L.base + j]? = some x ∧ Rel ρ v x

def EntRel (ρ : Rho) (e : V × V) (x : MapEntry) : Prop := Rel ρ e.1 x.key ∧ Rel ρ e.2 x.val

def MapRel (ρ : Rho) (ents : List (V × V)) (L : Loc) (w : World) : Prop :=
  ∃ (es : Array MapEntry) (clock : Nat), w.heap[L.blk]? = some (.map es clock) ∧ es.size = ents.length ∧
    ∀ (j : Nat) (e : V × V), ents[j]? = some e → ∃ x, es[j]? = some x ∧ EntRel ρ e x

/-- How a loop over a function stands: 0 ready, 1 in a round, 2 left by return, k + 3 left by an exit. -/
def lpSt : Nat → LoopState
  | 0 => .ready
  | 1 => .busy
  | _ => .done
def lpPen : Nat → Option Code
  | 0 => none
  | 1 => none
  | 2 => some .ret
  | k + 3 => some (.exit k)

def LoopRel (ρ : Rho) (k : Nat) (T : Tr 3 V) (site : Nat) (L : Loc) (w : World) : Prop :=
  ∃ (r : Loop) (N : Nat), w.heap[L.blk]? = some (.loop r) ∧ r.state = lpSt k ∧ r.pending = lpPen k ∧ tab site = some (N, r.params, r.assign, r.body) ∧ r.tmps.size = N ∧
    ∀ t v, Tr.get T t = some v → ∃ x, r.tmps[t]? = some x ∧ Rel ρ v x

def ObRel (ρ : Rho) (ob : Ob) (L : Loc) (w : World) : Prop :=
  match ob with
  | .row cells slack _ _ => RowRel ρ cells slack L w
  | .map ents _ => MapRel ρ ents L w
  | .loop k T site _ => LoopRel ρ k T site L w

theorem ObRel.lt {ρ : Rho} {ob : Ob} {L : Loc} {w : World} (h : ObRel ρ ob L w) : L.blk < w.heap.size := by
  cases ob with
  | row cells slack pa v => obtain ⟨c, e, fz, h1, _⟩ := h; exact (Array.getElem?_eq_some_iff.1 h1).1
  | map ents v => obtain ⟨c, e, h1, _⟩ := h; exact (Array.getElem?_eq_some_iff.1 h1).1
  | loop k T site v => obtain ⟨r, N, h1, _⟩ := h; exact (Array.getElem?_eq_some_iff.1 h1).1

theorem ObRel.mono {ρ ρ' : Rho} {ob : Ob} {L : Loc} {w w' : World} (h : ObRel ρ ob L w) (hr : Rho.le ρ ρ') (hw : w'.heap[L.blk]? = w.heap[L.blk]?) : ObRel ρ' ob L w' := by
  cases ob with
  | row cells slack pa v =>
    obtain ⟨c, e, fz, h1, h2, h3, h4, h5, h6⟩ := h
    refine ⟨c, e, fz, hw.trans h1, h2, h3, h4, h5, fun j v hj => ?_⟩
    obtain ⟨x, hx, hv⟩ := h6 j v hj
    exact ⟨x, hx, hv.mono hr⟩
  | map ents v =>
    obtain ⟨c, e, h1, h2, h3⟩ := h
    refine ⟨c, e, hw.trans h1, h2, fun j v hj => ?_⟩
    obtain ⟨x, hx, hv⟩ := h3 j v hj
    exact ⟨x, hx, hv.1.mono hr, hv.2.mono hr⟩
  | loop k T site v =>
    obtain ⟨r, N, h1, h2, h3, h4, h5, h6⟩ := h
    refine ⟨r, N, hw.trans h1, h2, h3, h4, h5, fun t u ht => ?_⟩
    obtain ⟨x, hx, hv⟩ := h6 t u ht
    exact ⟨x, hx, hv.mono hr⟩

structure Sat (ρ : Rho) (g : Get) (w : World) : Prop where
  obj : ∀ o ob, g o = some ob → ∃ L, ρ o = some L ∧ ObRel ρ ob L w
  apart : ∀ o1 o2 b1 b2 L1 L2, g o1 = some b1 → g o2 = some b2 → ρ o1 = some L1 → ρ o2 = some L2 → o1 ≠ o2 → ¬ (b1.partner = some o2 ∧ b2.partner = some o1) → L1.blk ≠ L2.blk

theorem Sat.sub {ρ : Rho} {g g' : Get} {w : World} (h : Sat ρ g w) (hs : ∀ o ob, g' o = some ob → g o = some ob) : Sat ρ g' w :=
  ⟨fun o ob ho => h.obj o ob (hs o ob ho), fun o1 o2 b1 b2 L1 L2 h1 h2 => h.apart o1 o2 b1 b2 L1 L2 (hs _ _ h1) (hs _ _ h2)⟩

/-- What a run does to memory. -/
structure Post (ρ : Rho) (s : St) (w : World) (ρ' : Rho) (s' : St) (w' : World) : Prop where
  ext : Rho.le ρ ρ'
  dom : ∀ i L, ρ' i = some L → ρ i = some L ∨ (s.next ≤ i ∧ i < s'.next ∧ (w.heap.size ≤ L.blk ∨ ∃ o ob L0, s.get o = some ob ∧ ρ o = some L0 ∧ L0.blk = L.blk))
  sat : Sat ρ' s'.get w'
  next : s.next ≤ s'.next
  ver : s.ver ≤ s'.ver
  alive : ∀ o ob, s'.get o = some ob → (∃ ob0, s.get o = some ob0) ∨ (s.next ≤ o ∧ o < s'.next)
  size : w.heap.size ≤ w'.heap.size
  os : w'.os = w.os
  output : w'.output = w.output
  tape : w'.tape = w.tape
  other : ∀ b, b < w.heap.size → (∀ o ob L, s.get o = some ob → ρ o = some L → L.blk ≠ b) → w'.heap[b]? = w.heap[b]?
  kept : ∀ o ob, s'.get o = some ob → ob.ver < s.ver → s.get o = some ob ∧ ∀ L, ρ o = some L → w'.heap[L.blk]? = w.heap[L.blk]?

def Fresh (ρ : Rho) (s s' : St) : Prop := ∀ i, s.next ≤ i → i < s'.next → ρ i = none

theorem Post.refl {ρ : Rho} {s : St} {w : World} (h : Sat ρ s.get w) : Post ρ s w ρ s w :=
  { ext := fun _ _ h => h, dom := fun _ _ h => .inl h, sat := h, next := Nat.le_refl _, ver := Nat.le_refl _, alive := fun _ _ h => .inl ⟨_, h⟩,
    size := Nat.le_refl _, os := rfl, output := rfl, tape := rfl, other := fun _ _ _ => rfl, kept := fun _ _ h _ => ⟨h, fun _ _ => rfl⟩ }

theorem Post.fresh {ρ ρ' : Rho} {s s' s'' : St} {w w' : World} (h : Post ρ s w ρ' s' w') (hf : Fresh ρ s s'') : Fresh ρ' s' s'' := by
  intro i h1 h2
  cases hi : ρ' i with
  | none => rfl
  | some L =>
    rcases h.dom i L hi with h3 | ⟨_, h4, _⟩
    · have := hf i (Nat.le_trans h.next h1) h2; rw [this] at h3; cases h3
    · omega

theorem Post.trans {ρ ρ' ρ'' : Rho} {s s' s'' : St} {w w' w'' : World} (hf : Fresh ρ s s') (h : Post ρ s w ρ' s' w') (h' : Post ρ' s' w' ρ'' s'' w'') : Post ρ s w ρ'' s'' w'' := by
  -- a living object of s' lies in new memory, or where one of s lies
  have old : ∀ o ob L, s'.get o = some ob → ρ' o = some L → w.heap.size ≤ L.blk ∨ ∃ o0 ob0 L0, s.get o0 = some ob0 ∧ ρ o0 = some L0 ∧ L0.blk = L.blk := by
    intro o ob L ho hL
    rcases h.dom o L hL with h1 | ⟨_, _, h2⟩
    · rcases h.alive o ob ho with ⟨ob0, h3⟩ | ⟨h3, h4⟩
      · exact .inr ⟨o, ob0, L, h3, h1, rfl⟩
      · rw [hf o h3 h4] at h1; cases h1
    · exact h2
  refine { ext := fun i L hi => h'.ext i L (h.ext i L hi), dom := ?_, sat := h'.sat, next := Nat.le_trans h.next h'.next, ver := Nat.le_trans h.ver h'.ver, alive := ?_,
           size := Nat.le_trans h.size h'.size, os := h'.os.trans h.os, output := h'.output.trans h.output, tape := h'.tape.trans h.tape, other := ?_, kept := ?_ }
  · intro i L hi
    rcases h'.dom i L hi with h1 | ⟨h1, h2, h3⟩
    · rcases h.dom i L h1 with h4 | ⟨h4, h5, h6⟩
      · exact .inl h4
      · exact .inr ⟨h4, Nat.lt_of_lt_of_le h5 h'.next, h6⟩
    · refine .inr ⟨Nat.le_trans h.next h1, h2, ?_⟩
      rcases h3 with h3 | ⟨o, ob, L0, h4, h5, h6⟩
      · exact .inl (Nat.le_trans h.size h3)
      · rw [← h6]; exact old o ob L0 h4 h5
  · intro o ob ho
    rcases h'.alive o ob ho with ⟨ob0, h1⟩ | ⟨h1, h2⟩
    · rcases h.alive o ob0 h1 with h3 | ⟨h3, h4⟩
      · exact .inl h3
      · exact .inr ⟨h3, Nat.lt_of_lt_of_le h4 h'.next⟩
    · exact .inr ⟨Nat.le_trans h.next h1, h2⟩
  · intro b hb hno
    rw [h'.other b (Nat.lt_of_lt_of_le hb h.size) ?_, h.other b hb hno]
    intro o ob L ho hL hLb
    rcases old o ob L ho hL with h1 | ⟨o0, ob0, L0, h1, h2, h3⟩
    · omega
    · exact hno o0 ob0 L0 h1 h2 (h3.trans hLb)
  · intro o ob ho hv
    obtain ⟨h1, h2⟩ := h'.kept o ob ho (Nat.lt_of_lt_of_le hv h.ver)
    obtain ⟨h3, h4⟩ := h.kept o ob h1 hv
    exact ⟨h3, fun L hL => (h2 L (h.ext _ _ hL)).trans (h4 L hL)⟩

end Go.Wg
