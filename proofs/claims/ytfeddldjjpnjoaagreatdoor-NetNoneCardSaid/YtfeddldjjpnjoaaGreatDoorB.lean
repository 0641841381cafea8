/- The operations that leave memory as it is, on the small machine's values, each held against the model's own operation. -/
import Derived.Test.YtfeddldjjpnjoaaGreatDoorA
import Derived.Laws.Cells
import Derived.Laws.Rows
import Derived.Laws.IdiomCopy
import Derived.Laws.Append
namespace Go.Wg
variable {P : Program} {ρ : Rho} {g : Get} {w : World}

theorem add_lit (b o n : Nat) : Addr.add ⟨b, o, none⟩ n = ⟨b, o + n, none⟩ := by
  unfold Addr.add; split
  · subst_vars; rfl
  · rfl

/-- The run ends with this value, and memory as it was. -/
def Ok (P : Program) (S : Sem Value) (w : World) (x : Value) : Prop := S.run P w = .ok x w

def aggT (P : Program) (t : TypeId) : Option Bool :=
  match P.underlying t with
  | some (.struct _) => some true
  | some (.array _ _) => some true
  | some _ => some false
  | none => none

theorem run_und {t : TypeId} {d : TypeDesc} (h : P.underlying t = some d) (w : World) : (underlying t).run P w = .ok d w := by
  simp [underlying, h]

theorem run_isAgg {t : TypeId} {x : Bool} (h : aggT P t = some x) (w : World) : (isAgg t).run P w = .ok x w := by
  unfold aggT at h
  cases hu : P.underlying t with
  | none => simp [hu] at h
  | some d =>
    cases d <;> simp [hu] at h <;> subst h <;> simp [isAgg, run_und hu]

def sizeT (P : Program) (t : TypeId) : Option Nat := (P.info? t).map (·.size)

theorem run_typeInf {t : TypeId} {i : TypeInfo} (h : P.info? t = some i) (w : World) : (typeInfo t).run P w = .ok i w := by
  simp [typeInfo, h]

theorem run_sizeT {t : TypeId} {n : Nat} (h : sizeT P t = some n) (w : World) : (sizeOf t).run P w = .ok n w := by
  unfold sizeT at h
  cases hi : P.info? t with
  | none => simp [hi] at h
  | some i => simp [hi] at h; subst h; simp [sizeOf, run_typeInf hi]

theorem Sat.cell (hs : Sat ρ g w) {o : Nat} {cells : List V} {sk : Bool} {pa : Option Nat} {ve : Nat} (ho : g o = some (.row cells sk pa ve)) {L : Loc} (hL : ρ o = some L)
    {j : Nat} {v : V} (hj : cells[j]? = some v) : ∃ y, w.cell? ⟨L.blk, L.base + j, none⟩ = some y ∧ Rel ρ v y := by
  obtain ⟨L', hL', hr⟩ := hs.obj o _ ho
  rw [hL] at hL'; cases hL'
  obtain ⟨c, e, fz, h1, h2, h3, h4, h5, h6⟩ := hr
  obtain ⟨x, hx, hv⟩ := h6 j v hj
  exact ⟨x, by simp [World.cell?, h1, hx], hv⟩

theorem Sat.seg (hs : Sat ρ g w) {o : Nat} {cells : List V} {sk : Bool} {pa : Option Nat} {ve : Nat} (ho : g o = some (.row cells sk pa ve)) {L : Loc} (hL : ρ o = some L)
    (off n : Nat) (hn : off + n ≤ cells.length) :
    ∃ cs, RelL ρ ((cells.drop off).take n) cs ∧ ∀ (j : Nat) (y : Value), cs[j]? = some y → w.cell? ((⟨L.blk, L.base + off, none⟩ : Addr).add j) = some y := by
  obtain ⟨L', hL', hr⟩ := hs.obj o _ ho
  rw [hL] at hL'; cases hL'
  obtain ⟨c, e, fz, h1, h2, h3, h4, h5, h6⟩ := hr
  refine ⟨(c.toList.drop (L.base + off)).take n, RelL.of_get _ _ ?_ ?_, ?_⟩
  · simp; omega
  · intro j v hj
    rw [List.getElem?_take] at hj ⊢
    split at hj
    · rename_i hlt
      simp only [hlt, if_true]
      rw [List.getElem?_drop] at hj ⊢
      obtain ⟨x, hx, hv⟩ := h6 (off + j) v hj
      exact ⟨x, by simpa [Nat.add_assoc] using hx, hv⟩
    · simp at hj
  · intro j y hj
    rw [List.getElem?_take] at hj
    split at hj
    · rw [List.getElem?_drop] at hj
      rw [add_lit]
      simp only [World.cell?, h1]
      simpa using hj
    · simp at hj

/-- A load of one cell. -/
def vld1 (g : Get) (x : V) : Option V :=
  match x with
  | .p o off => match g o with
    | some (.row cells _ _ _) => cells[off]?
    | _ => none
  | _ => none

def vldn (n : Nat) (g : Get) (x : V) : Option V :=
  match x with
  | .p o off => match g o with
    | some (.row cells _ _ _) => match Nat.ble (off + n) cells.length with
      | true => some (.agg ((cells.drop off).take n))
      | false => none
    | _ => none
  | _ => none

theorem vld1_ok (hs : Sat ρ g w) {x v : V} {X : Value} (hx : Rel ρ x X) (h : vld1 g x = some v) {t : TypeId} (ht : aggT P t = some false) :
    ∃ y, Ok P (Instr.loadAt t X) w y ∧ Rel ρ v y := by
  cases x with
  | p o off =>
    simp only [Rel] at hx
    obtain ⟨L, hL, rfl⟩ := hx
    simp only [vld1] at h
    split at h
    · rename_i cells _ _ _ hg
      obtain ⟨y, hy, hr⟩ := hs.cell hg hL h
      exact ⟨y, by simp [Ok, Instr.loadAt, Instr.sureAddr, loadVar, run_isAgg ht, hy], hr⟩
    · cases h
  | _ => simp [vld1] at h

theorem vldn_ok (hs : Sat ρ g w) {n : Nat} {x v : V} {X : Value} (hx : Rel ρ x X) (h : vldn n g x = some v) {t : TypeId} (ht : aggT P t = some true) (hz : sizeT P t = some n) :
    ∃ y, Ok P (Instr.loadAt t X) w y ∧ Rel ρ v y := by
  cases x with
  | p o off =>
    simp only [Rel] at hx
    obtain ⟨L, hL, rfl⟩ := hx
    simp only [vldn] at h
    split at h
    · rename_i cells _ _ _ hg
      split at h
      · rename_i hle
        have hle' := Nat.le_of_ble_eq_true hle
        cases h
        obtain ⟨cs, h1, h2⟩ := hs.seg hg hL off n hle'
        have hlen : cs.length = n := by rw [h1.length]; simp; omega
        have hrun := run_loadCells_list (P := P) w ⟨L.blk, L.base + off, none⟩ cs h2
        rw [hlen] at hrun
        refine ⟨.agg cs.toArray, ?_, ?_⟩
        · simp [Ok, Instr.loadAt, Instr.sureAddr, loadVar, run_isAgg ht, run_sizeT hz, hrun]
        · simp only [Rel]; exact ⟨cs, h1, rfl⟩
      · cases h
    · cases h
  | _ => simp [vldn] at h

/-- Which values a check for nil lets by. -/
def vnck (x : V) : Option V :=
  match x with
  | .nilp | .nilf | .nili => none
  | v => some v

theorem vnck_ok {x v : V} {X : Value} (hx : Rel ρ x X) (h : vnck x = some v) (ρ' : Operand → Value) (o : Oper) (y : Operand) (ho : o.op = .nilCheck y) (hy : ρ' y = X) :
    (execOp ρ' o).run P w = .ok (.value X) w ∧ Rel ρ v X := by
  have hv : v = x := by cases x <;> simp [vnck] at h <;> exact h.symm
  subst hv
  refine ⟨?_, hx⟩
  unfold execOp
  simp only [ho, hy]
  cases v <;> simp only [Rel] at hx <;> first
    | (simp [vnck] at h; done)
    | (subst hx; simp)
    | (obtain ⟨_, _, rfl⟩ := hx; simp)
    | (obtain ⟨_, _, _, rfl, _⟩ := hx; simp)
    | (obtain ⟨_, _, _, _, rfl, _⟩ := hx; simp)

/-- Whole numbers. -/
def intBin (op : BinOp) (k : IntKind) (a b : Int) : Option V :=
  match op with
  | .add => some (.i k (k.wrap (a + b)))
  | .sub => some (.i k (k.wrap (a - b)))
  | .mul => some (.i k (k.wrap (a * b)))
  | .quo => match decide (b = 0) with
    | true => none
    | false => some (.i k (k.wrap (a.tdiv b)))
  | .rem => match decide (b = 0) with
    | true => none
    | false => some (.i k (a.tmod b))
  | .and => some (.i k (k.wrap (BitVec.ofInt k.bits a &&& BitVec.ofInt k.bits b).toNat))
  | .or => some (.i k (k.wrap (BitVec.ofInt k.bits a ||| BitVec.ofInt k.bits b).toNat))
  | .xor => some (.i k (k.wrap (BitVec.ofInt k.bits a ^^^ BitVec.ofInt k.bits b).toNat))
  | .andNot => some (.i k (k.wrap (BitVec.ofInt k.bits a &&& ~~~(BitVec.ofInt k.bits b)).toNat))
  | .eql => some (.b (decide (a = b)))
  | .neq => some (.b (!decide (a = b)))
  | .lss => some (.b (decide (a < b)))
  | .leq => some (.b (decide (a ≤ b)))
  | .gtr => some (.b (decide (b < a)))
  | .geq => some (.b (decide (b ≤ a)))
  | .shl | .shr => none

def vshift (op : BinOp) (k : IntKind) (a b : Int) : Option V :=
  match decide (b < 0) with
  | true => none
  | false => match op with
    | .shl => some (.i k (k.wrap (a * 2 ^ min b.toNat k.bits)))
    | .shr => some (.i k (a.fdiv (2 ^ min b.toNat k.bits)))
    | _ => none

def strBin (op : BinOp) (a b : ByteArray) : Option V :=
  match op with
  | .add => match Nat.ble (a.size + b.size) 9223372036854775807 with
    | true => some (.s (a ++ b))
    | false => none
  | .eql => some (.b (a.toList == b.toList))
  | .neq => some (.b (!(a.toList == b.toList)))
  | .lss => some (.b (Op.bytesLess a.toList b.toList))
  | _ => none

def vbin (op : BinOp) (x y : V) : Option V :=
  match x, y with
  | .i k a, .i k' b => match op with
    | .shl | .shr => vshift op k a b
    | _ => match decide (k = k') with
      | true => intBin op k a b
      | false => none
  | .s a, .s b => strBin op a b
  | .b a, .b b => match op with
    | .eql => some (.b (a == b))
    | .neq => some (.b (!(a == b)))
    | _ => none
  | _, _ => none

theorem run_equal_bool {t : TypeId} (ht : P.underlying t = some .bool) (a b : Bool) (w : World) : (Op.equal t (.bool a) (.bool b)).run P w = .ok (a == b) w := by
  unfold Op.equal Op.maxDepth
  rw [show (10000 : Nat) = 9999 + 1 from rfl, Op.equalIn]
  simp [run_und ht]

theorem eqGuard_plain {op : BinOp} {t : TypeId} {x y : Operand} {a b : Value} (h : (∀ l m, ¬(a = .agg l ∧ b = .agg m))) (h' : ¬(a = .nilIface ∧ b = .nilIface)) :
    eqGuard op t x y a b = pure () := by
  have key : (match a, b with
      | .nilIface, .nilIface => if (x matches .const _) || (y matches .const _) then pure () else do
          if ← Op.eqGuardIn Op.maxDepth t a b then unsupported (.noEntry "binop/eql: two nil values of an interface type with methods, neither of them the literal nil")
      | .agg _, .agg _ => do
          if !(← program).eqGuardType (← program).depth t then pure () else
          if ← Op.eqGuardIn Op.maxDepth t a b then unsupported (.noEntry "binop/eql: two nil values of an interface type with methods, in a part of a struct or an array")
      | _, _ => (pure () : Sem Unit)) = pure () := by
    split
    · exact absurd ⟨rfl, rfl⟩ h'
    · exact absurd ⟨rfl, rfl⟩ (h _ _)
    · rfl
  cases op <;> first | rfl | exact key

theorem shift_ok {op : BinOp} {k k' : IntKind} {a b : Int} {v : V} (h : vshift op k a b = some v) : ∃ y, Op.shift op k a k' b = pure y ∧ Rel ρ v y := by
  unfold vshift at h
  split at h
  · cases h
  · rename_i hb
    have hb' : ¬ b < 0 := by simpa using hb
    cases op <;> simp at h <;> subst h <;> simp [Op.shift, hb', Rel]

theorem intBin_ok {op : BinOp} {t : TypeId} {k : IntKind} {a b : Int} {v : V} (h : intBin op k a b = some v) : ∃ y, binOp op t (.int k a) (.int k b) = pure y ∧ Rel ρ v y := by
  cases op <;> simp only [intBin] at h <;> first
    | (cases h; refine ⟨_, by simp only [binOp, ne_eq, not_true, if_false]; rfl, ?_⟩; simp [Rel, GT.gt, GE.ge]; done)
    | (split at h
       · cases h
       · rename_i hb
         cases h
         have hb' : ¬ b = 0 := by simpa using hb
         exact ⟨_, by simp [binOp, Op.intDiv, hb']; rfl, by simp [Rel]⟩)
    | (cases h; done)
    | skip
  all_goals (cases h; refine ⟨_, by simp only [binOp, ne_eq, not_true, if_false]; rfl, ?_⟩; simp only [Rel] <;> try rfl)

theorem strBin_ok {op : BinOp} {t : TypeId} {a b : ByteArray} {v : V} (h : strBin op a b = some v) : ∃ y, binOp op t (.string a) (.string b) = pure y ∧ Rel ρ v y := by
  cases op <;> simp only [strBin] at h <;> first
    | (cases h; done)
    | (cases h; exact ⟨_, by simp only [binOp, Op.stringOp]; rfl, by simp [Rel]⟩)
    | (split at h
       · rename_i hle
         have hle' := Nat.le_of_ble_eq_true hle
         cases h
         have : ¬ ((a.size + b.size : Nat) : Int) > IntKind.i64.max := by simp; omega
         exact ⟨_, by simp only [binOp, Op.stringOp, this, if_false]; rfl, by simp [Rel]⟩
       · cases h)

def boolT (P : Program) (t : TypeId) : Bool := match P.underlying t with
  | some .bool => true
  | _ => false

theorem vbin_ok {op : BinOp} {t : TypeId} {x y v : V} {X Y : Value} (hx : Rel ρ x X) (hy : Rel ρ y Y) (h : vbin op x y = some v) (ht : (op = .eql ∨ op = .neq) → (∃ a, x = .b a) → boolT P t = true)
    (p q : Operand) : ∃ z, Ok P (do eqGuard op t p q X Y; binOp op t X Y) w z ∧ Rel ρ v z := by
  cases x with
  | i k a =>
    cases y with
    | i k' b =>
      simp only [Rel] at hx hy
      subst hx; subst hy
      have hgd : eqGuard op t p q (.int k a) (.int k' b) = pure () := eqGuard_plain (by simp) (by simp)
      by_cases hsh : op = .shl ∨ op = .shr
      · have h' : vshift op k a b = some v := by rcases hsh with rfl | rfl <;> simpa [vbin] using h
        obtain ⟨z, hz, hr⟩ := shift_ok (ρ := ρ) (k' := k') h'
        refine ⟨z, ?_, hr⟩
        rcases hsh with rfl | rfl <;> simp [Ok, hgd, binOp, hz]
      · have h' : k = k' ∧ intBin op k a b = some v := by
          cases op <;> simp at hsh <;> simp only [vbin] at h <;> split at h <;> first
            | (cases h; done)
            | exact ⟨by simpa using ‹decide (k = k') = true›, h⟩
        obtain ⟨rfl, h'⟩ := h'
        obtain ⟨z, hz, hr⟩ := intBin_ok (ρ := ρ) (t := t) h'
        exact ⟨z, by simp [Ok, hgd, hz], hr⟩
    | _ => simp [vbin] at h
  | s a =>
    cases y with
    | s b =>
      simp only [Rel] at hx hy
      subst hx; subst hy
      have hgd : eqGuard op t p q (.string a) (.string b) = pure () := eqGuard_plain (by simp) (by simp)
      obtain ⟨z, hz, hr⟩ := strBin_ok (ρ := ρ) (t := t) (show strBin op a b = some v from h)
      exact ⟨z, by simp [Ok, hgd, hz], hr⟩
    | _ => simp [vbin] at h
  | b a =>
    cases y with
    | b b =>
      simp only [Rel] at hx hy
      subst hx; subst hy
      have hgd : eqGuard op t p q (.bool a) (.bool b) = pure () := eqGuard_plain (by simp) (by simp)
      have hu : (op = .eql ∨ op = .neq) → P.underlying t = some .bool := by
        intro ho
        have := ht ho ⟨a, rfl⟩
        unfold boolT at this
        split at this
        · assumption
        · cases this
      cases op <;> simp only [vbin] at h <;> first
        | (cases h; done)
        | (cases h
           have hu' := hu (by simp)
           exact ⟨_, by simp only [Ok, hgd]; simp [binOp, run_equal_bool hu']; rfl, by simp [Rel]⟩)
    | _ => simp [vbin] at h
  | _ => simp [vbin] at h

end Go.Wg
