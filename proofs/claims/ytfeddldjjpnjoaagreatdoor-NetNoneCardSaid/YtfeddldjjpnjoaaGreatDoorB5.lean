/- Comparisons with nil, of structs and arrays; look-ups in maps. -/
import Derived.Test.YtfeddldjjpnjoaaGreatDoorB4
namespace Go.Wg
variable {P : Program} {ρ : Rho} {g : Get} {w : World}

/-- What is compared with nil. -/
inductive RK where
  | ptr | sl | mp | fn | ifc
  deriving DecidableEq

def rkT (P : Program) (k : RK) (t : TypeId) : Prop :=
  match k with
  | .ptr => ∃ e, P.underlying t = some (.pointer e)
  | .sl => ∃ e, P.underlying t = some (.slice e)
  | .mp => ∃ a b, P.underlying t = some (.map a b)
  | .fn => ∃ a b c, P.underlying t = some (.func a b c)
  | .ifc => ∃ m, P.underlying t = some (.interface m)

def veqr (k : RK) (x y : V) : Option Bool :=
  match k, x, y with
  | .ptr, .nilp, .nilp => some true
  | .ptr, .nilp, .p _ _ | .ptr, .p _ _, .nilp => some false
  | .sl, .nilsl, .nilsl => some true
  | .sl, .nilsl, .sl _ _ _ _ _ | .sl, .sl _ _ _ _ _, .nilsl | .sl, .nilsl, .esl _ _ _ | .sl, .esl _ _ _, .nilsl => some false
  | .mp, .nilm, .nilm => some true
  | .mp, .nilm, .m _ | .mp, .m _, .nilm => some false
  | .fn, .nilf, .nilf => some true
  | .fn, .nilf, .fn _ _ | .fn, .fn _ _, .nilf => some false
  | .ifc, .nili, .nili => some true
  | .ifc, .nili, .ifc _ _ | .ifc, .ifc _ _, .nili => some false
  | _, _, _ => none

theorem equal_step (t : TypeId) (x y : Value) : Op.equal t x y = Op.equalIn (9999 + 1) t x y := rfl

theorem veqr_equal {k : RK} {x y : V} {X Y : Value} {r : Bool} (hx : Rel ρ x X) (hy : Rel ρ y Y) (h : veqr k x y = some r) {t : TypeId} (ht : rkT P k t) : (Op.equal t X Y).run P w = .ok r w := by
  rw [equal_step]
  unfold veqr at h
  split at h <;> (try (cases h; done)) <;> cases h <;> simp only [Rel] at hx hy <;> simp only [rkT] at ht <;> rw [Op.equalIn]
  · obtain ⟨e, ht⟩ := ht; subst hx; subst hy; simp [run_und ht]
  · obtain ⟨e, ht⟩ := ht; obtain ⟨L, _, rfl⟩ := hy; subst hx; simp [run_und ht]
  · obtain ⟨e, ht⟩ := ht; obtain ⟨L, _, rfl⟩ := hx; subst hy; simp [run_und ht]
  · obtain ⟨e, ht⟩ := ht; subst hx; subst hy; simp [run_und ht]
  · obtain ⟨e, ht⟩ := ht; obtain ⟨L, c, _, rfl, _⟩ := hy; subst hx; simp [run_und ht]
  · obtain ⟨e, ht⟩ := ht; obtain ⟨L, c, _, rfl, _⟩ := hx; subst hy; simp [run_und ht]
  · obtain ⟨e, ht⟩ := ht; obtain ⟨_, _, _, _, rfl, _⟩ := hy; subst hx; simp [run_und ht]
  · obtain ⟨e, ht⟩ := ht; obtain ⟨_, _, _, _, rfl, _⟩ := hx; subst hy; simp [run_und ht]
  · obtain ⟨a, b, ht⟩ := ht; subst hx; subst hy; simp [run_und ht]
  · obtain ⟨a, b, ht⟩ := ht; obtain ⟨L, _, rfl⟩ := hy; subst hx; simp [run_und ht]
  · obtain ⟨a, b, ht⟩ := ht; obtain ⟨L, _, rfl⟩ := hx; subst hy; simp [run_und ht]
  · obtain ⟨a, b, c, ht⟩ := ht; subst hx; subst hy; simp [run_und ht]
  · obtain ⟨a, b, c, ht⟩ := ht; obtain ⟨cs, _, rfl⟩ := hy; subst hx; simp [run_und ht]
  · obtain ⟨a, b, c, ht⟩ := ht; obtain ⟨cs, _, rfl⟩ := hx; subst hy; simp [run_und ht]
  · obtain ⟨m, ht⟩ := ht; subst hx; subst hy; simp [run_und ht]
  · obtain ⟨m, ht⟩ := ht; obtain ⟨z, _, rfl⟩ := hy; subst hx; simp [run_und ht]
  · obtain ⟨m, ht⟩ := ht; obtain ⟨z, _, rfl⟩ := hx; subst hy; simp [run_und ht]

def xorB (neq r : Bool) : Bool := match neq with
  | true => !r
  | false => r

def veqrV (neq : Bool) (k : RK) (x y : V) : Option V :=
  match veqr k x y with
  | some r => some (.b (xorB neq r))
  | none => none

def eqOp (neq : Bool) : BinOp := match neq with
  | true => .neq
  | false => .eql

def isConstO (x : Operand) : Bool := match x with
  | .const _ => true
  | _ => false

theorem binOp_ref {neq : Bool} {t : TypeId} {X Y : Value} {r : Bool} (h : (Op.equal t X Y).run P w = .ok r w) (hk : (∀ k n, X ≠ .int k n) ∧ (∀ s, X ≠ .string s) ∧ (∀ k b, X ≠ .float k b) ∧ (∀ k a b, X ≠ .complex k a b)) :
    (binOp (eqOp neq) t X Y).run P w = .ok (.bool (xorB neq r)) w := by
  cases X with
  | int k n => exact absurd rfl (hk.1 k n)
  | string s => exact absurd rfl (hk.2.1 s)
  | float k b => exact absurd rfl (hk.2.2.1 k b)
  | complex k a b => exact absurd rfl (hk.2.2.2 k a b)
  | _ => cases neq <;> simp [eqOp, binOp, h, xorB]

theorem veqrV_ok {neq : Bool} {k : RK} {x y v : V} {X Y : Value} (hx : Rel ρ x X) (hy : Rel ρ y Y) (h : veqrV neq k x y = some v) {t : TypeId} (ht : rkT P k t) (p q : Operand) (hc : k = .ifc → (isConstO p || isConstO q) = true) :
    ∃ z, Ok P (do eqGuard (eqOp neq) t p q X Y; binOp (eqOp neq) t X Y) w z ∧ Rel ρ v z := by
  unfold veqrV at h
  split at h
  · rename_i r hr
    cases h
    have he := veqr_equal (P := P) (w := w) hx hy hr ht
    have hxk : (∀ k n, X ≠ .int k n) ∧ (∀ s, X ≠ .string s) ∧ (∀ k b, X ≠ .float k b) ∧ (∀ k a b, X ≠ .complex k a b) := by
      unfold veqr at hr
      split at hr <;> (try (cases hr; done)) <;> simp only [Rel] at hx <;> first
        | (subst hx; refine ⟨?_, ?_, ?_, ?_⟩ <;> intros <;> simp)
        | (obtain ⟨_, _, rfl⟩ := hx; refine ⟨?_, ?_, ?_, ?_⟩ <;> intros <;> simp)
        | (obtain ⟨_, _, _, rfl, _⟩ := hx; refine ⟨?_, ?_, ?_, ?_⟩ <;> intros <;> simp)
        | (obtain ⟨_, _, _, _, rfl, _⟩ := hx; refine ⟨?_, ?_, ?_, ?_⟩ <;> intros <;> simp)
    have hg : (eqGuard (eqOp neq) t p q X Y) = pure () := by
      by_cases hk : X = .nilIface ∧ Y = .nilIface
      · have hki : k = .ifc := by
          obtain ⟨rfl, rfl⟩ := hk
          unfold veqr at hr
          split at hr <;> (try (cases hr; done)) <;> first
            | rfl
            | (exfalso; simp only [Rel] at hx; first
                | (cases hx; done)
                | (obtain ⟨_, _, hx⟩ := hx; cases hx; done)
                | (obtain ⟨_, _, _, hx, _⟩ := hx; cases hx; done)
                | (obtain ⟨_, _, _, _, hx, _⟩ := hx; cases hx; done))
        obtain ⟨rfl, rfl⟩ := hk
        have hcc := hc hki
        cases p <;> cases q <;> simp [isConstO] at hcc <;> cases neq <;> rfl
      · refine eqGuard_plain ?_ hk
        rintro l m ⟨rfl, _⟩
        unfold veqr at hr
        split at hr <;> (try (cases hr; done)) <;> simp only [Rel] at hx <;> first
          | (cases hx; done)
          | (obtain ⟨_, _, hx⟩ := hx; cases hx; done)
          | (obtain ⟨_, _, _, hx, _⟩ := hx; cases hx; done)
          | (obtain ⟨_, _, _, _, hx, _⟩ := hx; cases hx; done)
    refine ⟨.bool (xorB neq r), ?_, ?_⟩
    · simp only [Ok, hg, Sem.run_bind, Sem.run_pure, Result.andThen_ok]
      exact binOp_ref he hxk
    · simp only [Rel]
  · cases h

/-- What lies in a value's cells, one behind the other. -/
inductive Leaf where
  | int | bool | str
  deriving DecidableEq

def leafsF (P : Program) (rec : TypeId → Option (List Leaf)) : List Field → Nat → Option (List Leaf)
  | [], _ => some []
  | f :: fs, off => match rec f.type with
    | some k => match decide (f.name ≠ "_"), Nat.beq f.offset off && Nat.ble 1 k.length, decide (sizeT P f.type = some k.length) with
      | true, true, true => match leafsF P rec fs (off + k.length) with
        | some l => some (k ++ l)
        | none => none
      | _, _, _ => none
    | none => none

/-- The leaves of a type whose values are compared cell by cell. -/
def leafs (P : Program) : Nat → TypeId → Option (List Leaf)
  | 0, _ => none
  | d + 1, t =>
    match P.underlying t with
    | some (.int _) => some [.int]
    | some .bool => some [.bool]
    | some .string => some [.str]
    | some (.struct fs) => match P.stoodInHeld t with
      | true => none
      | false => leafsF P (leafs P d) fs.toList 0
    | some (.array n e) => match leafs P d e with
      | some k => match decide (sizeT P e = some k.length) with
        | true => some (List.replicate n k).flatten
        | false => none
      | none => none
    | _ => none

def veqc : List Leaf → List V → List V → Option Bool
  | [], [], [] => some true
  | .int :: ks, .i k a :: xs, .i k' b :: ys => match decide (k = k') with
    | true => match veqc ks xs ys with
      | some r => some (decide (a = b) && r)
      | none => none
    | false => none
  | .bool :: ks, .b a :: xs, .b b :: ys => match veqc ks xs ys with
    | some r => some ((a == b) && r)
    | none => none
  | .str :: ks, .s a :: xs, .s b :: ys => match veqc ks xs ys with
    | some r => some ((a.toList == b.toList) && r)
    | none => none
  | _, _, _ => none

theorem veqc_len : ∀ {ks : List Leaf} {xs ys : List V} {r : Bool}, veqc ks xs ys = some r → xs.length = ks.length ∧ ys.length = ks.length := by
  intro ks xs ys r h
  fun_induction veqc ks xs ys generalizing r <;> simp_all

theorem veqc_nil {xs ys : List V} {r : Bool} (h : veqc [] xs ys = some r) : r = true := by
  cases xs <;> cases ys <;> simp [veqc] at h
  exact h

theorem veqc_append : ∀ (ks ls : List Leaf) {xs ys : List V} {r : Bool}, veqc (ks ++ ls) xs ys = some r →
    ∃ r1 r2, veqc ks (xs.take ks.length) (ys.take ks.length) = some r1 ∧ veqc ls (xs.drop ks.length) (ys.drop ks.length) = some r2 ∧ r = (r1 && r2)
  | [], ls, xs, ys, r, h => ⟨true, r, by simp [veqc], by simpa using h, by simp⟩
  | k :: ks, ls, xs, ys, r, h => by
    simp only [List.cons_append] at h
    unfold veqc at h
    split at h <;> rename_i e <;> (try (cases e; done)) <;> (try (cases h; done))
    · cases e
      split at h
      · rename_i hk
        split at h
        · rename_i r' hr
          cases h
          obtain ⟨r1, r2, h1, h2, rfl⟩ := veqc_append ks ls hr
          exact ⟨_, r2, by simp only [List.length_cons, List.take_succ_cons, veqc, hk, h1]; rfl, by simpa using h2, by rw [Bool.and_assoc]⟩
        · cases h
      · cases h
    · cases e
      split at h
      · rename_i r' hr
        cases h
        obtain ⟨r1, r2, h1, h2, rfl⟩ := veqc_append ks ls hr
        exact ⟨_, r2, by simp only [List.length_cons, List.take_succ_cons, veqc, h1]; rfl, by simpa using h2, by rw [Bool.and_assoc]⟩
      · cases h
    · cases e
      split at h
      · rename_i r' hr
        cases h
        obtain ⟨r1, r2, h1, h2, rfl⟩ := veqc_append ks ls hr
        exact ⟨_, r2, by simp only [List.length_cons, List.take_succ_cons, veqc, h1]; rfl, by simpa using h2, by rw [Bool.and_assoc]⟩
      · cases h

/-- A value of a type whose cells are these. -/
def Wrap (P : Program) (t : TypeId) (X : List Value) (y : Value) : Prop := (aggT P t = some true ∧ y = .agg X.toArray) ∨ (aggT P t = some false ∧ X = [y])

theorem leafs_agg {d : Nat} {t : TypeId} {k : List Leaf} (h : leafs P d t = some k) : aggT P t = some true ∨ (aggT P t = some false ∧ k.length = 1) := by
  cases d with
  | zero => simp [leafs] at h
  | succ d =>
    unfold leafs at h
    split at h <;> rename_i hu <;> (try (cases h; done)) <;> simp only [aggT, hu]
    · cases h; simp
    · cases h; simp
    · cases h; simp
    · simp
    · simp

theorem run_partW {t : TypeId} {n off : Nat} (ht : aggT P t = some true ∨ (aggT P t = some false ∧ n = 1)) (hz : sizeT P t = some n) {cs : List Value} (hl : off + n ≤ cs.length) :
    ∃ y, (part t cs.toArray off).run P w = .ok y w ∧ Wrap P t ((cs.drop off).take n) y := by
  rcases ht with ht | ⟨ht, rfl⟩
  · refine ⟨.agg ((cs.drop off).take n).toArray, ?_, .inl ⟨ht, rfl⟩⟩
    simp [part, run_isAgg ht, run_sizeT hz]
  · have : off < cs.length := by omega
    refine ⟨cs[off], by simp [part, run_isAgg ht, this], .inr ⟨ht, ?_⟩⟩
    rw [List.drop_eq_getElem_cons this, List.take_succ_cons, List.take_zero]

/-- Equality of an array's values, element by element. -/
def eqElems (P : Program) (d : Nat) (e : TypeId) (n : Nat) (xs ys : Array Value) : List Nat → Sem Bool
  | [] => pure true
  | i :: r => do
    let a ← part e xs (i * n)
    let b ← part e ys (i * n)
    let q ← Op.equalIn d e a b
    if (!q) = true then pure false else eqElems P d e n xs ys r

theorem run_equalIn_arr (d : Nat) (t e : TypeId) (len n : Nat) (xs ys : Array Value) (ht : P.underlying t = some (.array len e)) (hn : sizeT P e = some n) (w : World) :
    (Op.equalIn (d + 1) t (.agg xs) (.agg ys)).run P w = (eqElems P d e n xs ys (List.range' 0 len)).run P w := by
  simp only [Op.equalIn, Sem.run_bind, run_und ht, Result.andThen_ok, run_sizeT hn]
  simp only [Std.Legacy.Range.forIn_eq_forIn_range', Std.Legacy.Range.size]
  have hsz : (len - 0 + 1 - 1) / 1 = len := by simp
  rw [hsz]
  generalize List.range' 0 len 1 = l
  induction l generalizing w with
  | nil => simp [eqElems]
  | cons i r ih =>
    simp only [List.forIn_cons, eqElems, Sem.run_bind]
    generalize (part e xs (i * n)).run P w = r1
    cases r1 with
    | ok a w1 =>
      simp only [Result.andThen_ok]
      generalize (part e ys (i * n)).run P w1 = r2
      cases r2 with
      | ok b w2 =>
        simp only [Result.andThen_ok]
        generalize (Op.equalIn d e a b).run P w2 = r3
        cases r3 with
        | ok q w3 =>
          cases q
          · simp
          · simp only [Result.andThen_ok, Bool.not_true, Bool.false_eq_true, if_false, Sem.run_pure]
            exact ih w3
        | halt x w3 => simp [Result.andThen]
      | halt x w2 => simp [Result.andThen]
    | halt x w1 => simp [Result.andThen]

theorem eqFields_ok {rec : TypeId → Option (List Leaf)} {D : Nat} {xs ys : List V} {X Y : List Value} (hX : RelL ρ xs X) (hY : RelL ρ ys Y)
    (hrec : ∀ t k, rec t = some k → (aggT P t = some true ∨ (aggT P t = some false ∧ k.length = 1)) ∧
      ∀ as1 bs A B r, RelL ρ as1 A → RelL ρ bs B → veqc k as1 bs = some r → ∀ x y, Wrap P t A x → Wrap P t B y → (Op.equalIn D t x y).run P w = .ok r w) :
    ∀ (fs : List Field) (off : Nat) (l : List Leaf) (r : Bool), leafsF P rec fs off = some l → veqc l (xs.drop off) (ys.drop off) = some r → (Op.eqFields D X.toArray Y.toArray fs).run P w = .ok r w
  | [], off, l, r, h, hv => by
    simp only [leafsF] at h; cases h
    have := veqc_nil hv
    subst this
    simp [Op.eqFields]
  | f :: fs, off, l, r, h, hv => by
    simp only [leafsF] at h
    split at h
    · rename_i k hk
      split at h
      · rename_i h1 h2 h3
        split at h
        · rename_i l' hl'
          cases h
          have h1' := of_decide_eq_true h1
          have h2a := Bool.and_eq_true_iff.1 h2
          have h2' := Nat.eq_of_beq_eq_true h2a.1
          have hk0 := Nat.le_of_ble_eq_true h2a.2
          have h3' := of_decide_eq_true h3
          have hlen := veqc_len hv
          simp only [List.length_drop, List.length_append] at hlen
          obtain ⟨r1, r2, h4, h5, rfl⟩ := veqc_append k l' hv
          obtain ⟨ha, hr⟩ := hrec _ _ hk
          have hXl := hX.length
          have hYl := hY.length
          obtain ⟨x, hx1, hx2⟩ := run_partW (P := P) (w := w) (t := f.type) (n := k.length) (off := off) ha h3' (cs := X) (by omega)
          obtain ⟨y, hy1, hy2⟩ := run_partW (P := P) (w := w) (t := f.type) (n := k.length) (off := off) ha h3' (cs := Y) (by omega)
          have he := hr _ _ _ _ r1 ((hX.drop off).take _) ((hY.drop off).take _) h4 x y hx2 hy2
          have ih := eqFields_ok hX hY hrec fs (off + k.length) l' r2 hl' (by simpa [List.drop_drop] using h5)
          simp only [Op.eqFields, if_pos h1', Sem.run_bind, h2', hx1, hy1, he, Result.andThen_ok]
          cases r1 <;> simp [ih]
        · cases h
      · cases h
    · cases h

theorem eqElems_ok {D : Nat} {e : TypeId} {k : List Leaf} {xs ys : List V} {X Y : List Value} (hX : RelL ρ xs X) (hY : RelL ρ ys Y) (ha : aggT P e = some true ∨ (aggT P e = some false ∧ k.length = 1)) (hn : sizeT P e = some k.length)
    (hrec : ∀ as1 bs A B r, RelL ρ as1 A → RelL ρ bs B → veqc k as1 bs = some r → ∀ x y, Wrap P e A x → Wrap P e B y → (Op.equalIn D e x y).run P w = .ok r w) :
    ∀ (len i : Nat) (r : Bool), veqc (List.replicate len k).flatten (xs.drop (i * k.length)) (ys.drop (i * k.length)) = some r → 
      (eqElems P D e k.length X.toArray Y.toArray (List.range' i len)).run P w = .ok r w
  | 0, i, r, hv => by
    have := veqc_nil (by simpa using hv)
    subst this
    simp [eqElems]
  | len + 1, i, r, hv => by
    rw [List.replicate_succ, List.flatten_cons] at hv
    have hlen := veqc_len hv
    obtain ⟨r1, r2, h4, h5, rfl⟩ := veqc_append k _ hv
    have hXl := hX.length
    have hYl := hY.length
    simp only [List.length_drop, List.length_append] at hlen
    by_cases hk0 : k.length = 0
    · have hk : k = [] := List.eq_nil_of_length_eq_zero hk0
      subst hk
      rcases ha with ha | ⟨_, ha⟩
      · have ih := eqElems_ok hX hY (.inl ha) hn hrec len (i + 1) r2 (by simpa using h5)
        have hp : ∀ cs : List Value, (part e cs.toArray (i * 0)).run P w = .ok (.agg #[]) w := by
          intro cs
          simp [part, run_isAgg ha, run_sizeT (show sizeT P e = some 0 from hn)]
        have he := hrec [] [] [] [] r1 (by simp [RelL]) (by simp [RelL]) (by simpa using h4) (.agg #[]) (.agg #[]) (.inl ⟨ha, rfl⟩) (.inl ⟨ha, rfl⟩)
        simp only [List.range'_succ, eqElems, Sem.run_bind, List.length_nil, hp, he, Result.andThen_ok]
        cases r1
        · simp
        · simpa using ih
      · simp at ha
    · obtain ⟨x, hx1, hx2⟩ := run_partW (P := P) (w := w) (t := e) (n := k.length) (off := i * k.length) ha hn (cs := X) (by omega)
      obtain ⟨y, hy1, hy2⟩ := run_partW (P := P) (w := w) (t := e) (n := k.length) (off := i * k.length) ha hn (cs := Y) (by omega)
      have he := hrec _ _ _ _ r1 ((hX.drop (i * k.length)).take _) ((hY.drop (i * k.length)).take _) h4 x y hx2 hy2
      have ih := eqElems_ok hX hY ha hn hrec len (i + 1) r2 (by rw [Nat.add_mul, Nat.one_mul]; simpa [List.drop_drop] using h5)
      simp only [List.range'_succ, eqElems, Sem.run_bind, hx1, hy1, he, Result.andThen_ok]
      cases r1
      · simp
      · simpa using ih

theorem leafs_ok : ∀ (d D : Nat) (t : TypeId) (k : List Leaf), leafs P d t = some k → ∀ (as1 bs : List V) (A B : List Value) (r : Bool), RelL ρ as1 A → RelL ρ bs B → veqc k as1 bs = some r →
    ∀ x y, Wrap P t A x → Wrap P t B y → (Op.equalIn (D + d) t x y).run P w = .ok r w
  | 0, D, t, k, h => by simp [leafs] at h
  | d + 1, D, t, k, h => by
    intro as1 bs A B r hA hB hv x y hx hy
    unfold leafs at h
    have one : ∀ (l : Leaf), [l] = k → ∃ a b u v, as1 = [a] ∧ bs = [b] ∧ A = [u] ∧ B = [v] ∧ Rel ρ a u ∧ Rel ρ b v := by
      intro l e
      subst e
      have hl := veqc_len hv
      obtain ⟨a, rfl⟩ : ∃ a, as1 = [a] := by
        match as1, hl.1 with
        | [a], _ => exact ⟨a, rfl⟩
      obtain ⟨b, rfl⟩ : ∃ b, bs = [b] := by
        match bs, hl.2 with
        | [b], _ => exact ⟨b, rfl⟩
      simp only [RelL] at hA hB
      obtain ⟨u, us, h1, h2, rfl⟩ := hA
      obtain ⟨v, vs, h3, h4, rfl⟩ := hB
      subst h2; subst h4
      exact ⟨a, b, u, v, rfl, rfl, rfl, rfl, h1, h3⟩
    split at h <;> rename_i hu <;> (try (cases h; done))
    · cases h
      obtain ⟨a, b, u, v, rfl, rfl, rfl, rfl, ha, hb⟩ := one _ rfl
      have hag : aggT P t = some false := by simp [aggT, hu]
      rcases hx with ⟨h1, _⟩ | ⟨_, h1⟩
      · rw [hag] at h1; cases h1
      rcases hy with ⟨h2, _⟩ | ⟨_, h2⟩
      · rw [hag] at h2; cases h2
      cases h1; cases h2
      cases a <;> cases b <;> simp only [veqc] at hv <;> (try (cases hv; done))
      split at hv
      · rename_i hk
        cases hv
        have hk' := of_decide_eq_true hk
        subst hk'
        simp only [Rel] at ha hb; subst ha; subst hb
        rw [show D + (d + 1) = D + d + 1 from rfl, run_equalIn_int w _ _ _ _ _ _ hu]
        simp; rfl
      · cases hv
    · cases h
      obtain ⟨a, b, u, v, rfl, rfl, rfl, rfl, ha, hb⟩ := one _ rfl
      have hag : aggT P t = some false := by simp [aggT, hu]
      rcases hx with ⟨h1, _⟩ | ⟨_, h1⟩
      · rw [hag] at h1; cases h1
      rcases hy with ⟨h2, _⟩ | ⟨_, h2⟩
      · rw [hag] at h2; cases h2
      cases h1; cases h2
      cases a <;> cases b <;> simp only [veqc] at hv <;> (try (cases hv; done))
      cases hv
      simp only [Rel] at ha hb; subst ha; subst hb
      rw [show D + (d + 1) = D + d + 1 from rfl, run_equalIn_bool' w _ _ _ _ hu]
      simp
    · cases h
      obtain ⟨a, b, u, v, rfl, rfl, rfl, rfl, ha, hb⟩ := one _ rfl
      have hag : aggT P t = some false := by simp [aggT, hu]
      rcases hx with ⟨h1, _⟩ | ⟨_, h1⟩
      · rw [hag] at h1; cases h1
      rcases hy with ⟨h2, _⟩ | ⟨_, h2⟩
      · rw [hag] at h2; cases h2
      cases h1; cases h2
      cases a <;> cases b <;> simp only [veqc] at hv <;> (try (cases hv; done))
      cases hv
      simp only [Rel] at ha hb; subst ha; subst hb
      rw [show D + (d + 1) = D + d + 1 from rfl, run_equalIn_string w _ _ _ _ hu]
      simp
    · rename_i fs
      split at h
      · cases h
      · rename_i hst
        have hag : aggT P t = some true := by simp [aggT, hu]
        rcases hx with ⟨_, rfl⟩ | ⟨h1, _⟩
        · rcases hy with ⟨_, rfl⟩ | ⟨h2, _⟩
          · have hf : P.fieldsOf t = fs := by simp [Program.fieldsOf, hu]
            rw [show D + (d + 1) = D + d + 1 from rfl, run_equalIn_struct w _ _ _ _ (by rw [hf]; exact hu) hst, hf]
            exact eqFields_ok hA hB (fun t k ht => ⟨leafs_agg ht, leafs_ok d D t k ht⟩) fs.toList 0 k r h (by simpa using hv)
          · rw [hag] at h2; cases h2
        · rw [hag] at h1; cases h1
    · rename_i n e
      split at h
      · rename_i k' hk'
        split at h
        · rename_i hsz
          cases h
          have hsz' := of_decide_eq_true hsz
          have hag : aggT P t = some true := by simp [aggT, hu]
          rcases hx with ⟨_, rfl⟩ | ⟨h1, _⟩
          · rcases hy with ⟨_, rfl⟩ | ⟨h2, _⟩
            · rw [show D + (d + 1) = D + d + 1 from rfl, run_equalIn_arr _ _ _ _ _ _ _ hu hsz']
              exact eqElems_ok hA hB (leafs_agg hk') hsz' (leafs_ok d D e k' hk') n 0 r (by simpa using hv)
            · rw [hag] at h2; cases h2
          · rw [hag] at h1; cases h1
        · cases h
      · cases h

/-- '==' and '!=' of structs and arrays. -/
def veqs (neq : Bool) (k : List Leaf) (x y : V) : Option V :=
  match x, y with
  | .agg xs, .agg ys => match veqc k xs ys with
    | some r => some (.b (xorB neq r))
    | none => none
  | _, _ => none

theorem veqs_ok {neq : Bool} {k : List Leaf} {x y v : V} {X Y : Value} (hx : Rel ρ x X) (hy : Rel ρ y Y) (h : veqs neq k x y = some v) {t : TypeId} {d : Nat} (hd : d ≤ 10000) (hl : leafs P d t = some k) (hag : aggT P t = some true)
    (hg : P.eqGuardType P.depth t = false) (p q : Operand) : ∃ z, Ok P (do eqGuard (eqOp neq) t p q X Y; binOp (eqOp neq) t X Y) w z ∧ Rel ρ v z := by
  cases x <;> cases y <;> simp only [veqs] at h <;> (try (cases h; done))
  split at h
  · rename_i r hr
    cases h
    simp only [Rel] at hx hy
    obtain ⟨A, hA, rfl⟩ := hx
    obtain ⟨B, hB, rfl⟩ := hy
    have he := leafs_ok (P := P) (w := w) d (10000 - d) t k hl _ _ A B r hA hB hr _ _ (.inl ⟨hag, rfl⟩) (.inl ⟨hag, rfl⟩)
    rw [Nat.sub_add_cancel hd] at he
    have he' : (Op.equal t (.agg A.toArray) (.agg B.toArray)).run P w = .ok r w := he
    refine ⟨.bool (xorB neq r), ?_, by simp only [Rel]⟩
    simp only [Ok, Sem.run_bind, run_eqGuard_agg w (eqOp neq) t p q _ _ hg, Result.andThen_ok]
    exact binOp_ref he' ⟨by simp, by simp, by simp, by simp⟩
  · cases h

end Go.Wg
