/- More operations that leave memory as it is: parts of values, slices, addresses, lengths. -/
import Derived.Test.YtfeddldjjpnjoaaGreatDoorB
import Derived.Laws.BytesString
namespace Go.Wg
variable {P : Program} {ρ : Rho} {g : Get} {w : World}

theorem asIntOf_int (k : IntKind) (n : Int) : asIntOf (.int k n) = pure (k, n) := rfl
theorem asInt_int (k : IntKind) (n : Int) : asInt (.int k n) = (do pure (← (pure (k, n) : Sem (IntKind × Int))).2) := rfl

def vun (op : UnOp) (x : V) : Option V :=
  match op, x with
  | .neg, .i k n => some (.i k (k.wrap (0 - n)))
  | .not, .b a => some (.b (!a))
  | .xor, .i k n => some (.i k (k.wrap (BitVec.ofInt k.bits (if k.signed then -1 else k.max) ^^^ BitVec.ofInt k.bits n).toNat))
  | _, _ => none

theorem vun_ok {op : UnOp} {x v : V} {X : Value} (hx : Rel ρ x X) (h : vun op x = some v) : ∃ y, Ok P (Op.unary op X) w y ∧ Rel ρ v y := by
  cases x <;> cases op <;> simp only [vun] at h <;> first
    | (cases h; done)
    | (cases h; simp only [Rel] at hx; subst hx; exact ⟨_, rfl, by simp [Rel]⟩)

def vcvi (k : IntKind) (x : V) : Option V :=
  match x with
  | .i _ n => some (.i k (k.wrap n))
  | _ => none

theorem vcvi_ok {k : IntKind} {x v : V} {X : Value} (hx : Rel ρ x X) (h : vcvi k x = some v) {s d : TypeId} {sd : TypeDesc} (hs : P.underlying s = some sd) (hd : P.underlying d = some (.int k)) :
    ∃ y, Ok P (convert s d X) w y ∧ Rel ρ v y := by
  cases x <;> simp [vcvi] at h
  subst h
  simp only [Rel] at hx; subst hx
  exact ⟨_, by simp [Ok, convert, run_und hs, run_und hd, Conv.intToInt]; rfl, by simp [Rel]⟩

/-- A tuple's part. -/
def vext (n : Nat) (x : V) : Option V :=
  match x with
  | .tup l => l[n]?
  | _ => none

theorem vext_ok {n : Nat} {x v : V} {X : Value} (hx : Rel ρ x X) (h : vext n x = some v) : ∃ y, Ok P (Instr.extract X n) w y ∧ Rel ρ v y := by
  cases x <;> simp [vext] at h
  rename_i l
  simp only [Rel] at hx
  obtain ⟨cs, h1, rfl⟩ := hx
  obtain ⟨y, hy, hr⟩ := h1.get n v h
  exact ⟨y, by simp [Ok, Instr.extract, hy], hr⟩

/-- A field's, or an element's, place. -/
def vfa (off : Nat) (x : V) : Option V :=
  match x with
  | .p o a => some (.p o (a + off))
  | _ => none

theorem vfa_ok {off : Nat} {x v : V} {X : Value} (hx : Rel ρ x X) (h : vfa off x = some v) {s : TypeId} {fs : Array Field} {n : Nat} {f : Field} {z : Nat}
    (hs : P.underlying s = some (.struct fs)) (hf : fs[n]? = some f) (ho : f.offset = off) (hz : sizeT P f.type = some z) (hz0 : z ≠ 0) :
    ∃ y, Ok P (Instr.fieldAt s X n) w y ∧ Rel ρ v y := by
  cases x <;> simp [vfa] at h
  subst h
  simp only [Rel] at hx
  obtain ⟨L, hL, rfl⟩ := hx
  refine ⟨.pointer (some ⟨L.blk, L.base + (_ + off), none⟩), ?_, by simp only [Rel]; exact ⟨L, hL, rfl⟩⟩
  simp [Ok, Instr.fieldAt, run_und hs, hf, Instr.sureAddr, fieldPlace, run_sizeT hz, hz0, add_lit, ho, Nat.add_assoc]

def via (esz : Nat) (x ix : V) : Option V :=
  match x, ix with
  | .sl o off len _ _, .i _ n => match decide (0 ≤ n), decide (n < len) with
    | true, true => some (.p o (off + n.toNat * esz))
    | _, _ => none
  | _, _ => none

theorem via_ok {esz : Nat} {x ix v : V} {X Y : Value} (hx : Rel ρ x X) (hy : Rel ρ ix Y) (h : via esz x ix = some v) {t e : TypeId}
    (ht : P.underlying t = some (.slice e)) (hz : sizeT P e = some esz) : ∃ y, Ok P (Instr.indexAt t X Y) w y ∧ Rel ρ v y := by
  cases x <;> cases ix <;> simp only [via] at h <;> try (cases h; done)
  split at h
  · rename_i h1 h2
    cases h
    simp only [Rel] at hx hy
    obtain ⟨L, c, hL, rfl, _⟩ := hx
    subst hy
    have h1' := of_decide_eq_true h1
    have h2' := of_decide_eq_true h2
    refine ⟨.pointer (some ⟨L.blk, L.base + (_ + _), none⟩), ?_, by simp only [Rel]; exact ⟨L, hL, rfl⟩⟩
    simp [Ok, Instr.indexAt, asIntOf_int, run_und ht, h1', h2', run_sizeT hz, add_lit, Nat.add_assoc]
  · cases h

def viaa (len esz : Nat) (x ix : V) : Option V :=
  match x, ix with
  | .p o off, .i _ n => match decide (0 ≤ n), decide (n < len) with
    | true, true => some (.p o (off + n.toNat * esz))
    | _, _ => none
  | _, _ => none

theorem viaa_ok {len esz : Nat} {x ix v : V} {X Y : Value} (hx : Rel ρ x X) (hy : Rel ρ ix Y) (h : viaa len esz x ix = some v) {t e : TypeId}
    (ht : P.underlying t = some (.array len e)) (hz : sizeT P e = some esz) : ∃ y, Ok P (Instr.indexAt t X Y) w y ∧ Rel ρ v y := by
  cases x <;> cases ix <;> simp only [viaa] at h <;> try (cases h; done)
  split at h
  · rename_i h1 h2
    cases h
    simp only [Rel] at hx hy
    obtain ⟨L, hL, rfl⟩ := hx
    subst hy
    have h1' := of_decide_eq_true h1
    have h2' := of_decide_eq_true h2
    refine ⟨.pointer (some ⟨L.blk, L.base + (_ + _), none⟩), ?_, by simp only [Rel]; exact ⟨L, hL, rfl⟩⟩
    simp [Ok, Instr.indexAt, asIntOf_int, run_und ht, Instr.sureAddr, h1', h2', run_sizeT hz, add_lit, Nat.add_assoc]
  · cases h

def vixs (x ix : V) : Option V :=
  match x, ix with
  | .s s, .i _ n => match decide (0 ≤ n) with
    | true => match s[n.toNat]? with
      | some b => some (.i .u8 b.toNat)
      | none => none
    | false => none
  | _, _ => none

theorem vixs_ok {x ix v : V} {X Y : Value} (hx : Rel ρ x X) (hy : Rel ρ ix Y) (h : vixs x ix = some v) {t : TypeId} (ht : P.underlying t = some .string) :
    ∃ y, Ok P (Instr.index t X Y) w y ∧ Rel ρ v y := by
  cases x <;> cases ix <;> simp only [vixs] at h <;> try (cases h; done)
  split at h
  · rename_i h1
    split at h
    · rename_i b hb
      cases h
      simp only [Rel] at hx hy
      subst hx; subst hy
      have h1' := of_decide_eq_true h1
      exact ⟨.int .u8 b.toNat, by simp [Ok, Instr.index, asIntOf_int, run_und ht, h1', hb], by simp [Rel]⟩
    · cases h
  · cases h

/-- A part of a struct's or an array's value: one cell, or so many. -/
def vpart (off : Nat) (n : Option Nat) (x : V) : Option V :=
  match x with
  | .agg l => match n with
    | none => l[off]?
    | some n => match Nat.ble (off + n) l.length with
      | true => some (.agg ((l.drop off).take n))
      | false => none
  | _ => none

/-- Is the count of cells of a part that of its type? -/
def partT (P : Program) (t : TypeId) (n : Option Nat) : Prop :=
  match n with
  | none => aggT P t = some false
  | some n => aggT P t = some true ∧ sizeT P t = some n

theorem extract_toList (cs : List Value) (a n : Nat) : (cs.toArray.extract a (a + n)) = ((cs.drop a).take n).toArray := by
  apply Array.ext'
  simp

theorem run_part {t : TypeId} {n : Option Nat} (ht : partT P t n) {l : List V} {cs : List Value} (hl : RelL ρ l cs) {off : Nat} {v : V} (h : vpart off n (.agg l) = some v) :
    ∃ y, (part t cs.toArray off).run P w = .ok y w ∧ Rel ρ v y := by
  cases n with
  | none =>
    simp only [vpart] at h
    obtain ⟨y, hy, hr⟩ := hl.get off v h
    exact ⟨y, by simp [part, run_isAgg (show aggT P t = some false from ht), hy], hr⟩
  | some n =>
    simp only [vpart] at h
    split at h
    · rename_i hle
      have hle' := Nat.le_of_ble_eq_true hle
      cases h
      refine ⟨.agg ((cs.drop off).take n).toArray, ?_, ?_⟩
      · simp [part, run_isAgg ht.1, run_sizeT ht.2]
      · simp only [Rel]; exact ⟨_, (hl.drop off).take n, rfl⟩
    · cases h

theorem vfld_ok {off : Nat} {n : Option Nat} {x v : V} {X : Value} (hx : Rel ρ x X) (h : vpart off n x = some v) {s : TypeId} {fs : Array Field} {j : Nat} {f : Field}
    (hs : P.underlying s = some (.struct fs)) (hf : fs[j]? = some f) (ho : f.offset = off) (ht : partT P f.type n) : ∃ y, Ok P (Instr.field s X j) w y ∧ Rel ρ v y := by
  cases x with
  | agg l =>
    simp only [Rel] at hx
    obtain ⟨cs, h1, rfl⟩ := hx
    obtain ⟨y, hy, hr⟩ := run_part (w := w) ht h1 h
    exact ⟨y, by simp [Ok, Instr.field, run_und hs, hf, asAgg, ho, hy], hr⟩
  | _ => simp [vpart] at h

def vixa (len esz : Nat) (n : Option Nat) (x ix : V) : Option V :=
  match ix with
  | .i _ j => match decide (0 ≤ j), decide (j < len) with
    | true, true => vpart (j.toNat * esz) n x
    | _, _ => none
  | _ => none

theorem vixa_ok {len esz : Nat} {n : Option Nat} {x ix v : V} {X Y : Value} (hx : Rel ρ x X) (hy : Rel ρ ix Y) (h : vixa len esz n x ix = some v) {t e : TypeId}
    (ht : P.underlying t = some (.array len e)) (hz : sizeT P e = some esz) (hp : partT P e n) : ∃ y, Ok P (Instr.index t X Y) w y ∧ Rel ρ v y := by
  cases ix <;> simp only [vixa] at h <;> try (cases h; done)
  split at h
  · rename_i h1 h2
    have h1' := of_decide_eq_true h1
    have h2' := of_decide_eq_true h2
    cases x with
    | agg l =>
      simp only [Rel] at hx hy
      obtain ⟨cs, h3, rfl⟩ := hx
      subst hy
      obtain ⟨y, hy, hr⟩ := run_part (w := w) hp h3 h
      exact ⟨y, by simp [Ok, Instr.index, asIntOf_int, run_und ht, h1', h2', run_sizeT hz, hy], hr⟩
    | _ => simp [vpart] at h
  · cases h

/-- Lengths and capacities. -/
def vlen (g : Get) (x : V) : Option V :=
  match x with
  | .s s => some (.i .i64 s.size)
  | .nilsl | .esl _ _ _ | .nilm => some (.i .i64 0)
  | .sl _ _ n _ _ => some (.i .i64 n)
  | .m o => match g o with
    | some (.map es _) => some (.i .i64 es.length)
    | _ => none
  | _ => none

/-- What a type is, for a length. -/
def lenT (P : Program) (t : TypeId) (x : V) : Prop :=
  match x with
  | .s _ => P.underlying t = some .string
  | .nilm | .m _ => ∃ a b, P.underlying t = some (.map a b)
  | _ => ∃ e, P.underlying t = some (.slice e)

theorem vlen_ok (hs : Sat ρ g w) {x v : V} {X : Value} (hx : Rel ρ x X) (h : vlen g x = some v) {t ty : TypeId} (ht : lenT P t x) : ∃ y, Ok P (Builtin.len_ #[t] ty #[X]) w y ∧ Rel ρ v y := by
  cases x <;> simp only [vlen] at h <;> (try (cases h; done)) <;> simp only [Rel] at hx <;> simp only [lenT] at ht
  case s s =>
    cases h; subst hx
    exact ⟨_, by simp [Ok, Builtin.len_, run_und ht]; rfl, by simp [Rel, goInt]⟩
  case nilsl =>
    cases h; subst hx
    obtain ⟨e, ht⟩ := ht
    exact ⟨_, by simp [Ok, Builtin.len_, run_und ht]; rfl, by simp [Rel, goInt]⟩
  case esl =>
    cases h
    obtain ⟨_, c, a, _, rfl, _⟩ := hx
    obtain ⟨e, ht⟩ := ht
    exact ⟨_, by simp [Ok, Builtin.len_, run_und ht]; rfl, by simp [Rel, goInt]⟩
  case sl o off n cap esz =>
    cases h
    obtain ⟨L, c, _, rfl, _⟩ := hx
    obtain ⟨e, ht⟩ := ht
    exact ⟨_, by simp [Ok, Builtin.len_, run_und ht]; rfl, by simp [Rel, goInt]⟩
  case nilm =>
    cases h; subst hx
    obtain ⟨a, b, ht⟩ := ht
    exact ⟨_, by simp [Ok, Builtin.len_, run_und ht]; rfl, by simp [Rel, goInt]⟩
  case m o =>
    obtain ⟨L, hL, rfl⟩ := hx
    obtain ⟨a, b, ht⟩ := ht
    split at h
    · rename_i es ve hg
      cases h
      obtain ⟨L', hL', hr⟩ := hs.obj o _ hg
      rw [hL] at hL'; cases hL'
      obtain ⟨es', clock, h1, h2, _⟩ := hr
      exact ⟨.int .i64 es'.size, by simp [Ok, Builtin.len_, run_und ht, getObj, Sem.run, h1, goInt], by simp [Rel, h2]⟩
    · cases h

theorem vlenn_ok {n : Nat} {X : Value} {t ty : TypeId} (ht : (∃ e, P.underlying t = some (.array n e)) ∨ ∃ a e, P.underlying t = some (.pointer a) ∧ P.underlying a = some (.array n e)) :
    Ok P (Builtin.len_ #[t] ty #[X]) w (.int .i64 n) := by
  rcases ht with ⟨e, ht⟩ | ⟨a, e, ht, ha⟩
  · simp [Ok, Builtin.len_, run_und ht, goInt]
  · simp [Ok, Builtin.len_, run_und ht, run_und ha, goInt]

def vcap (g : Get) (x : V) : Option V :=
  match x with
  | .nilsl => some (.i .i64 0)
  | .sl o off _ cap esz => match cap with
    | some c => some (.i .i64 c)
    | none => match g o with
      | some (.row cells sk _ _) => match sk with
        | false => some (.i .i64 ((cells.length - off) / esz : Nat))
        | true => none
      | _ => none
  | _ => none

theorem vcap_ok (hs : Sat ρ g w) {x v : V} {X : Value} (hx : Rel ρ x X) (h : vcap g x = some v) {t ty e : TypeId} (ht : P.underlying t = some (.slice e)) : ∃ y, Ok P (Builtin.cap_ #[t] ty #[X]) w y ∧ Rel ρ v y := by
  cases x <;> simp only [vcap] at h <;> (try (cases h; done)) <;> simp only [Rel] at hx
  case nilsl =>
    cases h; subst hx
    exact ⟨_, by simp [Ok, Builtin.cap_, run_und ht]; rfl, by simp [Rel, goInt]⟩
  case sl o off n cap esz =>
    obtain ⟨L, c, hL, rfl, h1, h2, h3⟩ := hx
    refine ⟨.int .i64 c, by simp [Ok, Builtin.cap_, run_und ht, goInt], ?_⟩
    cases cap with
    | some c' => cases h; simp only [SlRel] at h3; simp [Rel, h3.1]
    | none =>
      simp only at h
      split at h
      · rename_i cells sk pa ve hg
        cases sk <;> simp at h
        subst h
        obtain ⟨L', hL', hr⟩ := hs.obj o _ hg
        rw [hL] at hL'; cases hL'
        obtain ⟨_, _, _, _, _, _, h4, _⟩ := hr
        have h5 := h4 rfl
        simp only [SlRel] at h3
        have : (cells.length - off) / esz = c := by
          rw [h5, ← h3, Nat.add_sub_cancel_left]
          exact Nat.mul_div_cancel _ h1
        simp only [Rel]; rw [← this]; simp
      · cases h

def vmin : V → List V → Option V
  | .i k a, [] => some (.i k a)
  | .i k a, .i _ b :: r => vmin (.i k (if b < a then b else a)) r
  | _, _ => none
def vmax : V → List V → Option V
  | .i k a, [] => some (.i k a)
  | .i k a, .i _ b :: r => vmax (.i k (if a < b then b else a)) r
  | _, _ => none

theorem vmin_fold : ∀ (ys : List V) (x v : V) (X : Value) (Ys : List Value), Rel ρ x X → RelL ρ ys Ys → vmin x ys = some v → ∃ y, (Ys.foldlM Builtin.min2 X).run P w = .ok y w ∧ Rel ρ v y
  | [], x, v, X, Ys, hx, hys, h => by
    cases x <;> simp only [vmin] at h <;> (try (cases h; done))
    simp only [RelL] at hys; subst hys
    cases h
    exact ⟨X, by simp, hx⟩
  | u :: r, x, v, X, Ys, hx, hys, h => by
    cases x <;> cases u <;> simp only [vmin] at h <;> (try (cases h; done))
    simp only [RelL, Rel] at hys hx
    obtain ⟨y, ys, rfl, h2, rfl⟩ := hys
    subst hx
    obtain ⟨z, hz, hr⟩ := vmin_fold r _ v (.int _ _) ys (by simp only [Rel]; rfl) h2 h
    exact ⟨z, by simpa [Builtin.min2] using hz, hr⟩

theorem vmax_fold : ∀ (ys : List V) (x v : V) (X : Value) (Ys : List Value), Rel ρ x X → RelL ρ ys Ys → vmax x ys = some v → ∃ y, (Ys.foldlM Builtin.max2 X).run P w = .ok y w ∧ Rel ρ v y
  | [], x, v, X, Ys, hx, hys, h => by
    cases x <;> simp only [vmax] at h <;> (try (cases h; done))
    simp only [RelL] at hys; subst hys
    cases h
    exact ⟨X, by simp, hx⟩
  | u :: r, x, v, X, Ys, hx, hys, h => by
    cases x <;> cases u <;> simp only [vmax] at h <;> (try (cases h; done))
    simp only [RelL, Rel] at hys hx
    obtain ⟨y, ys, rfl, h2, rfl⟩ := hys
    subst hx
    obtain ⟨z, hz, hr⟩ := vmax_fold r _ v (.int _ _) ys (by simp only [Rel]; rfl) h2 h
    exact ⟨z, by simpa [Builtin.max2] using hz, hr⟩

theorem vmin_ok {ts : Array TypeId} {ty : TypeId} {x v : V} {ys : List V} {X : Value} {Ys : List Value} (hx : Rel ρ x X) (hys : RelL ρ ys Ys) (h : vmin x ys = some v) :
    ∃ y, Ok P (Builtin.min_ ts ty (X :: Ys).toArray) w y ∧ Rel ρ v y := by
  obtain ⟨y, hy, hr⟩ := vmin_fold (P := P) (w := w) ys x v X Ys hx hys h
  exact ⟨y, by simpa [Ok, Builtin.min_] using hy, hr⟩
theorem vmax_ok {ts : Array TypeId} {ty : TypeId} {x v : V} {ys : List V} {X : Value} {Ys : List Value} (hx : Rel ρ x X) (hys : RelL ρ ys Ys) (h : vmax x ys = some v) :
    ∃ y, Ok P (Builtin.max_ ts ty (X :: Ys).toArray) w y ∧ Rel ρ v y := by
  obtain ⟨y, hy, hr⟩ := vmax_fold (P := P) (w := w) ys x v X Ys hx hys h
  exact ⟨y, by simpa [Ok, Builtin.max_] using hy, hr⟩

end Go.Wg
