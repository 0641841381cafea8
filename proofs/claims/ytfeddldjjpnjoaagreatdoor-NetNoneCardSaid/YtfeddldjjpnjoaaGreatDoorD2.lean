/- Stores, copies, appends, maps. -/
import Derived.Test.YtfeddldjjpnjoaaGreatDoorD
namespace Go.Wg
variable {P : Program} {ρ : Rho} {g : Get} {w : World}

/-- A unit operation ends with this memory. -/
def DoesU (P : Program) (S : Sem Unit) (ρ : Rho) (s : St) (w : World) (s' : St) : Prop :=
  ∃ w' ρ', S.run P w = .ok () w' ∧ Post ρ s w ρ' s' w'

/-- Cells put into an object. -/
def hput (s : St) (o off : Nat) (vs : List V) : Option St :=
  match s.get o with
  | some (.row cells sk pa _) => match Nat.ble (off + vs.length) cells.length, vs.all V.flat with
    | true, true => some (s.write o (.row (splice cells off vs) sk none s.ver) pa)
    | _, _ => none
  | _ => none

theorem hput_ok {s s' : St} {o off : Nat} {vs : List V} (hs : Sat ρ s.get w) (h : hput s o off vs = some s') {L : Loc} (hL : ρ o = some L) {ys : List Value} (hv : RelL ρ vs ys) :
    DoesU P (storeCells ⟨L.blk, L.base + off, none⟩ ys) ρ s w s' := by
  unfold hput at h
  split at h
  · rename_i cells sk pa ve hg
    split at h
    · rename_i h1 h2
      cases h
      have h1' := Nat.le_of_ble_eq_true h1
      obtain ⟨L', hL', hr⟩ := hs.obj o _ hg
      rw [hL] at hL'; cases hL'
      have hlen : cells.length ≤ L.size := by obtain ⟨_, _, _, _, _, h3, _⟩ := hr; exact h3
      obtain ⟨w', h3, h4, h5, h6, h7, h8, h9⟩ := RowRel.write (P := P) hr hv (off := off) (by omega) (by omega) h2
      exact ⟨w', ρ, h3, write_post hs hg hL (ob := .row (splice cells off vs) sk none s.ver) h4 rfl rfl h5 h6 h7 h8 h9⟩
    · cases h
  · cases h

/-- A store. -/
def hst (n : Nat) (s : St) (a v : V) : Option St :=
  match a with
  | .p o off => match Nat.beq v.cells.length n with
    | true => hput s o off v.cells
    | false => none
  | _ => none

theorem hst_ok {n : Nat} {s s' : St} {a v : V} {A X : Value} (hs : Sat ρ s.get w) (ha : Rel ρ a A) (hv : Rel ρ v X) (h : hst n s a v = some s') {t : TypeId} (hz : sizeT P t = some n) : DoesU P (Instr.storeAt t A X) ρ s w s' := by
  cases a <;> simp only [hst] at h <;> (try (cases h; done))
  split at h
  · rename_i h1
    simp only [Rel] at ha
    obtain ⟨L, hL, rfl⟩ := ha
    have hc := hv.cells
    obtain ⟨w', ρ', h2, h3⟩ := hput_ok (P := P) hs h hL hc
    refine ⟨w', ρ', ?_, h3⟩
    have : X.cells.size = n := by have := hc.length; have := Nat.eq_of_beq_eq_true h1; simp at *; omega
    simp only [Instr.storeAt, Instr.sureAddr, storeVar, Sem.run_bind, Sem.run_pure, Result.andThen_ok, run_sizeT hz, this, ne_eq, not_true, if_false]
    exact h2
  · cases h

/-- The first cells of a slice or a string. -/
def vread (g : Get) (esz n : Nat) (x : V) : Option (List V) :=
  match x with
  | .nilsl | .esl _ _ _ => match Nat.beq n 0 with
    | true => some []
    | false => none
  | .sl o off _ _ _ => match g o with
    | some (.row cells _ _ _) => match Nat.ble (off + n * esz) cells.length with
      | true => some ((cells.drop off).take (n * esz))
      | false => none
    | _ => none
  | .s b => match Nat.beq esz 1, Nat.ble n b.size with
    | true, true => some ((b.data.toList.take n).map fun c => .i .u8 c.toNat)
    | _, _ => none
  | _ => none

theorem vread_ok (hs : Sat ρ g w) {esz n : Nat} {x : V} {X : Value} {l : List V} (hx : Rel ρ x X) (h : vread g esz n x = some l) :
    l.length = n * esz ∧ ∃ cs, RelL ρ l cs ∧ ∀ d, (Builtin.firstCells esz n X).run P { w with drawn := d } = .ok cs.toArray { w with drawn := d } := by
  cases x <;> simp only [vread] at h <;> (try (cases h; done)) <;> simp only [Rel] at hx
  case nilsl =>
    split at h
    · rename_i h1; cases h
      have := Nat.eq_of_beq_eq_true h1; subst this; subst hx
      exact ⟨by simp, [], by simp [RelL], fun d => by simp [Builtin.firstCells]⟩
    · cases h
  case esl =>
    split at h
    · rename_i h1; cases h
      have := Nat.eq_of_beq_eq_true h1; subst this
      obtain ⟨_, c, a, _, rfl, _⟩ := hx
      exact ⟨by simp, [], by simp [RelL], fun d => by simp [Builtin.firstCells, loadCells, loadCellsFrom]⟩
    · cases h
  case sl o off len cap z =>
    obtain ⟨L, c, hL, rfl, _⟩ := hx
    split at h
    · rename_i cells sk pa ve hg
      split at h
      · rename_i hle
        have hle' := Nat.le_of_ble_eq_true hle
        cases h
        obtain ⟨cs, h1, h2⟩ := hs.seg hg hL off (n * esz) hle'
        have hlen : cs.length = n * esz := by rw [h1.length]; simp; omega
        refine ⟨by simp; omega, cs, h1, fun d => ?_⟩
        have hrun := run_loadCells_list (P := P) { w with drawn := d } ⟨L.blk, L.base + off, none⟩ cs (fun j v hj => h2 j v hj)
        rw [hlen] at hrun
        simpa [Builtin.firstCells] using hrun
      · cases h
    · cases h
  case s b =>
    subst hx
    split at h
    · rename_i h1 h2
      cases h
      have h1' := Nat.eq_of_beq_eq_true h1
      have h2' := Nat.le_of_ble_eq_true h2
      subst h1'
      refine ⟨by simp; exact Nat.min_eq_left h2', (b.data.toList.take n).map fun c => .int .u8 c.toNat, ?_, fun d => ?_⟩
      · refine RelL.of_get _ _ (by simp) fun j v hj => ?_
        simp only [List.getElem?_map] at hj ⊢
        cases hk : (b.data.toList.take n)[j]? with
        | none => simp [hk] at hj
        | some c => simp [hk] at hj; subst hj; exact ⟨_, by simp; rfl, by simp [Rel]⟩
      · simp [Builtin.firstCells]
        apply Array.ext'
        simp
    · cases h

def vlenOf (x : V) : Option Nat :=
  match x with
  | .nilsl | .esl _ _ _ => some 0
  | .sl _ _ n _ _ => some n
  | .s b => some b.size
  | _ => none

theorem vlenOf_ok {x : V} {X : Value} {n : Nat} (hx : Rel ρ x X) (h : vlenOf x = some n) : Builtin.lenOf X = pure n := by
  cases x <;> simp only [vlenOf] at h <;> (try (cases h; done)) <;> cases h <;> simp only [Rel] at hx
  · subst hx; rfl
  · subst hx; rfl
  · obtain ⟨_, c, a, _, rfl, _⟩ := hx; rfl
  · obtain ⟨L, c, _, rfl, _⟩ := hx; rfl

/-- copy. -/
def hcpy (esz : Nat) (s : St) (d x : V) : Option (V × St) :=
  match vlenOf x, d with
  | some n, .sl o off len _ _ => match vread s.get esz (Nat.min n len) x with
    | some l => match Nat.beq (Nat.min n len) 0 with
      | true => some (.i .i64 0, s)
      | false => match hput s o off l with
        | some s' => some (.i .i64 (Nat.min n len), s')
        | none => none
    | none => none
  | some _, .nilsl | some _, .esl _ _ _ => some (.i .i64 0, s)
  | _, _ => none

theorem run_copy {n len c esz : Nat} {base : Option Addr} {X : Value} {cs : Array Value} {t u ty e : TypeId} (ht : P.underlying t = some (.slice e)) (hz : sizeT P e = some esz) (hlo : Builtin.lenOf X = pure n)
    (hr : (Builtin.firstCells esz (Nat.min n len) X).run P w = .ok cs w) {w' : World} (hst : ∀ a, base = some a → (storeCells a cs.toList).run P w = .ok () w') (hno : base = none → w' = w) :
    (Builtin.copy_ #[t, u] ty #[.slice base len c, X]).run P w = .ok (goInt (Nat.min n len)) w' := by
  cases base with
  | none =>
    have := hno rfl; subst this
    show ((underlying t).bind _).run P w' = _
    rw [Sem.run_bind', run_und ht]
    show (Builtin.lenOf X >>= _).run P w' = _
    rw [hlo]
    show ((sizeOf e).bind _).run P w' = _
    rw [Sem.run_bind', run_sizeT hz]
    show ((Builtin.firstCells esz (Nat.min n len) X).bind _).run P w' = _
    rw [Sem.run_bind', hr]
    rfl
  | some a =>
    show ((underlying t).bind _).run P w = _
    rw [Sem.run_bind', run_und ht]
    show (Builtin.lenOf X >>= _).run P w = _
    rw [hlo]
    show ((sizeOf e).bind _).run P w = _
    rw [Sem.run_bind', run_sizeT hz]
    show ((Builtin.firstCells esz (Nat.min n len) X).bind _).run P w = _
    rw [Sem.run_bind', hr]
    show ((storeCells a cs.toList).bind _).run P w = _
    rw [Sem.run_bind', hst a rfl]
    rfl

theorem read_zero {x : V} {X : Value} {n esz : Nat} (hx : Rel ρ x X) (h : vlenOf x = some n) : ∃ cs, (Builtin.firstCells esz 0 X).run P w = .ok cs w ∧ cs = #[] := by
  cases x <;> simp only [vlenOf] at h <;> (try (cases h; done)) <;> simp only [Rel] at hx
  · subst hx; exact ⟨_, by simp [Builtin.firstCells]; rfl, by simp⟩
  · subst hx; exact ⟨_, by simp [Builtin.firstCells], rfl⟩
  · obtain ⟨_, c, a, _, rfl, _⟩ := hx; exact ⟨_, by simp [Builtin.firstCells, loadCells, loadCellsFrom], rfl⟩
  · obtain ⟨L, c, _, rfl, _⟩ := hx; exact ⟨_, by simp [Builtin.firstCells, loadCells, loadCellsFrom], rfl⟩

theorem hcpy_ok {esz : Nat} {s s' : St} {d x v : V} {D X : Value} (hs : Sat ρ s.get w) (hd : Rel ρ d D) (hx : Rel ρ x X) (h : hcpy esz s d x = some (v, s')) {t u ty e : TypeId} (ht : P.underlying t = some (.slice e)) (hz : sizeT P e = some esz) :
    Does P (Builtin.copy_ #[t, u] ty #[D, X]) ρ s w v s' := by
  unfold hcpy at h
  split at h
  · rename_i n o off len cap z hn
    have hlo := vlenOf_ok hx hn
    split at h
    · rename_i l hl
      obtain ⟨hll, cs, hcs, hrun⟩ := vread_ok (P := P) hs hx hl
      have hr : (Builtin.firstCells esz (Nat.min n len) X).run P w = .ok cs.toArray w := hrun w.drawn
      simp only [Rel] at hd
      obtain ⟨L, c, hL, rfl, _⟩ := hd
      split at h
      · rename_i h0
        cases h
        have h0' := Nat.eq_of_beq_eq_true h0
        have : cs = [] := by
          have := hcs.length; rw [hll, h0'] at this; simpa using this
        subst this
        refine ⟨goInt (Nat.min n len), w, ρ, run_copy ht hz hlo hr (fun a _ => rfl) (fun h => by cases h), ?_, Post.refl hs⟩
        rw [h0']; simp [Rel, goInt]
      · split at h
        · rename_i s'' hp
          cases h
          obtain ⟨w', ρ', h2, h3⟩ := hput_ok (P := P) hs hp hL hcs
          exact ⟨goInt (Nat.min n len), w', ρ', run_copy ht hz hlo hr (fun a ha => by cases ha; exact h2) (fun h => by cases h), by simp [Rel, goInt], h3⟩
        · cases h
    · cases h
  · rename_i n hn
    cases h
    have hlo := vlenOf_ok hx hn
    simp only [Rel] at hd; subst hd
    obtain ⟨cs, h1, rfl⟩ := read_zero (P := P) (esz := esz) hx hn
    refine ⟨goInt (Nat.min n 0), w, ρ, run_copy ht hz hlo (by rw [show Nat.min n 0 = 0 from Nat.min_zero n]; exact h1) (fun a ha => by cases ha) (fun _ => rfl), ?_, Post.refl hs⟩
    rw [show Nat.min n 0 = 0 from Nat.min_zero n]; simp [Rel, goInt]
  · rename_i n _ _ _ hn
    cases h
    have hlo := vlenOf_ok hx hn
    simp only [Rel] at hd; obtain ⟨_, c, a, _, rfl, _⟩ := hd
    obtain ⟨cs, h1, rfl⟩ := read_zero (P := P) (esz := esz) hx hn
    refine ⟨goInt (Nat.min n 0), w, ρ, run_copy (n := n) (len := 0) (c := c) (base := some a) ht hz hlo (by rw [show Nat.min n 0 = 0 from Nat.min_zero n]; exact h1) (fun a ha => rfl) (fun h => by cases h), ?_, Post.refl hs⟩
    rw [show Nat.min n 0 = 0 from Nat.min_zero n]; simp [Rel, goInt]
  · cases h

/-- clear of a slice. -/
def hclr (esz : Nat) (zero : List V) (s : St) (x : V) : Option (V × St) :=
  match x with
  | .nilsl | .esl _ _ _ => some (.tup [], s)
  | .sl o off len _ _ => match Nat.beq len 0 with
    | true => some (.tup [], s)
    | false => match hput s o off (rep len zero) with
      | some s' => some (.tup [], s')
      | none => none
  | _ => none

theorem hclr_ok {esz : Nat} {zero : List V} {s s' : St} {x v : V} {X : Value} (hs : Sat ρ s.get w) (hx : Rel ρ x X) (h : hclr esz zero s x = some (v, s')) {t ty e : TypeId} {z : Value} (ht : P.underlying t = some (.slice e))
    (hz : zeroT P e = some z) (hzl : RelL ρ zero z.cells.toList) : Does P (Builtin.clear_ #[t] ty #[X]) ρ s w v s' := by
  cases x <;> simp only [hclr] at h <;> (try (cases h; done)) <;> simp only [Rel] at hx
  case nilsl =>
    cases h; subst hx
    exact ⟨.tuple #[], w, ρ, by simp [Builtin.clear_, run_und ht], by simp only [Rel]; exact ⟨[], by simp [RelL], rfl⟩, Post.refl hs⟩
  case esl =>
    cases h; obtain ⟨_, c, a, _, rfl, _⟩ := hx
    exact ⟨.tuple #[], w, ρ, by simp [Builtin.clear_, run_und ht], by simp only [Rel]; exact ⟨[], by simp [RelL], rfl⟩, Post.refl hs⟩
  case sl o off len cap esz' =>
    obtain ⟨L, c, hL, rfl, _⟩ := hx
    split at h
    · rename_i h0
      cases h
      have h0' := Nat.eq_of_beq_eq_true h0
      subst h0'
      exact ⟨.tuple #[], w, ρ, by simp [Builtin.clear_, run_und ht], by simp only [Rel]; exact ⟨[], by simp [RelL], rfl⟩, Post.refl hs⟩
    · rename_i h0
      split at h
      · rename_i s'' hp
        cases h
        have hr := rep_rel hzl len
        obtain ⟨w', ρ', h2, h3⟩ := hput_ok (P := P) hs hp hL hr
        refine ⟨.tuple #[], w', ρ', ?_, by simp only [Rel]; exact ⟨[], by simp [RelL], rfl⟩, h3⟩
        have hne : len ≠ 0 := fun e => by subst e; simp at h0
        obtain ⟨n, rfl⟩ : ∃ n, len = n + 1 := ⟨len - 1, by omega⟩
        have hzc : (Builtin.zeroCells z.cells (n + 1)).toList = (List.range ((n + 1) * zero.length)).map fun i => z.cells[i % z.cells.size]! := by
          have : z.cells.size = zero.length := by simpa using hzl.length
          simp [Builtin.zeroCells, this]
        simp only [Builtin.clear_]
        simp [run_und ht, run_zeroT hz, hzc, h2]
      · cases h

end Go.Wg
