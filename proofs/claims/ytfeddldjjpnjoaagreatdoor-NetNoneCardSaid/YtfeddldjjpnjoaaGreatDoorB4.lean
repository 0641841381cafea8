/- More operations that leave memory as it is: strings of bytes, built values, comparisons with nil and of structs, look-ups in maps. -/
import Derived.Test.YtfeddldjjpnjoaaGreatDoorB3
namespace Go.Wg
variable {P : Program} {ρ : Rho} {g : Get} {w : World}

/-- Bytes of cells. -/
def vbytes : List V → Option (List UInt8)
  | [] => some []
  | .i .u8 n :: r => match vbytes r with
    | some l => some (UInt8.ofNat n.toNat :: l)
    | none => none
  | _ :: _ => none

theorem push_fold : ∀ (ns : List Int) (b : ByteArray), ns.foldl (fun r n => r.push (UInt8.ofNat n.toNat)) b = ⟨b.data ++ (ns.map fun n => UInt8.ofNat n.toNat).toArray⟩
  | [], b => by simp
  | n :: r, b => by
    simp only [List.foldl_cons, push_fold r]
    simp [ByteArray.push]

theorem vbytes_int : ∀ (l : List V) (bs : List UInt8) (cs : List Value), vbytes l = some bs → RelL ρ l cs → ∃ ns : List Int, cs = ns.map (Value.int .u8) ∧ bs = ns.map fun n => UInt8.ofNat n.toNat
  | [], bs, cs, h, hl => by
    simp only [RelL] at hl; subst hl
    simp only [vbytes] at h; cases h
    exact ⟨[], rfl, rfl⟩
  | v :: r, bs, cs, h, hl => by
    unfold vbytes at h
    split at h
    · rename_i heq; cases heq
    · rename_i n r' heq
      cases heq
      split at h
      · rename_i l hr
        cases h
        simp only [RelL, Rel] at hl
        obtain ⟨y, ys, rfl, h2, rfl⟩ := hl
        obtain ⟨ns, rfl, rfl⟩ := vbytes_int _ l ys hr h2
        exact ⟨n :: ns, rfl, rfl⟩
      · cases h
    · cases h

def vcbs (g : Get) (x : V) : Option V :=
  match x with
  | .nilsl | .esl _ _ _ => some (.s .empty)
  | .sl o off len _ esz => match g o with
    | some (.row cells _ _ _) => match Nat.beq esz 1, Nat.ble (off + len) cells.length with
      | true, true => match vbytes ((cells.drop off).take len) with
        | some l => some (.s ⟨l.toArray⟩)
        | none => none
      | _, _ => none
    | _ => none
  | _ => none

theorem vcbs_ok (hs : Sat ρ g w) {x v : V} {X : Value} (hx : Rel ρ x X) (h : vcbs g x = some v) {s d e : TypeId} (hsr : P.underlying s = some (.slice e)) (he : P.underlying e = some (.int .u8)) (hd : P.underlying d = some .string) :
    ∃ y, Ok P (convert s d X) w y ∧ Rel ρ v y := by
  have conv : ∀ (S : Sem Value) (z : Value), S = Conv.bytesToString X → S.run P w = .ok z w → (∃ a n c, X = .slice a n c) → Ok P (convert s d X) w z := by
    rintro S z rfl h1 ⟨a, n, c, rfl⟩
    simp [Ok, convert, run_und hsr, run_und hd, run_und he, h1]
  cases x <;> simp only [vcbs] at h <;> (try (cases h; done))
  case nilsl =>
    cases h; simp only [Rel] at hx; subst hx
    exact ⟨.string .empty, conv _ _ rfl (by simp [Conv.bytesToString]) ⟨_, _, _, rfl⟩, by simp [Rel]⟩
  case esl =>
    cases h; simp only [Rel] at hx; obtain ⟨_, c, a, _, rfl, _⟩ := hx
    have := run_bytesToString (P := P) w a 0 c [] (by simp [loadCells, loadCellsFrom])
    exact ⟨.string .empty, conv _ _ rfl (by simpa using this) ⟨_, _, _, rfl⟩, by simp [Rel]⟩
  case sl o off len cap esz =>
    split at h
    · rename_i cells sk pa ve hg
      split at h
      · rename_i h1 h2
        have h2' := Nat.le_of_ble_eq_true h2
        split at h
        · rename_i l hb
          cases h
          simp only [Rel] at hx
          obtain ⟨L, c, hL, rfl, _⟩ := hx
          obtain ⟨cs, hc1, hc2⟩ := hs.seg hg hL off len h2'
          obtain ⟨ns, rfl, rfl⟩ := vbytes_int _ _ _ hb hc1
          have hlen : (ns.map (Value.int .u8)).length = len := by rw [hc1.length]; simp; omega
          have hrun := run_loadCells_list (P := P) w ⟨L.blk, L.base + off, none⟩ _ hc2
          rw [hlen] at hrun
          have := run_bytesToString (P := P) w _ len c ns hrun
          rw [push_fold] at this
          exact ⟨_, conv _ _ rfl this ⟨_, _, _, rfl⟩, by simp [Rel]⟩
        · cases h
      · cases h
    · cases h

/-- Constants. -/
def cV0 (x : Value) : Option V :=
  match x with
  | .bool b => some (.b b)
  | .int k n => some (.i k n)
  | .string s => some (.s s)
  | .pointer none => some .nilp
  | .slice none 0 0 => some .nilsl
  | .map none => some .nilm
  | .nilFunc => some .nilf
  | .nilIface => some .nili
  | _ => none

def cVs : List Value → Option (List V)
  | [] => some []
  | x :: r => match cV0 x, cVs r with
    | some v, some l => some (v :: l)
    | _, _ => none

def cV (x : Value) : Option V :=
  match x with
  | .agg cs => match cVs cs.toList with
    | some l => some (.agg l)
    | none => none
  | x => cV0 x

theorem cV0_ok {x : Value} {v : V} (h : cV0 x = some v) : Rel ρ v x := by
  unfold cV0 at h
  split at h <;> first
    | (cases h; simp only [Rel])
    | cases h

theorem cVs_ok : ∀ {l : List Value} {vs : List V}, cVs l = some vs → RelL ρ vs l
  | [], vs, h => by simp only [cVs] at h; cases h; simp [RelL]
  | x :: r, vs, h => by
    simp only [cVs] at h
    split at h
    · rename_i v l h1 h2
      cases h
      simp only [RelL]
      exact ⟨x, r, cV0_ok h1, cVs_ok h2, rfl⟩
    · cases h

theorem cV_ok {x : Value} {v : V} (h : cV x = some v) : Rel ρ v x := by
  unfold cV at h
  split at h
  · rename_i cs
    split at h
    · rename_i l hl
      cases h
      simp only [Rel]
      exact ⟨cs.toList, cVs_ok hl, rfl⟩
    · cases h
  · exact cV0_ok h

/-- Built values: parts put into cells. -/
def splice (l : List V) (off : Nat) (vs : List V) : List V := l.take off ++ (vs ++ l.drop (off + vs.length))

def vfill (cells : List V) : List (Nat × Nat × V) → Option (List V)
  | [] => some cells
  | (off, sz, v) :: r => match Nat.beq v.cells.length sz, Nat.ble (off + sz) cells.length with
    | true, true => vfill (splice cells off v.cells) r
    | _, _ => none

theorem fold_set (off : Nat) : ∀ (l : List Value) (k : Nat) (cs : Array Value), off + k + l.length ≤ cs.size →
    ((l.zipIdx k).foldl (fun cs (c, j) => cs.setIfInBounds (off + j) c) cs).toList = cs.toList.take (off + k) ++ (l ++ cs.toList.drop (off + k + l.length))
  | [], k, cs, _ => by simp
  | x :: r, k, cs, h => by
    simp only [List.length_cons] at h
    simp only [List.zipIdx_cons, List.foldl_cons]
    rw [fold_set off r (k + 1) _ (by simp; omega)]
    simp only [Array.toList_setIfInBounds]
    apply List.ext_getElem?
    intro j
    simp only [List.getElem?_append, List.getElem?_take, List.length_take, List.getElem?_drop, List.length_set, List.getElem?_set, List.length_cons, Array.length_toList]
    have h1 : min (off + (k + 1)) cs.size = off + k + 1 := by omega
    have h2 : min (off + k) cs.size = off + k := by omega
    rw [h1, h2]
    by_cases ha : j < off + k
    · have hb : j < off + k + 1 := by omega
      have hc : j < off + (k + 1) := by omega
      have hd : ¬ off + k = j := by omega
      simp [ha, hb, hc, hd]
    · by_cases hb : j = off + k
      · subst hb
        have hc : off + k < off + (k + 1) := by omega
        have hd : off + k < cs.size := by omega
        simp [hc, hd]
      · have hc : ¬ j < off + k + 1 := by omega
        obtain ⟨m, rfl⟩ : ∃ m, j = off + k + 1 + m := ⟨j - (off + k + 1), by omega⟩
        have e1 : off + k + 1 + m - (off + k + 1) = m := by omega
        have e2 : off + k + 1 + m - (off + k) = m + 1 := by omega
        simp only [ha, hc, if_false, e1, e2, List.getElem?_cons_succ]
        by_cases hm : m < r.length
        · have : m + 1 < r.length + 1 := by omega
          simp [hm, this]
        · have hm' : ¬ m + 1 < r.length + 1 := by omega
          simp only [hm, hm', if_false]
          have e3 : off + (k + 1) + r.length + (m - r.length) = off + k + (r.length + 1) + (m + 1 - (r.length + 1)) := by omega
          have e4 : ¬ off + k = off + k + (r.length + 1) + (m + 1 - (r.length + 1)) := by omega
          rw [e3, if_neg e4]

theorem fold_setA (off : Nat) (l cs : Array Value) (h : off + l.size ≤ cs.size) :
    (l.zipIdx.foldl (fun cs (c, j) => cs.setIfInBounds (off + j) c) cs).toList = cs.toList.take off ++ (l.toList ++ cs.toList.drop (off + l.size)) := by
  have := fold_set off l.toList 0 cs (by simpa using h)
  simp only [Nat.add_zero, Array.length_toList] at this
  rw [← this, ← Array.foldl_toList]
  simp

theorem RelL.splice {l vs : List V} {cs ys : List Value} (h : RelL ρ l cs) (h' : RelL ρ vs ys) (off : Nat) : RelL ρ (Wg.splice l off vs) (cs.take off ++ (ys ++ cs.drop (off + ys.length))) := by
  unfold Wg.splice
  rw [h'.length]
  exact (h.take off).append (h'.append (h.drop _))

/-- Parts, each with its place. -/
def PartsRel (ρ : Rho) (place : Nat → Option (Nat × Nat)) : List (Nat × Nat × V) → List (Nat × Value) → Prop
  | [], Y => Y = []
  | (off, sz, v) :: r, Y => ∃ i x Y', Y = (i, x) :: Y' ∧ place i = some (off, sz) ∧ Rel ρ v x ∧ PartsRel ρ place r Y'

theorem vfill_ok {place : Nat → Option (Nat × Nat)} : ∀ (parts : List (Nat × Nat × V)) (cells res : List V) (cs : Array Value) (Y : List (Nat × Value)), PartsRel ρ place parts Y → RelL ρ cells cs.toList → vfill cells parts = some res →
    ∃ cs', Instr.fill place cs Y = some cs' ∧ RelL ρ res cs'.toList
  | [], cells, res, cs, Y, hp, hc, h => by
    simp only [PartsRel] at hp; subst hp
    simp only [vfill] at h; cases h
    exact ⟨cs, rfl, hc⟩
  | (off, sz, v) :: r, cells, res, cs, Y, hp, hc, h => by
    simp only [PartsRel] at hp
    obtain ⟨i, x, Y', rfl, h1, h2, h3⟩ := hp
    simp only [vfill] at h
    split at h
    · rename_i h4 h5
      have h4' := Nat.eq_of_beq_eq_true h4
      have h5' := Nat.le_of_ble_eq_true h5
      have hxc := h2.cells
      have hlen : x.cells.size = sz := by have := hxc.length; simp at this; omega
      have hcl : cs.size = cells.length := by have := hc.length; simpa using this
      have hsp := hc.splice hxc off
      have hfs := fold_setA off x.cells cs (by omega)
      obtain ⟨cs', h6, h7⟩ := vfill_ok r _ res (x.cells.zipIdx.foldl (fun cs (c, j) => cs.setIfInBounds (off + j) c) cs) Y' h3 (by rw [hfs]; simpa using hsp) h
      refine ⟨cs', ?_, h7⟩
      have hno : ¬ (x.cells.size ≠ sz ∨ off + x.cells.size > cs.size) := by omega
      simp only [Instr.fill, h1]
      rw [if_neg (by simpa using hno)]
      exact h6
    · cases h

theorem run_mapM_list {α β : Type} {f : α → Sem β} {k : α → β} : ∀ (l : List α), (∀ a ∈ l, (f a).run P w = .ok (k a) w) → (l.mapM f).run P w = .ok (l.map k) w
  | [], _ => by simp
  | a :: r, h => by
    simp only [List.mapM_cons, Sem.run_bind, h a (by simp), Result.andThen_ok, run_mapM_list r (fun b hb => h b (by simp [hb])), Sem.run_pure, List.map_cons]

theorem run_mapM_array {α β : Type} {f : α → Sem β} {k : α → β} (l : Array α) (h : ∀ a ∈ l, (f a).run P w = .ok (k a) w) : (l.mapM f).run P w = .ok (l.map k) w := by
  rw [Array.mapM_eq_mapM_toList]
  simp only [Sem.run_map]
  rw [run_mapM_list l.toList (fun a ha => h a (by simpa using ha))]
  simp only [Result.andThen_ok]
  congr 1
  apply Array.ext'
  simp

/-- A struct's, or an array's, value out of parts. -/
def vbuild (zero : List V) (parts : List (Nat × Nat × V)) : Option V :=
  match vfill zero parts with
  | some l => some (.agg l)
  | none => none

def zeroT (P : Program) (t : TypeId) : Option Value := (P.info? t).bind (·.zero)

theorem run_zeroT {t : TypeId} {z : Value} (h : zeroT P t = some z) (w : World) : (zeroValue t).run P w = .ok z w := by
  unfold zeroT at h
  cases hi : P.info? t with
  | none => simp [hi] at h
  | some i => simp [hi] at h; simp [zeroValue, run_typeInf hi, h]

theorem vbuildS_ok {zero : List V} {parts : List (Nat × Nat × V)} {v : V} {t : TypeId} {fs : Array Field} {z : Value} {Y : Array (Nat × Value)} (ht : P.underlying t = some (.struct fs)) (hz : zeroT P t = some z)
    (hzero : RelL ρ zero z.cells.toList) (sz : Field → Nat) (hsz : ∀ f ∈ fs, sizeT P f.type = some (sz f)) (hp : PartsRel ρ (fun i => (fs.map fun f => (f.offset, sz f))[i]?) parts Y.toList)
    (h : vbuild zero parts = some v) : ∃ y, Ok P (Instr.build t Y) w y ∧ Rel ρ v y := by
  unfold vbuild at h
  split at h
  · rename_i l hl
    cases h
    obtain ⟨cs, h1, h2⟩ := vfill_ok parts zero l z.cells Y.toList hp hzero hl
    refine ⟨.agg cs, ?_, by simp only [Rel]; exact ⟨cs.toList, h2, rfl⟩⟩
    have hm := run_mapM_array (P := P) (w := w) (f := fun f : Field => do pure (f.offset, ← sizeOf f.type)) (k := fun f => (f.offset, sz f)) fs (fun f hf => by simp [run_sizeT (hsz f hf)])
    simp only [Ok, Instr.build, Sem.run_bind, run_zeroT hz, Result.andThen_ok, run_und ht, hm, h1, Sem.run_pure]
  · cases h

theorem vbuildA_ok {zero : List V} {parts : List (Nat × Nat × V)} {v : V} {t e : TypeId} {n esz : Nat} {z : Value} {Y : Array (Nat × Value)} (ht : P.underlying t = some (.array n e)) (hz : zeroT P t = some z)
    (hzero : RelL ρ zero z.cells.toList) (hsz : sizeT P e = some esz) (hp : PartsRel ρ (fun i => some (i * esz, esz)) parts Y.toList)
    (h : vbuild zero parts = some v) : ∃ y, Ok P (Instr.build t Y) w y ∧ Rel ρ v y := by
  unfold vbuild at h
  split at h
  · rename_i l hl
    cases h
    obtain ⟨cs, h1, h2⟩ := vfill_ok parts zero l z.cells Y.toList hp hzero hl
    refine ⟨.agg cs, ?_, by simp only [Rel]; exact ⟨cs.toList, h2, rfl⟩⟩
    simp only [Ok, Instr.build, Sem.run_bind, run_zeroT hz, Result.andThen_ok, run_und ht, run_sizeT hsz, h1, Sem.run_pure]
  · cases h

end Go.Wg
