/- The operations that make objects or write into them, each held against the model's own operation. -/
import Derived.Test.YtfeddldjjpnjoaaGreatDoorC
namespace Go.Wg
variable {P : Program} {ρ : Rho} {g : Get} {w : World}

/-- An operation ends with this value and this memory. -/
def Does (P : Program) (S : Sem Value) (ρ : Rho) (s : St) (w : World) (v : V) (s' : St) : Prop :=
  ∃ x w' ρ', S.run P w = .ok x w' ∧ Rel ρ' v x ∧ Post ρ s w ρ' s' w'

/-- A row that is new. -/
theorem row_push {s : St} (hs : Sat ρ s.get w) (hfr : ρ s.next = none) (hlim : s.next < Tr.lim) {l : List V} {cs : List Value} (hl : RelL ρ l cs) {c : Array Value} {extra : List Value} (hc : c.toList = cs ++ extra) {e : TypeId} {fz : Nat × Nat} {sk : Bool}
    (hsk : sk = false → extra = []) (hfz : ∀ j, j < c.size → ¬ (fz.1 ≤ j ∧ j < fz.2)) {w' : World} (hh : w'.heap = w.heap.push (.cells c e fz)) (ho : w'.os = w.os) (hou : w'.output = w.output) (hta : w'.tape = w.tape) :
    Post ρ s w (ρ.upd s.next ⟨w.heap.size, 0, c.size⟩) (s.push (.row l sk none s.ver)) w' := by
  have hle := Rho.le_upd (L := ⟨w.heap.size, 0, c.size⟩) hfr
  have hcs : c.size = cs.length + extra.length := by rw [← Array.length_toList, hc]; simp
  refine push_post hs hfr hlim hh ho hou hta ?_ rfl rfl
  refine ⟨c, e, fz, by rw [hh]; simp, by simp, ?_, ?_, hfz, ?_⟩
  · simp only []; rw [hcs, hl.length]; omega
  · intro h; simp only []; rw [hcs, hl.length, hsk h]; simp
  · intro j v hj
    obtain ⟨x, hx, hr⟩ := hl.get j v hj
    refine ⟨x, ?_, hr.mono hle⟩
    simp only [Nat.zero_add]
    rw [← Array.getElem?_toList, hc, List.getElem?_append_left (List.getElem?_eq_some_iff.1 hx).1]
    exact hx

def okNext (s : St) : Bool := Nat.blt s.next Tr.lim

theorem okNext_lt {s : St} (h : okNext s = true) : s.next < Tr.lim := by
  unfold okNext Nat.blt at h
  exact Nat.le_of_ble_eq_true h

/-- A new variable. -/
def hnew (l : List V) (s : St) : Option (V × St) :=
  match okNext s with
  | true => some (.p s.next 0, s.push (.row l false none s.ver))
  | false => none

theorem newRow_ok {s s' : St} {v : V} {l : List V} (hs : Sat ρ s.get w) (h : hnew l s = some (v, s')) (hf : Fresh ρ s s') {cs : Array Value} (hl : RelL ρ l cs.toList) (e : TypeId) :
    Does P (do pure (.pointer (some (← newRow e cs)))) ρ s w v s' := by
  unfold hnew at h
  split at h
  · rename_i hk
    cases h
    have hp := row_push hs (hf s.next (Nat.le_refl _) (Nat.lt_succ_self _)) (okNext_lt hk) hl (c := cs) (extra := []) (by simp) (e := e) (fz := (0, 0)) (sk := false) (fun _ => rfl) (by simp) (w' := { w with heap := w.heap.push (.cells cs e) }) rfl rfl rfl rfl
    exact ⟨.pointer (some ⟨w.heap.size, 0, none⟩), _, _, by simp [newRow], by simp only [Rel]; exact ⟨_, by simp [Rho.upd]; rfl, rfl⟩, hp⟩
  · cases h

theorem alloc_ok {s s' : St} {v : V} {l : List V} (hs : Sat ρ s.get w) (h : hnew l s = some (v, s')) (hf : Fresh ρ s s') {e : TypeId} {z : Value} (hz : zeroT P e = some z) (hl : RelL ρ l z.cells.toList) :
    Does P (Instr.alloc e true (.tuple #[])) ρ s w v s' := by
  obtain ⟨x, w', ρ', h1, h2, h3⟩ := newRow_ok (P := P) hs h hf hl e
  exact ⟨x, w', ρ', by simpa [Instr.alloc, run_zeroT hz, newVar] using h1, h2, h3⟩

theorem box_ok {s s' : St} {x v : V} {X : Value} (hs : Sat ρ s.get w) (hx : Rel ρ x X) (h : hnew x.cells s = some (v, s')) (hf : Fresh ρ s s') {e : TypeId} : Does P (Instr.box e X) ρ s w v s' := by
  obtain ⟨y, w', ρ', h1, h2, h3⟩ := newRow_ok (P := P) hs h hf hx.cells e
  exact ⟨y, w', ρ', by simpa [Instr.box, newVar] using h1, h2, h3⟩

/-- A new slice of such cells. -/
def hmks (esz n c : Nat) (l : List V) (s : St) : Option (V × St) :=
  match okNext s, Nat.ble 1 esz, Nat.ble n c, Nat.beq l.length (c * esz) with
  | true, true, true, true => some (.sl s.next 0 n (some c) esz, s.push (.row l false none s.ver))
  | _, _, _, _ => none

theorem mks_ok {s s' : St} {v : V} {esz n c : Nat} {l : List V} (hs : Sat ρ s.get w) (h : hmks esz n c l s = some (v, s')) (hf : Fresh ρ s s') {cs : Array Value} (hl : RelL ρ l cs.toList) (e : TypeId) :
    Does P (do pure (.slice (some (← newRow e cs)) n c)) ρ s w v s' := by
  unfold hmks at h
  split at h
  · rename_i h1 h2 h3 h4
    cases h
    have hp := row_push hs (hf s.next (Nat.le_refl _) (Nat.lt_succ_self _)) (okNext_lt h1) hl (c := cs) (extra := []) (by simp) (e := e) (fz := (0, 0)) (sk := false) (fun _ => rfl) (by simp) (w' := { w with heap := w.heap.push (.cells cs e) }) rfl rfl rfl rfl
    refine ⟨.slice (some ⟨w.heap.size, 0, none⟩) n c, _, _, by simp [newRow], ?_, hp⟩
    have hcs : cs.size = c * esz := by have := hl.length; have := Nat.eq_of_beq_eq_true h4; simp at *; omega
    simp only [Rel]
    refine ⟨⟨w.heap.size, 0, cs.size⟩, c, by simp [Rho.upd], rfl, Nat.le_of_ble_eq_true h2, Nat.le_of_ble_eq_true h3, ?_⟩
    simp only [SlRel]
    exact ⟨trivial, by simp; omega⟩
  · cases h

theorem buildSlice_ok {s s' : St} {v : V} {esz n : Nat} {zero l : List V} {parts : List (Nat × Nat × V)} {Y : Array (Nat × Value)} (hs : Sat ρ s.get w) (hfl : vfill zero parts = some l) (h : hmks esz n n l s = some (v, s')) (hf : Fresh ρ s s')
    {t e : TypeId} {z : Value} (ht : P.underlying t = some (.slice e)) (hsz : sizeT P e = some esz) (hz : zeroT P e = some z) (hn : n * esz ≤ 2 ^ 24) (hzero : n * esz = 0 ∧ zero = [] ∨ 0 < n * esz ∧ RelL ρ zero ((List.range (n * esz)).map fun i => z.cells[i % z.cells.size]!))
    (hp : PartsRel ρ (fun i => some (i * esz, esz)) parts Y.toList) : Does P (Instr.buildSlice t n Y) ρ s w v s' := by
  have hn' : ¬ (n * esz > 2 ^ 24) := by omega
  rcases hzero with ⟨h0, rfl⟩ | ⟨h0, hzr⟩
  · obtain ⟨cs, h1, h2⟩ := vfill_ok (ρ := ρ) parts [] l #[] Y.toList hp (by simp [RelL]) hfl
    obtain ⟨x, w', ρ', h3, h4, h5⟩ := mks_ok (P := P) hs h hf h2 e
    refine ⟨x, w', ρ', ?_, h4, h5⟩
    have e0 : ∀ f : Nat → Value, (Array.range 0).map f = #[] := fun f => by rw [Array.range_zero', Array.map_empty]
    simp only [Instr.buildSlice, Sem.run_bind, run_und ht, Result.andThen_ok, run_sizeT hsz, h0, if_true, e0]
    simpa [h1, e0, h0] using h3
  · obtain ⟨cs, h1, h2⟩ := vfill_ok (ρ := ρ) parts zero l ((Array.range (n * esz)).map fun i => z.cells[i % z.cells.size]!) Y.toList hp (by simpa using hzr) hfl
    obtain ⟨x, w', ρ', h3, h4, h5⟩ := mks_ok (P := P) hs h hf h2 e
    refine ⟨x, w', ρ', ?_, h4, h5⟩
    have h0' : ¬ (n * esz = 0) := by omega
    simp only [Instr.buildSlice, Sem.run_bind, run_und ht, Result.andThen_ok, run_sizeT hsz, hn', if_false, h0', run_zeroT hz, Sem.run_pure]
    simpa [h1] using h3

/-- So many times these cells. -/
def rep (n : Nat) (l : List V) : List V := (List.replicate n l).flatten

theorem rep_rel {l : List V} {z : Array Value} (hl : RelL ρ l z.toList) (n : Nat) : RelL ρ (rep n l) ((List.range (n * l.length)).map fun i => z[i % z.size]!) := by
  have hz : z.size = l.length := by simpa using hl.length
  induction n with
  | zero => simp [rep, RelL]
  | succ n ih =>
    have e1 : rep (n + 1) l = l ++ rep n l := by simp [rep, List.replicate_succ]
    have e2 : (List.range ((n + 1) * l.length)).map (fun i => z[i % z.size]!) = z.toList ++ (List.range (n * l.length)).map fun i => z[i % z.size]! := by
      rw [Nat.add_mul, Nat.one_mul, Nat.add_comm, List.range_add, List.map_append, List.map_map]
      congr 1
      · apply List.ext_getElem?
        intro j
        by_cases hj : j < l.length
        · have hjz : j < z.size := by omega
          simp [hj, hjz, Nat.mod_eq_of_lt hjz]
        · have hjz : ¬ j < z.size := by omega
          simp [hj, hjz]
      · apply List.map_congr_left
        intro i _
        simp only [Function.comp, hz, Nat.add_mod_left]
    rw [e1, e2]
    exact hl.append ih

/-- make of a slice. -/
def hmake (esz bytes : Nat) (zero : List V) (s : St) (x y : V) : Option (V × St) :=
  match x, y with
  | .i _ n, .i _ c => match decide (0 ≤ n), decide (n ≤ c), Nat.ble (bytes * c.toNat) 140737488355328, decide (c < 9223372036854775808) with
    | true, true, true, true => hmks esz n.toNat c.toNat (rep c.toNat zero) s
    | _, _, _, _ => none
  | _, _ => none

theorem wrap_i64 {n : Int} (h : 0 ≤ n) (h' : n < 9223372036854775808) : IntKind.i64.wrap n = n := by
  unfold IntKind.wrap
  simp only [IntKind.bits, IntKind.signed]
  have : n % (2 ^ 64 : Int) = n := Int.emod_eq_of_lt h (by omega)
  simp only [this]
  rw [if_neg]
  simp
  omega

theorem make_ok {s s' : St} {x y v : V} {X Y : Value} {esz bytes : Nat} {zero : List V} (hs : Sat ρ s.get w) (hx : Rel ρ x X) (hy : Rel ρ y Y) (h : hmake esz bytes zero s x y = some (v, s')) (hf : Fresh ρ s s')
    {t e : TypeId} {i : TypeInfo} {z : Value} (ht : P.underlying t = some (.slice e)) (hi : P.info? e = some i) (hsz : i.size = esz) (hby : i.bytes = bytes) (hz : i.zero = some z) (hzl : RelL ρ zero z.cells.toList) (hzs : zero.length = esz) :
    Does P (Instr.makeSlice t X Y) ρ s w v s' := by
  cases x <;> cases y <;> simp only [hmake] at h <;> (try (cases h; done))
  rename_i k n k' c
  split at h
  · rename_i h1 h2 h3 h4
    have h1' := of_decide_eq_true h1
    have h2' := of_decide_eq_true h2
    have h3' := Nat.le_of_ble_eq_true h3
    have h4' := of_decide_eq_true h4
    simp only [Rel] at hx hy; subst hx; subst hy
    have hl := rep_rel hzl c.toNat
    rw [hzs] at hl
    obtain ⟨y, w', ρ', h5, h6, h7⟩ := mks_ok (P := P) hs h hf (cs := (Array.range (c.toNat * esz)).map fun i => z.cells[i % z.cells.size]!) (by simpa using hl) e
    refine ⟨y, w', ρ', ?_, h6, h7⟩
    have wn := wrap_i64 h1' (by omega)
    have wc := wrap_i64 (show 0 ≤ c by omega) h4'
    have hb : ¬ ((bytes : Int) * c > 2 ^ 48) := by
      have : ((bytes * c.toNat : Nat) : Int) = (bytes : Int) * c := by rw [Int.natCast_mul, Int.toNat_of_nonneg (by omega)]
      omega
    have hcond : ((decide (c < 0) || decide ((bytes : Int) * c > 2 ^ 48)) || decide (n < 0) || decide (n > c)) = false := by
      have a1 : ¬ c < 0 := by omega
      have a2 : ¬ n < 0 := by omega
      have a3 : ¬ n > c := by omega
      simp [a1, a2, a3]
      simpa using hb
    simp only [Instr.makeSlice, Sem.run_bind, run_und ht, Result.andThen_ok, asInt, asIntOf_int, Sem.run_pure, run_typeInf hi, hby, wn, wc, hcond, Bool.false_eq_true, if_false, run_askRoom, sizeOf, hsz, zeroValue]
    by_cases h0 : c.toNat * esz = 0
    · have e0 : ∀ f : Nat → Value, (Array.range 0).map f = #[] := fun f => by rw [Array.range_zero', Array.map_empty]
      simp only [h0, if_true, e0]
      rw [h0, e0] at h5
      simpa using h5
    · simp only [h0, if_false, Sem.run_bind, run_typeInf hi, Result.andThen_ok, hz, Sem.run_pure]
      simpa using h5
  · cases h

end Go.Wg
