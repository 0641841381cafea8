/- Appends. -/
import Derived.Test.YtfeddldjjpnjoaaGreatDoorD2
namespace Go.Wg
variable {P : Program} {ρ : Rho} {g : Get} {w : World}

def sosT (P : Program) (u : TypeId) : Prop := (∃ e, P.underlying u = some (.slice e)) ∨ P.underlying u = some .string

theorem step {α β : Type} {S : Sem α} {f : α → Sem β} {a : α} {w1 : World} {r : Result β} (h : S.run P w = .ok a w1) (h' : (f a).run P w1 = r) : (S.bind f).run P w = r := by
  rw [Sem.run_bind', h]; exact h'

section
variable {n sLen sCap esz : Nat} {base : Option Addr} {X : Value} {t u ty e : TypeId}

theorem run_app_in {cs : Array Value} (ht : P.underlying t = some (.slice e)) (hz : sizeT P e = some esz) (hu : sosT P u) (hlo : Builtin.lenOf X = pure n) (hr : (Builtin.firstCells esz n X).run P w = .ok cs w)
    (hroom : sLen + n ≤ sCap) {w' : World} (hst : ∀ a, base = some a → (storeCells (a.add (sLen * esz)) cs.toList).run P w = .ok () w') (hno : base = none → w' = w) :
    (Builtin.append_ #[t, u] ty #[.slice base sLen sCap, X]).run P w = .ok (.slice base (sLen + n) sCap) w' := by
  refine step (run_und ht w) ?_
  refine step (run_sizeT hz w) ?_
  rcases hu with ⟨eu, hu⟩ | hu <;> refine step (run_und hu w) ?_
  all_goals
    have hn : (Builtin.lenOf X).run P w = .ok n w := by rw [hlo]; rfl
    refine step (S := Builtin.lenOf X) hn ?_
    show (if sLen + n ≤ sCap then _ else _ : Sem Value).run P w = _
    rw [if_pos hroom]
    refine step (S := Builtin.firstCells esz n X) hr ?_
    cases base with
    | none =>
      have := hno rfl; subst this
      rfl
    | some a => exact step (hst a rfl) rfl

theorem run_app_out {cs os : Array Value} {i : TypeInfo} {z : Value} (ht : P.underlying t = some (.slice e)) (hi : P.info? e = some i) (hsz : i.size = esz) (hz : i.zero = some z) (hu : sosT P u) (hlo : Builtin.lenOf X = pure n)
    (hr : ∀ d, (Builtin.firstCells esz n X).run P { w with drawn := d } = .ok cs { w with drawn := d })
    (hro : ∀ d, (Builtin.firstCells esz sLen (.slice base sLen sCap)).run P { w with drawn := d } = .ok os { w with drawn := d })
    (hroom : sCap < sLen + n) (hby : (sLen + n) * i.bytes ≤ 140737488355328) (h0 : 0 < i.bytes) :
    (Builtin.append_ #[t, u] ty #[.slice base sLen sCap, X]).run P w =
      .ok (.slice (some ⟨w.heap.size, 0, none⟩) (sLen + n) (grownCap w (sLen + n) sCap e)) (w.drew.alloc (.cells (os ++ cs ++ Builtin.zeroCells z.cells (grownCap w (sLen + n) sCap e - (sLen + n))) e)) := by
  have hn : ¬ (sLen + n ≤ sCap) := by omega
  have h48' : ¬ (Builtin.nextslicecap (sLen + n) sCap * i.bytes > 2 ^ 48) := by
    have := growslice_fits hroom hby
    omega
  have hle : sLen + n ≤ (sLen + n) * i.bytes := Nat.le_mul_of_pos_right _ h0
  have hszT : sizeT P e = some esz := by simp [sizeT, hi, hsz]
  refine step (run_und ht w) ?_
  refine step (run_sizeT hszT w) ?_
  rcases hu with ⟨eu, hu⟩ | hu <;> refine step (run_und hu w) ?_
  all_goals
    have hl : (Builtin.lenOf X).run P w = .ok n w := by rw [hlo]; rfl
    refine step (S := Builtin.lenOf X) hl ?_
    show (if sLen + n ≤ sCap then _ else _ : Sem Value).run P w = _
    rw [if_neg hn]
    refine step (run_typeInf hi w) ?_
    have hc1 : ¬ (((sLen + n : Nat) : Int) > IntKind.i64.max ∧ (false = true ∨ i.bytes = 0)) := by rw [IntKind.max_i64]; omega
    rw [if_neg hc1]
    refine step (run_typeInf hi w) ?_
    rw [if_neg h48']
    have hch : (choose (.appendCap (sLen + n) sCap e)).run P w = .ok (grownCap w (sLen + n) sCap e) w.drew := by rfl
    refine step hch ?_
    refine step (run_typeInf hi _) ?_
    refine step (run_askRoom _ _ _) ?_
    refine step (hro (w.drawn + 1)) ?_
    refine step (S := Builtin.firstCells esz n X) (hr (w.drawn + 1)) ?_
    refine step (run_zeroT (show zeroT P e = some z by simp [zeroT, hi, hz]) _) ?_
    rfl

end

/-- What is appended, and how an append of it runs. -/
structure AppY (P : Program) (t u ty e : TypeId) (esz bytes n : Nat) (Y : Value) (cs : List Value) (w : World) : Prop where
  inn : ∀ base sLen sCap w', sLen + n ≤ sCap → (∀ a, base = some a → (storeCells (a.add (sLen * esz)) cs).run P w = .ok () w') → (base = none → w' = w) →
    (Builtin.append_ #[t, u] ty #[.slice base sLen sCap, Y]).run P w = .ok (.slice base (sLen + n) sCap) w'
  out : ∀ base sLen sCap (os : Array Value) (z : Value), zeroT P e = some z → (∀ d, (Builtin.firstCells esz sLen (.slice base sLen sCap)).run P { w with drawn := d } = .ok os { w with drawn := d }) → sCap < sLen + n → (sLen + n) * bytes ≤ 140737488355328 →
    (Builtin.append_ #[t, u] ty #[.slice base sLen sCap, Y]).run P w =
      .ok (.slice (some ⟨w.heap.size, 0, none⟩) (sLen + n) (grownCap w (sLen + n) sCap e)) (w.drew.alloc (.cells (os ++ cs.toArray ++ Builtin.zeroCells z.cells (grownCap w (sLen + n) sCap e - (sLen + n))) e))

theorem appY_of {t u ty e : TypeId} {esz bytes n : Nat} {Y : Value} {cs : List Value} {i : TypeInfo} (ht : P.underlying t = some (.slice e)) (hi : P.info? e = some i) (hsz : i.size = esz) (hby : i.bytes = bytes) (hb0 : 0 < bytes) (hu : sosT P u)
    (hlo : Builtin.lenOf Y = pure n) (hr : ∀ d, (Builtin.firstCells esz n Y).run P { w with drawn := d } = .ok cs.toArray { w with drawn := d }) : AppY P t u ty e esz bytes n Y cs w := by
  have hszT : sizeT P e = some esz := by simp [sizeT, hi, hsz]
  refine ⟨fun base sLen sCap w' h1 h2 h3 => run_app_in ht hszT hu hlo (hr w.drawn) h1 h2 h3, fun base sLen sCap os z hz h1 h2 h3 => ?_⟩
  exact run_app_out ht hi hsz (by simpa [zeroT, hi] using hz) hu hlo hr h1 h2 (by rw [hby]; exact h3) (by rw [hby]; exact hb0)

theorem wrap_i64' {n : Int} (h : 0 ≤ n) (h' : n < 9223372036854775808) : IntKind.i64.wrap n = n := wrap_i64 h h'

theorem appY_zeros {t u ty e : TypeId} {esz bytes : Nat} {k ku : IntKind} {n : Int} {i : TypeInfo} {z : Value} (ht : P.underlying t = some (.slice e)) (hi : P.info? e = some i) (hsz : i.size = esz) (hby : i.bytes = bytes) (hb0 : 0 < bytes) (hu : P.underlying u = some (.int ku))
    (hz : i.zero = some z) (hzs : z.cells.size = esz) (h0 : 0 ≤ n) (hn : n.toNat * bytes ≤ 140737488355328) : AppY P t u ty e esz bytes n.toNat (.int k n) (Builtin.zeroCells z.cells n.toNat).toList w := by
  have hszT : sizeT P e = some esz := by simp [sizeT, hi, hsz]
  have hzT : zeroT P e = some z := by simp [zeroT, hi, hz]
  have hle : n.toNat ≤ n.toNat * bytes := Nat.le_mul_of_pos_right _ hb0
  have hwr := wrap_i64 h0 (by omega)
  have happ : ∀ w : World, (if n.toNat * esz = 0 then pure #[] else do pure (Builtin.zeroCells (← zeroValue e).cells n.toNat) : Sem (Array Value)).run P w = .ok (Builtin.zeroCells z.cells n.toNat) w := by
    intro w
    split
    · rename_i h
      have : Builtin.zeroCells z.cells n.toNat = #[] := by
        apply Array.eq_empty_of_size_eq_zero
        simp [Builtin.zeroCells, hzs]
        exact h
      rw [this]; rfl
    · simp [run_zeroT hzT]
  have hint : ∀ w : World, (asInt (.int k n)).run P w = .ok n w := fun w => rfl
  have hl0 : ¬ (n < 0) := by omega
  have hl48 : ¬ (n * (i.bytes : Int) > 2 ^ 48) := by
    have : ((n.toNat * bytes : Nat) : Int) = n * (bytes : Int) := by rw [Int.natCast_mul, Int.toNat_of_nonneg h0]
    rw [hby]; omega
  refine ⟨fun base sLen sCap w' h1 h2 h3 => ?_, fun base sLen sCap os z' hz' hro h1 h2 => ?_⟩
  · refine step (run_und ht w) ?_
    refine step (run_sizeT hszT w) ?_
    refine step (run_und hu w) ?_
    refine step (S := pure _) (a := true) (w1 := w) rfl ?_
    refine step (hint w) ?_
    show (if IntKind.i64.wrap n < 0 then _ else _ : Sem Value).run P w = _
    rw [hwr, if_neg hl0]
    refine step (run_typeInf hi w) ?_
    rw [if_neg hl48]
    refine step (S := pure n.toNat) (a := n.toNat) (w1 := w) rfl ?_
    show (if sLen + n.toNat ≤ sCap then _ else _ : Sem Value).run P w = _
    rw [if_pos h1]
    refine step (happ w) ?_
    cases base with
    | none => have := h3 rfl; subst this; rfl
    | some a => exact step (h2 a rfl) rfl
  · rw [hzT] at hz'; cases hz'
    have hnr : ¬ (sLen + n.toNat ≤ sCap) := by omega
    have hle2 : sLen + n.toNat ≤ (sLen + n.toNat) * bytes := Nat.le_mul_of_pos_right _ hb0
    have h48' : ¬ (Builtin.nextslicecap (sLen + n.toNat) sCap * i.bytes > 2 ^ 48) := by
      have := growslice_fits h1 h2
      rw [hby]; omega
    refine step (run_und ht w) ?_
    refine step (run_sizeT hszT w) ?_
    refine step (run_und hu w) ?_
    refine step (S := pure _) (a := true) (w1 := w) rfl ?_
    refine step (hint w) ?_
    show (if IntKind.i64.wrap n < 0 then _ else _ : Sem Value).run P w = _
    rw [hwr, if_neg hl0]
    refine step (run_typeInf hi w) ?_
    rw [if_neg hl48]
    refine step (S := pure n.toNat) (a := n.toNat) (w1 := w) rfl ?_
    show (if sLen + n.toNat ≤ sCap then _ else _ : Sem Value).run P w = _
    rw [if_neg hnr]
    refine step (run_typeInf hi w) ?_
    have hc1 : ¬ (((sLen + n.toNat : Nat) : Int) > IntKind.i64.max ∧ (true = true ∨ i.bytes = 0)) := by rw [IntKind.max_i64]; omega
    rw [if_neg hc1]
    refine step (run_typeInf hi w) ?_
    rw [if_neg h48']
    have hch : (choose (.appendCap (sLen + n.toNat) sCap e)).run P w = .ok (grownCap w (sLen + n.toNat) sCap e) w.drew := by rfl
    refine step hch ?_
    refine step (run_typeInf hi _) ?_
    refine step (run_askRoom _ _ _) ?_
    refine step (hro (w.drawn + 1)) ?_
    refine step (happ _) ?_
    refine step (run_zeroT hzT _) ?_
    rfl

theorem size_zeroCells' (z : Array Value) (n : Nat) : (Builtin.zeroCells z n).size = n * z.size := by simp [Builtin.zeroCells]

/-- A slice that surely lies in new memory. -/
def happG (esz bytes : Nat) (s : St) (old nw : List V) (need : Nat) : Option (V × St) :=
  match okNext s, Nat.ble (need * bytes) 140737488355328, Nat.ble 1 esz with
  | true, true, true => some (.sl s.next 0 need none esz, s.push (.row (old ++ nw) true none s.ver))
  | _, _, _ => none

theorem happG_ok {esz bytes need sLen sCap n : Nat} {s s' : St} {v : V} {old nw : List V} {base : Option Addr} {X : Value} (hs : Sat ρ s.get w) (h : happG esz bytes s old nw need = some (v, s')) (hf : Fresh ρ s s')
    {t u ty e : TypeId} {z : Value} (hz : zeroT P e = some z) (hzs : z.cells.size = esz)
    {cs os : List Value} (hY : AppY P t u ty e esz bytes n X cs w) (hcs : RelL ρ nw cs) (hos : RelL ρ old os) (hcl : nw.length = n * esz) (hol : old.length = sLen * esz)
    (hro : ∀ d, (Builtin.firstCells esz sLen (.slice base sLen sCap)).run P { w with drawn := d } = .ok os.toArray { w with drawn := d })
    (hneed : need = sLen + n) (hroom : sCap < sLen + n) : Does P (Builtin.append_ #[t, u] ty #[.slice base sLen sCap, X]) ρ s w v s' := by
  unfold happG at h
  split at h
  · rename_i h1 h2 h3
    cases h
    subst hneed
    have h2' := Nat.le_of_ble_eq_true h2
    have h3' := Nat.le_of_ble_eq_true h3
    have hrun := hY.out base sLen sCap os.toArray z hz hro hroom h2'
    have hge := grownCap_ge w (sLen + n) sCap e
    have hp := row_push hs (hf s.next (Nat.le_refl _) (Nat.lt_succ_self _)) (okNext_lt h1) (hos.append hcs) (c := os.toArray ++ cs.toArray ++ Builtin.zeroCells z.cells (grownCap w (sLen + n) sCap e - (sLen + n))) (extra := (Builtin.zeroCells z.cells (grownCap w (sLen + n) sCap e - (sLen + n))).toList)
      (by simp) (e := e) (fz := (0, 0)) (sk := true) (by simp) (by simp) (w' := w.drew.alloc (.cells (os.toArray ++ cs.toArray ++ Builtin.zeroCells z.cells (grownCap w (sLen + n) sCap e - (sLen + n))) e)) rfl rfl rfl rfl
    refine ⟨_, _, _, hrun, ?_, hp⟩
    have hsize : (os.toArray ++ cs.toArray ++ Builtin.zeroCells z.cells (grownCap w (sLen + n) sCap e - (sLen + n))).size = grownCap w (sLen + n) sCap e * esz := by
      simp only [Array.size_append, List.size_toArray, size_zeroCells', hzs, hos.length, hcs.length, hcl, hol, ← Nat.add_mul]
      congr 1; omega
    simp only [Rel]
    refine ⟨_, grownCap w (sLen + n) sCap e, by simp [Rho.upd]; rfl, rfl, by omega, hge, ?_⟩
    simp only [SlRel, Nat.zero_add]
    simpa using hsize.symm
  · cases h

/-- A slice that lies behind another one, or in new memory: nobody knows. -/
def happM (esz bytes : Nat) (s : St) (o off len : Nat) (cells : List V) (pa : Option Nat) (nw : List V) (need : Nat) : Option (V × St) :=
  match okNext s, Nat.ble (need * bytes) 140737488355328, Nat.ble 1 esz with
  | true, true, true => some (.sl s.next 0 need none esz,
      ⟨((s.lose pa).set o (some (.row (cells.take (off + len * esz)) true (some s.next) s.ver))).set s.next (some (.row ((cells.drop off).take (len * esz) ++ nw) true (some o) s.ver)), s.next + 1, s.ver + 1⟩)
  | _, _, _ => none

/-- Where is there room for what is appended? -/
def room (off : Nat) (cap : Option Nat) (esz need known : Nat) (sk : Bool) : Option Bool :=
  match cap with
  | some c => some (Nat.ble need c)
  | none => match Nat.ble (off + need * esz) known with
    | true => some true
    | false => match sk with
      | true => none
      | false => some false

/-- append behind a slice. -/
def happS (esz bytes : Nat) (s : St) (o off len : Nat) (cap : Option Nat) (z n : Nat) (nw : List V) : Option (V × St) :=
  match s.get o with
  | some (.row cells sk pa _) => match Nat.ble (off + len * esz) cells.length, Nat.beq z esz with
    | true, true => match room off cap esz (len + n) cells.length sk with
      | some true => some (.sl o off (len + n) cap esz, s.write o (.row (splice cells (off + len * esz) nw) sk none s.ver) pa)
      | some false => happG esz bytes s ((cells.drop off).take (len * esz)) nw (len + n)
      | none => happM esz bytes s o off len cells pa nw (len + n)
    | _, _ => none
  | _ => none

/-- append of so many elements, of these cells. -/
def happL (esz bytes : Nat) (s : St) (x : V) (n : Nat) (nw : List V) : Option (V × St) :=
  match Nat.beq n 0 with
  | true => match x with
    | .nilsl => some (x, s)
    | .esl _ _ _ => some (x, s)
    | .sl _ _ _ _ _ => some (x, s)
    | _ => none
  | false => match nw.all V.flat with
    | false => none
    | true => match x with
      | .nilsl => happG esz bytes s [] nw n
      | .sl o off len cap z => happS esz bytes s o off len cap z n nw
      | .esl o off z => happS esz bytes s o off 0 none z n nw
      | _ => none

/-- append of a slice or a string. -/
def happ (esz bytes : Nat) (s : St) (x y : V) : Option (V × St) :=
  match vlenOf y with
  | none => none
  | some n => match Nat.beq n 0 with
    | true => happL esz bytes s x 0 []
    | false => match vread s.get esz n y with
      | none => none
      | some nw => happL esz bytes s x n nw

/-- append of noughts, of which there are so many. -/
def happZ (esz bytes : Nat) (zero : List V) (s : St) (x y : V) : Option (V × St) :=
  match y with
  | .i _ n => match decide (0 ≤ n), Nat.ble (n.toNat * bytes) 140737488355328 with
    | true, true => happL esz bytes s x n.toNat (rep n.toNat zero)
    | _, _ => none
  | _ => none

end Go.Wg
