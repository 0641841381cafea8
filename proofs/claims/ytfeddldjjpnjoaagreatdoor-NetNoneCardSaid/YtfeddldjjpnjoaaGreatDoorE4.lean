/- Each operation of the program's, told as an instruction: those that make objects, and those that write. -/
import Derived.Test.YtfeddldjjpnjoaaGreatDoorE3
namespace Go.Wg
variable {P : Program} {ρ : Rho} {g : Get} {w : World}

def zeroL (P : Program) (t : TypeId) : Option (List V) :=
  match zeroT P t with
  | some z => cVs z.cells.toList
  | none => none

theorem zeroL_ok {t : TypeId} {l : List V} (h : zeroL P t = some l) : ∃ z, zeroT P t = some z ∧ ∀ ρ, RelL ρ l z.cells.toList := by
  unfold zeroL at h
  split at h
  · rename_i z hz; exact ⟨z, hz, fun ρ => cVs_ok h⟩
  · cases h

def cA (P : Program) (o : Oper) : Option A :=
  match o.op with
  | .alloc t => match zeroL P t with
    | some l => some (.new l)
    | none => none
  | .box _ x => match cO x with
    | some x => some (.box x)
    | none => none
  | .buildSlice t n ps => match P.underlying t with
    | some (.slice e) => match sizeT P e, zeroL P e with
      | some z, some l => match decide (n * z ≤ 2 ^ 24), Nat.beq l.length z, cParts (fun i => some (i * z, z)) ps.toList with
        | true, true, some parts => some (.mkSl z n (rep n l) parts)
        | _, _, _ => none
      | _, _ => none
    | _ => none
  | .makeSlice t x y => match cO x, cO y, P.underlying t with
    | some x, some y, some (.slice e) => match P.info? e, zeroL P e with
      | some i, some l => match Nat.beq l.length i.size with
        | true => some (.mk i.size i.bytes l x y)
        | false => none
      | _, _ => none
    | _, _, _ => none
  | .makeMap _ none => some .mkm
  | .convert a d x => match cO x, P.underlying a, P.underlying d with
    | some x, some .string, some (.slice e) => match P.underlying e with
      | some (.int .u8) => some (.sb x)
      | _ => none
    | _, _, _ => none
  | _ => none

theorem cA_ok {o : Oper} {q : A} (h : cA P o = some q) : SndA P o q := by
  unfold cA at h
  split at h <;> rename_i ho <;> (try (cases h; done))
  · split at h <;> cases h
    rename_i l hl
    obtain ⟨z, hz, hr⟩ := zeroL_ok hl
    intro ρ s w r e v s' hs he hf hv
    exact Res.of_does (by simp only [execOp, ho]) (alloc_ok hs hv hf hz (hr ρ))
  · split at h <;> cases h
    rename_i y hy
    intro ρ s w r e v s' hs he hf hv
    simp only [evA] at hv
    split at hv <;> (try (cases hv; done))
    rename_i u hu
    exact Res.of_does (by simp only [execOp, ho]; rfl) (box_ok hs (he _ _ _ hy hu) hv hf)
  · rename_i t n ps
    split at h <;> (try (cases h; done))
    rename_i e' hu
    split at h <;> (try (cases h; done))
    rename_i z l hz hl
    split at h <;> cases h
    rename_i parts h1 h2 hp
    obtain ⟨zv, hzv, hr⟩ := zeroL_ok hl
    intro ρ s w r e v s' hs he hf hv
    simp only [evA] at hv
    split at hv <;> (try (cases hv; done))
    rename_i pv hpv
    split at hv <;> (try (cases hv; done))
    rename_i res hres
    have h1' := of_decide_eq_true h1
    have h2' := Nat.eq_of_beq_eq_true h2
    have hpr := cParts_rel he hp hpv
    refine Res.of_does (by simp only [execOp, ho]; rfl) (buildSlice_ok hs hres hv hf hu hz hzv h1' ?_ (by simpa using hpr))
    rcases Nat.eq_zero_or_pos (n * z) with e0 | e0
    · refine .inl ⟨e0, ?_⟩
      rcases Nat.mul_eq_zero.1 e0 with rfl | rfl
      · rfl
      · have : l = [] := List.eq_nil_of_length_eq_zero h2'
        subst this; simp [rep]
    · refine .inr ⟨e0, ?_⟩
      have := rep_rel (hr ρ) n
      rw [h2'] at this
      exact this
  · split at h <;> (try (cases h; done))
    rename_i x y e' hx hy hu
    split at h <;> (try (cases h; done))
    rename_i i l hi hl
    split at h <;> cases h
    rename_i h2
    obtain ⟨zv, hzv, hr⟩ := zeroL_ok hl
    have hz : i.zero = some zv := by simpa [zeroT, hi] using hzv
    intro ρ s w r e v s' hs he hf hv
    simp only [evA] at hv
    split at hv <;> (try (cases hv; done))
    rename_i a b ha hb
    exact Res.of_does (by simp only [execOp, ho]) (make_ok hs (he _ _ _ hx ha) (he _ _ _ hy hb) hv hf hu hi rfl rfl hz (hr ρ) (Nat.eq_of_beq_eq_true h2))
  · cases h
    intro ρ s w r e v s' hs he hf hv
    exact Res.of_does (by simp only [execOp, ho, Option.map]; rfl) (hmkm_ok hs hv hf _)
  · split at h <;> (try (cases h; done))
    rename_i y e' hy ha hd
    split at h <;> cases h
    rename_i he'
    intro ρ s w r e v s' hs he hf hv
    simp only [evA] at hv
    split at hv <;> (try (cases hv; done))
    rename_i u hu
    exact Res.of_does (by simp only [execOp, ho]) (hsb_ok hs (he _ _ _ hy hu) hv hf ha hd he')

def cBh (P : Program) (b : Builtin) (args : List Operand) (ts : List TypeId) : Option H :=
  match b, args, ts with
  | .append, [x, y], [t, u] => match cO x, cO y, P.underlying t, P.underlying u with
    | some x, some y, some (.slice e), some d => match P.info? e with
      | some i => match Nat.ble 1 i.bytes, (match i.zero with
          | some z => Nat.beq z.cells.size i.size
          | none => false) with
        | true, true => match d with
          | .slice _ => some (.app i.size i.bytes x y)
          | .string => some (.app i.size i.bytes x y)
          | .int _ => match zeroL P e with
            | some l => some (.appZ i.size i.bytes l x y)
            | none => none
          | _ => none
        | _, _ => none
      | none => none
    | _, _, _, _ => none
  | .copy, [x, y], [t, _] => match cO x, cO y, P.underlying t with
    | some x, some y, some (.slice e) => match sizeT P e with
      | some z => some (.cpy z x y)
      | none => none
    | _, _, _ => none
  | .clear, [x], [t] => match cO x, P.underlying t with
    | some x, some (.slice e) => match zeroL P e with
      | some l => some (.clr l.length l x)
      | none => none
    | _, _ => none
  | _, _, _ => none

theorem cBh_ok {o : Oper} {q : H} {b : Builtin} {args : Array Operand} {ts : Array TypeId} (ho : o.op = .call { callee := .builtin b, args, argTypes := ts }) (h : cBh P b args.toList ts.toList = some q) : SndH P o q := by
  unfold cBh at h
  split at h <;> (try (cases h; done))
  · rename_i x y t u hargs hts
    have hargs' : args = #[x, y] := by apply Array.ext'; simpa using hargs
    have hts' : ts = #[t, u] := by apply Array.ext'; simpa using hts
    subst hargs'; subst hts'
    split at h <;> (try (cases h; done))
    rename_i x' y' e' d hx hy hu hd
    split at h <;> (try (cases h; done))
    rename_i i hi
    split at h <;> (try (cases h; done))
    rename_i h2 h3
    obtain ⟨z, hz, hzs⟩ : ∃ z, i.zero = some z ∧ z.cells.size = i.size := by
      cases hz : i.zero with
      | none => simp [hz] at h3
      | some z => exact ⟨z, rfl, by simpa [hz] using h3⟩
    have hT : AppT P t e' i.size i.bytes := ⟨hu, ⟨i, z, hi, rfl, rfl, hz, hzs⟩, Nat.le_of_ble_eq_true h2⟩
    have app : sosT P u → SndH P o (.app i.size i.bytes x' y') := by
      intro hs' ρ s w r e v s' hs he hf hv
      obtain ⟨c, hN⟩ := execOp_builtin ho r
      simp only [List.map_toArray, List.map_cons, List.map_nil] at hN
      simp only [evH] at hv
      split at hv <;> (try (cases hv; done))
      rename_i a b ha hb
      exact Res.of_does (by rw [hN]; rfl) (happ_ok (ty := o.type) hs (he _ _ _ hx ha) (he _ _ _ hy hb) hv hf hT hs')
    split at h <;> (try (cases h; done))
    · cases h; exact app (.inl ⟨_, hd⟩)
    · cases h; exact app (.inr hd)
    · split at h <;> cases h
      rename_i l hl
      obtain ⟨z', hz', hr⟩ := zeroL_ok hl
      intro ρ s w r e v s' hs he hf hv
      obtain ⟨c, hN⟩ := execOp_builtin ho r
      simp only [List.map_toArray, List.map_cons, List.map_nil] at hN
      simp only [evH] at hv
      split at hv <;> (try (cases hv; done))
      rename_i a b ha hb
      exact Res.of_does (by rw [hN]; rfl) (happZ_ok (ty := o.type) hs (he _ _ _ hx ha) (he _ _ _ hy hb) hv hf hT hd hz' (hr ρ))
  · rename_i x y t u hargs hts
    have hargs' : args = #[x, y] := by apply Array.ext'; simpa using hargs
    have hts' : ts = #[t, u] := by apply Array.ext'; simpa using hts
    subst hargs'; subst hts'
    split at h <;> (try (cases h; done))
    rename_i x' y' e' hx hy hu
    split at h <;> cases h
    rename_i z hz
    intro ρ s w r e v s' hs he hf hv
    obtain ⟨c, hN⟩ := execOp_builtin ho r
    simp only [List.map_toArray, List.map_cons, List.map_nil] at hN
    simp only [evH] at hv
    split at hv <;> (try (cases hv; done))
    rename_i a b ha hb
    exact Res.of_does (by rw [hN]; rfl) (hcpy_ok (u := u) (ty := o.type) hs (he _ _ _ hx ha) (he _ _ _ hy hb) hv hu hz)
  · rename_i x t hargs hts
    have hargs' : args = #[x] := by apply Array.ext'; simpa using hargs
    have hts' : ts = #[t] := by apply Array.ext'; simpa using hts
    subst hargs'; subst hts'
    split at h <;> (try (cases h; done))
    rename_i x' e' hx hu
    split at h <;> cases h
    rename_i l hl
    obtain ⟨z, hz, hr⟩ := zeroL_ok hl
    intro ρ s w r e v s' hs he hf hv
    obtain ⟨c, hN⟩ := execOp_builtin ho r
    simp only [List.map_toArray, List.map_cons, List.map_nil] at hN
    simp only [evH] at hv
    split at hv <;> (try (cases hv; done))
    rename_i a ha
    exact Res.of_does (by rw [hN]; rfl) (hclr_ok (ty := o.type) hs (he _ _ _ hx ha) hv hu hz (hr ρ))

def cMu (P : Program) (t : TypeId) (m k v : Operand) : Option H :=
  match cO m, cO k, cO v, P.underlying t with
  | some m, some x, some v, some (.map kt _) => match cKK P kt with
    | some k => some (.mu k m x v)
    | none => none
  | _, _, _, _ => none

def cH (P : Program) (o : Oper) : Option H :=
  match o.op with
  | .store t a v => match cO a, cO v, sizeT P t with
    | some a, some v, some n => some (.st n a v)
    | _, _, _ => none
  | .mapUpdate t m k v => cMu P t m k v
  | .insert t m k v => cMu P t m k v
  | .call { callee := .builtin b, args, argTypes } => cBh P b args.toList argTypes.toList
  | _ => none

theorem cMu_ok {o : Oper} {q : H} {t : TypeId} {m k v : Operand} (ho : o.op = .mapUpdate t m k v ∨ o.op = .insert t m k v) (h : cMu P t m k v = some q) : SndH P o q := by
  unfold cMu at h
  split at h <;> (try (cases h; done))
  rename_i m' x' v' kt _ hm hx hv' hu
  split at h <;> cases h
  rename_i kk hk
  intro ρ s w r e v s' hs he hf hv
  simp only [evH] at hv
  split at hv <;> (try (cases hv; done))
  rename_i a b c ha hb hc
  unfold unitV at hv
  split at hv <;> cases hv
  rename_i s'' hs''
  refine Res.of_doesU ?_ (hmu_ok hs (he _ _ _ hm ha) (he _ _ _ hx hb) (he _ _ _ hv' hc) hs'' hu (cKK_ok hk))
  rcases ho with ho | ho <;> simp only [execOp, ho]

theorem cH_ok {o : Oper} {q : H} (h : cH P o = some q) : SndH P o q := by
  unfold cH at h
  split at h <;> rename_i ho <;> (try (cases h; done))
  · split at h <;> cases h
    rename_i a v n ha hv' hn
    intro ρ s w r e v s' hs he hf hv
    simp only [evH] at hv
    split at hv <;> (try (cases hv; done))
    rename_i x y hx hy
    unfold unitV at hv
    split at hv <;> cases hv
    rename_i s'' hs''
    exact Res.of_doesU (by simp only [execOp, ho]) (hst_ok hs (he _ _ _ ha hx) (he _ _ _ hv' hy) hs'' hn)
  · exact cMu_ok (.inl ho) h
  · exact cMu_ok (.inr ho) h
  · exact cBh_ok ho h

end Go.Wg
