/- Each operation of the program's, told as an instruction: parts, addresses, lengths, look-ups. -/
import Derived.Test.YtfeddldjjpnjoaaGreatDoorE2
namespace Go.Wg
variable {P : Program} {ρ : Rho} {g : Get} {w : World}

def cSlice (P : Program) (t : TypeId) (x : Operand) (lo hi mx : Option Operand) : Option Q :=
  match cO x, cOo lo, cOo hi, cOo mx with
  | some x, some l, some h, some m => match P.underlying t with
    | some .string => match m with
      | none => some (.sls x l h)
      | some _ => none
    | some (.slice e) => match sizeT P e with
      | some z => some (.sl z x l h m)
      | none => none
    | some (.array n e) => match sizeT P e with
      | some (z + 1) => some (.sla n (z + 1) x l h m)
      | _ => none
    | some (.pointer a) => match P.underlying a with
      | some (.array n e) => match sizeT P e with
        | some (z + 1) => some (.sla n (z + 1) x l h m)
        | _ => none
      | _ => none
    | _ => none
  | _, _, _, _ => none

theorem cOo_none {X : Option Operand} (h : cOo X = some none) : X = none := by
  cases X with
  | none => rfl
  | some x => simp only [cOo] at h; split at h <;> cases h

theorem cSlice_ok {o : Oper} {q : Q} {t : TypeId} {x : Operand} {lo hi mx : Option Operand} (ho : o.op = .slice t x lo hi mx) (h : cSlice P t x lo hi mx = some q) : SndQ P o q := by
  unfold cSlice at h
  split at h <;> (try (cases h; done))
  rename_i y l h' m hy hl hh hm
  have sla : ∀ n e z, sizeT P e = some (z + 1) → (P.underlying t = some (.array n e) ∨ ∃ a, P.underlying t = some (.pointer a) ∧ P.underlying a = some (.array n e)) → SndQ P o (.sla n (z + 1) y l h' m) := by
    intro n e z hz ht ρ s w r e hv hs he hv
    simp only [evQ] at hv
    split at hv <;> (try (cases hv; done))
    rename_i v1 v2 v3 v4 h1 h2 h3 h4
    exact ResQ.of_ok hs (by simp only [execOp, ho]) (vsla_ok hs (he _ _ _ hy h1) (evO_rel he hl h2) (evO_rel he hh h3) (evO_rel he hm h4) hv (by omega) hz ht)
  split at h <;> rename_i hu <;> (try (cases h; done))
  · split at h <;> cases h
    have := cOo_none hm; subst this
    intro ρ s w r e v hs he hv
    simp only [evQ] at hv
    split at hv <;> (try (cases hv; done))
    rename_i v1 v2 v3 h1 h2 h3
    exact ResQ.of_ok hs (by simp only [execOp, ho, Option.map]) (vsls_ok (he _ _ _ hy h1) (evO_rel he hl h2) (evO_rel he hh h3) hv hu)
  · split at h <;> cases h
    rename_i z hz
    intro ρ s w r e v hs he hv
    simp only [evQ] at hv
    split at hv <;> (try (cases hv; done))
    rename_i v1 v2 v3 v4 h1 h2 h3 h4
    unfold vslz at hv
    split at hv
    · split at hv <;> (try (cases hv; done))
      rename_i hb
      have hb' := Nat.eq_of_beq_eq_true hb
      exact ResQ.of_ok hs (by simp only [execOp, ho]) (vsl_ok hs (he _ _ _ hy h1) (evO_rel he hl h2) (evO_rel he hh h3) (evO_rel he hm h4) hv hu hz (fun _ _ _ _ _ e => by cases e; exact hb'))
    · rename_i hno
      exact ResQ.of_ok hs (by simp only [execOp, ho]) (vsl_ok hs (he _ _ _ hy h1) (evO_rel he hl h2) (evO_rel he hh h3) (evO_rel he hm h4) hv hu hz (fun _ _ _ _ _ e => (hno _ _ _ _ _ e).elim))
  · split at h <;> cases h
    rename_i z hz
    exact sla _ _ _ hz (.inl hu)
  · split at h <;> (try (cases h; done))
    rename_i ha
    split at h <;> cases h
    rename_i z hz
    exact sla _ _ _ hz (.inr ⟨_, hu, ha⟩)

def cFa (P : Program) (s : TypeId) (x : Operand) (n : Nat) : Option Q :=
  match cO x with
  | none => none
  | some x => match P.underlying s with
    | some (.struct fs) => match fs[n]? with
      | some f => match sizeT P f.type with
        | some (_ + 1) => some (.fa f.offset x)
        | _ => none
      | none => none
    | _ => none

theorem cFa_ok {o : Oper} {q : Q} {t : TypeId} {x : Operand} {n : Nat} (ho : o.op = .fieldAddr t x n) (h : cFa P t x n = some q) : SndQ P o q := by
  unfold cFa at h
  split at h <;> (try (cases h; done))
  rename_i y hy
  split at h <;> (try (cases h; done))
  rename_i fs hu
  split at h <;> (try (cases h; done))
  rename_i f hf
  split at h <;> cases h
  rename_i z hz
  intro ρ s w r e v hs he hv
  obtain ⟨u, hu', hv⟩ := ev1_some hv
  exact ResQ.of_ok hs (by simp only [execOp, ho]) (vfa_ok (he _ _ _ hy hu') hv hu hf rfl hz (by omega))

/-- How a part of such a type is told. -/
def cPartT (P : Program) (t : TypeId) : Option (Option Nat) :=
  match aggT P t with
  | some false => some none
  | some true => match sizeT P t with
    | some n => some (some n)
    | none => none
  | none => none

theorem cPartT_ok {t : TypeId} {n : Option Nat} (h : cPartT P t = some n) : partT P t n := by
  unfold cPartT at h
  split at h <;> (try (cases h; done))
  · rename_i ha; cases h; exact ha
  · rename_i ha
    split at h <;> cases h
    rename_i n hn
    exact ⟨ha, hn⟩

def cFld (P : Program) (s : TypeId) (x : Operand) (n : Nat) : Option Q :=
  match cO x with
  | none => none
  | some x => match P.underlying s with
    | some (.struct fs) => match fs[n]? with
      | some f => match cPartT P f.type with
        | some k => some (.fld f.offset k x)
        | none => none
      | none => none
    | _ => none

theorem cFld_ok {o : Oper} {q : Q} {t : TypeId} {x : Operand} {n : Nat} (ho : o.op = .field t x n) (h : cFld P t x n = some q) : SndQ P o q := by
  unfold cFld at h
  split at h <;> (try (cases h; done))
  rename_i y hy
  split at h <;> (try (cases h; done))
  rename_i fs hu
  split at h <;> (try (cases h; done))
  rename_i f hf
  split at h <;> cases h
  rename_i k hk
  intro ρ s w r e v hs he hv
  obtain ⟨u, hu', hv⟩ := ev1_some hv
  exact ResQ.of_ok hs (by simp only [execOp, ho]) (vfld_ok (he _ _ _ hy hu') hv hu hf rfl (cPartT_ok hk))

def cIa (P : Program) (t : TypeId) (x ix : Operand) : Option Q :=
  match cO x, cO ix with
  | some x, some i => match P.underlying t with
    | some (.slice e) => match sizeT P e with
      | some z => some (.ia z x i)
      | none => none
    | some (.array n e) => match sizeT P e with
      | some z => some (.iaa n z x i)
      | none => none
    | _ => none
  | _, _ => none

theorem cIa_ok {o : Oper} {q : Q} {t : TypeId} {x ix : Operand} (ho : o.op = .indexAddr t x ix) (h : cIa P t x ix = some q) : SndQ P o q := by
  unfold cIa at h
  split at h <;> (try (cases h; done))
  rename_i y i hy hi
  split at h <;> rename_i hu <;> (try (cases h; done))
  · split at h <;> cases h
    rename_i z hz
    intro ρ s w r e v hs he hv
    obtain ⟨a, b, ha, hb, hv⟩ := ev2_some hv
    exact ResQ.of_ok hs (by simp only [execOp, ho]) (via_ok (he _ _ _ hy ha) (he _ _ _ hi hb) hv hu hz)
  · split at h <;> cases h
    rename_i z hz
    intro ρ s w r e v hs he hv
    obtain ⟨a, b, ha, hb, hv⟩ := ev2_some hv
    exact ResQ.of_ok hs (by simp only [execOp, ho]) (viaa_ok (he _ _ _ hy ha) (he _ _ _ hi hb) hv hu hz)

def cIx (P : Program) (t : TypeId) (x ix : Operand) : Option Q :=
  match cO x, cO ix with
  | some x, some i => match P.underlying t with
    | some .string => some (.ixs x i)
    | some (.array n e) => match sizeT P e, cPartT P e with
      | some z, some k => some (.ixa n z k x i)
      | _, _ => none
    | _ => none
  | _, _ => none

theorem cIx_ok {o : Oper} {q : Q} {t : TypeId} {x ix : Operand} (ho : o.op = .index t x ix) (h : cIx P t x ix = some q) : SndQ P o q := by
  unfold cIx at h
  split at h <;> (try (cases h; done))
  rename_i y i hy hi
  split at h <;> rename_i hu <;> (try (cases h; done))
  · cases h
    intro ρ s w r e v hs he hv
    obtain ⟨a, b, ha, hb, hv⟩ := ev2_some hv
    exact ResQ.of_ok hs (by simp only [execOp, ho]) (vixs_ok (he _ _ _ hy ha) (he _ _ _ hi hb) hv hu)
  · split at h <;> cases h
    rename_i z k hz hk
    intro ρ s w r e v hs he hv
    obtain ⟨a, b, ha, hb, hv⟩ := ev2_some hv
    exact ResQ.of_ok hs (by simp only [execOp, ho]) (vixa_ok (he _ _ _ hy ha) (he _ _ _ hi hb) hv hu hz (cPartT_ok hk))

/-- What kind of key a type is. -/
def cKK (P : Program) (t : TypeId) : Option KK :=
  match P.underlying t with
  | some (.int _) => some .int
  | some .string => some .str
  | _ => none

theorem cKK_ok {t : TypeId} {k : KK} (h : cKK P t = some k) : kkT P k t := by
  unfold cKK at h
  split at h <;> rename_i hu <;> cases h
  · exact ⟨_, hu⟩
  · exact hu

def cLk (P : Program) (t : TypeId) (x ix : Operand) (ok : Bool) : Option Q :=
  match cO x, cO ix with
  | some x, some i => match P.underlying t with
    | some (.map kt et) => match cKK P kt, zeroT P et with
      | some k, some z => match cV z with
        | some zero => some (.lk k zero ok x i)
        | none => none
      | _, _ => none
    | _ => none
  | _, _ => none

theorem cLk_ok {o : Oper} {q : Q} {t : TypeId} {x ix : Operand} {ok : Bool} (ho : o.op = .lookup t x ix ok) (h : cLk P t x ix ok = some q) : SndQ P o q := by
  unfold cLk at h
  split at h <;> (try (cases h; done))
  rename_i y i hy hi
  split at h <;> rename_i hu <;> (try (cases h; done))
  split at h <;> (try (cases h; done))
  rename_i k z hk hz
  split at h <;> cases h
  rename_i zero hzero
  intro ρ s w r e v hs he hv
  obtain ⟨a, b, ha, hb, hv⟩ := ev2_some hv
  exact ResQ.of_ok hs (by simp only [execOp, ho]) (vlk_ok hs (he _ _ _ hy ha) (he _ _ _ hi hb) hv hu (cKK_ok hk) hz (cV_ok hzero))

def cExt (x : Operand) (n : Nat) : Option Q := match cO x with
  | some x => some (.ext n x)
  | none => none

theorem cExt_ok {o : Oper} {q : Q} {x : Operand} {n : Nat} (ho : o.op = .extract x n) (h : cExt x n = some q) : SndQ P o q := by
  unfold cExt at h; split at h <;> cases h
  rename_i y hy
  intro ρ s w r e v hs he hv
  obtain ⟨u, hu, hv⟩ := ev1_some hv
  exact ResQ.of_ok hs (by simp only [execOp, ho]) (vext_ok (he _ _ _ hy hu) hv)

/-- The built-ins that leave memory as it is. -/
def cBi (P : Program) (b : Builtin) (args : List Operand) (ts : List TypeId) : Option Q :=
  match b, args, ts with
  | .len, [x], [t] => match cO x with
    | none => none
    | some x => match P.underlying t with
      | some .string => some (.lenS x)
      | some (.slice _) => some (.lenL x)
      | some (.map _ _) => some (.lenM x)
      | some (.array n _) => some (.lenn n x)
      | some (.pointer a) => match P.underlying a with
        | some (.array n _) => some (.lenn n x)
        | _ => none
      | _ => none
  | .cap, [x], [t] => match cO x with
    | none => none
    | some x => match P.underlying t with
      | some (.slice _) => some (.cap x)
      | _ => none
  | .min, x :: ys, _ => match cO x, cOs ys with
    | some x, some ys => some (.mn x ys)
    | _, _ => none
  | .max, x :: ys, _ => match cO x, cOs ys with
    | some x, some ys => some (.mx x ys)
    | _, _ => none
  | _, _, _ => none

theorem execOp_builtin {o : Oper} {b : Builtin} {args : Array Operand} {ts : Array TypeId} (ho : o.op = .call { callee := .builtin b, args, argTypes := ts }) (r : Operand → Value) :
    ∃ consts, execOp r o = builtin b ts o.type consts (args.map r) := by
  have h : ∃ consts : Array Bool, (resolve r { callee := .builtin b, args, argTypes := ts } o.type) = pure { target := .builtin b ts o.type consts, args := args.map r } := ⟨_, rfl⟩
  obtain ⟨c, hc⟩ := h
  exact ⟨c, by simp only [execOp, ho, hc, pure_bind, invoke]⟩

theorem cBi_ok {o : Oper} {q : Q} {b : Builtin} {args : Array Operand} {ts : Array TypeId} (ho : o.op = .call { callee := .builtin b, args, argTypes := ts }) (h : cBi P b args.toList ts.toList = some q) : SndQ P o q := by
  unfold cBi at h
  split at h <;> (try (cases h; done))
  · rename_i x t hargs hts
    have hargs' : args = #[x] := by apply Array.ext'; simpa using hargs
    have hts' : ts = #[t] := by apply Array.ext'; simpa using hts
    subst hargs'; subst hts'
    split at h <;> (try (cases h; done))
    rename_i y hy
    split at h <;> rename_i hu <;> (try (cases h; done))
    · cases h
      intro ρ s w r e v hs he hv
      obtain ⟨c, hN⟩ := execOp_builtin ho r
      simp only [List.map_toArray, List.map_cons, List.map_nil] at hN
      obtain ⟨u, hu', hv⟩ := ev1_some hv
      split at hv <;> cases hv
      rename_i b
      have := vlen_ok (P := P) (ty := o.type) hs (he _ _ _ hy hu') (show vlen s (.s b) = some _ from rfl) (t := t) hu
      exact ResQ.of_ok hs (by rw [hN]; rfl) this
    · cases h
      intro ρ s w r e v hs he hv
      obtain ⟨c, hN⟩ := execOp_builtin ho r
      simp only [List.map_toArray, List.map_cons, List.map_nil] at hN
      obtain ⟨u, hu', hv⟩ := ev1_some hv
      have hr := he _ _ _ hy hu'
      split at hv <;> cases hv
      · exact ResQ.of_ok hs (by rw [hN]; rfl) (vlen_ok (P := P) (ty := o.type) hs hr (show vlen s .nilsl = some _ from rfl) (t := t) ⟨_, hu⟩)
      · exact ResQ.of_ok hs (by rw [hN]; rfl) (vlen_ok (P := P) (ty := o.type) hs hr (show vlen s (.esl _ _ _) = some _ from rfl) (t := t) ⟨_, hu⟩)
      · exact ResQ.of_ok hs (by rw [hN]; rfl) (vlen_ok (P := P) (ty := o.type) hs hr (show vlen s (.sl _ _ _ _ _) = some _ from rfl) (t := t) ⟨_, hu⟩)
    · cases h
      intro ρ s w r e v hs he hv
      obtain ⟨c, hN⟩ := execOp_builtin ho r
      simp only [List.map_toArray, List.map_cons, List.map_nil] at hN
      obtain ⟨u, hu', hv⟩ := ev1_some hv
      have hr := he _ _ _ hy hu'
      unfold vlenm at hv
      split at hv
      · exact ResQ.of_ok hs (by rw [hN]; rfl) (vlen_ok (P := P) (ty := o.type) hs hr (show vlen s .nilm = some _ from hv) (t := t) ⟨_, _, hu⟩)
      · rename_i m
        exact ResQ.of_ok hs (by rw [hN]; rfl) (vlen_ok (P := P) (ty := o.type) hs hr (show vlen s (.m m) = some _ from hv) (t := t) ⟨_, _, hu⟩)
      · cases hv
    · cases h
      intro ρ s w r e v hs he hv
      obtain ⟨c, hN⟩ := execOp_builtin ho r
      simp only [List.map_toArray, List.map_cons, List.map_nil] at hN
      obtain ⟨u, hu', hv⟩ := ev1_some hv
      cases hv
      exact ResQ.of_ok hs (by rw [hN]; rfl) ⟨_, vlenn_ok (ty := o.type) (t := t) (.inl ⟨_, hu⟩), by simp [Rel]⟩
    · split at h <;> cases h
      rename_i ha
      intro ρ s w r e v hs he hv
      obtain ⟨c, hN⟩ := execOp_builtin ho r
      simp only [List.map_toArray, List.map_cons, List.map_nil] at hN
      obtain ⟨u, hu', hv⟩ := ev1_some hv
      cases hv
      exact ResQ.of_ok hs (by rw [hN]; rfl) ⟨_, vlenn_ok (ty := o.type) (t := t) (.inr ⟨_, _, hu, ha⟩), by simp [Rel]⟩
  · rename_i x t hargs hts
    have hargs' : args = #[x] := by apply Array.ext'; simpa using hargs
    have hts' : ts = #[t] := by apply Array.ext'; simpa using hts
    subst hargs'; subst hts'
    split at h <;> (try (cases h; done))
    rename_i y hy
    split at h <;> rename_i hu <;> cases h
    intro ρ s w r e v hs he hv
    obtain ⟨c, hN⟩ := execOp_builtin ho r
    simp only [List.map_toArray, List.map_cons, List.map_nil] at hN
    obtain ⟨u, hu', hv⟩ := ev1_some hv
    exact ResQ.of_ok hs (by rw [hN]; rfl) (vcap_ok (P := P) (ty := o.type) hs (he _ _ _ hy hu') hv hu)
  · rename_i ts' x ys hargs
    split at h <;> cases h
    rename_i y l hy hl
    intro ρ s w r e v hs he hv
    obtain ⟨c, hN⟩ := execOp_builtin ho r
    simp only [evQ] at hv
    split at hv <;> (try (cases hv; done))
    rename_i u m hu' hm
    have : args.map r = (r x :: ys.map r).toArray := by apply Array.ext'; simp [hargs]
    exact ResQ.of_ok hs (by rw [hN, this]; rfl) (vmin_ok (P := P) (ts := ts) (ty := o.type) (he _ _ _ hy hu') (evL_rel he hl hm) hv)
  · rename_i ts' x ys hargs
    split at h <;> cases h
    rename_i y l hy hl
    intro ρ s w r e v hs he hv
    obtain ⟨c, hN⟩ := execOp_builtin ho r
    simp only [evQ] at hv
    split at hv <;> (try (cases hv; done))
    rename_i u m hu' hm
    have : args.map r = (r x :: ys.map r).toArray := by apply Array.ext'; simp [hargs]
    exact ResQ.of_ok hs (by rw [hN, this]; rfl) (vmax_ok (P := P) (ts := ts) (ty := o.type) (he _ _ _ hy hu') (evL_rel he hl hm) hv)

/-- An operation that leaves memory as it is, told. -/
def cQ (P : Program) (o : Oper) : Option Q :=
  match o.op with
  | .move x => cMov x
  | .assign x => cMov x
  | .pick c a b => cPick c a b
  | .build t ps => cBuild P t ps.toList
  | .load t x => cLoad P t x
  | .nilCheck x => cNck x
  | .binOp op t x y _ => cBin P op t x y
  | .unOp op _ x => cUn op x
  | .convert a d x => cConv P a d x
  | .makeInterface t x => cIfc P t x
  | .makeFunc f a b => cMkf f a b
  | .slice t x lo hi mx => cSlice P t x lo hi mx
  | .fieldAddr t x n => cFa P t x n
  | .field t x n => cFld P t x n
  | .indexAddr t x ix => cIa P t x ix
  | .index t x ix => cIx P t x ix
  | .lookup t x ix ok => cLk P t x ix ok
  | .extract x n => cExt x n
  | .call { callee := .builtin b, args, argTypes } => cBi P b args.toList argTypes.toList
  | _ => none

theorem cQ_ok {o : Oper} {q : Q} (h : cQ P o = some q) : SndQ P o q := by
  unfold cQ at h
  split at h <;> rename_i ho <;> (try (cases h; done))
  · exact cMov_ok (.inl ho) h
  · exact cMov_ok (.inr ho) h
  · exact cPick_ok ho h
  · exact cBuild_ok ho h
  · exact cLoad_ok ho h
  · exact cNck_ok ho h
  · exact cBin_ok ho h
  · exact cUn_ok ho h
  · exact cConv_ok ho h
  · exact cIfc_ok ho h
  · exact cMkf_ok ho h
  · exact cSlice_ok ho h
  · exact cFa_ok ho h
  · exact cFld_ok ho h
  · exact cIa_ok ho h
  · exact cIx_ok ho h
  · exact cLk_ok ho h
  · exact cExt_ok ho h
  · exact cBi_ok ho h

end Go.Wg
