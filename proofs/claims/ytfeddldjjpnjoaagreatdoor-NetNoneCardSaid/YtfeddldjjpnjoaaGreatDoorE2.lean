/- Each operation of the program's, told as an instruction, and told rightly: those that leave memory as it is. -/
import Derived.Test.YtfeddldjjpnjoaaGreatDoorE
namespace Go.Wg
variable {P : Program} {ρ : Rho} {g : Get} {w : World}

def cMov (x : Operand) : Option Q := match cO x with
  | some x => some (.mov x)
  | none => none

theorem cMov_ok {o : Oper} {q : Q} {x : Operand} (ho : o.op = .move x ∨ o.op = .assign x) (h : cMov x = some q) : SndQ P o q := by
  unfold cMov at h; split at h <;> cases h
  rename_i y hy
  intro ρ s w r e v hs he hv
  refine ResQ.of_ok (S := pure (r x)) hs ?_ ⟨r x, rfl, he _ _ _ hy hv⟩
  rcases ho with ho | ho <;> simp [execOp, ho]

def cPick (c a b : Operand) : Option Q := match cO c, cO a, cO b with
  | some c, some a, some b => some (.pick c a b)
  | _, _, _ => none

theorem cPick_ok {o : Oper} {q : Q} {c a b : Operand} (ho : o.op = .pick c a b) (h : cPick c a b = some q) : SndQ P o q := by
  unfold cPick at h; split at h <;> cases h
  rename_i c' a' b' hc ha hb
  intro ρ s w r e v hs he hv
  simp only [evQ] at hv
  split at hv
  · rename_i hx
    have hcr := he _ _ _ hc hx; simp only [Rel] at hcr
    refine ResQ.of_ok (S := pure (r a)) hs ?_ ⟨r a, rfl, he _ _ _ ha hv⟩
    simp [execOp, ho, hcr, asBool]
  · rename_i hx
    have hcr := he _ _ _ hc hx; simp only [Rel] at hcr
    refine ResQ.of_ok (S := pure (r b)) hs ?_ ⟨r b, rfl, he _ _ _ hb hv⟩
    simp [execOp, ho, hcr, asBool]
  · cases hv

/-- Parts of what is built. -/
def cParts (place : Nat → Option (Nat × Nat)) : List (Nat × Operand) → Option (List (Nat × Nat × Opd))
  | [] => some []
  | (i, x) :: r => match place i, cO x, cParts place r with
    | some (a, b), some y, some l => some ((a, b, y) :: l)
    | _, _, _ => none

theorem cParts_rel {place : Nat → Option (Nat × Nat)} {e : Env} {r : Operand → Value} (he : EnvR ρ e r) : ∀ {X : List (Nat × Operand)} {x : List (Nat × Nat × Opd)} {v : List (Nat × Nat × V)}, cParts place X = some x → evP e x = some v →
    PartsRel ρ place v (X.map fun (i, x) => (i, r x))
  | [], x, v, hc, hv => by
    simp only [cParts] at hc; cases hc
    simp only [evP] at hv; cases hv
    simp [PartsRel]
  | (i, a) :: X, x, v, hc, hv => by
    simp only [cParts] at hc
    split at hc
    · rename_i p q y l hp hy hl
      cases hc
      simp only [evP] at hv
      split at hv
      · rename_i u m hu hm
        cases hv
        simp only [List.map_cons, PartsRel]
        exact ⟨i, r a, _, rfl, hp, he _ _ _ hy hu, cParts_rel he hl hm⟩
      · cases hv
    · cases hc

def cBuild (P : Program) (t : TypeId) (parts : List (Nat × Operand)) : Option Q :=
  match zeroT P t with
  | none => none
  | some z => match cVs z.cells.toList with
    | none => none
    | some zero => match P.underlying t with
      | some (.struct fs) => match fs.toList.all fun f => (sizeT P f.type).isSome with
        | true => match cParts (fun i => (fs.map fun f => (f.offset, (sizeT P f.type).getD 0))[i]?) parts with
          | some l => some (.build zero l)
          | none => none
        | false => none
      | some (.array _ e) => match sizeT P e with
        | some n => match cParts (fun i => some (i * n, n)) parts with
          | some l => some (.build zero l)
          | none => none
        | none => none
      | _ => none

theorem cBuild_ok {o : Oper} {q : Q} {t : TypeId} {parts : Array (Nat × Operand)} (ho : o.op = .build t parts) (h : cBuild P t parts.toList = some q) : SndQ P o q := by
  unfold cBuild at h
  split at h <;> (try (cases h; done))
  rename_i z hz
  split at h <;> (try (cases h; done))
  rename_i zero hzero
  have hlist : ∀ r : Operand → Value, (parts.map fun (i, x) => (i, r x)).toList = parts.toList.map fun (i, x) => (i, r x) := by intro r; simp
  split at h <;> (try (cases h; done))
  · rename_i fs hu
    split at h <;> (try (cases h; done))
    rename_i hall
    split at h <;> cases h
    rename_i l hl
    intro ρ s w r e v hs he hv
    simp only [evQ] at hv
    split at hv <;> (try (cases hv; done))
    rename_i pv hpv
    have hp := cParts_rel he hl hpv
    rw [← hlist r] at hp
    refine ResQ.of_ok hs (by simp only [execOp, ho]) (vbuildS_ok hu hz (cVs_ok hzero) (fun f => (sizeT P f.type).getD 0) (fun f hf => ?_) hp hv)
    have := List.all_eq_true.1 hall f (by simpa using hf)
    cases hsz : sizeT P f.type with
    | none => simp [hsz] at this
    | some n => simp
  · rename_i n e' hu
    split at h <;> (try (cases h; done))
    rename_i m hm
    split at h <;> cases h
    rename_i l hl
    intro ρ s w r e v hs he hv
    simp only [evQ] at hv
    split at hv <;> (try (cases hv; done))
    rename_i pv hpv
    have hp := cParts_rel he hl hpv
    rw [← hlist r] at hp
    exact ResQ.of_ok hs (by simp only [execOp, ho]) (vbuildA_ok hu hz (cVs_ok hzero) hm hp hv)

def cLoad (P : Program) (t : TypeId) (x : Operand) : Option Q :=
  match cO x with
  | none => none
  | some x => match aggT P t with
    | some false => some (.ld1 x)
    | some true => match sizeT P t with
      | some n => some (.ldn n x)
      | none => none
    | none => none

theorem cLoad_ok {o : Oper} {q : Q} {t : TypeId} {x : Operand} (ho : o.op = .load t x) (h : cLoad P t x = some q) : SndQ P o q := by
  unfold cLoad at h
  split at h <;> (try (cases h; done))
  rename_i y hy
  split at h <;> (try (cases h; done))
  · rename_i ha
    cases h
    intro ρ s w r e v hs he hv
    obtain ⟨u, hu, hv⟩ := ev1_some hv
    exact ResQ.of_ok hs (by simp only [execOp, ho]) (vld1_ok hs (he _ _ _ hy hu) hv ha)
  · rename_i ha
    split at h <;> cases h
    rename_i n hn
    intro ρ s w r e v hs he hv
    obtain ⟨u, hu, hv⟩ := ev1_some hv
    exact ResQ.of_ok hs (by simp only [execOp, ho]) (vldn_ok hs (he _ _ _ hy hu) hv ha hn)

def cNck (x : Operand) : Option Q := match cO x with
  | some x => some (.nck x)
  | none => none

theorem cNck_ok {o : Oper} {q : Q} {x : Operand} (ho : o.op = .nilCheck x) (h : cNck x = some q) : SndQ P o q := by
  unfold cNck at h; split at h <;> cases h
  rename_i y hy
  intro ρ s w r e v hs he hv
  obtain ⟨u, hu, hv⟩ := ev1_some hv
  obtain ⟨h1, h2⟩ := vnck_ok (P := P) (w := w) (he _ _ _ hy hu) hv r o x ho rfl
  exact ⟨r x, h1, h2⟩

def isEq (op : BinOp) : Option Bool := match op with
  | .eql => some false
  | .neq => some true
  | _ => none

theorem isEq_some {op : BinOp} {n : Bool} (h : isEq op = some n) : op = eqOp n := by
  cases op <;> simp [isEq] at h <;> subst h <;> rfl

def cBin (P : Program) (op : BinOp) (t : TypeId) (X Y : Operand) : Option Q :=
  match cO X, cO Y with
  | some x, some y => match isEq op with
    | none => some (.bin op x y)
    | some n => match P.underlying t with
      | some .bool => some (.bin op x y)
      | some (.int _) | some .string => some (.bni op x y)
      | some (.pointer _) => some (.eqr n .ptr x y)
      | some (.slice _) => some (.eqr n .sl x y)
      | some (.map _ _) => some (.eqr n .mp x y)
      | some (.func _ _ _) => some (.eqr n .fn x y)
      | some (.interface _) => match isConstO X || isConstO Y with
        | true => some (.eqr n .ifc x y)
        | false => none
      | some (.struct _) | some (.array _ _) => match leafs P 8 t, P.eqGuardType P.depth t with
        | some k, false => some (.eqs n k x y)
        | _, _ => none
      | _ => none
  | _, _ => none

theorem cBin_ok {o : Oper} {q : Q} {op : BinOp} {t u : TypeId} {X Y : Operand} (ho : o.op = .binOp op t X Y u) (h : cBin P op t X Y = some q) : SndQ P o q := by
  unfold cBin at h
  split at h <;> (try (cases h; done))
  rename_i x y hx hy
  have hN : ∀ r : Operand → Value, execOp r o = (do pure (.value (← (do eqGuard op t X Y (r X) (r Y); binOp op t (r X) (r Y))))) := by intro r; simp only [execOp, ho]
  have plain : ((op = .eql ∨ op = .neq) → boolT P t = true) → SndQ P o (.bin op x y) := by
    intro hb ρ s w r e v hs he hv
    obtain ⟨a, b, ha, hb', hv⟩ := ev2_some hv
    exact ResQ.of_ok hs (hN r) (vbin_ok (he _ _ _ hx ha) (he _ _ _ hy hb') hv (fun h _ => hb h) X Y)
  have ref : ∀ n k, op = eqOp n → rkT P k t → (k = .ifc → (isConstO X || isConstO Y) = true) → SndQ P o (.eqr n k x y) := by
    rintro n k rfl hk hc ρ s w r e v hs he hv
    obtain ⟨a, b, ha, hb', hv⟩ := ev2_some hv
    exact ResQ.of_ok hs (hN r) (veqrV_ok (he _ _ _ hx ha) (he _ _ _ hy hb') hv hk X Y hc)
  have prim : SndQ P o (.bni op x y) := by
    intro ρ s w r e v hs he hv
    obtain ⟨a, b, ha, hb', hv⟩ := ev2_some hv
    cases a with
    | b a => simp at hv
    | _ => exact ResQ.of_ok hs (hN r) (vbin_ok (he _ _ _ hx ha) (he _ _ _ hy hb') hv (fun _ h => by obtain ⟨_, h⟩ := h; cases h) X Y)
  have strct : ∀ n k, op = eqOp n → leafs P 8 t = some k → P.eqGuardType P.depth t = false → aggT P t = some true → SndQ P o (.eqs n k x y) := by
    rintro n k rfl hk hg hag ρ s w r e v hs he hv
    obtain ⟨a, b, ha, hb', hv⟩ := ev2_some hv
    exact ResQ.of_ok hs (hN r) (veqs_ok (he _ _ _ hx ha) (he _ _ _ hy hb') hv (by omega) hk hag hg X Y)
  split at h
  · rename_i hop
    cases h
    refine plain fun h => ?_
    rcases h with rfl | rfl <;> simp [isEq] at hop
  · rename_i n hop
    have hop' := isEq_some hop
    split at h <;> rename_i hu <;> (try (cases h; done))
    · cases h; exact plain fun _ => by simp [boolT, hu]
    · cases h; exact prim
    · cases h; exact prim
    · cases h; exact ref n .ptr hop' ⟨_, hu⟩ (fun h => by cases h)
    · cases h; exact ref n .sl hop' ⟨_, hu⟩ (fun h => by cases h)
    · cases h; exact ref n .mp hop' ⟨_, _, hu⟩ (fun h => by cases h)
    · cases h; exact ref n .fn hop' ⟨_, _, _, hu⟩ (fun h => by cases h)
    · split at h <;> cases h
      rename_i hc
      exact ref n .ifc hop' ⟨_, hu⟩ (fun _ => hc)
    · split at h <;> cases h
      rename_i k hk hg
      exact strct n _ hop' hk hg (by simp [aggT, hu])
    · split at h <;> cases h
      rename_i k hk hg
      exact strct n _ hop' hk hg (by simp [aggT, hu])

def cUn (op : UnOp) (x : Operand) : Option Q := match cO x with
  | some x => some (.un op x)
  | none => none

theorem cUn_ok {o : Oper} {q : Q} {op : UnOp} {t : TypeId} {x : Operand} (ho : o.op = .unOp op t x) (h : cUn op x = some q) : SndQ P o q := by
  unfold cUn at h; split at h <;> cases h
  rename_i y hy
  intro ρ s w r e v hs he hv
  obtain ⟨u, hu, hv⟩ := ev1_some hv
  exact ResQ.of_ok hs (by simp only [execOp, ho]) (vun_ok (he _ _ _ hy hu) hv)

def cConv (P : Program) (a d : TypeId) (x : Operand) : Option Q :=
  match cO x with
  | none => none
  | some x => match P.underlying a, P.underlying d with
    | some _, some (.int k) => some (.cvi k x)
    | some (.slice e), some .string => match P.underlying e with
      | some (.int .u8) => some (.cbs x)
      | _ => none
    | some .string, some .string => some (.cvs x)
    | _, _ => none

theorem cConv_ok {o : Oper} {q : Q} {a d : TypeId} {x : Operand} (ho : o.op = .convert a d x) (h : cConv P a d x = some q) : SndQ P o q := by
  unfold cConv at h
  split at h <;> (try (cases h; done))
  rename_i y hy
  split at h <;> (try (cases h; done))
  · rename_i k ha hd
    cases h
    intro ρ s w r e v hs he hv
    obtain ⟨u, hu, hv⟩ := ev1_some hv
    exact ResQ.of_ok hs (by simp only [execOp, ho]) (vcvi_ok (he _ _ _ hy hu) hv ha hd)
  · rename_i e' ha hd
    split at h <;> cases h
    rename_i he'
    intro ρ s w r e v hs he hv
    obtain ⟨u, hu, hv⟩ := ev1_some hv
    exact ResQ.of_ok hs (by simp only [execOp, ho]) (vcbs_ok hs (he _ _ _ hy hu) hv ha he' hd)
  · rename_i ha hd
    cases h
    intro ρ s w r e v hs he hv
    obtain ⟨u, hu, hv⟩ := ev1_some hv
    have hr := he _ _ _ hy hu
    split at hv <;> cases hv
    simp only [Rel] at hr
    refine ResQ.of_ok (S := convert a d (r x)) hs (by simp only [execOp, ho]) ⟨r x, ?_, by rw [hr]; simp [Rel]⟩
    simp [Ok, convert, run_und ha, run_und hd, hr]

def cIfc (P : Program) (t : TypeId) (x : Operand) : Option Q :=
  match cO x with
  | none => none
  | some x => match P.underlying t with
    | some (.interface _) => none
    | some _ => some (.ifc t x)
    | none => none

theorem cIfc_ok {o : Oper} {q : Q} {t : TypeId} {x : Operand} (ho : o.op = .makeInterface t x) (h : cIfc P t x = some q) : SndQ P o q := by
  unfold cIfc at h
  split at h <;> (try (cases h; done))
  rename_i y hy
  split at h <;> (try (cases h; done))
  rename_i d hni hd
  cases h
  intro ρ s w r e v hs he hv
  obtain ⟨u, hu, hv⟩ := ev1_some hv
  cases hv
  refine ResQ.of_ok (S := Instr.makeInterface t (r x)) hs (by simp only [execOp, ho]) ⟨.iface t (r x), ?_, by simp only [Rel]; exact ⟨_, he _ _ _ hy hu, rfl⟩⟩
  cases d <;> first
    | (exact (hni _ rfl).elim)
    | simp [Ok, Instr.makeInterface, run_und hd]

def cMkf (fn : Fn) (first captured : Array Operand) : Option Q :=
  match fn, first.toList with
  | .func f, [] => match cOs captured.toList with
    | some l => some (.mkf f l)
    | none => none
  | _, _ => none

theorem cMkf_ok {o : Oper} {q : Q} {fn : Fn} {first captured : Array Operand} (ho : o.op = .makeFunc fn first captured) (h : cMkf fn first captured = some q) : SndQ P o q := by
  unfold cMkf at h
  split at h <;> (try (cases h; done))
  rename_i f hfirst
  split at h <;> cases h
  rename_i l hl
  intro ρ s w r e v hs he hv
  simp only [evQ] at hv
  split at hv <;> cases hv
  rename_i vs hvs
  have hr := evL_rel he hl hvs
  refine ResQ.of_ok (S := Instr.makeFunc (.func f) (first.map r) (captured.map r)) hs (by simp only [execOp, ho]) ⟨.func (.func f) #[] (captured.map r), ?_, ?_⟩
  · have : first = #[] := by apply Array.ext'; simpa using hfirst
    subst this
    simp [Ok, Instr.makeFunc]
  · simp only [Rel]; refine ⟨_, hr, ?_⟩; congr 1; apply Array.ext'; simp

end Go.Wg
