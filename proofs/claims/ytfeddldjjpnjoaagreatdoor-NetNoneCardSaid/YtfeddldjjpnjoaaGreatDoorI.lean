/- A whole function: what the small machine answers, the program answers. -/
import Derived.Test.YtfeddldjjpnjoaaGreatDoorH4
namespace Go.Wg
variable {P : Program} {w : World}

/-- A call, told. -/
def cCall (o : Oper) : Option I :=
  match o.op with
  | .call { callee := .value F, args, .. } => match cO F, cOs args.toList with
    | some f, some l => some (.call f l)
    | _, _ => none
  | _ => none

def cI (P : Program) (o : Oper) : Option I :=
  match cQ P o with
  | some q => some (.q q)
  | none => match cA P o with
    | some a => some (.a a)
    | none => match cH P o with
      | some h => some (.h h)
      | none => match cCall o with
        | some i => some i
        | none => some (.q .bad)

theorem cI_ok {o : Oper} {i : I} (h : cI P o = some i) : IC P o i := by
  unfold cI at h
  split at h
  · rename_i q hq; cases h; exact cQ_ok hq
  · split at h
    · rename_i a ha; cases h; exact cA_ok ha
    · split at h
      · rename_i q hq; cases h; exact cH_ok hq
      · split at h
        · rename_i j hj
          cases h
          unfold cCall at hj
          split at hj <;> (try (cases hj; done))
          rename_i F args ts ho
          split at hj <;> cases hj
          rename_i f l hf hl
          exact ⟨F, args, ts, ho, hf, hl⟩
        · cases h
          intro ρ s w r e v _ _ hv
          simp [evQ] at hv

/-- An operation with its slot and its guard, told. -/
def cOp (P : Program) (N : Nat) (ops : Array Oper) (o : Oper) : Option OpE :=
  match cI P o with
  | none => none
  | some i => match (match o.dst with
      | none => true
      | some d => Nat.blt d N) with
    | false => none
    | true => match o.guard with
      | none => some ⟨o.dst, none, i⟩
      | some (j, x) => match (ops[j]?).bind (·.dst) with
        | some d => some ⟨o.dst, some (d, x), i⟩
        | none => none

theorem cOp_ok {N : Nat} {ops : Array Oper} {o : Oper} {e : OpE} (h : cOp P N ops o = some e) : OpC P N ops o e := by
  unfold cOp at h
  split at h <;> (try (cases h; done))
  rename_i i hi
  split at h <;> (try (cases h; done))
  rename_i hlt
  have hl : ∀ d, o.dst = some d → d < N := by
    intro d hd
    rw [hd] at hlt
    exact Nat.le_of_ble_eq_true hlt
  split at h
  · rename_i hg
    cases h
    exact ⟨rfl, hl, .inl ⟨hg, rfl⟩, cI_ok hi⟩
  · rename_i j x hg
    split at h <;> cases h
    rename_i d hd
    cases hj : ops[j]? with
    | none => simp [hj] at hd
    | some oj =>
      rw [hj] at hd
      exact ⟨rfl, hl, .inr ⟨j, x, d, oj, hg, hj, hd, rfl⟩, cI_ok hi⟩

def cOps (P : Program) (N : Nat) (ops : Array Oper) : List Oper → Option (List OpE)
  | [] => some []
  | o :: r => match cOp P N ops o, cOps P N ops r with
    | some e, some l => some (e :: l)
    | _, _ => none

theorem cOps_ok {N : Nat} {ops : Array Oper} : ∀ {l : List Oper} {es : List OpE}, cOps P N ops l = some es → es.length = l.length ∧ ∀ (i : Nat) (e : OpE), es[i]? = some e → ∃ o, l[i]? = some o ∧ OpC P N ops o e
  | [], es, h => by simp only [cOps] at h; cases h; exact ⟨rfl, fun i e he => by simp at he⟩
  | o :: r, es, h => by
    simp only [cOps] at h
    split at h <;> cases h
    rename_i e l he hl
    obtain ⟨h1, h2⟩ := cOps_ok hl
    refine ⟨by simp [h1], fun i e' hi => ?_⟩
    cases i with
    | zero => simp at hi; subst hi; exact ⟨o, by simp, cOp_ok he⟩
    | succ i => simpa using h2 i e' (by simpa using hi)

/-- What a region's operations must meet whose order is open, asked by reckoning. -/
def memN (n : Nat) : List Nat → Bool
  | [] => false
  | m :: r => Nat.beq n m || memN n r

theorem memN_iff {n : Nat} : ∀ {l : List Nat}, memN n l = true ↔ n ∈ l
  | [] => by simp [memN]
  | m :: r => by
    simp only [memN, Bool.or_eq_true, List.mem_cons, memN_iff (l := r), Nat.beq_eq]

def posOf (i : Nat) : List DOp → Nat → Option Nat
  | [], _ => none
  | d :: r, k => match Nat.beq d.idx i with
    | true => some k
    | false => posOf i r (k + 1)

theorem posOf_some {i : Nat} : ∀ {l : List DOp} {k p : Nat}, posOf i l k = some p → ∃ j d, p = k + j ∧ l[j]? = some d ∧ d.idx = i
  | [], k, p, h => by simp [posOf] at h
  | d :: r, k, p, h => by
    simp only [posOf] at h
    split at h
    · rename_i hb; cases h
      exact ⟨0, d, by simp, by simp, Nat.eq_of_beq_eq_true hb⟩
    · obtain ⟨j, d', h1, h2, h3⟩ := posOf_some h
      exact ⟨j + 1, d', by omega, by simpa using h2, h3⟩

def quietK (i : I) : Bool := match i with
  | .q _ => true
  | _ => false
def heavyK (i : I) : Bool := match i with
  | .h _ | .call _ _ => true
  | _ => false

theorem quietK_iff {i : I} : quietK i = true ↔ i.kd = .quiet := by cases i <;> simp [quietK, I.kd]
theorem heavyK_iff {i : I} : heavyK i = true ↔ i.kd = .heavy := by cases i <;> simp [heavyK, I.kd]

/-- One operation and what comes ahead of it, all that is asked of the pair. -/
def chkPair (p k : Nat) (dp dk : DOp) : Bool :=
  (match dp.e.dst with
    | some t => match dk.e.dst with
      | some u => !Nat.beq t u
      | none => true
    | none => true) &&
  (memN p dk.dep ||
    ((match dp.e.dst with
      | some t => !memb t dk.reads
      | none => true) &&
    (match dk.e.dst with
      | some t => !memb t dp.reads
      | none => true) &&
    (!heavyK dk.e.i || quietK dp.e.i) &&
    (!quietK dk.e.i || quietK dp.e.i || (match dk.pre with
      | some j => Nat.blt j k && Nat.ble (k - 1 - j) p
      | none => false)) &&
    (!heavyK dk.e.i || memN (k - 1 - p) dk.post)))

theorem chkPair_ok {p k : Nat} {dp dk : DOp} (h : chkPair p k dp dk = true) : (∀ t, dp.e.dst = some t → dk.e.dst ≠ some t) ∧ (p ∉ dk.dep → (∀ t, dp.e.dst = some t → memb t dk.reads = false) ∧ (∀ t, dk.e.dst = some t → memb t dp.reads = false) ∧
    (dk.e.i.kd = .heavy → dp.e.i.kd = .quiet) ∧ (dk.e.i.kd = .quiet → dp.e.i.kd ≠ .quiet → ∃ j, dk.pre = some j ∧ j < k ∧ k - 1 - j ≤ p) ∧ (dk.e.i.kd = .heavy → (k - 1 - p) ∈ dk.post)) := by
  unfold chkPair at h
  rw [Bool.and_eq_true] at h
  obtain ⟨h1, h2⟩ := h
  refine ⟨fun t ht hk => ?_, fun hno => ?_⟩
  · rw [ht, hk] at h1
    simp at h1
  · have hno' : memN p dk.dep = false := by
      cases hm : memN p dk.dep with
      | false => rfl
      | true => exact absurd (memN_iff.1 hm) hno
    rw [hno', Bool.false_or] at h2
    simp only [Bool.and_eq_true] at h2
    obtain ⟨⟨⟨⟨h3, h4⟩, h5⟩, h6⟩, h7⟩ := h2
    refine ⟨fun t ht => ?_, fun t ht => ?_, fun hh => ?_, fun hq hp => ?_, fun hh => ?_⟩
    · rw [ht] at h3; simpa using h3
    · rw [ht] at h4; simpa using h4
    · rw [heavyK_iff.2 hh] at h5; simp at h5; exact quietK_iff.1 h5
    · have hp' : quietK dp.e.i = false := by
        cases hm : quietK dp.e.i with
        | false => rfl
        | true => exact absurd (quietK_iff.1 hm) hp
      rw [quietK_iff.2 hq, hp'] at h6
      simp only [Bool.not_true, Bool.false_or] at h6
      split at h6
      · rename_i j hj
        rw [Bool.and_eq_true] at h6
        exact ⟨j, hj, Nat.le_of_ble_eq_true h6.1, Nat.le_of_ble_eq_true h6.2⟩
      · cases h6
    · rw [heavyK_iff.2 hh] at h7; simp at h7; exact memN_iff.1 h7

/-- What goes ahead of an operation at once, as places. -/
def direct (l : List DOp) : List Edge → Option (List Nat)
  | [] => some []
  | e :: r => match direct l r with
    | none => none
    | some ps => match Region.binds .any e with
      | false => some ps
      | true => match posOf e.on l 0 with
        | some p => some (p :: ps)
        | none => none

theorem direct_ok {l : List DOp} : ∀ {es : List Edge} {ps : List Nat}, direct l es = some ps →
    (∀ e ∈ es, Region.binds .any e = true → ∃ p d, p ∈ ps ∧ l[p]? = some d ∧ d.idx = e.on) ∧ (∀ p ∈ ps, ∃ e ∈ es, Region.binds .any e = true ∧ ∃ d, l[p]? = some d ∧ d.idx = e.on)
  | [], ps, h => by simp only [direct] at h; cases h; exact ⟨fun e he => by simp at he, fun p hp => by simp at hp⟩
  | e :: r, ps, h => by
    simp only [direct] at h
    split at h <;> (try (cases h; done))
    rename_i ps' hps
    obtain ⟨h1, h2⟩ := direct_ok hps
    split at h
    · rename_i hb
      cases h
      refine ⟨fun e' he' hb' => ?_, fun p hp => ?_⟩
      · rcases List.mem_cons.1 he' with rfl | he'
        · rw [hb] at hb'; cases hb'
        · exact h1 e' he' hb'
      · obtain ⟨e', he', hx⟩ := h2 p hp
        exact ⟨e', by simp [he'], hx⟩
    · rename_i hb
      split at h <;> cases h
      rename_i p hp
      obtain ⟨j, d, h3, h4, h5⟩ := posOf_some hp
      simp only [Nat.zero_add] at h3
      subst h3
      refine ⟨fun e' he' hb' => ?_, fun q hq => ?_⟩
      · rcases List.mem_cons.1 he' with rfl | he'
        · exact ⟨p, d, by simp, h4, h5⟩
        · obtain ⟨q, d', hq, hx⟩ := h1 e' he' hb'
          exact ⟨q, d', by simp [hq], hx⟩
      · rcases List.mem_cons.1 hq with rfl | hq
        · exact ⟨e, by simp, hb, d, h4, h5⟩
        · obtain ⟨e', he', hx⟩ := h2 q hq
          exact ⟨e', by simp [he'], hx⟩

def chkDep (l : List DOp) (k : Nat) (ds : List Nat) : List Nat → Bool
  | [] => true
  | p :: r => Nat.blt p k && (memN p ds || ds.any fun p' => match l[p']? with
      | some d' => memN p d'.dep
      | none => false) && chkDep l k ds r

theorem chkDep_ok {l : List DOp} {k : Nat} {ds : List Nat} : ∀ {ps : List Nat}, chkDep l k ds ps = true → ∀ p ∈ ps, p < k ∧ (p ∈ ds ∨ ∃ p' ∈ ds, ∃ d', l[p']? = some d' ∧ p ∈ d'.dep)
  | [], _, p, hp => by simp at hp
  | x :: r, h, p, hp => by
    simp only [chkDep, Bool.and_eq_true] at h
    rcases List.mem_cons.1 hp with rfl | hp
    · refine ⟨Nat.le_of_ble_eq_true h.1.1, ?_⟩
      rcases Bool.or_eq_true _ _ ▸ h.1.2 with h1 | h1
      · exact .inl (memN_iff.1 h1)
      · obtain ⟨p', hp', hx⟩ := List.any_eq_true.1 h1
        split at hx
        · rename_i d' hd'; exact .inr ⟨p', hp', d', hd', memN_iff.1 hx⟩
        · cases hx
    · exact chkDep_ok h.2 p hp

def chkK (ops : Array Oper) (l : List DOp) (k : Nat) (d : DOp) : Bool :=
  match ops[d.idx]? with
  | none => false
  | some o => match direct l o.after.toList with
    | none => false
    | some ds => ds.all (fun p => Nat.blt p k) && chkDep l k ds d.dep && (match posOf d.idx l 0 with
        | some p => Nat.beq p k
        | none => false)

def chkPairs (k : Nat) (d : DOp) : Nat → List DOp → Bool
  | _, [] => true
  | p, dp :: r => (!Nat.blt p k || chkPair p k dp d) && chkPairs k d (p + 1) r

def chkAll (ops : Array Oper) (l : List DOp) : Nat → List DOp → Bool
  | _, [] => true
  | k, d :: r => chkK ops l k d && chkPairs k d 0 l && chkAll ops l (k + 1) r

def chkSur (l : List DOp) : Nat → Bool
  | 0 => true
  | n + 1 => (posOf n l 0).isSome && chkSur l n

def chkD (ops : Array Oper) (l : List DOp) : Bool := Nat.beq l.length ops.size && chkSur l ops.size && chkAll ops l 0 l

theorem chkPairs_ok {k : Nat} {d : DOp} : ∀ {l : List DOp} {m : Nat}, chkPairs k d m l = true → ∀ (j : Nat) (dp : DOp), l[j]? = some dp → m + j < k → chkPair (m + j) k dp d = true
  | [], m, _, j, dp, hj, _ => by simp at hj
  | x :: r, m, h, j, dp, hj, hlt => by
    simp only [chkPairs, Bool.and_eq_true] at h
    cases j with
    | zero =>
      simp at hj; subst hj
      rcases Bool.or_eq_true _ _ ▸ h.1 with h1 | h1
      · have h2 : Nat.blt m k = true := Nat.ble_eq_true_of_le (by omega)
        rw [h2] at h1; cases h1
      · exact h1
    | succ j =>
      have := chkPairs_ok h.2 j dp (by simpa using hj) (by omega)
      rwa [show m + 1 + j = m + (j + 1) by omega] at this

theorem chkAll_ok {ops : Array Oper} {l : List DOp} : ∀ {r : List DOp} {m : Nat}, chkAll ops l m r = true → ∀ (j : Nat) (d : DOp), r[j]? = some d → chkK ops l (m + j) d = true ∧ chkPairs (m + j) d 0 l = true
  | [], m, _, j, d, hj => by simp at hj
  | x :: r, m, h, j, d, hj => by
    simp only [chkAll, Bool.and_eq_true] at h
    cases j with
    | zero => simp at hj; subst hj; exact h.1
    | succ j =>
      have := chkAll_ok h.2 j d (by simpa using hj)
      rwa [show m + 1 + j = m + (j + 1) by omega] at this

theorem chkSur_ok {l : List DOp} : ∀ {n : Nat}, chkSur l n = true → ∀ i, i < n → ∃ (k : Nat) (d : DOp), l[k]? = some d ∧ d.idx = i
  | 0, _, i, h => by omega
  | n + 1, h, i, hi => by
    simp only [chkSur, Bool.and_eq_true] at h
    rcases Nat.lt_or_ge i n with h1 | h1
    · exact chkSur_ok h.2 i h1
    · have : i = n := by omega
      subst this
      obtain ⟨p, hp⟩ := Option.isSome_iff_exists.1 h.1
      obtain ⟨j, d, _, h3, h4⟩ := posOf_some hp
      exact ⟨j, d, h3, h4⟩

theorem chkD_ok {N : Nat} {ops : Array Oper} {l : List DOp} (h : chkD ops l = true) (hop : ∀ (k : Nat) (d : DOp), l[k]? = some d → ∃ o, ops[d.idx]? = some o ∧ OpC P N ops o d.e) : DStat P N ops l := by
  simp only [chkD, Bool.and_eq_true] at h
  obtain ⟨⟨h1, h2⟩, h3⟩ := h
  have hall := fun k d hd => chkAll_ok h3 k d hd
  simp only [Nat.zero_add] at hall
  have hK : ∀ (k : Nat) (d : DOp), l[k]? = some d → ∃ o ds, ops[d.idx]? = some o ∧ direct l o.after.toList = some ds ∧ (∀ p ∈ ds, p < k) ∧ chkDep l k ds d.dep = true ∧ posOf d.idx l 0 = some k := by
    intro k d hd
    have hk := (hall k d hd).1
    unfold chkK at hk
    split at hk <;> (try (cases hk; done))
    rename_i o ho
    split at hk <;> (try (cases hk; done))
    rename_i ds hds
    simp only [Bool.and_eq_true] at hk
    refine ⟨o, ds, ho, hds, fun p hp => Nat.le_of_ble_eq_true (List.all_eq_true.1 hk.1.1 p hp), hk.1.2, ?_⟩
    have := hk.2
    split at this
    · rename_i p hp; rw [hp, Nat.eq_of_beq_eq_true this]
    · cases this
  refine { len := Nat.eq_of_beq_eq_true h1, op := hop, inj := ?_, sur := chkSur_ok h2, edge := ?_, just := ?_, dst := ?_, rw := ?_ }
  · intro k k' d d' hk hk' e
    obtain ⟨_, _, _, _, _, _, h4⟩ := hK k d hk
    obtain ⟨_, _, _, _, _, _, h5⟩ := hK k' d' hk'
    rw [e, h5] at h4
    exact (Option.some.inj h4).symm
  · intro k d o hd ho e he hb
    obtain ⟨o', ds, ho', hds, hlt, _, _⟩ := hK k d hd
    rw [ho] at ho'; cases ho'
    obtain ⟨p, d', hp, hd', hx⟩ := (direct_ok hds).1 e (by simpa using he) hb
    exact ⟨p, d', hd', hx, hlt p hp⟩
  · intro k d o hd ho p hp
    obtain ⟨o', ds, ho', hds, _, hdep, _⟩ := hK k d hd
    rw [ho] at ho'; cases ho'
    obtain ⟨h4, h5⟩ := chkDep_ok hdep p hp
    refine ⟨h4, ?_⟩
    rcases h5 with h5 | ⟨p', hp', d', hd', hpp⟩
    · obtain ⟨e, he, hb, d', hd', hx⟩ := (direct_ok hds).2 p h5
      exact .inl ⟨e, by simpa using he, hb, d', hd', hx⟩
    · obtain ⟨e, he, hb, d'', hd'', hx⟩ := (direct_ok hds).2 p' hp'
      rw [hd'] at hd''; cases hd''
      exact .inr ⟨e, by simpa using he, hb, p', d', hd', hx, hpp⟩
  · intro p k dp dk hlt hp hk
    have := chkPairs_ok (hall k dk hk).2 p dp hp (by omega)
    simp only [Nat.zero_add] at this
    exact (chkPair_ok this).1
  · intro p k dp dk hlt hp hk hno
    have := chkPairs_ok (hall k dk hk).2 p dp hp (by omega)
    simp only [Nat.zero_add] at this
    exact (chkPair_ok this).2 hno

end Go.Wg
