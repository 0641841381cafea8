/- A region whose order is open, second half: whatever is done so far, what there is is what the text's own order made of it. -/
import Derived.Test.YtfeddldjjpnjoaaGreatDoorH
namespace Go.Wg
variable {P : Program} {w : World}

/-- What is known of a region's operations ahead of any run. -/
structure DStat (P : Program) (N : Nat) (ops : Array Oper) (l : List DOp) : Prop where
  len : l.length = ops.size
  op : ∀ (k : Nat) (d : DOp), l[k]? = some d → ∃ o, ops[d.idx]? = some o ∧ OpC P N ops o d.e
  inj : ∀ (k k' : Nat) (d d' : DOp), l[k]? = some d → l[k']? = some d' → d.idx = d'.idx → k = k'
  sur : ∀ i, i < ops.size → ∃ (k : Nat) (d : DOp), l[k]? = some d ∧ d.idx = i
  edge : ∀ (k : Nat) (d : DOp) (o : Oper), l[k]? = some d → ops[d.idx]? = some o → ∀ e ∈ o.after, Region.binds .any e = true → ∃ (p : Nat) (d' : DOp), l[p]? = some d' ∧ d'.idx = e.on ∧ p < k
  just : ∀ (k : Nat) (d : DOp) (o : Oper), l[k]? = some d → ops[d.idx]? = some o → ∀ p ∈ d.dep, p < k ∧ ((∃ e ∈ o.after, Region.binds .any e = true ∧ ∃ d', l[p]? = some d' ∧ d'.idx = e.on) ∨
    ∃ e ∈ o.after, Region.binds .any e = true ∧ ∃ (p' : Nat) (d' : DOp), l[p']? = some d' ∧ d'.idx = e.on ∧ p ∈ d'.dep)
  dst : ∀ (p k : Nat) (dp dk : DOp), p < k → l[p]? = some dp → l[k]? = some dk → ∀ t, dp.e.dst = some t → dk.e.dst ≠ some t
  rw : ∀ (p k : Nat) (dp dk : DOp), p < k → l[p]? = some dp → l[k]? = some dk → p ∉ dk.dep → (∀ t, dp.e.dst = some t → memb t dk.reads = false) ∧ (∀ t, dk.e.dst = some t → memb t dp.reads = false) ∧
    (dk.e.i.kd = .heavy → dp.e.i.kd = .quiet) ∧ (dk.e.i.kd = .quiet → dp.e.i.kd ≠ .quiet → ∃ j, dk.pre = some j ∧ j < k ∧ k - 1 - j ≤ p) ∧ (dk.e.i.kd = .heavy → (k - 1 - p) ∈ dk.post)

section
variable {N : Nat} {ops : Array Oper} {l : List DOp} {call : CallF} {Q : Exit → Act → World → Prop}
variable (S : Nat → St) (Tt : Nat → Tm) (val : Nat → V) (rd : Nat → Option Nat)

/-- The run in the text's own order. -/
structure Trace (call : CallF) (l : List DOp) : Prop where
  step : ∀ (k : Nat) (d : DOp), l[k]? = some d → StepD call d (Tt k) (S k) (val k) (S (k + 1)) (rd k) ∧ chkPre (S k) (rd k) d.pre (back (fun i => (S i).ver) k []) = true ∧
    chkPost (S (k + 1)) (S k).ver (back rd k []) d.post = true ∧ Tt (k + 1) = Tm.put (Tt k) d.e.dst (val k)

def DoneAt (l : List DOp) (listed : Array Bool) (k : Nat) : Prop := ∃ d, l[k]? = some d ∧ listed.getD d.idx false = true

/-- What holds when some operations are done. -/
structure DInv (N : Nat) (l : List DOp) (ρ0 : Rho) (a0 : Act) (w0 : World) (listed : Array Bool) (ρ : Rho) (q : Nat) (sD : St) (a : Act) (w : World) : Prop where
  asz : a.tmps.size = N
  adf : a.defers = a0.defers
  cl : ∀ (k : Nat) (d : DOp), l[k]? = some d → DoneAt l listed k → ∀ p ∈ d.dep, DoneAt l listed p
  qle : q ≤ l.length
  hq : ∀ (k : Nat) (d : DOp), l[k]? = some d → d.e.i.kd = .heavy → (DoneAt l listed k ↔ k < q)
  aq : ∀ (k : Nat) (d : DOp), l[k]? = some d → d.e.i.kd = .alloc → k < q → DoneAt l listed k
  sub : ∀ o ob, (S q).get o = some ob → sD.get o = some ob
  late : ∀ (k : Nat) (d : DOp) ob, l[k]? = some d → d.e.i.kd = .alloc → q ≤ k → DoneAt l listed k → S (k + 1) = (S k).push ob → ob.partner = none ∧ sD.get (S k).next = some ob
  only : ∀ o ob, sD.get o = some ob → (S q).get o = some ob ∨ ∃ (k : Nat) (d : DOp), l[k]? = some d ∧ d.e.i.kd = .alloc ∧ q ≤ k ∧ DoneAt l listed k ∧ S (k + 1) = (S k).push ob ∧ o = (S k).next
  next : sD.next = (S l.length).next
  post : Post ρ0 (S 0) w0 ρ sD w
  rng : ∀ i L, ρ i = some L → ρ0 i = some L ∨ ∃ k, DoneAt l listed k ∧ (S k).next ≤ i ∧ i < (S (k + 1)).next
  tm1 : ∀ (k : Nat) (d : DOp), l[k]? = some d → DoneAt l listed k → ∀ t, d.e.dst = some t → ∃ x, a.tmps[t]? = some x ∧ Rel ρ (val k) x
  tm0 : ∀ t v, Tr.get (Tt 0) t = some v → (∀ (k : Nat) (d : DOp), l[k]? = some d → DoneAt l listed k → d.e.dst ≠ some t) → ∃ x, a.tmps[t]? = some x ∧ Rel ρ v x

variable {S Tt val rd}

theorem Trace.monoTo (ht : Trace S Tt val rd call l) : ∀ (m k : Nat), k ≤ m → m ≤ l.length → Mono (S k) (S m)
  | 0, k, h, _ => by
    have : k = 0 := by omega
    subst this; exact Mono.refl _
  | m + 1, k, h, hm => by
    rcases Nat.lt_or_ge k (m + 1) with h1 | h1
    · have hd : l[m]? = some l[m] := List.getElem?_eq_getElem (by omega)
      exact (Trace.monoTo ht m k (by omega) (by omega)).trans (ht.step m _ hd).1.mono
    · have : k = m + 1 := by omega
      subst this; exact Mono.refl _

/-- No object that lives has a number that is to be given still. -/
theorem Trace.wf (ht : Trace S Tt val rd call l) {ρ0 : Rho} {w0 : World} (hs : Sat ρ0 (S 0).get w0) (hf : Fresh ρ0 (S 0) (S l.length)) {k : Nat} (hk : k ≤ l.length) {o : Nat} {ob : Ob} (h : (S k).get o = some ob) :
    ¬ ((S k).next ≤ o ∧ o < (S l.length).next) := by
  rintro ⟨h1, h2⟩
  have hm := ht.monoTo k 0 (Nat.zero_le _) hk
  rcases hm.alive o ob h with ⟨ob0, h3⟩ | ⟨h3, h4⟩
  · obtain ⟨L, hL, _⟩ := hs.obj o ob0 h3
    have := hf o (Nat.le_trans hm.next h1) h2
    rw [this] at hL; cases hL
  · omega

/-- A step that does not write. -/
theorem Trace.light (ht : Trace S Tt val rd call l) {ρ0 : Rho} {w0 : World} (hs : Sat ρ0 (S 0).get w0) (hf : Fresh ρ0 (S 0) (S l.length)) {k : Nat} {d : DOp} (hd : l[k]? = some d) (hk : d.e.i.kd ≠ .heavy) :
    (S (k + 1) = S k) ∨ (d.e.i.kd = .alloc ∧ ∃ ob, S (k + 1) = (S k).push ob ∧ ob.ver = (S k).ver ∧ ob.partner = none ∧ (S k).next < Tr.lim ∧ (S k).get (S k).next = none) := by
  rcases (ht.step k d hd).1.kind with ⟨_, _, h, _⟩ | ⟨_, ⟨q, _, h, _⟩ | ⟨a, ob, h1, _, h2, h3, h4, h5, _⟩ | ⟨h, _⟩⟩
  · exact .inl h
  · exact .inl h
  · refine .inr ⟨by rw [h1]; rfl, ob, h2, h3, h4, h5, ?_⟩
    cases hg : (S k).get (S k).next with
    | none => rfl
    | some ob' =>
      have hlt := (List.getElem?_eq_some_iff.1 hd).1
      have hm := ht.monoTo l.length (k + 1) (by omega) (Nat.le_refl _)
      have : (S (k + 1)).next = (S k).next + 1 := by rw [h2]; rfl
      exact (ht.wf hs hf (by omega) hg ⟨Nat.le_refl _, by have := hm.next; omega⟩).elim
  · exact absurd h hk

theorem push_get {s : St} {ob : Ob} (h : s.next < Tr.lim) (o : Nat) : (s.push ob).get o = if o = s.next then some ob else s.get o := Tr.get_set s.h s.next o (some ob) h

/-- From one place on to another where nothing writes. -/
theorem Trace.mid (ht : Trace S Tt val rd call l) {ρ0 : Rho} {w0 : World} (hs : Sat ρ0 (S 0).get w0) (hf : Fresh ρ0 (S 0) (S l.length)) (q : Nat) : ∀ (k : Nat), q ≤ k → k ≤ l.length →
    (∀ (j : Nat) (d : DOp), q ≤ j → j < k → l[j]? = some d → d.e.i.kd ≠ .heavy) → ∀ o ob, (S k).get o = some ob → (S q).get o = some ob ∨ ∃ (j : Nat) (d : DOp), q ≤ j ∧ j < k ∧ l[j]? = some d ∧ d.e.i.kd = .alloc ∧ S (j + 1) = (S j).push ob ∧ o = (S j).next
  | 0, hq, _, _, o, ob, h => by
    have : q = 0 := by omega
    subst this; exact .inl h
  | k + 1, hq, hk, hno, o, ob, h => by
    rcases Nat.lt_or_ge k q with h1 | h1
    · have : q = k + 1 := by omega
      subst this; exact .inl h
    · have hd : l[k]? = some l[k] := List.getElem?_eq_getElem (by omega)
      have ih := Trace.mid ht hs hf q k h1 (by omega) (fun j d h2 h3 h4 => hno j d h2 (by omega) h4) o ob
      have up : (S k).get o = some ob → ((S q).get o = some ob ∨ ∃ (j : Nat) (d : DOp), q ≤ j ∧ j < k + 1 ∧ l[j]? = some d ∧ d.e.i.kd = .alloc ∧ S (j + 1) = (S j).push ob ∧ o = (S j).next) := by
        intro h
        rcases ih h with h | ⟨j, d, h2, h3, h4⟩
        · exact .inl h
        · exact .inr ⟨j, d, h2, by omega, h4⟩
      rcases ht.light hs hf hd (hno k _ h1 (by omega) hd) with h2 | ⟨h2, ob', h3, h4, h5, h6, h7⟩
      · rw [h2] at h; exact up h
      · rw [h3, push_get h6] at h
        split at h
        · rename_i e; cases h
          exact .inr ⟨k, _, h1, by omega, hd, h2, h3, e⟩
        · exact up h

theorem chkPost_mem {s' : St} {v : Nat} {rs : List (Option Nat)} : ∀ {ps : List Nat}, chkPost s' v rs ps = true → ∀ p ∈ ps, ∀ o, nth rs p = some (some o) → older s' o v = true
  | [], _, p, hp, _, _ => by simp at hp
  | x :: r, h, p, hp, o, hn => by
    simp only [chkPost] at h
    rcases List.mem_cons.1 hp with rfl | hp
    · rw [hn] at h
      simp at h; exact h.1
    · split at h
      · simp at h; exact chkPost_mem h.2 p hp o hn
      · exact chkPost_mem h p hp o hn
      · cases h

theorem older_some {s : St} {o v : Nat} (h : older s o v = true) : ∃ ob, s.get o = some ob ∧ ob.ver < v := by
  unfold older at h
  split at h
  · rename_i ob ho
    exact ⟨ob, ho, by unfold Nat.blt at h; exact Nat.le_of_ble_eq_true h⟩
  · cases h

/-- What a read finds, wherever it comes: what it finds in the text's own order. -/
theorem read_ok (hst : DStat P N ops l) (ht : Trace S Tt val rd call l) {ρ0 : Rho} {a0 : Act} {w0 : World} (hs0 : Sat ρ0 (S 0).get w0) (hf0 : Fresh ρ0 (S 0) (S l.length)) {listed : Array Bool} {ρ : Rho} {q : Nat} {sD : St} {a : Act}
    (hi : DInv S Tt val N l ρ0 a0 w0 listed ρ q sD a w) {k : Nat} {d : DOp} (hd : l[k]? = some d) (hqt : d.e.i.kd = .quiet) (hnd : ¬ DoneAt l listed k) (hdep : ∀ p ∈ d.dep, DoneAt l listed p) {o : Nat} {ob : Ob}
    (hrd : rd k = some o) (hob : (S k).get o = some ob) : sD.get o = some ob := by
  have hk : k < l.length := (List.getElem?_eq_some_iff.1 hd).1
  have hS1 : S (k + 1) = S k := by
    rcases ht.light hs0 hf0 hd (by rw [hqt]; simp) with h | ⟨h, _⟩
    · exact h
    · rw [hqt] at h; cases h
  obtain ⟨hstep, hpre, _, _⟩ := ht.step k d hd
  rcases Nat.lt_or_ge k q with hkq | hqk
  · -- writes came ahead of it: none of them touched the object
    have key : ∀ m, k ≤ m → m ≤ q → (S m).get o = some ob := by
      intro m
      induction m with
      | zero => intro h1 _; have : k = 0 := by omega
                subst this; exact hob
      | succ m ih =>
        intro h1 h2
        rcases Nat.lt_or_ge k (m + 1) with h3 | h3
        · have hm := ih (by omega) (by omega)
          have hml : m < l.length := by have := hi.qle; omega
          have hdm : l[m]? = some l[m] := List.getElem?_eq_getElem hml
          by_cases hh : l[m].e.i.kd = .heavy
          · have hne : k ≠ m := fun e => by subst e; rw [hd] at hdm; cases hdm; rw [hqt] at hh; cases hh
            have hdone : DoneAt l listed m := (hi.hq m _ hdm hh).2 (by omega)
            have hnot : k ∉ l[m].dep := fun h => hnd (hi.cl m _ hdm hdone k h)
            have hpost := (hst.rw k m d _ (by omega) hd hdm hnot).2.2.2.2 hh
            have hn : nth (back rd m []) (m - 1 - k) = some (some o) := by
              rw [nth_back rd m (m - 1 - k) [] (by omega), show m - 1 - (m - 1 - k) = k by omega, hrd]
            obtain ⟨ob', h4, h5⟩ := older_some (chkPost_mem (ht.step m _ hdm).2.2.1 _ hpost o hn)
            have h6 := (ht.step m _ hdm).1.mono.kept o ob' h4 h5
            rw [hm] at h6; cases h6
            exact h4
          · rcases ht.light hs0 hf0 hdm hh with h4 | ⟨_, ob', h4, _, _, h5, h6⟩
            · rw [h4]; exact hm
            · rw [h4, push_get h5]
              split
              · rename_i e; subst e; rw [h6] at hm; cases hm
              · exact hm
        · have : k = m + 1 := by omega
          subst this; exact hob
    exact hi.sub o ob (key q (by omega) (Nat.le_refl _))
  · -- some that the text has ahead of it are not done: none of them touched the object
    have key : ∀ j, j ≤ k - q → (S (k - j)).get o = some ob ∨ sD.get o = some ob := by
      intro j
      induction j with
      | zero => intro _; exact .inl hob
      | succ j ih =>
        intro h1
        rcases ih (by omega) with h2 | h2
        · obtain ⟨m, hm⟩ : ∃ m, k - j = m + 1 := ⟨k - j - 1, by omega⟩
          have hm' : k - (j + 1) = m := by omega
          rw [hm] at h2
          rw [hm']
          have hml : m < l.length := by omega
          have hdm : l[m]? = some l[m] := List.getElem?_eq_getElem hml
          by_cases hdone : DoneAt l listed m
          · have hh : l[m].e.i.kd ≠ .heavy := fun hh => by have := (hi.hq m _ hdm hh).1 hdone; omega
            rcases ht.light hs0 hf0 hdm hh with h4 | ⟨h3, ob', h4, _, _, h5, h6⟩
            · rw [h4] at h2; exact .inl h2
            · rw [h4, push_get h5] at h2
              split at h2
              · rename_i e; cases h2
                rw [e]
                exact .inr (hi.late m _ ob hdm h3 (by omega) hdone h4).2
              · exact .inl h2
          · have hnot : m ∉ d.dep := fun h => hdone (hdep m h)
            by_cases hq' : l[m].e.i.kd = .quiet
            · rcases ht.light hs0 hf0 hdm (by rw [hq']; simp) with h4 | ⟨h3, _⟩
              · rw [h4] at h2; exact .inl h2
              · rw [hq'] at h3; cases h3
            · obtain ⟨jj, h3, h4, h5⟩ := (hst.rw m k _ d (by omega) hdm hd hnot).2.2.2.1 hqt hq'
              unfold chkPre at hpre
              rw [hrd, h3] at hpre
              simp only at hpre
              rw [nth_back _ k jj [] h4] at hpre
              obtain ⟨ob', h6, h7⟩ := older_some hpre
              rw [hob] at h6; cases h6
              have hmono := ht.monoTo m (k - 1 - jj) h5 (by omega)
              exact .inl ((ht.step m _ hdm).1.mono.kept o ob h2 (Nat.lt_of_lt_of_le h7 hmono.ver))
        · exact .inr h2
    rcases key (k - q) (Nat.le_refl _) with h | h
    · rw [show k - (k - q) = q by omega] at h
      exact hi.sub o ob h
    · exact h

theorem trace_tm (ht : Trace S Tt val rd call l) : ∀ (k : Nat), k ≤ l.length → ∀ t v, Tr.get (Tt k) t = some v →
    (∃ (p : Nat) (d : DOp), p < k ∧ l[p]? = some d ∧ d.e.dst = some t ∧ v = val p) ∨ ((∀ (p : Nat) (d : DOp), p < k → l[p]? = some d → d.e.dst ≠ some t) ∧ Tr.get (Tt 0) t = some v)
  | 0, _, t, v, h => .inr ⟨fun p d hp => by omega, h⟩
  | k + 1, hk, t, v, h => by
    have hd : l[k]? = some l[k] := List.getElem?_eq_getElem (by omega)
    rw [(ht.step k _ hd).2.2.2] at h
    rcases Tm.put_get _ _ _ t v h with ⟨h1, h2⟩ | ⟨h1, h2⟩
    · exact .inl ⟨k, _, by omega, hd, h1, h2⟩
    · rcases trace_tm ht k (by omega) t v h2 with ⟨p, d, h3, h4⟩ | ⟨h3, h4⟩
      · exact .inl ⟨p, d, by omega, h4⟩
      · refine .inr ⟨fun p d hp hpd => ?_, h4⟩
        rcases Nat.lt_or_ge p k with h5 | h5
        · exact h3 p d h5 hpd
        · have : p = k := by omega
          subst this
          rw [hd] at hpd; cases hpd
          exact h1

/-- The slots that an operation reads hold what they hold in the text's own order. -/
theorem env_ok (hst : DStat P N ops l) (ht : Trace S Tt val rd call l) {ρ0 : Rho} {a0 : Act} {w0 : World} {listed : Array Bool} {ρ : Rho} {q : Nat} {sD : St} {a : Act}
    (hi : DInv S Tt val N l ρ0 a0 w0 listed ρ q sD a w) {k : Nat} {d : DOp} (hd : l[k]? = some d) (hnd : ¬ DoneAt l listed k) (hdep : ∀ p ∈ d.dep, DoneAt l listed p) : EnvT ρ (Tm.only (Tt k) d.reads) a := by
  have hk : k < l.length := (List.getElem?_eq_some_iff.1 hd).1
  refine ⟨fun t v h => ?_, fun _ => rfl⟩
  simp only [Tm.only] at h
  split at h <;> (try (cases h; done))
  rename_i hm
  rcases trace_tm ht k (by omega) t v h with ⟨p, dp, h1, h2, h3, rfl⟩ | ⟨h1, h2⟩
  · have : p ∈ d.dep := by
      apply Classical.byContradiction
      intro hno
      have := (hst.rw p k dp d h1 h2 hd hno).1 t h3
      rw [hm] at this; cases this
    exact hi.tm1 p dp h2 (hdep p this) t h3
  · refine hi.tm0 t v h2 fun p dp hp hdone => ?_
    rcases Nat.lt_or_ge p k with h3 | h3
    · exact h1 p dp h3 hp
    · rcases Nat.lt_or_ge k p with h4 | h4
      · have hno : k ∉ dp.dep := fun h => hnd (hi.cl p dp hp hdone k h)
        intro e
        have := (hst.rw k p d dp h4 hd hp hno).2.1 t e
        rw [hm] at this; cases this
      · have : p = k := by omega
        subst this; exact absurd hdone hnd

end
end Go.Wg
