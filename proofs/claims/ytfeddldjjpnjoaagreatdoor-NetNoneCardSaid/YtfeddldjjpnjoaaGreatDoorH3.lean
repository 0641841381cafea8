/- A region whose order is open, last part: a step, and all of them. -/
import Derived.Test.YtfeddldjjpnjoaaGreatDoorH2
namespace Go.Wg
variable {P : Program} {w : World}
section
variable {N : Nat} {ops : Array Oper} {l : List DOp} {call : CallF} {Q : Exit → Act → World → Prop} {ro : Option Nat}
variable {S : Nat → St} {Tt : Nat → Tm} {val : Nat → V} {rd : Nat → Option Nat}

theorem push_ne (s : St) (ob : Ob) : s ≠ s.push ob := by
  intro h
  have : s.next = (s.push ob).next := congrArg St.next h
  simp [St.push] at this

theorem DInv.step (hc : CallOk P call) (hst : DStat P N ops l) (ht : Trace S Tt val rd call l) {ρ0 : Rho} {a0 : Act} {w0 : World} (hs0 : Sat ρ0 (S 0).get w0) (hf0 : Fresh ρ0 (S 0) (S l.length)) {listed : Array Bool} {ρ : Rho} {q : Nat} {sD : St} {a : Act}
    (hi : DInv S Tt val N l ρ0 a0 w0 listed ρ q sD a w) {i : Nat} (hr : i ∈ Region.ready .any ops listed) :
    wpOpIn (Fr ro) 0 P ops Q i (fun a' w' => ∃ ρ' q' sD', DInv S Tt val N l ρ0 a0 w0 (listed.setIfInBounds i true) ρ' q' sD' a' w') a w := by
  rw [mem_ready] at hr
  obtain ⟨hl0, o, ho, hall⟩ := hr
  have hilt : i < ops.size := (Array.getElem?_eq_some_iff.1 ho).1
  obtain ⟨k, d, hd, hdi⟩ := hst.sur i hilt
  have hk : k < l.length := (List.getElem?_eq_some_iff.1 hd).1
  have hls : i < listed.size := by
    rcases Nat.lt_or_ge i listed.size with h | h
    · exact h
    · simp [Array.getElem?_eq_none h] at hl0
  have hlf : listed.getD i false = false := by
    simp [hls] at hl0 ⊢; exact hl0
  have hnd : ¬ DoneAt l listed k := by
    rintro ⟨d', hd', h⟩
    rw [hd] at hd'; cases hd'
    rw [hdi, hlf] at h; cases h
  have hdone' : ∀ j, DoneAt l (listed.setIfInBounds i true) j ↔ DoneAt l listed j ∨ j = k := by
    intro j
    constructor
    · rintro ⟨d', hd', h⟩
      by_cases e : i = d'.idx
      · exact .inr (hst.inj j k d' d hd' hd (by rw [← e, hdi]))
      · rw [getD_set_ne false e] at h
        exact .inl ⟨d', hd', h⟩
    · rintro (⟨d', hd', h⟩ | rfl)
      · exact ⟨d', hd', getD_set_true h⟩
      · exact ⟨d, hd, by rw [hdi]; simp [hls]⟩
  obtain ⟨o', ho', hoC⟩ := hst.op k d hd
  rw [hdi, ho] at ho'; cases ho'
  have hdep : ∀ p ∈ d.dep, DoneAt l listed p := by
    intro p hp
    rcases (hst.just k d o hd (by rw [hdi]; exact ho) p hp).2 with ⟨e, he, hb, d', hd', hx⟩ | ⟨e, he, hb, p', d', hd', hx, hpp⟩
    · exact ⟨d', hd', by rw [hx]; exact hall e he hb⟩
    · exact hi.cl p' d' hd' ⟨d', hd', by rw [hx]; exact hall e he hb⟩ p hpp
  have henv := env_ok hst ht hi hd hnd hdep
  have hS : (S (k + 1)).next ≤ (S l.length).next := (ht.monoTo l.length (k + 1) (by omega) (Nat.le_refl _)).next
  have hfresh : Fresh ρ (S k) (S (k + 1)) := by
    intro j h1 h2
    cases hj : ρ j with
    | none => rfl
    | some L =>
      rcases hi.rng j L hj with h3 | ⟨k', ⟨d', hd', hx⟩, h3, h4⟩
      · have := hf0 j (Nat.le_trans (ht.monoTo k 0 (Nat.zero_le _) (by omega)).next h1) (by omega)
        rw [this] at h3; cases h3
      · have hk' : k' < l.length := (List.getElem?_eq_some_iff.1 hd').1
        rcases Nat.lt_trichotomy k' k with h5 | h5 | h5
        · have := (ht.monoTo k (k' + 1) (by omega) (by omega)).next; omega
        · subst h5; exact absurd ⟨d', hd', hx⟩ hnd
        · have := (ht.monoTo k' (k + 1) (by omega) (by omega)).next; omega
  -- the end of all cases
  have fin : ∀ ρ' q' sD' w' x, Rho.le ρ ρ' → Rel ρ' (val k) x → q' ≤ l.length →
      (∀ (j : Nat) (dj : DOp), l[j]? = some dj → dj.e.i.kd = .heavy → (DoneAt l (listed.setIfInBounds i true) j ↔ j < q')) →
      (∀ (j : Nat) (dj : DOp), l[j]? = some dj → dj.e.i.kd = .alloc → j < q' → DoneAt l (listed.setIfInBounds i true) j) →
      (∀ o ob, (S q').get o = some ob → sD'.get o = some ob) →
      (∀ (j : Nat) (dj : DOp) ob, l[j]? = some dj → dj.e.i.kd = .alloc → q' ≤ j → DoneAt l (listed.setIfInBounds i true) j → S (j + 1) = (S j).push ob → ob.partner = none ∧ sD'.get (S j).next = some ob) →
      (∀ o ob, sD'.get o = some ob → (S q').get o = some ob ∨ ∃ (j : Nat) (dj : DOp), l[j]? = some dj ∧ dj.e.i.kd = .alloc ∧ q' ≤ j ∧ DoneAt l (listed.setIfInBounds i true) j ∧ S (j + 1) = (S j).push ob ∧ o = (S j).next) →
      sD'.next = (S l.length).next → Post ρ0 (S 0) w0 ρ' sD' w' → (∀ j L, ρ' j = some L → ρ j = some L ∨ ((S k).next ≤ j ∧ j < (S (k + 1)).next)) →
      DInv S Tt val N l ρ0 a0 w0 (listed.setIfInBounds i true) ρ' q' sD' (a.put o.dst x) w' := by
    intro ρ' q' sD' w' x hle hx h1 h2 h3 h4 h5 h6 h7 h8 h9
    have keep : ∀ t y, (∀ t', o.dst = some t' → t' ≠ t) → a.tmps[t]? = some y → (a.put o.dst x).tmps[t]? = some y := by
      intro t y hne hy
      cases hod : o.dst with
      | none => exact hy
      | some t' =>
        have := hne t' hod
        simp [Act.put, this, hy]
    refine { asz := (put_size _ _ _).trans hi.asz, adf := (put_defers' _ _ _).trans hi.adf, cl := ?_, qle := h1, hq := h2, aq := h3, sub := h4, late := h5, only := h6, next := h7, post := h8, rng := ?_, tm1 := ?_, tm0 := ?_ }
    · intro j dj hj hdj p hp
      rw [hdone']
      rw [hdone'] at hdj
      rcases hdj with h | h
      · exact .inl (hi.cl j dj hj h p hp)
      · subst h; rw [hd] at hj; cases hj
        exact .inl (hdep p hp)
    · intro j L hj
      rcases h9 j L hj with h | ⟨h, h'⟩
      · rcases hi.rng j L h with h' | ⟨k', hk', h''⟩
        · exact .inl h'
        · exact .inr ⟨k', (hdone' k').2 (.inl hk'), h''⟩
      · exact .inr ⟨k, (hdone' k).2 (.inr rfl), h, h'⟩
    · intro j dj hj hdj t htj
      rw [hdone'] at hdj
      by_cases e : j = k
      · subst e; rw [hd] at hj; cases hj
        rw [hoC.dst] at htj
        have := hoC.lt t htj
        exact ⟨x, by simp [Act.put, htj, hi.asz, this], hx⟩
      · have hdj' : DoneAt l listed j := hdj.resolve_right e
        obtain ⟨y, hy, hry⟩ := hi.tm1 j dj hj hdj' t htj
        refine ⟨y, keep t y (fun t' ht' => ?_) hy, hry.mono hle⟩
        rw [← hoC.dst] at ht'
        rcases Nat.lt_or_ge j k with h | h
        · intro e'; subst e'
          exact hst.dst j k dj d h hj hd t' htj ht'
        · intro e'; subst e'
          exact hst.dst k j d dj (by omega) hd hj t' ht' htj
    · intro t v hv hno
      have hk1 := hno k d hd ((hdone' k).2 (.inr rfl))
      obtain ⟨y, hy, hry⟩ := hi.tm0 t v hv (fun j dj hj hdj => hno j dj hj ((hdone' j).2 (.inl hdj)))
      refine ⟨y, keep t y (fun t' ht' => ?_) hy, hry.mono hle⟩
      rw [← hoC.dst] at ht'
      intro e'; subst e'; exact hk1 ht'
  -- a step of a quiet kind that leaves all as it was
  have same : d.e.i.kd ≠ .heavy → S (k + 1) = S k → ∀ x, Rel ρ (val k) x → DInv S Tt val N l ρ0 a0 w0 (listed.setIfInBounds i true) ρ q sD (a.put o.dst x) w := by
    intro hh hSk x hx
    refine fin ρ q sD w x (fun _ _ h => h) hx hi.qle ?_ ?_ hi.sub ?_ ?_ hi.next hi.post (fun _ _ h => .inl h)
    · intro j dj hj hjh
      rw [hdone']
      constructor
      · rintro (h | h)
        · exact (hi.hq j dj hj hjh).1 h
        · subst h; rw [hd] at hj; cases hj; exact absurd hjh hh
      · exact fun h => .inl ((hi.hq j dj hj hjh).2 h)
    · exact fun j dj hj hja hjq => (hdone' j).2 (.inl (hi.aq j dj hj hja hjq))
    · intro j dj ob hj hja hjq hjd hjp
      rcases (hdone' j).1 hjd with h | h
      · exact hi.late j dj ob hj hja hjq h hjp
      · subst h; rw [hSk] at hjp; exact absurd hjp (push_ne _ _)
    · intro o' ob h
      rcases hi.only o' ob h with h | ⟨j, dj, hj, h1, h2, h3, h4⟩
      · exact .inl h
      · exact .inr ⟨j, dj, hj, h1, h2, (hdone' j).2 (.inl h3), h4⟩
  -- what writes: no other that writes stands between
  have heavy : d.e.i.kd = .heavy → q ≤ k ∧ (∀ (j : Nat) (dj : DOp), q ≤ j → j < k → l[j]? = some dj → dj.e.i.kd ≠ .heavy ∧ (dj.e.i.kd = .alloc → DoneAt l listed j)) := by
    intro hh
    have hqk : q ≤ k := by
      rcases Nat.lt_or_ge k q with h | h
      · exact absurd ((hi.hq k d hd hh).2 h) hnd
      · exact h
    refine ⟨hqk, fun j dj h1 h2 hj => ?_⟩
    by_cases hin : j ∈ d.dep
    · have hjd := hdep j hin
      refine ⟨fun hjh => ?_, fun _ => hjd⟩
      have := (hi.hq j dj hj hjh).1 hjd
      omega
    · have := (hst.rw j k dj d h2 hj hd hin).2.2.1 hh
      rw [this]
      exact ⟨by simp, by simp⟩
  have heavyH : d.e.i.kd = .heavy → (∀ o ob, (S k).get o = some ob → sD.get o = some ob) ∧
      (∀ o ob, sD.get o = some ob → (S k).get o = some ob ∨ ∃ (j : Nat) (dj : DOp), l[j]? = some dj ∧ dj.e.i.kd = .alloc ∧ k < j ∧ DoneAt l listed j ∧ S (j + 1) = (S j).push ob ∧ o = (S j).next) := by
    intro hh
    obtain ⟨hqk, hbet⟩ := heavy hh
    have hno : ∀ (j : Nat) (dj : DOp), q ≤ j → j < k → l[j]? = some dj → dj.e.i.kd ≠ .heavy := fun j dj h1 h2 h3 => (hbet j dj h1 h2 h3).1
    -- upwards
    have up : ∀ m, q ≤ m → m ≤ k → ∀ o ob, (S q).get o = some ob → (S m).get o = some ob := by
      intro m
      induction m with
      | zero => intro h1 _ o ob h; have : q = 0 := by omega
                subst this; exact h
      | succ m ih =>
        intro h1 h2 o ob h
        rcases Nat.lt_or_ge m q with h3 | h3
        · have : q = m + 1 := by omega
          subst this; exact h
        · have hm := ih h3 (by omega) o ob h
          have hdm : l[m]? = some l[m] := List.getElem?_eq_getElem (by omega)
          rcases ht.light hs0 hf0 hdm (hno m _ h3 (by omega) hdm) with h4 | ⟨_, ob', h4, _, _, h5, h6⟩
          · rw [h4]; exact hm
          · rw [h4, push_get h5]
            split
            · rename_i e; subst e; rw [h6] at hm; cases hm
            · exact hm
    have up2 : ∀ (j : Nat) (dj : DOp) ob, l[j]? = some dj → dj.e.i.kd = .alloc → q ≤ j → S (j + 1) = (S j).push ob → ∀ m, j < m → m ≤ k → (S m).get (S j).next = some ob := by
      intro j dj ob hj hja hjq hjp m
      have hjl : (S j).next < Tr.lim := by
        rcases ht.light hs0 hf0 hj (by rw [hja]; simp) with h | ⟨_, ob', _, _, _, h, _⟩
        · rw [hjp] at h; exact absurd h.symm (push_ne _ _)
        · exact h
      induction m with
      | zero => intro h; omega
      | succ m ih =>
        intro h1 h2
        rcases Nat.lt_or_ge j m with h3 | h3
        · have hm := ih h3 (by omega)
          have hdm : l[m]? = some l[m] := List.getElem?_eq_getElem (by omega)
          rcases ht.light hs0 hf0 hdm (hno m _ (by omega) (by omega) hdm) with h4 | ⟨_, ob', h4, _, _, h5, h6⟩
          · rw [h4]; exact hm
          · rw [h4, push_get h5]
            split
            · rename_i e; rw [e, h6] at hm; cases hm
            · exact hm
        · have : j = m := by omega
          subst this
          rw [hjp, push_get hjl, if_pos rfl]
    refine ⟨fun o ob h => ?_, fun o ob h => ?_⟩
    · rcases ht.mid hs0 hf0 q k hqk (by omega) hno o ob h with h1 | ⟨j, dj, h1, h2, h3, h4, h5, h6⟩
      · exact hi.sub o ob h1
      · rw [h6]; exact (hi.late j dj ob h3 h4 h1 ((hbet j dj h1 h2 h3).2 h4) h5).2
    · rcases hi.only o ob h with h1 | ⟨j, dj, h1, h2, h3, h4, h5, h6⟩
      · exact .inl (up k hqk (Nat.le_refl _) o ob h1)
      · rcases Nat.lt_trichotomy j k with h7 | h7 | h7
        · rw [h6]; exact .inl (up2 j dj ob h1 h2 h3 h5 k h7 (Nat.le_refl _))
        · subst h7; exact absurd h4 hnd
        · exact .inr ⟨j, dj, h1, h2, h7, h4, h5, h6⟩
  -- what writes, done
  have heavyDone : d.e.i.kd = .heavy → ∀ ρ' w' x, Post ρ (S k) w ρ' (S (k + 1)) w' → Rel ρ' (val k) x →
      ∃ ρ' q' sD', DInv S Tt val N l ρ0 a0 w0 (listed.setIfInBounds i true) ρ' q' sD' (a.put o.dst x) w' := by
    intro hh ρ' w' x hp hx
    obtain ⟨hqk, hbet⟩ := heavy hh
    obtain ⟨hH1, hH2⟩ := heavyH hh
    classical
    let isLate : Nat → Prop := fun j => k < j ∧ DoneAt l listed j ∧ ∃ (dj : DOp) (ob : Ob), l[j]? = some dj ∧ dj.e.i.kd = .alloc ∧ S (j + 1) = (S j).push ob
    have hlate : ∀ x, x ∈ ((List.range l.length).filter fun j => decide (isLate j)).map (fun j => (S j).next) ↔ ∃ j, isLate j ∧ x = (S j).next := by
      intro x
      simp only [List.mem_map, List.mem_filter, List.mem_range, decide_eq_true_eq]
      constructor
      · rintro ⟨j, ⟨_, h⟩, rfl⟩; exact ⟨j, h, rfl⟩
      · rintro ⟨j, h, rfl⟩
        obtain ⟨dj, ob, hj, _⟩ := h.2.2
        exact ⟨j, ⟨(List.getElem?_eq_some_iff.1 hj).1, h⟩, rfl⟩
    have hlim : ∀ x ∈ ((List.range l.length).filter fun j => decide (isLate j)).map (fun j => (S j).next), x < Tr.lim := by
      intro x hx
      obtain ⟨j, ⟨_, _, dj, ob, hj, hja, hjp⟩, rfl⟩ := (hlate x).1 hx
      rcases ht.light hs0 hf0 hj (by rw [hja]; simp) with h | ⟨_, ob', _, _, _, h, _⟩
      · rw [hjp] at h; exact absurd h.symm (push_ne _ _)
      · exact h
    obtain ⟨h', hh'⟩ := Tr.patch (S (k + 1)).h sD.get _ hlim
    have hget : ∀ o, (St.mk h' sD.next sD.ver).get o = if (∃ j, isLate j ∧ o = (S j).next) then sD.get o else (S (k + 1)).get o := by
      intro o
      show h'.get o = _
      rw [hh' o]
      simp only [hlate]
    -- a late one's number is not given yet
    have hnum : ∀ j m, isLate j → m ≤ k + 1 → ∀ ob, (S m).get (S j).next ≠ some ob := by
      rintro j m ⟨h1, _, dj, ob', hj, hja, hjp⟩ hm ob h
      have hjl : j < l.length := (List.getElem?_eq_some_iff.1 hj).1
      refine ht.wf hs0 hf0 (by omega) h ⟨(ht.monoTo j m (by omega) (by omega)).next, ?_⟩
      have h2 := (ht.monoTo l.length (j + 1) (by omega) (Nat.le_refl _)).next
      rw [hjp] at h2
      simp only [St.push] at h2
      omega
    refine ⟨ρ', k + 1, ⟨h', sD.next, sD.ver⟩, fin ρ' (k + 1) _ w' x hp.ext hx (by omega) ?_ ?_ ?_ ?_ ?_ hi.next ?_ ?_⟩
    · intro j dj hj hjh
      rw [hdone']
      constructor
      · rintro (h | h)
        · have := (hi.hq j dj hj hjh).1 h; omega
        · omega
      · intro h
        rcases Nat.lt_or_ge j q with h1 | h1
        · exact .inl ((hi.hq j dj hj hjh).2 h1)
        · rcases Nat.lt_or_ge j k with h2 | h2
          · exact absurd hjh (hbet j dj h1 h2 hj).1
          · exact .inr (by omega)
    · intro j dj hj hja hjq
      rw [hdone']
      rcases Nat.lt_or_ge j q with h1 | h1
      · exact .inl (hi.aq j dj hj hja h1)
      · rcases Nat.lt_or_ge j k with h2 | h2
        · exact .inl ((hbet j dj h1 h2 hj).2 hja)
        · exact .inr (by omega)
    · intro o' ob h
      rw [hget]
      split
      · rename_i hl
        obtain ⟨j, hj, rfl⟩ := hl
        exact absurd h (hnum j (k + 1) hj (Nat.le_refl _) ob)
      · exact h
    · intro j dj ob hj hja hjq hjd hjp
      have hjd' : DoneAt l listed j := by
        rcases (hdone' j).1 hjd with h | h
        · exact h
        · omega
      have := hi.late j dj ob hj hja (by omega) hjd' hjp
      refine ⟨this.1, ?_⟩
      rw [hget, if_pos ⟨j, ⟨by omega, hjd', dj, ob, hj, hja, hjp⟩, rfl⟩]
      exact this.2
    · intro o' ob h
      rw [hget] at h
      split at h
      · rename_i hl
        obtain ⟨j, ⟨h1, h2, dj, ob', hj, hja, hjp⟩, rfl⟩ := hl
        have := (hi.late j dj ob' hj hja (by omega) h2 hjp).2
        rw [this] at h; cases h
        exact .inr ⟨j, dj, hj, hja, by omega, (hdone' j).2 (.inl h2), hjp, rfl⟩
      · exact .inl h
    · refine Post.comp hi.post hp (fun j h1 h2 => hf0 j h1 (by rw [← hi.next]; exact h2)) hfresh hH1 (ht.monoTo k 0 (Nat.zero_le _) (by omega)).next (by rw [hi.next]; exact hS) (ht.monoTo k 0 (Nat.zero_le _) (by omega)).ver rfl hi.post.ver ?_
      intro o' ob h
      rw [hget] at h
      split at h
      · rename_i hl
        obtain ⟨j, hj, rfl⟩ := hl
        refine .inr ⟨h, ?_, ?_⟩
        · cases hg : (S k).get (S j).next with
          | none => rfl
          | some ob' => exact absurd hg (hnum j k hj (by omega) ob')
        · obtain ⟨h1, h2, dj, ob', hj, hja, hjp⟩ := hj
          have := hi.late j dj ob' hj hja (by omega) h2 hjp
          rw [this.2] at h; cases h
          exact this.1
      · exact .inl h
    · intro j L hj
      rcases hp.dom j L hj with h | ⟨h1, h2, _⟩
      · exact .inl h
      · exact .inr ⟨h1, h2⟩
  obtain ⟨hstep, _, _, _⟩ := ht.step k d hd
  rcases hstep.kind with ⟨hw, hv, hSk, _⟩ | ⟨hw, hkind⟩
  · -- it is not wanted
    refine step_no ho hoC henv hw ?_
    have hx : Rel ρ (val k) undef := by rw [hv]; exact Rel.undef
    by_cases hh : d.e.i.kd = .heavy
    · refine heavyDone hh ρ w undef ?_ hx
      rw [hSk]
      exact Post.refl (hi.post.sat.sub (heavyH hh).1)
    · exact ⟨ρ, q, sD, same hh hSk undef hx⟩
  · rcases hkind with ⟨qq, hqi, hSk, hev⟩ | ⟨aa, ob, hai, _, hSk, hver, hpa, hlim, hev⟩ | ⟨hh, _, hev⟩
    · -- it leaves memory as it is
      have hkq : d.e.i.kd = .quiet := by rw [hqi]; rfl
      have hSnd : SndQ P o qq := by have := hoC.i; rw [hqi] at this; exact this
      have hsat : Sat ρ (one (S k).get (rd k)) w := by
        refine hi.post.sat.sub fun o' ob h => ?_
        cases hrd : rd k with
        | none => rw [hrd] at h; simp [one] at h
        | some o1 =>
          rw [hrd] at h
          simp only [one] at h
          split at h
          · rename_i hb
            have := Nat.eq_of_beq_eq_true hb
            subst this
            exact read_ok hst ht hs0 hf0 hi hd hkq hnd hdep hrd h
          · cases h
      obtain ⟨x, h1, h2⟩ := hSnd ρ _ w a.eval _ _ hsat henv.env hev
      unfold wpOpIn
      rw [ho]
      simp only [want_ok hoC henv hw, if_true]
      refine ⟨fun _ _ => trivial, ?_⟩
      rw [Oper.semAt_eq _ _ _ (no_defer h1 (.inl ⟨_, rfl⟩)), h1]
      exact ⟨ρ, q, sD, same (by rw [hkq]; simp) hSk x h2⟩
    · -- it makes an object
      have hka : d.e.i.kd = .alloc := by rw [hai]; rfl
      have hSnd : SndA P o aa := by have := hoC.i; rw [hai] at this; exact this
      have hqk : q ≤ k := by
        rcases Nat.lt_or_ge k q with h | h
        · exact absurd (hi.aq k d hd hka h) hnd
        · exact h
      have hS1 : (S (k + 1)).next = (S k).next + 1 := by rw [hSk]; rfl
      have hsat : Sat ρ (St.mk sD.h (S k).next (S k).ver).get w := hi.post.sat
      have hfr : Fresh ρ (St.mk sD.h (S k).next (S k).ver) (St.push ⟨sD.h, (S k).next, (S k).ver⟩ ob) := by
        intro j h1 h2
        exact hfresh j h1 (by rw [hS1]; exact h2)
      have hres := hSnd ρ _ w a.eval _ _ _ hsat henv.env hfr (hev sD.h)
      unfold wpOpIn
      rw [ho]
      simp only [want_ok hoC henv hw, if_true]
      refine wp_res hres fun ρ' w' x hp hx => ?_
      have hget : ∀ o', (St.mk (St.push ⟨sD.h, (S k).next, (S k).ver⟩ ob).h sD.next sD.ver).get o' = if o' = (S k).next then some ob else sD.get o' := fun o' => Tr.get_set sD.h (S k).next o' (some ob) hlim
      have hnum : ∀ m, m ≤ k → ∀ ob', (S m).get (S k).next ≠ some ob' := by
        intro m hm ob' h
        exact ht.wf hs0 hf0 (by omega) h ⟨(ht.monoTo k m hm (by omega)).next, by omega⟩
      refine ⟨ρ', q, ⟨(St.push ⟨sD.h, (S k).next, (S k).ver⟩ ob).h, sD.next, sD.ver⟩, fin ρ' q _ w' x hp.ext hx hi.qle ?_ ?_ ?_ ?_ ?_ hi.next ?_ ?_⟩
      · intro j dj hj hjh
        rw [hdone']
        constructor
        · rintro (h | h)
          · exact (hi.hq j dj hj hjh).1 h
          · subst h; rw [hd] at hj; cases hj; rw [hka] at hjh; cases hjh
        · exact fun h => .inl ((hi.hq j dj hj hjh).2 h)
      · exact fun j dj hj hja hjq => (hdone' j).2 (.inl (hi.aq j dj hj hja hjq))
      · intro o' ob' h
        rw [hget]
        split
        · rename_i e; subst e; exact absurd h (hnum q hqk ob')
        · exact hi.sub o' ob' h
      · intro j dj ob' hj hja hjq hjd hjp
        rw [hget]
        rcases (hdone' j).1 hjd with h | h
        · have := hi.late j dj ob' hj hja hjq h hjp
          refine ⟨this.1, ?_⟩
          have hne : ¬ (S j).next = (S k).next := by
            intro e
            have hjl : j < l.length := (List.getElem?_eq_some_iff.1 hj).1
            have hj1 : (S (j + 1)).next = (S j).next + 1 := by rw [hjp]; rfl
            rcases Nat.lt_trichotomy j k with h5 | h5 | h5
            · have := (ht.monoTo k (j + 1) (by omega) (by omega)).next; omega
            · subst h5; exact hnd h
            · have := (ht.monoTo j (k + 1) (by omega) (by omega)).next; omega
          rw [if_neg hne]; exact this.2
        · subst h
          rw [hSk] at hjp
          have : ob' = ob := by
            have h1 := congrArg (fun s : St => s.get (S j).next) hjp
            simp only [push_get hlim, if_true] at h1
            exact (Option.some.inj h1).symm
          subst this
          exact ⟨hpa, by rw [if_pos rfl]⟩
      · intro o' ob' h
        rw [hget] at h
        split at h
        · rename_i e; cases h
          exact .inr ⟨k, d, hd, hka, hqk, (hdone' k).2 (.inr rfl), hSk, e⟩
        · rcases hi.only o' ob' h with h | ⟨j, dj, hj, h1, h2, h3, h4⟩
          · exact .inl h
          · exact .inr ⟨j, dj, hj, h1, h2, (hdone' j).2 (.inl h3), h4⟩
      · exact Post.comp hi.post hp (fun j h1 h2 => hf0 j h1 (by rw [← hi.next]; exact h2)) hfr (fun _ _ h => h) (ht.monoTo k 0 (Nat.zero_le _) (by omega)).next (by rw [hi.next]; show (S k).next + 1 ≤ _; omega) (ht.monoTo k 0 (Nat.zero_le _) (by omega)).ver rfl hi.post.ver (fun _ _ h => .inl h)
      · intro j L hj
        rcases hp.dom j L hj with h | ⟨h1, h2, _⟩
        · exact .inl h
        · exact .inr ⟨h1, by rw [hS1]; exact h2⟩
    · -- it writes
      refine step_I hc ho hoC henv hw hev (hi.post.sat.sub (heavyH hh).1) hfresh fun ρ' w' x hp hx => ?_
      exact heavyDone hh ρ' w' x hp hx

end
end Go.Wg
