/- Loops over functions: the marks that they leave, the loop's record. -/
import Derived.Test.YtfeddldjjpnjoaaGreatDoorI
namespace Go.Wg
variable {P : Program}

/-- A mark among the deferred calls: of a block of none, in memory that nobody speaks of. -/
def Mark (b : Nat) (ρ : Rho) (s : St) (w : World) (d : Deferred) : Prop :=
  ∃ r, d.target = .collected r ∧ b ≤ r ∧ w.heap[r]? = some (.deferred (some [])) ∧ ∀ o ob L, s.get o = some ob → ρ o = some L → L.blk ≠ r

def Marks (b : Nat) (ρ : Rho) (s : St) (w : World) : List Deferred → Prop
  | [] => True
  | d :: ms => Mark b ρ s w d ∧ (∀ d' ∈ ms, d'.target ≠ d.target) ∧ Marks b ρ s w ms

theorem Mark.post {b : Nat} {ρ ρ' : Rho} {s s' : St} {w w' : World} {d : Deferred} (h : Mark b ρ s w d) (hf : Fresh ρ s s') (hp : Post ρ s w ρ' s' w') : Mark b ρ' s' w' d := by
  obtain ⟨r, h1, h2, h3, h4⟩ := h
  have hlt : r < w.heap.size := (Array.getElem?_eq_some_iff.1 h3).1
  refine ⟨r, h1, h2, ?_, fun o ob L ho hL hb => ?_⟩
  · rw [hp.other r hlt h4]; exact h3
  · rcases hp.dom o L hL with h5 | ⟨_, _, h5 | ⟨o', ob', L', h6, h7, h8⟩⟩
    · rcases hp.alive o ob ho with ⟨ob0, h6⟩ | ⟨h6, h7⟩
      · exact h4 o ob0 L h6 h5 hb
      · rw [hf o h6 h7] at h5; cases h5
    · omega
    · exact h4 o' ob' L' h6 h7 (h8.trans hb)

theorem Marks.mem {b : Nat} {ρ : Rho} {s : St} {w : World} : ∀ {ms : List Deferred}, Marks b ρ s w ms → ∀ d ∈ ms, Mark b ρ s w d
  | [], _, d, hd => by cases hd
  | x :: ms, h, d, hd => by
    rcases List.mem_cons.1 hd with rfl | hd
    · exact h.1
    · exact Marks.mem h.2.2 d hd

theorem Marks.post {b : Nat} {ρ ρ' : Rho} {s s' : St} {w w' : World} (hf : Fresh ρ s s') (hp : Post ρ s w ρ' s' w') : ∀ {ms : List Deferred}, Marks b ρ s w ms → Marks b ρ' s' w' ms
  | [], _ => trivial
  | _ :: _, h => ⟨h.1.post hf hp, h.2.1, Marks.post hf hp h.2.2⟩

theorem Marks.join {b : Nat} {ρ ρ' : Rho} {s s' : St} {w w' : World} {ms1 : List Deferred} (h1 : Marks b ρ s w ms1) (hf : Fresh ρ s s') (hp : Post ρ s w ρ' s' w') (hb : b ≤ w.heap.size) :
    ∀ {ms2 : List Deferred}, Marks w.heap.size ρ' s' w' ms2 → Marks b ρ' s' w' (ms2 ++ ms1)
  | [], _ => h1.post hf hp
  | d :: ms2, h2 => by
    obtain ⟨⟨r, h3, h4, h5, h6⟩, h7, h8⟩ := h2
    refine ⟨⟨r, h3, Nat.le_trans hb h4, h5, h6⟩, fun d' hd' => ?_, h1.join hf hp hb h8⟩
    rcases List.mem_append.1 hd' with hd' | hd'
    · exact h7 d' hd'
    · obtain ⟨r', h9, _, h10, _⟩ := h1.mem d' hd'
      have hlt : r' < w.heap.size := (Array.getElem?_eq_some_iff.1 h10).1
      rw [h9, h3]
      intro e
      cases e
      omega

theorem Marks.more {b b' : Nat} {ρ : Rho} {s : St} {w : World} (hb : b ≤ b') : ∀ {ms : List Deferred}, Marks b' ρ s w ms → Marks b ρ s w ms
  | [], _ => trivial
  | _ :: _, h => ⟨let ⟨r, h1, h2, h3, h4⟩ := h.1; ⟨r, h1, Nat.le_trans hb h2, h3, h4⟩, h.2.1, Marks.more hb h.2.2⟩

/-- Memory that nobody speaks of has grown. -/
theorem grow_post {ρ : Rho} {s : St} {w w' : World} (hs : Sat ρ s.get w) {O : Obj} (hh : w'.heap = w.heap.push O) (ho : w'.os = w.os) (hou : w'.output = w.output) (hta : w'.tape = w.tape) : Post ρ s w ρ s w' := by
  have hold : ∀ b, b < w.heap.size → w'.heap[b]? = w.heap[b]? := by
    intro b hb
    rw [hh]; simp [Array.getElem?_push, Nat.ne_of_lt hb]
  refine { ext := fun _ _ h => h, dom := fun _ _ h => .inl h, sat := ⟨fun o ob h => ?_, hs.apart⟩, next := Nat.le_refl _, ver := Nat.le_refl _, alive := fun _ _ h => .inl ⟨_, h⟩,
           size := by rw [hh]; simp, os := ho, output := hou, tape := hta, other := fun b hb _ => hold b hb, kept := fun o ob h _ => ⟨h, fun L hL => ?_⟩ }
  · obtain ⟨L, hL, hr⟩ := hs.obj o ob h
    exact ⟨L, hL, hr.mono (fun _ _ h => h) (hold _ hr.lt)⟩
  · obtain ⟨L', hL', hr⟩ := hs.obj o ob h
    rw [hL] at hL'; cases hL'
    exact hold _ hr.lt

/-- An object is forgotten whose block turns. -/
theorem drop_post {ρ ρ' : Rho} {s s' : St} {w w' w'' : World} (hs : Sat ρ s.get w) (hp : Post ρ s w ρ' s' w') {o : Nat} {ob : Ob} {L : Loc} (ho : s'.get o = some ob) (hpa : ob.partner = none) (hL : ρ' o = some L) (hb : w.heap.size ≤ L.blk)
    (hoth : ∀ b, b ≠ L.blk → w''.heap[b]? = w'.heap[b]?) (hsz : w''.heap.size = w'.heap.size) (hos : w''.os = w'.os) (hou : w''.output = w'.output) (hta : w''.tape = w'.tape) :
    Post ρ s w ρ' ⟨s'.h.set o none, s'.next, s'.ver⟩ w'' := by
  have sub : ∀ j ob', (St.mk (s'.h.set o none) s'.next s'.ver).get j = some ob' → s'.get j = some ob' ∧ j ≠ o := by
    intro j ob' h
    simp only [St.get] at h
    rw [Tr.get_set _ _ _ _ (Tr.get_lt ho)] at h
    split at h
    · cases h
    · rename_i e; exact ⟨h, e⟩
  have apart' : ∀ j ob', s'.get j = some ob' → j ≠ o → ∀ M, ρ' j = some M → M.blk ≠ L.blk := by
    intro j ob' hj hne M hM
    exact hp.sat.apart j o ob' ob M L hj ho hM hL hne (fun h => by rw [hpa] at h; cases h.2)
  refine { ext := hp.ext, dom := hp.dom, sat := ⟨?_, ?_⟩, next := hp.next, ver := hp.ver, alive := fun j ob' h => hp.alive j ob' (sub j ob' h).1,
           size := by rw [hsz]; exact hp.size, os := hos.trans hp.os, output := hou.trans hp.output, tape := hta.trans hp.tape, other := ?_, kept := ?_ }
  · intro j ob' h
    obtain ⟨h1, h2⟩ := sub j ob' h
    obtain ⟨M, hM, hr⟩ := hp.sat.obj j ob' h1
    exact ⟨M, hM, hr.mono (fun _ _ h => h) (hoth _ (apart' j ob' h1 h2 M hM))⟩
  · intro o1 o2 b1 b2 L1 L2 h1 h2
    exact hp.sat.apart o1 o2 b1 b2 L1 L2 (sub _ _ h1).1 (sub _ _ h2).1
  · intro b hlt hno
    rw [hoth b (by omega)]
    exact hp.other b hlt hno
  · intro j ob' h hv
    obtain ⟨h1, h2⟩ := sub j ob' h
    obtain ⟨h3, h4⟩ := hp.kept j ob' h1 hv
    refine ⟨h3, fun M hM => ?_⟩
    obtain ⟨M', hM', hr⟩ := hs.obj j ob' h3
    rw [hM] at hM'; cases hM'
    have := hr.lt
    rw [hoth _ (by omega)]
    exact h4 M hM

theorem putPs_ok {ρ : Rho} {N : Nat} : ∀ {ps : List Nat} {vs : List V} {xs : List Value} {T T' : Tm} {tmps : Array Value}, putPs ps vs T = some T' → (∀ p ∈ ps, p < N) → RelL ρ vs xs → TRel ρ T N { tmps := tmps, defers := [] } →
    xs.length = ps.length ∧ TRel ρ T' N { tmps := (ps.zip xs).foldl (fun tmps (p : Nat × Value) => tmps.setIfInBounds p.1 p.2) tmps, defers := [] }
  | [], [], xs, T, T', tmps, h, _, hx, ht => by
    simp only [putPs] at h; cases h
    simp only [RelL] at hx; subst hx
    exact ⟨rfl, by simpa using ht⟩
  | p :: ps, v :: vs, xs, T, T', tmps, h, hps, hx, ht => by
    simp only [putPs] at h
    simp only [RelL] at hx
    obtain ⟨y, ys, hy, hys, rfl⟩ := hx
    have hp : p < N := hps p (by simp)
    have ht' := ht.put (d := some p) hy (fun k hk => by cases hk; exact hp)
    have := putPs_ok (tmps := tmps.setIfInBounds p y) h (fun q hq => hps q (by simp [hq])) hys (by simpa [Tm.put, Act.put] using ht')
    exact ⟨by simp [this.1], by simpa using this.2⟩
  | [], _ :: _, _, _, _, _, h, _, _, _ => by simp [putPs] at h
  | _ :: _, [], _, _, _, _, h, _, _, _ => by simp [putPs] at h

end Go.Wg
