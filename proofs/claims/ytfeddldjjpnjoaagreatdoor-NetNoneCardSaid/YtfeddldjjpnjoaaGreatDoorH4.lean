/- A region whose order is open: the whole of it. -/
import Derived.Test.YtfeddldjjpnjoaaGreatDoorH3
namespace Go.Wg
variable {P : Program} {w : World}
section
variable {N : Nat} {ops : Array Oper} {l : List DOp} {call : CallF} {Q : Exit → Act → World → Prop} {ro : Option Nat}

theorem RowRel.heap {ρ : Rho} {cells : List V} {sk : Bool} {L : Loc} {w w' : World} (h : RowRel ρ cells sk L w) (e : w'.heap = w.heap) : RowRel ρ cells sk L w' := by
  obtain ⟨c, t, fz, h1, h2⟩ := h
  exact ⟨c, t, fz, by rw [e]; exact h1, h2⟩

theorem Sat.heap {ρ : Rho} {g : Get} {w w' : World} (h : Sat ρ g w) (e : w'.heap = w.heap) : Sat ρ g w' :=
  ⟨fun o ob ho => by
    obtain ⟨L, hL, hr⟩ := h.obj o ob ho
    exact ⟨L, hL, hr.mono (fun _ _ h => h) (by rw [e])⟩, h.apart⟩

theorem Post.heap {ρ : Rho} {s : St} {w w' : World} (h : Sat ρ s.get w) (e : w'.heap = w.heap) (e1 : w'.os = w.os) (e2 : w'.output = w.output) (e3 : w'.tape = w.tape) : Post ρ s w ρ s w' :=
  { ext := fun _ _ h => h, dom := fun _ _ h => .inl h, sat := h.heap e, next := Nat.le_refl _, ver := Nat.le_refl _, alive := fun _ _ h => .inl ⟨_, h⟩,
    size := by rw [e]; exact Nat.le_refl _, os := e1, output := e2, tape := e3, other := fun _ _ _ => by rw [e], kept := fun _ _ h _ => ⟨h, fun _ _ => by rw [e]⟩ }

theorem cnt_set : ∀ (l : List Bool) (i : Nat), l[i]? = some false → (l.filter (fun b => !b)).length = ((l.set i true).filter (fun b => !b)).length + 1
  | [], i, h => by simp at h
  | b :: l, 0, h => by simp at h; subst h; simp
  | b :: l, i + 1, h => by
    simp at h
    have ih := cnt_set l i h
    cases b <;> simp [ih]

theorem dreg_go (hc : CallOk P call) (hst : DStat P N ops l) {S : Nat → St} {Tt : Nat → Tm} {val : Nat → V} {rd : Nat → Option Nat} (ht : Trace S Tt val rd call l) {ρ0 : Rho} {a0 : Act} {w0 : World} (hs0 : Sat ρ0 (S 0).get w0) (hf0 : Fresh ρ0 (S 0) (S l.length))
    (hQ : ∀ ρ a w, Post ρ0 (S 0) w0 ρ (S l.length) w → TRel ρ (Tt l.length) N a → a.defers = a0.defers → Q .normal a w) :
    ∀ (fuel : Nat) (listed : Array Bool) (ρ : Rho) (q : Nat) (sD : St) (a : Act) (w : World), listed.size = ops.size → (listed.toList.filter (fun b => !b)).length ≤ fuel → DInv S Tt val N l ρ0 a0 w0 listed ρ q sD a w →
      wpAnyIn (Fr ro) 0 P .any ops Q fuel listed a w := by
  -- where none is ready all is done
  have done : ∀ (listed : Array Bool) (ρ : Rho) (q : Nat) (sD : St) (a : Act) (w : World), listed.size = ops.size → Region.ready .any ops listed = [] → DInv S Tt val N l ρ0 a0 w0 listed ρ q sD a w → Q .normal a w := by
    intro listed ρ q sD a w hsz hr hi
    have all : ∀ k, k < l.length → DoneAt l listed k := by
      intro k
      induction k using Nat.strongRecOn with
      | _ k ih =>
        intro hk
        have hd : l[k]? = some l[k] := List.getElem?_eq_getElem hk
        apply Classical.byContradiction
        intro hnd
        obtain ⟨o, ho, _⟩ := hst.op k _ hd
        have hlt : l[k].idx < ops.size := (Array.getElem?_eq_some_iff.1 ho).1
        have : l[k].idx ∈ Region.ready .any ops listed := by
          rw [mem_ready]
          refine ⟨?_, o, ho, fun e he hb => ?_⟩
          · have hls : l[k].idx < listed.size := by omega
            have hf : ¬ (listed.getD l[k].idx false = true) := fun h => hnd ⟨_, hd, h⟩
            simp [hls] at hf ⊢; exact hf
          · obtain ⟨p, d', hp, hx, hlt'⟩ := hst.edge k _ o hd ho e he hb
            obtain ⟨d'', hd'', h⟩ := ih p hlt' (by omega)
            rw [hp] at hd''; cases hd''
            rw [← hx]; exact h
        rw [hr] at this
        cases this
    -- the memory is the last one
    have hlate : ∀ o ob, (S l.length).get o = some ob → sD.get o = some ob := by
      intro o ob h
      have hno : ∀ (j : Nat) (d : DOp), q ≤ j → j < l.length → l[j]? = some d → d.e.i.kd ≠ .heavy := by
        intro j d h1 h2 h3 h4
        have := (hi.hq j d h3 h4).1 (all j h2)
        omega
      rcases ht.mid hs0 hf0 q l.length hi.qle (Nat.le_refl _) hno o ob h with h1 | ⟨j, d, h1, h2, h3, h4, h5, h6⟩
      · exact hi.sub o ob h1
      · rw [h6]; exact (hi.late j d ob h3 h4 h1 (all j h2) h5).2
    have hp := hi.post
    have hm := ht.monoTo l.length 0 (Nat.zero_le _) (Nat.le_refl _)
    refine hQ ρ a w ?_ ?_ hi.adf
    · exact { ext := hp.ext, dom := fun i L h => by rw [← hi.next]; exact hp.dom i L h, sat := hp.sat.sub hlate, next := hm.next, ver := hm.ver, alive := fun o ob h => by rw [← hi.next]; exact hp.alive o ob (hlate o ob h),
              size := hp.size, os := hp.os, output := hp.output, tape := hp.tape, other := hp.other, kept := fun o ob h hv => hp.kept o ob (hlate o ob h) hv }
    · refine ⟨hi.asz, fun t v h => ?_⟩
      rcases trace_tm ht l.length (Nat.le_refl _) t v h with ⟨p, d, h1, h2, h3, rfl⟩ | ⟨h1, h2⟩
      · exact hi.tm1 p d h2 (all p h1) t h3
      · exact hi.tm0 t v h2 fun k d hk _ => h1 k d (List.getElem?_eq_some_iff.1 hk).1 hk
  intro fuel
  induction fuel with
  | zero =>
    intro listed ρ q sD a w hsz hcnt hi
    have hr : Region.ready .any ops listed = [] := by
      cases hrr : Region.ready .any ops listed with
      | nil => rfl
      | cons i r =>
        have : i ∈ Region.ready .any ops listed := by rw [hrr]; simp
        rw [mem_ready] at this
        obtain ⟨h0, o, ho, _⟩ := this
        have hlt : i < ops.size := (Array.getElem?_eq_some_iff.1 ho).1
        have hls : i < listed.size := by omega
        have : listed.toList[i]? = some false := by simp [hls] at h0 ⊢; exact h0
        have := cnt_set _ i this
        omega
    exact ⟨hr, done listed ρ q sD a w hsz hr hi⟩
  | succ fuel ih =>
    intro listed ρ q sD a w hsz hcnt hi
    refine ⟨fun hr => done listed ρ q sD a w hsz hr hi, fun i hr => ?_⟩
    refine wpOpIn_mono ?_ (DInv.step (ro := ro) (Q := Q) hc hst ht hs0 hf0 hi hr)
    rintro a' w' ⟨ρ', q', sD', hi'⟩
    refine ih _ ρ' q' sD' a' w' (by simpa using hsz) ?_ hi'
    rw [mem_ready] at hr
    obtain ⟨h0, o, ho, _⟩ := hr
    have hlt : i < ops.size := (Array.getElem?_eq_some_iff.1 ho).1
    have hls : i < listed.size := by omega
    have : listed.toList[i]? = some false := by simp [hls] at h0 ⊢; exact h0
    have := cnt_set _ i this
    simp only [Array.toList_setIfInBounds]
    omega

/-- A region whose order is open. -/
theorem dreg_ok (hc : CallOk P call) (hm : P.follows .mixedOrders = true) (hst : DStat P N ops l) {T T' : Tm} {s s' : St} (hv : evD call l T s [] [] = some (T', s')) {id : Nat} : Mono s s' ∧ ∀ (ρ : Rho) (a : Act) (w : World),
    Sat ρ s.get w → TRel ρ T N a → Fresh ρ s s' → (∀ ρ' a' w', Post ρ s w ρ' s' w' → TRel ρ' T' N a' → a'.defers = a.defers → Q .normal a' w') → (Code.region id ops true).wpIn (Fr ro) 0 P Q a w := by
  obtain ⟨S, Tt, val, rd, rfl, rfl, rfl, rfl, hk⟩ := evD_trace hc l T T' s s' [] [] hv
  have ht : Trace S Tt val rd call l := ⟨hk⟩
  refine ⟨ht.monoTo l.length 0 (Nat.zero_le _) (Nat.le_refl _), fun ρ a w hs htr hf hQ => ?_⟩
  refine wpIn_region_any hm ?_
  have hp0 : Post ρ (S 0) w ρ (S 0) { w with drawn := w.drawn + 1 } := Post.heap hs rfl rfl rfl rfl
  have nd : ∀ k, ¬ DoneAt l (Array.replicate ops.size false) k := by
    rintro k ⟨d, hd, h⟩
    by_cases hlt : d.idx < ops.size <;> simp [hlt] at h
  refine dreg_go (a0 := a) hc hst ht hp0.sat hf ?_ ops.size (Array.replicate ops.size false) ρ 0 ⟨(S 0).h, (S l.length).next, (S l.length).ver⟩ a _ (by simp) ?_ ?_
  · intro ρ' a' w' hp htr' hd
    exact hQ ρ' a' w' (hp0.trans (fun i h1 h2 => by omega) hp) htr' hd
  · simp
  · have hmm := ht.monoTo l.length 0 (Nat.zero_le _) (Nat.le_refl _)
    exact {
      asz := htr.size, adf := rfl, cl := fun k d _ h => absurd h (nd k), qle := Nat.zero_le _
      hq := fun k d _ _ => ⟨fun h => absurd h (nd k), fun h => by omega⟩
      aq := fun k d _ _ h => by omega
      sub := fun o ob h => h
      late := fun k d ob _ _ _ h => absurd h (nd k)
      only := fun o ob h => .inl h
      next := rfl
      post := { ext := fun _ _ h => h, dom := fun _ _ h => .inl h, sat := hp0.sat, next := hmm.next, ver := hmm.ver, alive := fun _ _ h => .inl ⟨_, h⟩, size := Nat.le_refl _, os := rfl, output := rfl, tape := rfl, other := fun _ _ _ => rfl, kept := fun _ _ h _ => ⟨h, fun _ _ => rfl⟩ }
      rng := fun i L h => .inl h
      tm1 := fun k d _ h => absurd h (nd k)
      tm0 := fun t v h _ => htr.tmp t v h }

end
end Go.Wg
