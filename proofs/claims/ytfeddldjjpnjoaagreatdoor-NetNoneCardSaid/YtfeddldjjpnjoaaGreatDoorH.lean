/- A region whose order is open: whatever the order, what it comes to is what the text's own order comes to. -/
import Derived.Test.YtfeddldjjpnjoaaGreatDoorG
namespace Go.Wg
variable {P : Program} {w : World}

/-- A run on a part of memory, seen from all of it. -/
theorem Post.comp {ρ0 ρ ρ' : Rho} {s0 sD s1 s1' sD' : St} {w0 w w' : World} (h : Post ρ0 s0 w0 ρ sD w) (h' : Post ρ s1 w ρ' s1' w') (hf0 : Fresh ρ0 s0 sD) (hf1 : Fresh ρ s1 s1')
    (hsub : ∀ o ob, s1.get o = some ob → sD.get o = some ob) (hge : s0.next ≤ s1.next) (hle : s1'.next ≤ sD.next) (hv : s0.ver ≤ s1.ver) (hn : sD'.next = sD.next) (hve : s0.ver ≤ sD'.ver)
    (hup : ∀ o ob, sD'.get o = some ob → s1'.get o = some ob ∨ (sD.get o = some ob ∧ s1.get o = none ∧ ob.partner = none)) : Post ρ0 s0 w0 ρ' sD' w' := by
  have old : ∀ o ob L, sD.get o = some ob → ρ o = some L → w0.heap.size ≤ L.blk ∨ ∃ o0 ob0 L0, s0.get o0 = some ob0 ∧ ρ0 o0 = some L0 ∧ L0.blk = L.blk := by
    intro o ob L ho hL
    rcases h.dom o L hL with h1 | ⟨_, _, h2⟩
    · rcases h.alive o ob ho with ⟨ob0, h3⟩ | ⟨h3, h4⟩
      · exact .inr ⟨o, ob0, L, h3, h1, rfl⟩
      · rw [hf0 o h3 h4] at h1; cases h1
    · exact h2
  -- what is not touched lies apart from what the run may touch
  have away : ∀ o ob L, sD.get o = some ob → s1.get o = none → ob.partner = none → ρ o = some L → (∀ o3 ob3 L3, s1.get o3 = some ob3 → ρ o3 = some L3 → L3.blk ≠ L.blk) ∧ L.blk < w.heap.size := by
    intro o ob L ho h1 hp hL
    refine ⟨fun o3 ob3 L3 h3 hL3 e => ?_, ?_⟩
    · have hne : o3 ≠ o := fun e => by subst e; rw [h1] at h3; cases h3
      refine h.sat.apart o3 o ob3 ob L3 L (hsub _ _ h3) ho hL3 hL hne (fun hh => ?_) e
      rw [hp] at hh; cases hh.2
    · obtain ⟨L', hL', hr⟩ := h.sat.obj o ob ho
      rw [hL] at hL'; cases hL'
      exact hr.lt
  refine { ext := fun i L hi => h'.ext i L (h.ext i L hi), dom := ?_, sat := ⟨?_, ?_⟩, next := by rw [hn]; exact h.next, ver := hve, alive := ?_,
           size := Nat.le_trans h.size h'.size, os := h'.os.trans h.os, output := h'.output.trans h.output, tape := h'.tape.trans h.tape, other := ?_, kept := ?_ }
  · intro i L hi
    rcases h'.dom i L hi with h1 | ⟨h1, h2, h3⟩
    · rcases h.dom i L h1 with h4 | ⟨h4, h5, h6⟩
      · exact .inl h4
      · exact .inr ⟨h4, by omega, h6⟩
    · refine .inr ⟨by omega, by omega, ?_⟩
      rcases h3 with h3 | ⟨o, ob, L0, h4, h5, h6⟩
      · exact .inl (Nat.le_trans h.size h3)
      · rw [← h6]; exact old o ob L0 (hsub _ _ h4) h5
  · intro o ob ho
    rcases hup o ob ho with h1 | ⟨h1, h2, h3⟩
    · exact h'.sat.obj o ob h1
    · obtain ⟨L, hL, hr⟩ := h.sat.obj o ob h1
      obtain ⟨h4, h5⟩ := away o ob L h1 h2 h3 hL
      exact ⟨L, h'.ext _ _ hL, hr.mono h'.ext (h'.other _ h5 h4)⟩
  · intro o1 o2 b1 b2 L1 L2 g1 g2 hL1 hL2 hne hpp
    -- one that was not touched, and one that the run left
    have mixed : ∀ o o' ob ob' L L', (sD.get o = some ob ∧ s1.get o = none ∧ ob.partner = none) → s1'.get o' = some ob' → ρ' o = some L → ρ' o' = some L' → L'.blk ≠ L.blk := by
      rintro o o' ob ob' L L' ⟨h1, h2, h3⟩ h4 hL hL'
      obtain ⟨M, hM, hr⟩ := h.sat.obj o ob h1
      have := h'.ext _ _ hM; rw [hL] at this; cases this
      obtain ⟨h5, h6⟩ := away o ob L h1 h2 h3 hM
      rcases h'.dom o' L' hL' with h7 | ⟨_, _, h8⟩
      · rcases h'.alive o' ob' h4 with ⟨ob0, h9⟩ | ⟨h9, h10⟩
        · exact h5 o' ob0 L' h9 h7
        · rw [hf1 o' h9 h10] at h7; cases h7
      · rcases h8 with h8 | ⟨o3, ob3, L3, h9, h10, h11⟩
        · omega
        · rw [← h11]; exact h5 o3 ob3 L3 h9 h10
    rcases hup o1 b1 g1 with h1 | h1
    · rcases hup o2 b2 g2 with h2 | h2
      · exact h'.sat.apart o1 o2 b1 b2 L1 L2 h1 h2 hL1 hL2 hne hpp
      · exact mixed o2 o1 b2 b1 L2 L1 h2 h1 hL2 hL1
    · rcases hup o2 b2 g2 with h2 | h2
      · exact (mixed o1 o2 b1 b2 L1 L2 h1 h2 hL1 hL2).symm
      · obtain ⟨M1, hM1, _⟩ := h.sat.obj _ _ h1.1
        obtain ⟨M2, hM2, _⟩ := h.sat.obj _ _ h2.1
        have e1 := h'.ext _ _ hM1; rw [hL1] at e1; cases e1
        have e2 := h'.ext _ _ hM2; rw [hL2] at e2; cases e2
        exact h.sat.apart o1 o2 b1 b2 L1 L2 h1.1 h2.1 hM1 hM2 hne hpp
  · intro o ob ho
    have fin : ∀ ob1, sD.get o = some ob1 → (∃ ob0, s0.get o = some ob0) ∨ (s0.next ≤ o ∧ o < sD'.next) := by
      intro ob1 h1
      rcases h.alive o ob1 h1 with h2 | ⟨h2, h3⟩
      · exact .inl h2
      · exact .inr ⟨h2, by omega⟩
    rcases hup o ob ho with h1 | ⟨h1, _, _⟩
    · rcases h'.alive o ob h1 with ⟨ob0, h2⟩ | ⟨h2, h3⟩
      · exact fin _ (hsub _ _ h2)
      · exact .inr ⟨by omega, by omega⟩
    · exact fin _ h1
  · intro b hb hno
    rw [h'.other b (Nat.lt_of_lt_of_le hb h.size) ?_, h.other b hb hno]
    intro o ob L ho hL hLb
    rcases old o ob L (hsub _ _ ho) hL with h1 | ⟨o0, ob0, L0, h1, h2, h3⟩
    · omega
    · exact hno o0 ob0 L0 h1 h2 (h3.trans hLb)
  · intro o ob ho hlt
    rcases hup o ob ho with h1 | ⟨h1, h2, h3⟩
    · obtain ⟨h4, h5⟩ := h'.kept o ob h1 (Nat.lt_of_lt_of_le hlt hv)
      obtain ⟨h6, h7⟩ := h.kept o ob (hsub _ _ h4) hlt
      exact ⟨h6, fun L hL => (h5 L (h.ext _ _ hL)).trans (h7 L hL)⟩
    · obtain ⟨h6, h7⟩ := h.kept o ob h1 hlt
      refine ⟨h6, fun L hL => ?_⟩
      have hL' := h.ext _ _ hL
      obtain ⟨h8, h9⟩ := away o ob L h1 h2 h3 hL'
      exact (h'.other _ h9 h8).trans (h7 L hL)

/-- A tree with some places filled from elsewhere. -/
theorem Tr.patch {α : Type} (base : Tr 7 α) (f : Nat → Option α) : ∀ (L : List Nat), (∀ x ∈ L, x < Tr.lim) → ∃ h : Tr 7 α, ∀ o, h.get o = if o ∈ L then f o else base.get o
  | [], _ => ⟨base, fun o => by simp⟩
  | x :: L, hL => by
    obtain ⟨h, hh⟩ := Tr.patch base f L (fun y hy => hL y (by simp [hy]))
    refine ⟨h.set x (f x), fun o => ?_⟩
    rw [Tr.get_set _ _ _ _ (hL x (by simp)), hh]
    by_cases e : o = x
    · subst e; simp
    · simp [e]

/-- How an operation stands to memory. -/
inductive Kd where
  | quiet | alloc | heavy
  deriving DecidableEq

def I.kd : I → Kd
  | .q _ => .quiet
  | .a _ => .alloc
  | .h _ => .heavy
  | .call _ _ => .heavy

/-- A step of the run in the text's own order. -/
structure StepD (call : CallF) (d : DOp) (T : Tm) (s : St) (v : V) (s' : St) (rd : Option Nat) : Prop where
  mono : Mono s s'
  kind : (want (Tm.only T d.reads) d.e.guard = some false ∧ v = .tup [] ∧ s' = s ∧ rd = none) ∨
    (want (Tm.only T d.reads) d.e.guard = some true ∧
      ((∃ q, d.e.i = .q q ∧ s' = s ∧ evQ (Tm.only T d.reads) (one s.get rd) q = some v) ∨
       (∃ a ob, d.e.i = .a a ∧ rd = none ∧ s' = s.push ob ∧ ob.ver = s.ver ∧ ob.partner = none ∧ s.next < Tr.lim ∧ ∀ hh, evA (Tm.only T d.reads) ⟨hh, s.next, s.ver⟩ a = some (v, St.push ⟨hh, s.next, s.ver⟩ ob)) ∨
       (d.e.i.kd = .heavy ∧ rd = none ∧ evI call (Tm.only T d.reads) s d.e.i = some (v, s'))))

theorem stepD_of {call : CallF} (hc : CallOk P call) {d : DOp} {T : Tm} {s s' : St} {v : V} {rd : Option Nat} (h : evD1 call d T s = some (v, s', rd)) : StepD call d T s v s' rd := by
  unfold evD1 at h
  split at h
  · rename_i hw
    split at h
    · rename_i q hi
      split at h <;> cases h
      rename_i hq
      exact ⟨Mono.refl _, .inr ⟨hw, .inl ⟨q, hi, rfl, hq⟩⟩⟩
    · rename_i a hi
      split at h <;> (try (cases h; done))
      split at h <;> cases h
      rename_i ha
      obtain ⟨h1, ob, h2, h3, h4, h5, h6⟩ := evA_mono ha
      exact ⟨h1, .inr ⟨hw, .inr (.inl ⟨a, ob, hi, rfl, h2, h3, h4, h5, h6⟩)⟩⟩
    · rename_i q hi
      split at h <;> cases h
      rename_i hh
      exact ⟨evH_mono hh, .inr ⟨hw, .inr (.inr ⟨by rw [hi]; rfl, rfl, by rw [hi]; exact hh⟩)⟩⟩
    · rename_i f args hi
      split at h <;> cases h
      rename_i hh
      exact ⟨evI_mono (i := .call f args) hc hh, .inr ⟨hw, .inr (.inr ⟨by rw [hi]; rfl, rfl, by rw [hi]; exact hh⟩)⟩⟩
  · rename_i hw
    cases h
    exact ⟨Mono.refl _, .inl ⟨hw, rfl, rfl, rfl⟩⟩
  · cases h

def back {α : Type} (f : Nat → α) : Nat → List α → List α
  | 0, b => b
  | k + 1, b => f k :: back f k b

theorem back_shift {α : Type} (f : Nat → α) : ∀ (k : Nat) (b : List α), back f (k + 1) b = back (fun i => f (i + 1)) k (f 0 :: b)
  | 0, b => rfl
  | k + 1, b => by
    show f (k + 1) :: back f (k + 1) b = _
    rw [back_shift f k b]
    rfl

theorem nth_back {α : Type} (f : Nat → α) : ∀ (k j : Nat) (b : List α), j < k → nth (back f k b) j = some (f (k - 1 - j))
  | 0, j, b, h => by omega
  | k + 1, 0, b, _ => by simp [back, nth]
  | k + 1, j + 1, b, h => by
    simp only [back, nth]
    rw [nth_back f k j b (by omega)]
    congr 2
    omega

theorem evD_trace {call : CallF} (hc : CallOk P call) : ∀ (l : List DOp) (T T' : Tm) (s s' : St) (vs : List Nat) (rs : List (Option Nat)), evD call l T s vs rs = some (T', s') →
    ∃ (S : Nat → St) (Tt : Nat → Tm) (val : Nat → V) (rd : Nat → Option Nat), S 0 = s ∧ Tt 0 = T ∧ S l.length = s' ∧ Tt l.length = T' ∧ ∀ (k : Nat) (d : DOp), l[k]? = some d →
      StepD call d (Tt k) (S k) (val k) (S (k + 1)) (rd k) ∧ chkPre (S k) (rd k) d.pre (back (fun i => (S i).ver) k vs) = true ∧ chkPost (S (k + 1)) (S k).ver (back rd k rs) d.post = true ∧ Tt (k + 1) = Tm.put (Tt k) d.e.dst (val k)
  | [], T, T', s, s', vs, rs, h => by
    simp only [evD] at h; cases h
    exact ⟨fun _ => s, fun _ => T, fun _ => .nilp, fun _ => none, rfl, rfl, rfl, rfl, fun k d hd => by simp at hd⟩
  | d :: l, T, T', s, s', vs, rs, h => by
    simp only [evD] at h
    split at h <;> (try (cases h; done))
    rename_i v s1 r h1
    split at h <;> (try (cases h; done))
    rename_i h2 h3
    obtain ⟨S, Tt, val, rd, e1, e2, e3, e4, hk⟩ := evD_trace hc l _ T' s1 s' _ _ h
    refine ⟨fun k => match k with
      | 0 => s
      | k + 1 => S k, fun k => match k with
      | 0 => T
      | k + 1 => Tt k, fun k => match k with
      | 0 => v
      | k + 1 => val k, fun k => match k with
      | 0 => r
      | k + 1 => rd k, rfl, rfl, by simpa using e3, by simpa using e4, fun k d' hd => ?_⟩
    cases k with
    | zero =>
      simp at hd; subst hd
      simp only [e1, e2]
      exact ⟨stepD_of hc h1, h2, h3, trivial⟩
    | succ k =>
      have := hk k d' (by simpa using hd)
      rw [back_shift, back_shift]
      exact this

end Go.Wg
