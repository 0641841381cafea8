/- What makes new objects and what writes into old ones, in general. -/
import Derived.Test.YtfeddldjjpnjoaaGreatDoorB6
import Derived.Laws.AppendOwn
namespace Go.Wg
variable {P : Program} {ρ : Rho} {g : Get} {w : World}

namespace Tr
variable {α : Type}
theorem get_lt {d : Nat} {t : Tr d α} {k : Nat} {v : α} (h : t.get k = some v) : k < 8 ^ d := get_lt' h

theorem get_set_none {d : Nat} (t : Tr d α) (k j : Nat) : (t.set k none).get j = if j = k then none else t.get j := by
  by_cases hk : k < 8 ^ d
  · exact get_set t k j none hk
  · by_cases e : j = k
    · subst e
      simp only [if_true]
      cases h : (t.set j none).get j with
      | none => rfl
      | some v => exact absurd (get_lt h) hk
    · simp [e, get_set_ne t none (Ne.symm e)]
end Tr

/-- A new object. -/
def St.push (s : St) (ob : Ob) : St := ⟨s.h.set s.next (some ob), s.next + 1, s.ver + 1⟩

def Rho.upd (ρ : Rho) (n : Nat) (L : Loc) : Rho := fun i => if i = n then some L else ρ i

theorem Rho.le_upd {n : Nat} {L : Loc} (h : ρ n = none) : Rho.le ρ (ρ.upd n L) := by
  intro i L' hi
  unfold Rho.upd
  split
  · rename_i e; subst e; rw [h] at hi; cases hi
  · exact hi

theorem push_post {s : St} (hs : Sat ρ s.get w) (hfr : ρ s.next = none) (hlim : s.next < Tr.lim) {O : Obj} {n : Nat} {w' : World} {ob : Ob} (hh : w'.heap = w.heap.push O) (ho : w'.os = w.os) (hou : w'.output = w.output) (hta : w'.tape = w.tape)
    (hob : ObRel (ρ.upd s.next ⟨w.heap.size, 0, n⟩) ob ⟨w.heap.size, 0, n⟩ w') (hv : ob.ver = s.ver) (hp : ob.partner = none) : Post ρ s w (ρ.upd s.next ⟨w.heap.size, 0, n⟩) (s.push ob) w' := by
  have hle := Rho.le_upd (L := ⟨w.heap.size, 0, n⟩) hfr
  have hnone : s.get s.next = none := by
    cases h : s.get s.next with
    | none => rfl
    | some ob => obtain ⟨L, hL, _⟩ := hs.obj _ _ h; rw [hfr] at hL; cases hL
  have hold : ∀ b, b < w.heap.size → w'.heap[b]? = w.heap[b]? := by
    intro b hb
    rw [hh]; simp [Array.getElem?_push, Nat.ne_of_lt hb]
  have hget : ∀ o, (s.push ob).get o = if o = s.next then some ob else s.get o := fun o => Tr.get_set s.h s.next o (some ob) hlim
  have hupd : (ρ.upd s.next ⟨w.heap.size, 0, n⟩) s.next = some ⟨w.heap.size, 0, n⟩ := by simp [Rho.upd]
  refine { ext := hle, dom := ?_, sat := ⟨?_, ?_⟩, next := Nat.le_succ _, ver := Nat.le_succ _, alive := ?_, size := ?_, os := ho, output := hou, tape := hta, other := fun b hb _ => hold b hb, kept := ?_ }
  · intro i L hi
    unfold Rho.upd at hi
    split at hi
    · rename_i e; subst e; cases hi
      exact .inr ⟨Nat.le_refl _, Nat.lt_succ_self _, .inl (Nat.le_refl _)⟩
    · exact .inl hi
  · intro o ob' h
    rw [hget] at h
    split at h
    · rename_i e; subst e; cases h
      exact ⟨_, hupd, hob⟩
    · obtain ⟨L, hL, hr⟩ := hs.obj o ob' h
      exact ⟨L, hle _ _ hL, hr.mono hle (hold _ hr.lt)⟩
  · intro o1 o2 b1 b2 L1 L2 h1 h2 hL1 hL2 hne hpp
    rw [hget] at h1 h2
    have blk : ∀ o ob' L, s.get o = some ob' → (ρ.upd s.next ⟨w.heap.size, 0, n⟩) o = some L → L.blk < w.heap.size := by
      intro o ob' L h hL
      obtain ⟨L', hL', hr⟩ := hs.obj o ob' h
      rw [hle _ _ hL'] at hL; cases hL
      exact hr.lt
    split at h1
    · rename_i e1; subst e1
      split at h2
      · rename_i e2; exact absurd e2.symm hne
      · rw [hupd] at hL1; cases hL1
        have := blk _ _ _ h2 hL2
        simp; omega
    · split at h2
      · rename_i e2; subst e2
        rw [hupd] at hL2; cases hL2
        have := blk _ _ _ h1 hL1
        simp; omega
      · obtain ⟨M1, hM1, _⟩ := hs.obj _ _ h1
        obtain ⟨M2, hM2, _⟩ := hs.obj _ _ h2
        rw [hle _ _ hM1] at hL1; cases hL1
        rw [hle _ _ hM2] at hL2; cases hL2
        exact hs.apart o1 o2 b1 b2 _ _ h1 h2 hM1 hM2 hne hpp
  · intro o ob' h
    rw [hget] at h
    split at h
    · rename_i e; subst e; exact .inr ⟨Nat.le_refl _, Nat.lt_succ_self _⟩
    · exact .inl ⟨_, h⟩
  · rw [hh]; simp
  · intro o ob' h hlt
    rw [hget] at h
    split at h
    · cases h; omega
    · obtain ⟨L, hL, hr⟩ := hs.obj o ob' h
      exact ⟨h, fun L' hL' => by rw [hL] at hL'; cases hL'; exact hold _ hr.lt⟩

/-- Whoever may lie where an object lies is forgotten. -/
def St.lose (s : St) (pa : Option Nat) : Tr 7 Ob :=
  match pa with
  | some q => s.h.set q none
  | none => s.h

/-- An object written. -/
def St.write (s : St) (o : Nat) (ob : Ob) (pa : Option Nat) : St := ⟨(s.lose pa).set o (some ob), s.next, s.ver + 1⟩

theorem St.lose_get (s : St) (pa : Option Nat) (j : Nat) : (s.lose pa).get j = if pa = some j then none else s.get j := by
  cases pa with
  | none => simp [St.lose]
  | some q =>
    simp only [St.lose, Tr.get_set_none]
    by_cases e : j = q
    · subst e; simp
    · have : ¬ q = j := fun h => e h.symm
      simp [e, this]

theorem St.write_get {s : St} {o : Nat} {ob0 : Ob} (h : s.get o = some ob0) (ob : Ob) (pa : Option Nat) (j : Nat) : (s.write o ob pa).get j = if j = o then some ob else if pa = some j then none else s.get j := by
  have hlt := Tr.get_lt h
  show ((s.lose pa).set o (some ob)).get j = _
  rw [Tr.get_set _ _ _ _ hlt]
  split
  · rfl
  · exact s.lose_get pa j

theorem write_post {s : St} (hs : Sat ρ s.get w) {o : Nat} {ob0 ob : Ob} {L : Loc} (ho : s.get o = some ob0) (hL : ρ o = some L) {w' : World} (hob : ObRel ρ ob L w') (hv : ob.ver = s.ver) (hp : ob.partner = none)
    (hoth : ∀ b, b ≠ L.blk → w'.heap[b]? = w.heap[b]?) (hsz : w'.heap.size = w.heap.size) (hos : w'.os = w.os) (hou : w'.output = w.output) (hta : w'.tape = w.tape) :
    Post ρ s w ρ (s.write o ob ob0.partner) w' := by
  have hget := fun j => St.write_get ho ob ob0.partner j
  have apart' : ∀ j ob', s.get j = some ob' → ob0.partner ≠ some j → j ≠ o → ∀ L', ρ j = some L' → L'.blk ≠ L.blk := by
    intro j ob' hj hpj hne L' hL'
    exact hs.apart j o ob' ob0 L' L hj ho hL' hL hne (fun h => hpj h.2)
  have sub : ∀ j ob', (s.write o ob ob0.partner).get j = some ob' → j ≠ o → s.get j = some ob' ∧ ob0.partner ≠ some j := by
    intro j ob' h hne
    rw [hget, if_neg hne] at h
    split at h
    · cases h
    · rename_i e; exact ⟨h, e⟩
  refine { ext := fun _ _ h => h, dom := fun _ _ h => .inl h, sat := ⟨?_, ?_⟩, next := Nat.le_refl _, ver := Nat.le_succ _, alive := ?_, size := by omega, os := hos, output := hou, tape := hta, other := ?_, kept := ?_ }
  · intro j ob' h
    by_cases e : j = o
    · subst e
      rw [hget, if_pos rfl] at h; cases h
      exact ⟨L, hL, hob⟩
    · obtain ⟨h1, h2⟩ := sub j ob' h e
      obtain ⟨L', hL', hr⟩ := hs.obj j ob' h1
      exact ⟨L', hL', hr.mono (fun _ _ h => h) (hoth _ (apart' j ob' h1 h2 e L' hL'))⟩
  · intro o1 o2 b1 b2 L1 L2 h1 h2 hL1 hL2 hne hpp
    by_cases e1 : o1 = o
    · subst e1
      rw [hL] at hL1; cases hL1
      obtain ⟨h3, h4⟩ := sub o2 b2 h2 (fun e => hne e.symm)
      exact (apart' o2 b2 h3 h4 (fun e => hne e.symm) L2 hL2).symm
    · obtain ⟨h3, h4⟩ := sub o1 b1 h1 e1
      by_cases e2 : o2 = o
      · subst e2
        rw [hL] at hL2; cases hL2
        exact apart' o1 b1 h3 h4 e1 L1 hL1
      · obtain ⟨h5, h6⟩ := sub o2 b2 h2 e2
        exact hs.apart o1 o2 b1 b2 L1 L2 h3 h5 hL1 hL2 hne hpp
  · intro j ob' h
    by_cases e : j = o
    · subst e; exact .inl ⟨_, ho⟩
    · exact .inl ⟨_, (sub j ob' h e).1⟩
  · intro b hb hno
    exact hoth b (fun e => hno o ob0 L ho hL e.symm)
  · intro j ob' h hlt
    by_cases e : j = o
    · subst e
      rw [hget, if_pos rfl] at h; cases h
      omega
    · obtain ⟨h1, h2⟩ := sub j ob' h e
      exact ⟨h1, fun L' hL' => hoth _ (apart' j ob' h1 h2 e L' hL')⟩

/-- Cells written one by one into a row. -/
theorem run_store_row (b o : Nat) (t : TypeId) (fz : Nat × Nat) : ∀ (vs : List Value) (i : Nat) (cur : Array Value) (w : World), w.heap[b]? = some (.cells cur t fz) → o + i + vs.length ≤ cur.size → (∀ v ∈ vs, v.oneCell' = true) →
    (∀ j, j < cur.size → ¬ (fz.1 ≤ j ∧ j < fz.2)) →
    (storeCells ⟨b, o, none⟩ vs i).run P w = .ok () (w.setRow b (cur.toList.take (o + i) ++ (vs ++ cur.toList.drop (o + i + vs.length))).toArray)
  | [], i, cur, w, hg, _, _, _ => by
    simp only [storeCells, List.nil_append, List.length_nil, Nat.add_zero, List.take_append_drop, Array.toArray_toList]
    rw [setRow_self w b cur t fz hg]
    rfl
  | v :: rest, i, cur, w, hg, hl, h1, hf => by
    have hi : o + i < cur.size := by simp at hl; omega
    have hcell : w.cell? ⟨b, o + i, none⟩ = some cur[o + i] := by simp [World.cell?, hg, hi]
    have hfro : w.frozen? ⟨b, o + i, none⟩ = false := by
      have := hf (o + i) hi
      simp only [World.frozen?, hg]
      simpa using this
    have hst : (store ((⟨b, o, none⟩ : Addr).add i) v).run P w = .ok () (w.setRow b (cur.setIfInBounds (o + i) v)) := by
      rw [add_lit, run_store P w _ v _ (h1 v (by simp)), hcell]
      simp [hfro, setCell_eq_setRow w b (o + i) cur t fz v hg]
    have ih := run_store_row b o t fz rest (i + 1) (cur.setIfInBounds (o + i) v) (w.setRow b (cur.setIfInBounds (o + i) v)) (setRow_heap w b cur _ t _ hg) (by simp at hl ⊢; omega) (fun x hx => h1 x (by simp [hx])) (by simpa using hf)
    simp only [storeCells, Sem.run_bind, hst, Result.andThen_ok, ih, setRow_setRow]
    congr 3
    simp only [Array.toList_setIfInBounds, List.length_cons]
    apply List.ext_getElem?
    intro j
    have h2 : min (o + (i + 1)) cur.size = o + i + 1 := by omega
    have h3 : min (o + i) cur.size = o + i := by omega
    simp only [List.getElem?_append, List.getElem?_take, List.length_take, List.getElem?_drop, List.length_set, List.getElem?_set, List.length_cons, Array.length_toList, h2, h3]
    by_cases ha : j < o + i
    · have hb : j < o + i + 1 := by omega
      have hc : j < o + (i + 1) := by omega
      have hd : ¬ o + i = j := by omega
      simp [ha, hb, hc, hd]
    · by_cases hb : j = o + i
      · subst hb
        have hc : o + i < o + (i + 1) := by omega
        simp [hc, hi]
      · have hc : ¬ j < o + i + 1 := by omega
        obtain ⟨m, rfl⟩ : ∃ m, j = o + i + 1 + m := ⟨j - (o + i + 1), by omega⟩
        have e1 : o + i + 1 + m - (o + i + 1) = m := by omega
        have e2 : o + i + 1 + m - (o + i) = m + 1 := by omega
        simp only [ha, hc, if_false, e1, e2, List.getElem?_cons_succ]
        by_cases hm : m < rest.length
        · have : m + 1 < rest.length + 1 := by omega
          simp [hm, this]
        · have hm' : ¬ m + 1 < rest.length + 1 := by omega
          simp only [hm, hm', if_false]
          have e3 : o + (i + 1) + rest.length + (m - rest.length) = o + i + (rest.length + 1) + (m + 1 - (rest.length + 1)) := by omega
          have e4 : ¬ o + i = o + i + (rest.length + 1) + (m + 1 - (rest.length + 1)) := by omega
          rw [e3, if_neg e4]

theorem RelL.mem_flat {l : List V} {cs : List Value} (h : RelL ρ l cs) (hf : l.all V.flat = true) : ∀ y ∈ cs, y.oneCell' = true := by
  intro y hy
  obtain ⟨j, hj⟩ := List.getElem?_of_mem hy
  have hlt : j < l.length := by
    rw [← h.length]
    exact (List.getElem?_eq_some_iff.1 hj).1
  obtain ⟨x, hx, hr⟩ := h.get j l[j] (List.getElem?_eq_getElem hlt)
  rw [hj] at hx; cases hx
  have := List.all_eq_true.1 hf l[j] (List.getElem_mem hlt)
  obtain ⟨h1, h2⟩ := hr.flat this
  cases y <;> first | rfl | exact absurd rfl (h1 _) | exact absurd rfl (h2 _)

theorem splice_length (l : List V) (off : Nat) (vs : List V) (h : off ≤ l.length) : (splice l off vs).length = max l.length (off + vs.length) := by
  unfold splice
  simp
  omega

theorem RowRel.write {cells vs : List V} {sk : Bool} {L : Loc} (h : RowRel ρ cells sk L w) {ys : List Value} (hv : RelL ρ vs ys) {off : Nat} (hoff : off ≤ cells.length) (hsz : off + vs.length ≤ L.size) (hfl : vs.all V.flat = true) :
    ∃ w', (storeCells ⟨L.blk, L.base + off, none⟩ ys).run P w = .ok () w' ∧ RowRel ρ (splice cells off vs) sk L w' ∧ (∀ b, b ≠ L.blk → w'.heap[b]? = w.heap[b]?) ∧ w'.heap.size = w.heap.size ∧
      w'.os = w.os ∧ w'.output = w.output ∧ w'.tape = w.tape := by
  obtain ⟨c, e, fz, h1, h2, h3, h4, h5, h6⟩ := h
  have hyl := hv.length
  have hrun := run_store_row (P := P) L.blk (L.base + off) e fz ys 0 c w h1 (by omega) (hv.mem_flat hfl) h5
  simp only [Nat.add_zero] at hrun
  refine ⟨_, hrun, ?_, fun b hb => setRow_other w L.blk b _ hb, by simp, rfl, rfl, rfl⟩
  refine ⟨_, e, fz, setRow_heap w L.blk c _ e fz h1, ?_, ?_, ?_, ?_, ?_⟩
  · simp; omega
  · rw [splice_length _ _ _ hoff]; omega
  · intro hsk
    rw [splice_length _ _ _ hoff, h4 hsk]
    have := h4 hsk
    omega
  · intro j hj
    refine h5 j ?_
    simp at hj
    omega
  · intro j v hj
    unfold splice at hj
    simp only [List.getElem?_toArray]
    by_cases ha : j < off
    · rw [List.getElem?_append_left (by simp; omega), List.getElem?_take, if_pos ha] at hj
      obtain ⟨x, hx, hr⟩ := h6 j v hj
      refine ⟨x, ?_, hr⟩
      rw [List.getElem?_append_left (by simp; omega), List.getElem?_take, if_pos (by omega)]
      simpa using hx
    · obtain ⟨m, rfl⟩ : ∃ m, j = off + m := ⟨j - off, by omega⟩
      have hmin : min off cells.length = off := by omega
      have hmin' : min (L.base + off) c.size = L.base + off := by omega
      rw [List.getElem?_append_right (by simp; omega)] at hj
      simp only [List.length_take, hmin, Nat.add_sub_cancel_left] at hj
      rw [List.getElem?_append_right (by simp; omega)]
      simp only [List.length_take, Array.length_toList, hmin']
      rw [show L.base + (off + m) - (L.base + off) = m by omega]
      by_cases hb : m < vs.length
      · rw [List.getElem?_append_left hb] at hj
        rw [List.getElem?_append_left (by omega)]
        exact hv.get m v hj
      · rw [List.getElem?_append_right (by omega), List.getElem?_drop] at hj
        rw [List.getElem?_append_right (by omega), List.getElem?_drop]
        obtain ⟨x, hx, hr⟩ := h6 _ v hj
        refine ⟨x, ?_, hr⟩
        rw [hyl]
        rw [show L.base + off + vs.length + (m - vs.length) = L.base + (off + vs.length + (m - vs.length)) by omega]
        simpa using hx

end Go.Wg
