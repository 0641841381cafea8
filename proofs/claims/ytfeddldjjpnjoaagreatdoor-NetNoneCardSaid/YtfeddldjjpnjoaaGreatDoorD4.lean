/- Appends, held against the model's; maps that are written; bytes of a string. -/
import Derived.Test.YtfeddldjjpnjoaaGreatDoorD3
namespace Go.Wg
variable {P : Program} {ρ : Rho} {g : Get} {w : World}

theorem may_post {s : St} (hs : Sat ρ s.get w) {o : Nat} {cells : List V} {pa : Option Nat} {ve : Nat} {L L' : Loc} (ho : s.get o = some (.row cells true pa ve)) (hL : ρ o = some L) (hfr : ρ s.next = none) (hlim : s.next < Tr.lim)
    {w' : World} {c1 c2 : List V} (h1 : RowRel ρ c1 true L w') (h2 : RowRel (ρ.upd s.next L') c2 true L' w')
    (hw : (L'.blk = L.blk ∧ (∀ b, b ≠ L.blk → w'.heap[b]? = w.heap[b]?) ∧ w'.heap.size = w.heap.size) ∨ (L'.blk = w.heap.size ∧ (∀ b, b < w.heap.size → w'.heap[b]? = w.heap[b]?) ∧ w.heap.size ≤ w'.heap.size))
    (hos : w'.os = w.os) (hou : w'.output = w.output) (hta : w'.tape = w.tape) :
    Post ρ s w (ρ.upd s.next L') ⟨((s.lose pa).set o (some (.row c1 true (some s.next) s.ver))).set s.next (some (.row c2 true (some o) s.ver)), s.next + 1, s.ver + 1⟩ w' := by
  have hle := Rho.le_upd (L := L') hfr
  have hnone : ∀ ob, s.get s.next = some ob → False := by
    intro ob h
    obtain ⟨L, hL, _⟩ := hs.obj _ _ h; rw [hfr] at hL; cases hL
  have hne : o ≠ s.next := fun e => by subst e; exact hnone _ ho
  have holt := Tr.get_lt ho
  have hget : ∀ j, (((s.lose pa).set o (some (Ob.row c1 true (some s.next) s.ver))).set s.next (some (.row c2 true (some o) s.ver))).get j =
      if j = s.next then some (.row c2 true (some o) s.ver) else if j = o then some (.row c1 true (some s.next) s.ver) else if pa = some j then none else s.get j := by
    intro j
    rw [Tr.get_set _ _ _ _ hlim, Tr.get_set _ _ _ _ holt, St.lose_get]
  have hupd : (ρ.upd s.next L') s.next = some L' := by simp [Rho.upd]
  have hoL : (ρ.upd s.next L') o = some L := hle _ _ hL
  have hLlt : L.blk < w.heap.size := by
    obtain ⟨M, hM, hr⟩ := hs.obj o _ ho
    rw [hL] at hM; cases hM; exact hr.lt
  have apart' : ∀ j ob', s.get j = some ob' → pa ≠ some j → j ≠ o → ∀ M, ρ j = some M → M.blk ≠ L.blk ∧ M.blk < w.heap.size := by
    intro j ob' hj hpj hne M hM
    refine ⟨hs.apart j o ob' _ M L hj ho hM hL hne (fun h => hpj h.2), ?_⟩
    obtain ⟨M', hM', hr⟩ := hs.obj j _ hj
    rw [hM] at hM'; cases hM'; exact hr.lt
  have hsame : ∀ M : Loc, M.blk ≠ L.blk → M.blk < w.heap.size → w'.heap[M.blk]? = w.heap[M.blk]? := by
    intro M hM hlt
    rcases hw with ⟨_, h, _⟩ | ⟨_, h, _⟩
    · exact h _ hM
    · exact h _ hlt
  -- a living object that is neither of the two
  have sub : ∀ j ob', (if j = s.next then some (Ob.row c2 true (some o) s.ver) else if j = o then some (.row c1 true (some s.next) s.ver) else if pa = some j then none else s.get j) = some ob' → j ≠ s.next → j ≠ o →
      s.get j = some ob' ∧ pa ≠ some j := by
    intro j ob' h n1 n2
    rw [if_neg n1, if_neg n2] at h
    split at h
    · cases h
    · rename_i e; exact ⟨h, e⟩
  have newne : ∀ M : Loc, M.blk ≠ L.blk → M.blk < w.heap.size → L'.blk ≠ M.blk := by
    intro M h1 h2
    rcases hw with ⟨e, _, _⟩ | ⟨e, _, _⟩
    · rw [e]; exact fun h => h1 h.symm
    · omega
  refine { ext := hle, dom := ?_, sat := ⟨?_, ?_⟩, next := Nat.le_succ _, ver := Nat.le_succ _, alive := ?_, size := ?_, os := hos, output := hou, tape := hta, other := ?_, kept := ?_ }
  · intro i M hi
    unfold Rho.upd at hi
    split at hi
    · rename_i e; subst e; cases hi
      refine .inr ⟨Nat.le_refl _, Nat.lt_succ_self _, ?_⟩
      rcases hw with ⟨e, _, _⟩ | ⟨e, _, _⟩
      · exact .inr ⟨o, _, L, ho, hL, e.symm⟩
      · exact .inl (by omega)
    · exact .inl hi
  · intro j ob' h
    simp only [St.get] at h
    rw [hget] at h
    by_cases e1 : j = s.next
    · subst e1; rw [if_pos rfl] at h; cases h
      exact ⟨L', hupd, h2⟩
    · by_cases e2 : j = o
      · subst e2; rw [if_neg e1, if_pos rfl] at h; cases h
        exact ⟨L, hoL, ObRel.mono (ob := .row c1 true (some s.next) s.ver) h1 hle rfl⟩
      · obtain ⟨h3, h4⟩ := sub j ob' h e1 e2
        obtain ⟨M, hM, hr⟩ := hs.obj j ob' h3
        obtain ⟨h5, h6⟩ := apart' j ob' h3 h4 e2 M hM
        exact ⟨M, hle _ _ hM, hr.mono hle (hsame M h5 h6)⟩
  · intro o1 o2 b1 b2 L1 L2 g1 g2 hL1 hL2 hne12 hpp
    simp only [St.get] at g1 g2
    rw [hget] at g1 g2
    have other : ∀ j b M, (if j = s.next then some (Ob.row c2 true (some o) s.ver) else if j = o then some (.row c1 true (some s.next) s.ver) else if pa = some j then none else s.get j) = some b → j ≠ s.next → j ≠ o →
        (ρ.upd s.next L') j = some M → s.get j = some b ∧ ρ j = some M ∧ M.blk ≠ L.blk ∧ M.blk < w.heap.size := by
      intro j b M h n1 n2 hM
      obtain ⟨h3, h4⟩ := sub j b h n1 n2
      have hM' : ρ j = some M := by unfold Rho.upd at hM; rwa [if_neg n1] at hM
      exact ⟨h3, hM', apart' j b h3 h4 n2 M hM'⟩
    by_cases e1 : o1 = s.next
    · subst e1; rw [if_pos rfl] at g1; cases g1
      rw [hupd] at hL1; cases hL1
      by_cases e2 : o2 = o
      · subst e2; rw [if_neg hne, if_pos rfl] at g2; cases g2
        exact absurd ⟨rfl, rfl⟩ hpp
      · obtain ⟨_, _, h5, h6⟩ := other o2 b2 L2 g2 (fun e => hne12 e.symm) e2 hL2
        exact newne L2 h5 h6
    · by_cases e2 : o2 = s.next
      · subst e2; rw [if_pos rfl] at g2; cases g2
        rw [hupd] at hL2; cases hL2
        by_cases e3 : o1 = o
        · subst e3; rw [if_neg hne, if_pos rfl] at g1; cases g1
          exact absurd ⟨rfl, rfl⟩ hpp
        · obtain ⟨_, _, h5, h6⟩ := other o1 b1 L1 g1 e1 e3 hL1
          exact (newne L1 h5 h6).symm
      · by_cases e3 : o1 = o
        · subst e3
          rw [hoL] at hL1; cases hL1
          obtain ⟨_, _, h5, _⟩ := other o2 b2 L2 g2 e2 (fun e => hne12 e.symm) hL2
          exact h5.symm
        · obtain ⟨h3, h4, h5, _⟩ := other o1 b1 L1 g1 e1 e3 hL1
          by_cases e4 : o2 = o
          · subst e4; rw [hoL] at hL2; cases hL2; exact h5
          · obtain ⟨h6, h7, _, _⟩ := other o2 b2 L2 g2 e2 e4 hL2
            exact hs.apart o1 o2 b1 b2 L1 L2 h3 h6 h4 h7 hne12 hpp
  · intro j ob' h
    simp only [St.get] at h
    rw [hget] at h
    by_cases e1 : j = s.next
    · subst e1; exact .inr ⟨Nat.le_refl _, Nat.lt_succ_self _⟩
    · by_cases e2 : j = o
      · subst e2; exact .inl ⟨_, ho⟩
      · exact .inl ⟨_, (sub j ob' h e1 e2).1⟩
  · rcases hw with ⟨_, _, h⟩ | ⟨_, _, h⟩ <;> omega
  · intro b hb hno
    rcases hw with ⟨_, h, _⟩ | ⟨_, h, _⟩
    · exact h b (fun e => hno o _ L ho hL e.symm)
    · exact h b hb
  · intro j ob' h hlt
    simp only [St.get] at h
    rw [hget] at h
    by_cases e1 : j = s.next
    · subst e1; rw [if_pos rfl] at h; cases h; simp [Ob.ver] at hlt
    · by_cases e2 : j = o
      · subst e2; rw [if_neg e1, if_pos rfl] at h; cases h; simp [Ob.ver] at hlt
      · obtain ⟨h3, h4⟩ := sub j ob' h e1 e2
        exact ⟨h3, fun M hM => by obtain ⟨h5, h6⟩ := apart' j ob' h3 h4 e2 M hM; exact hsame M h5 h6⟩

/-- What is asked of an append's types. -/
structure AppT (P : Program) (t e : TypeId) (esz bytes : Nat) : Prop where
  t : P.underlying t = some (.slice e)
  i : ∃ i z, P.info? e = some i ∧ i.size = esz ∧ i.bytes = bytes ∧ i.zero = some z ∧ z.cells.size = esz
  pos : 0 < bytes

theorem happS_ok {esz bytes n o off len zz c : Nat} {cap : Option Nat} {s s' : St} {v : V} {Y : Value} {nw : List V} {cs : List Value} {L : Loc} {a : Addr} (hs : Sat ρ s.get w) (hL : ρ o = some L) (ha : 0 < c → a = ⟨L.blk, L.base + off, none⟩) (hz0 : 0 < zz) (hlc : len ≤ c) (hsr : SlRel L off zz c cap)
    (h : happS esz bytes s o off len cap zz n nw = some (v, s')) (hf : Fresh ρ s s') {t u ty e : TypeId} (hT : AppT P t e esz bytes) (hn0 : 0 < n) (hfl : nw.all V.flat = true)
    (hcl : nw.length = n * esz) (hcs : RelL ρ nw cs) (hY : AppY P t u ty e esz bytes n Y cs w) : Does P (Builtin.append_ #[t, u] ty #[.slice (some a) len c, Y]) ρ s w v s' := by
  obtain ⟨ht, ⟨i, z, hi, hsz, hby, hz, hzs⟩, hb0⟩ := hT
  have hszT : sizeT P e = some esz := by simp [sizeT, hi, hsz]
  have hzT : zeroT P e = some z := by simp [zeroT, hi, hz]
  unfold happS at h
  split at h
  · rename_i cells sk pa ve hg
    split at h
    · rename_i hk hzz
      have hk' := Nat.le_of_ble_eq_true hk
      have hzz' := (Nat.eq_of_beq_eq_true hzz).symm
      subst hzz'
      obtain ⟨L', hL', hrow⟩ := hs.obj o _ hg
      rw [hL] at hL'; cases hL'
      have hclen : cells.length ≤ L.size := by obtain ⟨_, _, _, _, _, h3, _⟩ := hrow; exact h3
      obtain ⟨os, hos, hoc⟩ := hs.seg hg hL off (len * esz) hk'
      have hol : ((cells.drop off).take (len * esz)).length = len * esz := by simp; omega
      have hro : ∀ d, (Builtin.firstCells esz len (.slice (some a) len c)).run P { w with drawn := d } = .ok os.toArray { w with drawn := d } := by
        intro d
        rcases Nat.eq_zero_or_pos c with e0 | e0
        · have : len = 0 := by omega
          subst this
          have : os = [] := by have := hos.length; rw [hol] at this; simpa using this
          subst this
          simp [Builtin.firstCells, loadCells, loadCellsFrom]
        · have := ha e0; subst this
          have hrun := run_loadCells_list (P := P) { w with drawn := d } ⟨L.blk, L.base + off, none⟩ os (fun j v hj => hoc j v hj)
          rw [hos.length, hol] at hrun
          simpa [Builtin.firstCells] using hrun
      have inplace : len + n ≤ c → off + (len + n) * esz ≤ L.size → ∃ w', (Builtin.append_ #[t, u] ty #[.slice (some a) len c, Y]).run P w = .ok (.slice (some a) (len + n) c) w' ∧
          RowRel ρ (splice cells (off + len * esz) nw) sk L w' ∧ (∀ b, b ≠ L.blk → w'.heap[b]? = w.heap[b]?) ∧ w'.heap.size = w.heap.size ∧ w'.os = w.os ∧ w'.output = w.output ∧ w'.tape = w.tape := by
        intro h1 h2
        rw [Nat.add_mul] at h2
        obtain ⟨w', h3, h4, h5⟩ := RowRel.write (P := P) hrow hcs (off := off + len * esz) (by omega) (by omega) hfl
        refine ⟨w', hY.inn _ _ _ w' h1 (fun a' ha' => ?_) (fun h => by cases h), h4, h5⟩
        cases ha'
        have := ha (by omega); subst this
        rw [add_lit, Nat.add_assoc]
        simpa using h3
      split at h
      · -- there is room
        rename_i hroom
        cases h
        have hcap : len + n ≤ c ∧ off + (len + n) * esz ≤ L.size := by
          unfold room at hroom
          cases cap with
          | some c' =>
            simp only [SlRel] at hsr
            simp at hroom
            have : len + n ≤ c := by omega
            exact ⟨this, by have h2 := hsr.2; have h3 := Nat.mul_le_mul_right esz this; omega⟩
          | none =>
            simp only [SlRel] at hsr
            simp only at hroom
            split at hroom
            · rename_i hle
              have hle' := Nat.le_of_ble_eq_true hle
              refine ⟨?_, by omega⟩
              have : (len + n) * esz ≤ c * esz := by omega
              exact Nat.le_of_mul_le_mul_right this hz0
            · cases sk <;> simp at hroom
        obtain ⟨w', h3, h4, h5, h6, h7, h8, h9⟩ := inplace hcap.1 hcap.2
        refine ⟨_, w', ρ, h3, ?_, write_post hs hg hL (ob := .row (splice cells (off + len * esz) nw) sk none s.ver) h4 rfl rfl h5 h6 h7 h8 h9⟩
        simp only [Rel]
        exact ⟨L, c, hL, by rw [ha (by omega)], hz0, hcap.1, hsr⟩
      · -- there is none
        rename_i hroom
        have hcap : c < len + n := by
          unfold room at hroom
          cases cap with
          | some c' =>
            simp only [SlRel] at hsr
            have : ¬ len + n ≤ c' := fun e => by simp only [Nat.ble_eq_true_of_le e] at hroom; cases hroom
            omega
          | none =>
            simp only [SlRel] at hsr
            simp only at hroom
            split at hroom
            · cases hroom
            · rename_i hle
              cases sk with
              | true => simp at hroom
              | false =>
                obtain ⟨_, _, _, _, _, _, h4, _⟩ := hrow
                have h5 := h4 rfl
                have hle' : ¬ (off + (len + n) * esz ≤ cells.length) := fun e => by rw [Nat.ble_eq_true_of_le e] at hle; cases hle
                have : c * esz < (len + n) * esz := by omega
                exact Nat.lt_of_mul_lt_mul_right this
        exact happG_ok hs h hf hzT hzs hY hcs hos hcl hol hro rfl hcap
      · -- nobody knows
        rename_i hroom
        obtain ⟨rfl, rfl⟩ : cap = none ∧ sk = true := by
          unfold room at hroom
          cases cap with
          | some c' => simp at hroom
          | none =>
            simp only at hroom
            split at hroom
            · cases hroom
            · cases sk with
              | true => exact ⟨rfl, rfl⟩
              | false => simp at hroom
        unfold happM at h
        split at h
        · rename_i h1 h2 h3
          cases h
          have h2' := Nat.le_of_ble_eq_true h2
          have hfr := hf s.next (Nat.le_refl _) (Nat.lt_succ_self _)
          simp only [SlRel] at hsr
          have htake : ∀ w'', RowRel ρ (splice cells (off + len * esz) nw) true L w'' ∨ RowRel ρ cells true L w'' → RowRel ρ (cells.take (off + len * esz)) true L w'' := by
            intro w'' hh
            have key : ∀ cc : List V, RowRel ρ cc true L w'' → (∀ j, j < off + len * esz → cc[j]? = cells[j]?) → RowRel ρ (cells.take (off + len * esz)) true L w'' := by
              intro cc hcc hsame
              obtain ⟨c0, e0, fz, k1, k2, k3, k4, k5, k6⟩ := hcc
              refine ⟨c0, e0, fz, k1, k2, by simp; omega, by simp, k5, fun j v hj => ?_⟩
              rw [List.getElem?_take] at hj
              split at hj
              · rename_i hlt; exact k6 j v (by rw [hsame j hlt]; exact hj)
              · cases hj
            rcases hh with hh | hh
            · refine key _ hh fun j hj => ?_
              unfold splice
              rw [List.getElem?_append_left (by simp; omega), List.getElem?_take, if_pos hj]
            · exact key _ hh fun _ _ => rfl
          by_cases hroom' : len + n ≤ c
          · have hmul : (len + n) * esz ≤ c * esz := Nat.mul_le_mul_right _ hroom'
            obtain ⟨w', k3, k4, k5, k6, k7, k8, k9⟩ := inplace hroom' (by omega)
            have hpost := may_post (L' := ⟨L.blk, L.base + off, L.size - off⟩) hs hg hL hfr (okNext_lt h1) (w' := w') (c1 := cells.take (off + len * esz)) (c2 := (cells.drop off).take (len * esz) ++ nw) (htake w' (.inl k4)) ?_ (.inl ⟨rfl, k5, k6⟩) k7 k8 k9
            · refine ⟨_, w', _, k3, ?_, hpost⟩
              simp only [Rel]
              refine ⟨⟨L.blk, L.base + off, L.size - off⟩, c, by simp [Rho.upd], by rw [ha (by omega)]; simp, hz0, hroom', ?_⟩
              simp only [SlRel]; omega
            · obtain ⟨c0, e0, fz, m1, m2, m3, m4, m5, m6⟩ := k4
              have hspl := splice_length cells (off + len * esz) nw (by omega)
              rw [hcl] at hspl
              rw [Nat.add_mul] at hmul
              refine ⟨c0, e0, fz, m1, by simp only []; omega, by simp [hcl]; omega, by simp, m5, fun j v hj => ?_⟩
              have hq : (splice cells (off + len * esz) nw)[off + j]? = some v := by
                unfold splice
                by_cases hj2 : j < len * esz
                · rw [List.getElem?_append_left (by simp; omega), List.getElem?_take, if_pos hj2, List.getElem?_drop] at hj
                  rw [List.getElem?_append_left (by simp; omega), List.getElem?_take, if_pos (by omega)]
                  exact hj
                · rw [List.getElem?_append_right (by simp; omega)] at hj
                  rw [List.getElem?_append_right (by simp; omega)]
                  simp only [List.length_take, List.length_drop] at hj ⊢
                  have e1 : min (len * esz) (cells.length - off) = len * esz := by omega
                  have e2 : min (off + len * esz) cells.length = off + len * esz := by omega
                  rw [e1] at hj
                  rw [e2, show off + j - (off + len * esz) = j - len * esz by omega]
                  have hlt := (List.getElem?_eq_some_iff.1 hj).1
                  rw [List.getElem?_append_left hlt]
                  exact hj
              obtain ⟨x, hx, hr⟩ := m6 (off + j) v hq
              exact ⟨x, by simp only []; rw [Nat.add_assoc]; exact hx, hr.mono (Rho.le_upd hfr)⟩
          · have hrun := hY.out _ len c os.toArray z hzT hro (by omega) h2'
            have hge := grownCap_ge w (len + n) c e
            have hsize : (os.toArray ++ cs.toArray ++ Builtin.zeroCells z.cells (grownCap w (len + n) c e - (len + n))).size = grownCap w (len + n) c e * esz := by
              simp only [Array.size_append, List.size_toArray, size_zeroCells', hzs, hos.length, hcs.length, hcl, hol, ← Nat.add_mul]
              congr 1; omega
            have hww : ∀ b, b < w.heap.size → (w.drew.alloc (.cells (os.toArray ++ cs.toArray ++ Builtin.zeroCells z.cells (grownCap w (len + n) c e - (len + n))) e)).heap[b]? = w.heap[b]? := fun b hb => heap_alloc_old w.drew _ b hb
            have hpost := may_post (L' := ⟨w.heap.size, 0, grownCap w (len + n) c e * esz⟩) hs hg hL hfr (okNext_lt h1) (w' := w.drew.alloc (.cells (os.toArray ++ cs.toArray ++ Builtin.zeroCells z.cells (grownCap w (len + n) c e - (len + n))) e))
              (c1 := cells.take (off + len * esz)) (c2 := (cells.drop off).take (len * esz) ++ nw) (htake _ (.inr ?_)) ?_ (.inr ⟨rfl, hww, by simp⟩) rfl rfl rfl
            · refine ⟨_, _, _, hrun, ?_, hpost⟩
              simp only [Rel]
              refine ⟨_, grownCap w (len + n) c e, by simp [Rho.upd]; rfl, rfl, hz0, hge, ?_⟩
              simp only [SlRel, Nat.zero_add]
            · exact ObRel.mono (ob := .row cells true pa ve) hrow (fun _ _ h => h) (hww _ (ObRel.lt (ob := .row cells true pa ve) hrow))
            · have hoc' := hos.append hcs
              refine ⟨_, e, (0, 0), heap_alloc_new w.drew _, by simp only [Nat.zero_add]; omega, ?_, by simp, by simp, fun j v hj => ?_⟩
              · simp only [List.length_append, hcl, hol, ← Nat.add_mul]
                exact Nat.mul_le_mul_right _ hge
              · obtain ⟨x, hx, hr⟩ := hoc'.get j v hj
                refine ⟨x, ?_, hr.mono (Rho.le_upd hfr)⟩
                simp only [Nat.zero_add]
                rw [← Array.getElem?_toList]
                simp only [Array.toList_append]
                rw [List.getElem?_append_left (by have := (List.getElem?_eq_some_iff.1 hx).1; simpa using this)]
                exact hx
        · cases h
    · cases h
  · cases h

theorem happL_ok {esz bytes n : Nat} {s s' : St} {x v : V} {X Y : Value} {nw : List V} {cs : List Value} (hs : Sat ρ s.get w) (hx : Rel ρ x X) (h : happL esz bytes s x n nw = some (v, s')) (hf : Fresh ρ s s') {t u ty e : TypeId} (hT : AppT P t e esz bytes)
    (hcl : nw.length = n * esz) (hcs : RelL ρ nw cs) (hY : AppY P t u ty e esz bytes n Y cs w) : Does P (Builtin.append_ #[t, u] ty #[X, Y]) ρ s w v s' := by
  have hT' := hT
  obtain ⟨ht, ⟨i, z, hi, hsz, hby, hz, hzs⟩, hb0⟩ := hT
  have hszT : sizeT P e = some esz := by simp [sizeT, hi, hsz]
  have hzT : zeroT P e = some z := by simp [zeroT, hi, hz]
  unfold happL at h
  split at h
  · -- nothing is appended
    rename_i h0
    have h0' := Nat.eq_of_beq_eq_true h0
    subst h0'
    have : cs = [] := by have := hcs.length; rw [hcl] at this; simpa using this
    subst this
    have fin : ∀ base len c, X = .slice base len c → len ≤ c → (x, s) = (v, s') → Does P (Builtin.append_ #[t, u] ty #[X, Y]) ρ s w v s' := by
      rintro base len c rfl hlc e
      cases e
      exact ⟨.slice base len c, w, ρ, by simpa using hY.inn base len c w (by omega) (fun a _ => rfl) (fun _ => rfl), hx, Post.refl hs⟩
    split at h
    · simp only [Rel] at hx
      exact fin none 0 0 hx (Nat.le_refl _) (by simpa using h)
    · have hx' := hx
      simp only [Rel] at hx'; obtain ⟨_, c, a, _, hX, _⟩ := hx'
      exact fin (some a) 0 c hX (Nat.zero_le _) (by simpa using h)
    · have hx' := hx
      simp only [Rel] at hx'; obtain ⟨L, c, _, hX, _, hlc, _⟩ := hx'
      exact fin _ _ c hX hlc (by simpa using h)
    · cases h
  · rename_i h0
    have hn0 : 0 < n := by
      rcases Nat.eq_zero_or_pos n with e | e
      · subst e; simp at h0
      · exact e
    split at h
    · cases h
    · rename_i hfl
      split at h
      · -- a nil slice
        simp only [Rel] at hx; subst hx
        exact happG_ok hs h hf hzT hzs hY hcs (os := []) (by simp [RelL]) hcl (by simp) (fun d => by simp [Builtin.firstCells]) (by simp) (by omega)
      · rename_i o off len cap zz
        simp only [Rel] at hx
        obtain ⟨L, c, hL, rfl, hz0, hlc, hsr⟩ := hx
        exact happS_ok hs hL (fun _ => rfl) hz0 hlc hsr h hf hT' hn0 (by simpa using hfl) hcl hcs hY
      · rename_i o off zz
        simp only [Rel] at hx
        obtain ⟨L, c, a, hL, rfl, hz0, hsr, ha⟩ := hx
        exact happS_ok hs hL ha hz0 (Nat.zero_le _) (by simpa only [SlRel] using hsr) h hf hT' hn0 (by simpa using hfl) hcl hcs hY
      · cases h

theorem happ_ok {esz bytes : Nat} {s s' : St} {x y v : V} {X Y : Value} (hs : Sat ρ s.get w) (hx : Rel ρ x X) (hy : Rel ρ y Y) (h : happ esz bytes s x y = some (v, s')) (hf : Fresh ρ s s') {t u ty e : TypeId} (hT : AppT P t e esz bytes) (hu : sosT P u) :
    Does P (Builtin.append_ #[t, u] ty #[X, Y]) ρ s w v s' := by
  have hT' := hT
  obtain ⟨ht, ⟨i, z, hi, hsz, hby, hz, hzs⟩, hb0⟩ := hT'
  unfold happ at h
  split at h
  · cases h
  · rename_i n hn
    have hlo := vlenOf_ok hy hn
    split at h
    · rename_i h0
      have h0' := Nat.eq_of_beq_eq_true h0
      subst h0'
      refine happL_ok hs hx h hf hT (by simp) (cs := []) (by simp [RelL]) (appY_of ht hi hsz hby hb0 hu hlo fun d => ?_)
      obtain ⟨cs, h1, rfl⟩ := read_zero (P := P) (w := { w with drawn := d }) (esz := esz) hy hn
      simpa using h1
    · split at h
      · cases h
      · rename_i nw hnw
        obtain ⟨hcl, cs, hcs, hr⟩ := vread_ok (P := P) hs hy hnw
        exact happL_ok hs hx h hf hT hcl hcs (appY_of ht hi hsz hby hb0 hu hlo hr)

theorem happZ_ok {esz bytes : Nat} {zero : List V} {s s' : St} {x y v : V} {X Y : Value} (hs : Sat ρ s.get w) (hx : Rel ρ x X) (hy : Rel ρ y Y) (h : happZ esz bytes zero s x y = some (v, s')) (hf : Fresh ρ s s') {t u ty e : TypeId} (hT : AppT P t e esz bytes)
    {ku : IntKind} (hu : P.underlying u = some (.int ku)) {z : Value} (hz : zeroT P e = some z) (hzl : RelL ρ zero z.cells.toList) : Does P (Builtin.append_ #[t, u] ty #[X, Y]) ρ s w v s' := by
  have hT' := hT
  obtain ⟨ht, ⟨i, z', hi, hsz, hby, hz', hzs⟩, hb0⟩ := hT'
  have : z' = z := by simpa [zeroT, hi, hz'] using hz
  subst this
  unfold happZ at h
  split at h <;> (try (cases h; done))
  rename_i k n
  split at h <;> (try (cases h; done))
  rename_i h1 h2
  simp only [Rel] at hy; subst hy
  have hzl' : zero.length = esz := by have := hzl.length; simp at this; omega
  have hrep := rep_rel hzl n.toNat
  refine happL_ok hs hx h hf hT ?_ ?_ (appY_zeros ht hi hsz hby hb0 hu hz' hzs (of_decide_eq_true h1) (Nat.le_of_ble_eq_true h2))
  · have := hrep.length; simp at this; rw [← hzl']; exact this.symm
  · have e : (Builtin.zeroCells z'.cells n.toNat).toList = (List.range (n.toNat * zero.length)).map fun i => z'.cells[i % z'.cells.size]! := by
      simp [Builtin.zeroCells, hzs, hzl']
    rw [e]; exact hrep

end Go.Wg
