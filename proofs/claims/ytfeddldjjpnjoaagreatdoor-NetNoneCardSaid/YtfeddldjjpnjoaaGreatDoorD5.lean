/- Maps that are made and written; bytes of a string; appends of noughts. -/
import Derived.Test.YtfeddldjjpnjoaaGreatDoorD4
namespace Go.Wg
variable {P : Program} {ρ : Rho} {g : Get} {w : World}

/-- make of a map. -/
def hmkm (s : St) : Option (V × St) :=
  match okNext s with
  | true => some (.m s.next, s.push (.map [] s.ver))
  | false => none

theorem hmkm_ok {s s' : St} {v : V} (hs : Sat ρ s.get w) (h : hmkm s = some (v, s')) (hf : Fresh ρ s s') (t : TypeId) : Does P (Instr.makeMap t none) ρ s w v s' := by
  unfold hmkm at h
  split at h
  · rename_i hk
    cases h
    have hfr := hf s.next (Nat.le_refl _) (Nat.lt_succ_self _)
    refine ⟨.map (some w.heap.size), { w with heap := w.heap.push (.map #[] 0) }, _, ?_, ?_,
      push_post hs hfr (okNext_lt hk) (O := .map #[] 0) (n := 0) (ob := .map [] s.ver) rfl rfl rfl rfl ?_ rfl rfl⟩
    · simp [Instr.makeMap]
    · simp only [Rel]; exact ⟨_, by simp [Rho.upd]; rfl, rfl⟩
    · exact ⟨#[], 0, by simp, rfl, by simp⟩
  · cases h

/-- A store into a map. -/
def hmu (k : KK) (s : St) (m x v : V) : Option St :=
  match m with
  | .m o => match s.get o with
    | some (.map es _) => match kkV k x with
      | true => match kfind x es 0 with
        | some none => some (s.write o (.map (es ++ [(x, v)]) s.ver) none)
        | some (some (i, _)) => some (s.write o (.map (es.set i (x, v)) s.ver) none)
        | none => none
      | false => none
    | _ => none
  | _ => none

theorem sameBits_of_keq {k : KK} {x y : V} {X Y : Value} (hx : Rel ρ x X) (hy : Rel ρ y Y) (hk : kkV k x = true) (h : keq x y = some true) : Instr.sameBits 10000 Y X = true := by
  cases x <;> simp only [keq] at h <;> (try (cases h; done)) <;> cases y <;> simp only at h <;> (try (cases h; done))
  · split at h
    · rename_i hkk
      have := of_decide_eq_true hkk; subst this
      simp only [Option.some.injEq, decide_eq_true_eq] at h
      subst h
      simp only [Rel] at hx hy; subst hx; subst hy
      simp [Instr.sameBits]
    · cases h
  · simp only [Option.some.injEq] at h
    simp only [Rel] at hx hy; subst hx; subst hy
    simp only [Instr.sameBits]
    rw [beq_toListBytes] at h ⊢
    simp only [beq_iff_eq] at h ⊢
    exact h.symm

theorem hmu_ok {k : KK} {s s' : St} {m x v : V} {M X Y : Value} (hs : Sat ρ s.get w) (hm : Rel ρ m M) (hx : Rel ρ x X) (hv : Rel ρ v Y) (h : hmu k s m x v = some s') {t kt et : TypeId} (ht : P.underlying t = some (.map kt et)) (hk : kkT P k kt) :
    DoesU P (Instr.mapUpdate t M X Y) ρ s w s' := by
  cases m <;> simp only [hmu] at h <;> (try (cases h; done))
  rename_i o
  simp only [Rel] at hm
  obtain ⟨L, hL, rfl⟩ := hm
  split at h
  · rename_i es ve hg
    split at h
    · rename_i hkv
      obtain ⟨L', hL', hr⟩ := hs.obj o _ hg
      rw [hL] at hL'; cases hL'
      obtain ⟨es', clock, h1, h2, h3⟩ := hr
      obtain ⟨d, hd⟩ : ∃ d, P.underlying kt = some d := by
        cases k with
        | int => obtain ⟨i, hi⟩ := hk; exact ⟨_, hi⟩
        | str => exact ⟨_, hk⟩
      have hgo : (getObj L.blk).run P w = .ok (.map es' clock) w := by simp [getObj, Sem.run, h1]
      have hlt : L.blk < w.heap.size := (Array.getElem?_eq_some_iff.1 h1).1
      have hset : ∀ O, (setObj L.blk O).run P w = .ok () { w with heap := w.heap.setIfInBounds L.blk O } := by
        intro O; simp [setObj, Sem.run, h1]
      have hpost : ∀ (ents : List (V × V)) (es2 : Array MapEntry) (cl : Nat), es2.size = ents.length → (∀ (j : Nat) (e : V × V), ents[j]? = some e → ∃ x, es2[j]? = some x ∧ EntRel ρ e x) →
          Post ρ s w ρ (s.write o (.map ents s.ver) none) { w with heap := w.heap.setIfInBounds L.blk (.map es2 cl) } := by
        intro ents es2 cl k1 k2
        refine write_post hs hg hL (ob := .map ents s.ver) ⟨es2, cl, by simp [hlt], k1, k2⟩ rfl rfl (fun b hb => ?_) (by simp) rfl rfl rfl
        simp [Array.getElem?_setIfInBounds, Ne.symm hb]
      have hck := run_checkKey (P := P) hx hkv hk false w
      split at h
      · rename_i hf
        cases h
        rcases kfind_ok (P := P) hx hkv hk hd es es'.toList 0 _ (by simpa using h2) (fun j e he => by simpa using h3 j e he) hf with ⟨_, hn⟩ | ⟨n, u, y, hcon, _⟩
        · refine ⟨_, ρ, ?_, hpost (es ++ [(x, v)]) (es'.push { key := X, val := Y, born := clock }) (clock + 1) (by simp [h2]) ?_⟩
          · simp [Instr.mapUpdate, run_und ht, hgo, hck, Instr.findKey, run_und hd, hn, hset]
          · intro j e he
            by_cases hj : j < es.length
            · rw [List.getElem?_append_left hj] at he
              obtain ⟨y, hy, hr⟩ := h3 j e he
              refine ⟨y, ?_, hr⟩
              have hlt' : j < es'.size := by omega
              rw [Array.getElem?_push, if_neg (by omega)]
              exact hy
            · rw [List.getElem?_append_right (by omega)] at he
              have : j = es.length := by
                have := (List.getElem?_eq_some_iff.1 he).1
                simp at this; omega
              subst this
              simp at he; subst he
              refine ⟨{ key := X, val := Y, born := clock }, ?_, hx, hv⟩
              rw [← h2]; simp
        · cases hcon
      · rename_i i u hf
        cases h
        rcases kfind_ok (P := P) hx hkv hk hd es es'.toList 0 _ (by simpa using h2) (fun j e he => by simpa using h3 j e he) hf with ⟨hcon, _⟩ | ⟨n, u', y, hcon, hn, hu, _, hnlt, kv, hkvn, hke⟩
        · cases hcon
        · cases hcon
          simp only [Nat.sub_zero, Nat.zero_add] at hkvn hnlt
          obtain ⟨en, hen, her⟩ := h3 i _ hkvn
          have hbits : Instr.sameBits 10000 en.key X = true := sameBits_of_keq hx her.1 hkv hke
          have hkts : (Instr.keyThatStays (((es'[i]?).map (·.key)).getD X) X).run P w = .ok X w := by
            simp [Instr.keyThatStays, hen, hbits]
          refine ⟨_, ρ, ?_, hpost (es.set i (x, v)) (es'.modify i fun e => { e with key := X, val := Y }) clock (by simp [h2]) ?_⟩
          · have hfk : (Instr.findKey kt X es'.toList).run P w = .ok (some (i, y)) w := by simp [Instr.findKey, run_und hd, hn]
            refine step (run_und ht w) ?_
            refine step hgo ?_
            refine step hck ?_
            refine step hfk ?_
            refine step hkts ?_
            exact hset _
          · intro j e he
            rw [List.getElem?_set] at he
            split at he
            · rename_i hij
              subst hij
              cases he
              refine ⟨{ en with key := X, val := Y }, ?_, hx, hv⟩
              simp [Array.getElem?_modify, hen]
            · rename_i hij
              obtain ⟨y, hy, hr⟩ := h3 j e he
              exact ⟨y, by simp [Array.getElem?_modify, hij, hy], hr⟩
      · cases h
    · cases h
  · cases h

/-- The bytes of a string, as a new slice. -/
def hsb (s : St) (x : V) : Option (V × St) :=
  match x with
  | .s b => match okNext s with
    | true => some (.sl s.next 0 b.size none 1, s.push (.row (b.data.toList.map fun c : UInt8 => V.i .u8 c.toNat) true none s.ver))
    | false => none
  | _ => none

theorem hsb_ok {s s' : St} {x v : V} {X : Value} (hs : Sat ρ s.get w) (hx : Rel ρ x X) (h : hsb s x = some (v, s')) (hf : Fresh ρ s s') {a d e : TypeId} (ha : P.underlying a = some .string) (hd : P.underlying d = some (.slice e)) (he : P.underlying e = some (.int .u8)) :
    Does P (convert a d X) ρ s w v s' := by
  cases x <;> simp only [hsb] at h <;> (try (cases h; done))
  rename_i b
  simp only [Rel] at hx; subst hx
  split at h
  · rename_i hk
    cases h
    have hge := grownCap_ge w b.size 0 e
    have hfr := hf s.next (Nat.le_refl _) (Nat.lt_succ_self _)
    have hl : RelL ρ (b.data.toList.map fun c : UInt8 => V.i .u8 c.toNat) (b.data.toList.map fun c : UInt8 => Value.int .u8 c.toNat) := by
      refine RelL.of_get _ _ (by simp) fun j v hj => ?_
      simp only [List.getElem?_map] at hj ⊢
      cases hk : b.data.toList[j]? with
      | none => simp [hk] at hj
      | some c => simp [hk] at hj; subst hj; exact ⟨_, by simp; rfl, by simp [Rel]⟩
    have hsz : (b.data.map (fun c : UInt8 => Value.int .u8 c.toNat) ++ Array.replicate (grownCap w b.size 0 e - b.size) (Value.int .u8 0)).size = grownCap w b.size 0 e := by
      simp
      have : b.data.size = b.size := rfl
      omega
    have hp := row_push hs hfr (okNext_lt hk) hl (c := b.data.map (fun c : UInt8 => Value.int .u8 c.toNat) ++ Array.replicate (grownCap w b.size 0 e - b.size) (Value.int .u8 0)) (extra := List.replicate (grownCap w b.size 0 e - b.size) (Value.int .u8 0)) (by simp)
      (e := e) (fz := (grownCap w b.size 0 e, grownCap w b.size 0 e + 1)) (sk := true) (by simp) (fun j hj => by rw [hsz] at hj; simp; omega)
      (w' := { w.drew with heap := w.heap.push (.cells (b.data.map (fun c : UInt8 => Value.int .u8 c.toNat) ++ Array.replicate (grownCap w b.size 0 e - b.size) (Value.int .u8 0)) e (grownCap w b.size 0 e, grownCap w b.size 0 e + 1)) }) rfl rfl rfl rfl
    refine ⟨.slice (some ⟨w.heap.size, 0, none⟩) b.size (grownCap w b.size 0 e), _, _, ?_, ?_, hp⟩
    · show (convert a d (.string b)).run P w = _
      refine step (run_und ha w) ?_
      refine step (run_und hd w) ?_
      refine step (run_und he w) ?_
      have hch : (choose (.appendCap b.size 0 e)).run P w = .ok (grownCap w b.size 0 e) w.drew := by rfl
      refine step hch ?_
      have hnr : (newRow e (b.data.map (fun c : UInt8 => Value.int .u8 c.toNat) ++ Array.replicate (grownCap w b.size 0 e - b.size) (Value.int .u8 0))).run P w.drew = .ok ⟨w.heap.size, 0, none⟩ (w.drew.alloc (.cells (b.data.map (fun c : UInt8 => Value.int .u8 c.toNat) ++ Array.replicate (grownCap w b.size 0 e - b.size) (Value.int .u8 0)) e)) := by
        rfl
      refine step hnr ?_
      have hshape : ∀ c, (World.alloc w.drew (.cells c e)).shape? w.heap.size = some (e, c.size) := by
        intro c
        have := heap_alloc_new w.drew (.cells c e)
        simp only [World.shape?]
        have h2 : w.drew.heap.size = w.heap.size := rfl
        rw [h2] at this
        rw [this]
      have hmark : ∀ c : Array Value, c.size = grownCap w b.size 0 e → (markStringish ⟨w.heap.size, 0, none⟩).run P (w.drew.alloc (.cells c e)) = .ok () { w.drew with heap := w.heap.push (.cells c e (grownCap w b.size 0 e, grownCap w b.size 0 e + 1)) } := by
        intro c hc
        unfold markStringish
        refine step (run_shape P _ _) ?_
        simp only []
        rw [hshape c]
        simp only [run_freeze]
        congr 1
        unfold World.freeze
        simp only [Nat.one_ne_zero, if_false, hc]
        simp only [World.alloc, World.drew]
        congr 1
        apply Array.ext
        · simp
        · intro k h1 h2
          simp only [Array.getElem_modify, Array.getElem_push]
          by_cases e1 : w.heap.size = k
          · subst e1; simp
          · have : k < w.heap.size := by simp at h2; omega
            simp [e1, this]
      refine step (hmark _ hsz) ?_
      rfl
    · simp only [Rel]
      refine ⟨_, grownCap w b.size 0 e, by simp [Rho.upd]; rfl, rfl, by omega, hge, ?_⟩
      simp only [SlRel, Nat.zero_add, Nat.mul_one]
      simpa using hsz.symm
  · cases h

end Go.Wg
