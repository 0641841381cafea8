/- Whole functions: what the small machine answers, the program answers, on every tape. -/
import Derived.Test.YtfeddldjjpnjoaaGreatDoorI2
namespace Go.Wg
variable {P : Program} {w : World}

/-- Code, told. -/
inductive Cmp (P : Program) (top : Bool) (N : Nat) : Code → C → Prop where
  | skip : Cmp P top N .skip .skip
  | label (l : Nat) : Cmp P top N (.label l) .skip
  | reg (id : Nat) (ops : Array Oper) (l : List OpE) (h : l.length = ops.size) (h' : ∀ (i : Nat) (oe : OpE), l[i]? = some oe → ∃ o, ops[i]? = some o ∧ OpC P N ops o oe) : Cmp P top N (.region id ops false) (.reg l)
  | dreg (id : Nat) (ops : Array Oper) (l : List DOp) (h : DStat P N ops l) : Cmp P top N (.region id ops true) (.dreg l)
  | seq {x y : Code} {a b : C} (h : Cmp P top N x a) (h' : Cmp P top N y b) : Cmp P top N (.seq x y) (.seq a b)
  | cond {X : Operand} {c : Opd} {x y : Code} {a b : C} (hc : cO X = some c) (h : Cmp P top N x a) (h' : Cmp P top N y b) : Cmp P top N (.cond X x y) (.cond c a b)
  | block (id : Nat) {x : Code} {a : C} (h : Cmp P top N x a) : Cmp P top N (.block id x) (.block id a)
  | loop {x : Code} {a : C} (h : Cmp P top N x a) : Cmp P top N (.loop x) (.loop a)
  | exit (id : Nat) : Cmp P top N (.exit id) (.exit id)
  | ret : Cmp P top N .ret .ret
  | rf {G : Operand} {g : Opd} {ps : Array Tmp} {x y : Code} {site : Nat} (hg : cO G = some g) (ht : tab site = some (N, ps, x, y)) (h : top = true) : Cmp P top N (.rangeFunc G ps x y) (.rf g site)
  | dead (x : Code) : Cmp P top N x .dead

def reD (P : Program) (N : Nat) (ops : Array Oper) : List DOp → Option (List DOp)
  | [] => some []
  | d :: r => match (match ops[d.idx]? with
      | some o => cOp P N ops o
      | none => none), reD P N ops r with
    | some e, some l => some ({ d with e := e } :: l)
    | _, _ => none

theorem reD_ok {N : Nat} {ops : Array Oper} : ∀ {l l' : List DOp}, reD P N ops l = some l' → ∀ (k : Nat) (d : DOp), l'[k]? = some d → ∃ o, ops[d.idx]? = some o ∧ OpC P N ops o d.e
  | [], l', h, k, d, hd => by simp only [reD] at h; cases h; simp at hd
  | x :: r, l', h, k, d, hd => by
    simp only [reD] at h
    split at h <;> cases h
    rename_i e l he hl
    cases k with
    | zero =>
      simp at hd; subst hd
      split at he
      · rename_i o ho; exact ⟨o, ho, cOp_ok he⟩
      · cases he
    | succ k => exact reD_ok hl k d (by simpa using hd)

/-- Code, told anew beside a text of it. -/
def reC (P : Program) (N : Nat) : Code → C → Option C
  | _, .dead => some .dead
  | .skip, .skip => some .skip
  | .label _, .skip => some .skip
  | .region _ ops false, .reg _ => match cOps P N ops ops.toList with
    | some l => some (.reg l)
    | none => none
  | .region _ ops true, .dreg l => match reD P N ops l with
    | some l' => match chkD ops l' with
      | true => some (.dreg l')
      | false => none
    | none => none
  | .seq x y, .seq a b => match reC P N x a, reC P N y b with
    | some a, some b => some (.seq a b)
    | _, _ => none
  | .cond X x y, .cond _ a b => match cO X, reC P N x a, reC P N y b with
    | some c, some a, some b => some (.cond c a b)
    | _, _, _ => none
  | .block id x, .block _ a => match reC P N x a with
    | some a => some (.block id a)
    | none => none
  | .loop x, .loop a => match reC P N x a with
    | some a => some (.loop a)
    | none => none
  | .exit id, .exit _ => some (.exit id)
  | .ret, .ret => some .ret
  | .rangeFunc G _ _ _, .rf _ site => match cO G with
    | some g => some (.rf g site)
    | none => none
  | _, _ => none

/-- The loops over functions of a text, with their code. -/
def rfs (N : Nat) : Code → C → List (Nat × Nat × Array Tmp × Code × Code)
  | .rangeFunc _ ps x y, .rf _ site => [(site, N, ps, x, y)]
  | .seq x y, .seq a b => rfs N x a ++ rfs N y b
  | .cond _ x y, .cond _ a b => rfs N x a ++ rfs N y b
  | .block _ x, .block _ a => rfs N x a
  | .loop x, .loop a => rfs N x a
  | _, _ => []

/-- Is there none in a text? -/
def noRf : C → Bool
  | .rf _ _ => false
  | .seq a b => match noRf a with
    | true => noRf b
    | false => false
  | .cond _ a b => match noRf a with
    | true => noRf b
    | false => false
  | .block _ a => noRf a
  | .loop a => noRf a
  | _ => true

theorem rfs_none {N : Nat} : ∀ (code : Code) (c : C), noRf c = true → rfs N code c = [] := by
  intro code c
  fun_induction rfs N code c <;> intro h <;> (try rfl)
  · simp [noRf] at h
  · rename_i iha ihb
    simp only [noRf] at h
    split at h
    · rename_i h1; rw [iha h1, ihb h]; rfl
    · cases h
  · rename_i iha ihb
    simp only [noRf] at h
    split at h
    · rename_i h1; rw [iha h1, ihb h]; rfl
    · cases h
  · rename_i iha
    simp only [noRf] at h
    exact iha h
  · rename_i iha
    simp only [noRf] at h
    exact iha h

theorem reC_ok {top : Bool} {N : Nat} : ∀ (code : Code) (c0 c : C), reC P N code c0 = some c → (∀ x ∈ rfs N code c0, top = true ∧ tab x.1 = some x.2) → Cmp P top N code c := by
  intro code c0
  fun_induction reC P N code c0 <;> intro c h ht <;> (try (cases h; done))
  · cases h; exact .dead _
  · cases h; exact .skip
  · cases h; exact .label _
  · rename_i l hl
    cases h
    obtain ⟨h1, h2⟩ := cOps_ok hl
    exact .reg _ _ _ (by simpa using h1) (fun i oe hi => by simpa using h2 i oe hi)
  · rename_i l' hl hchk
    cases h
    exact .dreg _ _ _ (chkD_ok hchk (reD_ok hl))
  · rename_i hb ha iha ihb
    cases h
    simp only [rfs] at ht
    exact .seq (iha _ ha fun x hx => ht x (List.mem_append_left _ hx)) (ihb _ hb fun x hx => ht x (List.mem_append_right _ hx))
  · rename_i hb ha hc iha ihb
    cases h
    simp only [rfs] at ht
    exact .cond hc (iha _ ha fun x hx => ht x (List.mem_append_left _ hx)) (ihb _ hb fun x hx => ht x (List.mem_append_right _ hx))
  · rename_i ha iha
    cases h
    simp only [rfs] at ht
    exact .block _ (iha _ ha ht)
  · rename_i ha iha
    cases h
    simp only [rfs] at ht
    exact .loop (iha _ ha ht)
  · cases h; exact .exit _
  · cases h; exact .ret
  · rename_i hg
    cases h
    simp only [rfs] at ht
    obtain ⟨h1, h2⟩ := ht _ (List.mem_cons_self ..)
    exact .rf hg h2 h1

def Ex.of : Ex → Exit
  | .normal => .normal
  | .exit id => .exit id
  | .ret => .ret

/-- A loop, seen from within. -/
def LoopW (ro : Option Nat) (P : Program) (c : Code) (Q : Exit → Act → World → Prop) (a : Act) (w : World) : Prop :=
  ∀ (b : Frame) (k : List Item) (cs : List Frame), b.roundOf = (Fr ro).round → (Fr ro).fn b.fn → (Fr ro).room (cs.length + 1 + 0) →
    ∃ e a' w', Q e a' w' ∧ ArrivesIn (Machine.fenced P (Fr ro)) P (lone (b.atR a (.code c :: .inLoop c :: k)) cs w) b k cs e a' w'

theorem wp_of_loopW {ro : Option Nat} {c : Code} {Q : Exit → Act → World → Prop} {a : Act} (h : LoopW ro P c Q a w) : (Code.loop c).wpIn (Fr ro) 0 P Q a w := by
  intro b k cs hro hb hr
  obtain ⟨e, a', w', hq, harr⟩ := h b k cs hro hb hr
  exact ⟨e, a', w', hq, .of_steps (.one (fenced_calm hb hr rfl) stepR_loop) harr⟩

theorem loopW_of {ro : Option Nat} {c : Code} {Q : Exit → Act → World → Prop} {a : Act} (h : c.wpIn (Fr ro) 0 P (Exit.then (fun a' w' => LoopW ro P c Q a' w') Q) a w) : LoopW ro P c Q a w := by
  intro b k cs hro hb hr
  obtain ⟨e, a₁, w₁, hq, harr⟩ := h b (.inLoop c :: k) cs hro hb hr
  cases e with
  | normal =>
    obtain ⟨e₂, a₂, w₂, hq₂, harr₂⟩ := hq b k cs hro hb hr
    exact ⟨e₂, a₂, w₂, hq₂, .of_steps (StepsIn.trans harr (.one (fenced_calm hb hr rfl) stepR_inLoop)) harr₂⟩
  | exit id => exact ⟨_, a₁, w₁, hq, .pass (x := .inLoop c) rfl (fun _ _ => .inl (by simp)) harr⟩
  | goto l => exact ⟨_, a₁, w₁, hq, .pass (x := .inLoop c) rfl (fun _ _ => .inl (by simp)) harr⟩
  | ret => exact ⟨_, a₁, w₁, hq, .pass (x := .inLoop c) rfl (fun _ _ => .inl (by simp)) harr⟩
  | panic ch => exact ⟨_, a₁, w₁, hq, .pass (x := .inLoop c) rfl (fun _ _ => .inl (by simp)) harr⟩
  | outgrown => exact ⟨_, a₁, w₁, hq, .pass (x := .inLoop c) rfl (fun _ _ => .inl (by simp)) harr⟩

/-- What told code has done. -/
structure Out (top : Bool) (N : Nat) (ρ : Rho) (s : St) (a : Act) (w : World) (ρ' : Rho) (T' : Tm) (s' : St) (a' : Act) (w' : World) : Prop where
  post : Post ρ s w ρ' s' w'
  tm : TRel ρ' T' N a'
  de : ∃ ms, a'.defers = ms ++ a.defers ∧ Marks w.heap.size ρ' s' w' ms ∧ (top = false → ms = [])

theorem Out.plain {top : Bool} {N : Nat} {ρ ρ' : Rho} {s s' : St} {a a' : Act} {w w' : World} {T' : Tm} (h1 : Post ρ s w ρ' s' w') (h2 : TRel ρ' T' N a') (h3 : a'.defers = a.defers) : Out top N ρ s a w ρ' T' s' a' w' :=
  ⟨h1, h2, [], by simp [h3], trivial, fun _ => rfl⟩

theorem Out.trans {top : Bool} {N : Nat} {ρ ρ' ρ'' : Rho} {s s' s'' : St} {a a' a'' : Act} {w w' w'' : World} {T' T'' : Tm} (hf : Fresh ρ s s'') (h : Out top N ρ s a w ρ' T' s' a' w') (h' : Out top N ρ' s' a' w' ρ'' T'' s'' a'' w'') :
    Out top N ρ s a w ρ'' T'' s'' a'' w'' := by
  obtain ⟨ms1, h1, h2, h3⟩ := h.de
  obtain ⟨ms2, h4, h5, h6⟩ := h'.de
  have hf1 : Fresh ρ s s' := fun i h1 h2 => hf i h1 (Nat.lt_of_lt_of_le h2 h'.post.next)
  refine ⟨h.post.trans hf1 h'.post, h'.tm, ms2 ++ ms1, by rw [h4, h1, List.append_assoc], h2.join (h.post.fresh hf) h'.post h.post.size h5, fun e => by rw [h3 e, h6 e]; rfl⟩

/-- A run of the small machine on told code is a run of the program's. -/
def RunOk (P : Program) (rec : EvC) : Prop :=
  ∀ top N code c, Cmp P top N code c → ∀ T s ex T' s', rec c T s = some (ex, T', s') → Mono s s' ∧ ∀ ro, (top = true → ro = none) → ∀ (ρ : Rho) (a : Act) (w : World) (Q : Exit → Act → World → Prop), Sat ρ s.get w → TRel ρ T N a → Fresh ρ s s' →
    (∀ ρ' a' w', Out top N ρ s a w ρ' T' s' a' w' → Q ex.of a' w') → code.wpIn (Fr ro) 0 P Q a w ∧ ∀ x, code = .loop x → LoopW ro P x Q a w

/-- A told function is entered. -/
def EntOk (P : Program) (call : Nat → List V → St → Option (V × St)) : Prop :=
  ∀ f args s v s', call f args s = some (v, s') → Mono s s' ∧ ∀ ρ w X, Sat ρ s.get w → RelL ρ args X → Fresh ρ s s' →
    (callFunc f X.toArray).run P w = .ok (.enter f X.toArray) w ∧ Calls P f X.toArray w (RetR ρ s w v s')

theorem drop_mono {s s' : St} (h : Mono s s') {o : Nat} (hlim : o < Tr.lim) : Mono s ⟨s'.h.set o none, s'.next, s'.ver⟩ := by
  have sub : ∀ j ob', (St.mk (s'.h.set o none) s'.next s'.ver).get j = some ob' → s'.get j = some ob' := by
    intro j ob' h
    simp only [St.get] at h
    rw [Tr.get_set _ _ _ _ hlim] at h
    split at h
    · cases h
    · exact h
  exact ⟨h.next, h.ver, fun j ob' hj hv => h.kept j ob' (sub _ _ hj) hv, fun j ob' hj => h.alive j ob' (sub _ _ hj)⟩

theorem lpSt_busy {k : Nat} (h : Nat.beq k 1 = false) : lpSt k ≠ .busy := by
  match k with
  | 0 => simp [lpSt]
  | 1 => simp at h
  | k + 2 => simp [lpSt]

theorem evRf_ok {call : Nat → List V → St → Option (V × St)} (hc : EntOk P call) {N : Nat} {G : Operand} {g : Opd} {ps : Array Tmp} {x y : Code} {site : Nat} (hg : cO G = some g) (ht : tab site = some (N, ps, x, y))
    {T T' : Tm} {s s' : St} {ex : Ex} (h : evRf call g site T s = some (ex, T', s')) : Mono s s' ∧ ∀ (ρ : Rho) (a : Act) (w : World) (Q : Exit → Act → World → Prop), Sat ρ s.get w → TRel ρ T N a → Fresh ρ s s' →
    (∀ ρ' a' w', Out true N ρ s a w ρ' T' s' a' w' → Q ex.of a' w') → (Code.rangeFunc G ps x y).wpIn (Fr none) 0 P Q a w := by
  unfold evRf at h
  split at h <;> (try (cases h; done))
  rename_i hk
  split at h <;> (try (cases h; done))
  rename_i f caps hgv
  split at h <;> (try (cases h; done))
  rename_i v s1 hcall
  split at h <;> (try (cases h; done))
  rename_i k T3 site3 ve hget
  split at h <;> cases h
  rename_i hk1
  obtain ⟨m, hcl⟩ := hc _ _ _ _ _ hcall
  have hlim := okNext_lt hk
  have mp := push_mono s (.loop 0 T site s.ver) rfl hlim
  have mm := mp.trans m
  refine ⟨drop_mono mm hlim, fun ρ a w Q hs htr hf hQ => ?_⟩
  refine wpIn_rangeFunc fun fn _ => ?_
  let r0 : Loop := { state := .ready, pending := none, fn, tmps := a.tmps, params := ps, assign := x, body := y, defers := w.heap.size }
  have hfr := hf s.next (Nat.le_refl _) (by have := m.next; simp only [St.push] at this; exact this)
  have hp0 : Post ρ s w ρ s (w.alloc (.deferred (some []))) := grow_post hs rfl rfl rfl rfl
  have hob : ObRel (ρ.upd s.next ⟨(w.alloc (.deferred (some []))).heap.size, 0, 0⟩) (.loop 0 T site s.ver) ⟨(w.alloc (.deferred (some []))).heap.size, 0, 0⟩ ((w.alloc (.deferred (some []))).alloc (.loop r0)) := by
    refine ⟨r0, N, World.alloc_heap_new _ _, rfl, rfl, ht, htr.size, fun t u hu => ?_⟩
    obtain ⟨z, hz, hr⟩ := htr.tmp t u hu
    exact ⟨z, hz, hr.mono (Rho.le_upd hfr)⟩
  have hp1 := push_post (O := .loop r0) (n := 0) hp0.sat hfr hlim (w' := (w.alloc (.deferred (some []))).alloc (.loop r0)) rfl rfl rfl rfl hob rfl rfl
  have hf0 : Fresh ρ s s := fun i h1 h2 => by omega
  have hfp : Fresh ρ s (s.push (.loop 0 T site s.ver)) := fun i h1 h2 => hf i h1 (Nat.lt_of_lt_of_le h2 m.next)
  have hp01 := hp0.trans hf0 hp1
  have hgr := htr.env.env _ _ _ hg hgv
  simp only [Rel] at hgr
  obtain ⟨cs, hcs, hgf⟩ := hgr
  have hsz1 : (w.alloc (.deferred (some []))).heap.size = w.heap.size + 1 := by simp
  have hX : RelL (ρ.upd s.next ⟨(w.alloc (.deferred (some []))).heap.size, 0, 0⟩) (.yv s.next :: caps) (.func (.yield (w.heap.size + 1)) #[] #[] :: cs) := by
    simp only [RelL]
    exact ⟨_, cs, by simp only [Rel]; exact ⟨_, by simp [Rho.upd]; rfl, rfl⟩, hcs.mono (Rho.le_upd hfr), rfl⟩
  obtain ⟨he, hC⟩ := hcl _ _ _ hp1.sat hX (hp01.fresh hf)
  refine ⟨w.heap.size + 1, _, ((w.alloc (.deferred (some []))).alloc (.loop r0)), ⟨.fn (.func f) cs.toArray, #[.func (.yield (w.heap.size + 1)) #[] #[]]⟩, ((w.alloc (.deferred (some []))).alloc (.loop r0)), f, (.func (.yield (w.heap.size + 1)) #[] #[] :: cs).toArray, ((w.alloc (.deferred (some []))).alloc (.loop r0)), run_enterLoop_outer _ _ _ _ _, ?_, fun _ _ => trivial, ?_, fun h => by simp [Fence.wide] at h, ?_⟩
  · have hev : a.eval (.const (.func (.yield (w.heap.size + 1)) #[] #[])) = .func (.yield (w.heap.size + 1)) #[] #[] := rfl
    simp [resolve, hgf, Deferred.ofValue, hev]
  · simpa [invoke] using he
  refine CallsIn.mono (callsIn_wide.2 hC : CallsIn (Fr none) 0 P _ _ _ _) fun e w3 hR => ?_
  obtain ⟨z, ρ', rfl, hz, hp2⟩ := hR
  have hp012 := hp01.trans hfp hp2
  have hLl : (ρ.upd s.next ⟨(w.alloc (.deferred (some []))).heap.size, 0, 0⟩) s.next = some ⟨(w.alloc (.deferred (some []))).heap.size, 0, 0⟩ := by simp [Rho.upd]
  have hLl' := hp2.ext _ _ hLl
  obtain ⟨L', hL', r, N', h1, h2, h3, h4, h5, h6⟩ := hp2.sat.obj _ _ hget
  rw [hLl'] at hL'; cases hL'
  simp only [hsz1] at h1
  have hsz3 : w.heap.size + 1 < w3.heap.size := (Array.getElem?_eq_some_iff.1 h1).1
  have hend := run_endLoop (P := P) h1 (by rw [h2]; exact lpSt_busy hk1)
  have hoth : ∀ b, b ≠ w.heap.size + 1 → (w3.putObj (w.heap.size + 1) (.loop { r with state := .exhausted })).heap[b]? = w3.heap[b]? := fun b hb => World.putObj_heap_other hb
  have hfin : Post ρ s w ρ' ⟨s1.h.set s.next none, s1.next, s1.ver⟩ (w3.putObj (w.heap.size + 1) (.loop { r with state := .exhausted })) :=
    drop_post hs hp012 hget rfl hLl' (by simp only [hsz1]; omega) (by simp only [hsz1]; exact hoth) (by simp) rfl rfl rfl
  have hmark1 : Mark w.heap.size (ρ.upd s.next ⟨(w.alloc (.deferred (some []))).heap.size, 0, 0⟩) (s.push (.loop 0 T site s.ver)) ((w.alloc (.deferred (some []))).alloc (.loop r0)) { target := .collected w.heap.size, args := #[] } := by
    refine ⟨w.heap.size, rfl, Nat.le_refl _, ?_, fun o ob L ho hL hb => ?_⟩
    · show ((w.heap.push _).push _)[w.heap.size]? = _
      simp [Array.getElem?_push]
    · rw [show (s.push (.loop 0 T site s.ver)).get o = if o = s.next then some (.loop 0 T site s.ver) else s.get o from Tr.get_set s.h s.next o _ hlim] at ho
      split at ho
      · rename_i e; subst e
        rw [hLl] at hL; cases hL
        simp at hb
      · rename_i e
        obtain ⟨M, hM, hr⟩ := hs.obj o ob ho
        have : (ρ.upd s.next ⟨(w.alloc (.deferred (some []))).heap.size, 0, 0⟩) o = some M := Rho.le_upd hfr _ _ hM
        rw [hL] at this; cases this
        have := hr.lt
        omega
  have hfs1 : Fresh ρ s s1 := hf
  have hmark3 := hmark1.post (hp01.fresh hfs1) hp2
  have hmark4 : Mark w.heap.size ρ' ⟨s1.h.set s.next none, s1.next, s1.ver⟩ (w3.putObj (w.heap.size + 1) (.loop { r with state := .exhausted })) { target := .collected w.heap.size, args := #[] } := by
    obtain ⟨r', e1, e2, e3, e4⟩ := hmark3
    cases e1
    refine ⟨w.heap.size, rfl, e2, by rw [hoth _ (by omega)]; exact e3, fun o ob L ho hL => ?_⟩
    simp only [St.get] at ho
    rw [Tr.get_set _ _ _ _ hlim] at ho
    split at ho
    · cases ho
    · exact e4 o ob L ho hL
  have hout : Out true N ρ s a w ρ' T ⟨s1.h.set s.next none, s1.next, s1.ver⟩ { a with defers := [{ target := .collected w.heap.size, args := #[] }] ++ a.defers } (w3.putObj (w.heap.size + 1) (.loop { r with state := .exhausted })) := by
    refine ⟨hfin, ?_, [{ target := .collected w.heap.size, args := #[] }], rfl, ⟨hmark4, (fun _ h => by cases h), trivial⟩, fun e => by cases e⟩
    have := htr.mono hfin.ext
    exact ⟨this.size, this.tmp⟩
  have hq := hQ _ _ _ hout
  refine ⟨r.pending, _, hend, ?_⟩
  revert hq
  generalize w3.putObj (w.heap.size + 1) (.loop { r with state := .exhausted }) = w4
  intro hq
  rw [h3]
  match k, hk1, hq with
  | 0, _, hq => exact hq
  | 1, hk1, _ => simp at hk1
  | 2, _, hq => exact wpIn_ret hq
  | k + 3, _, hq => exact wpIn_exit hq

theorem evStep_ok {F : Fs} {X : XF} (hm : P.follows .mixedOrders = true) {rec : EvC} (hr : RunOk P rec) (hc : CallOk P (callW F X rec)) (hce : EntOk P (callT F rec)) : RunOk P (evStep F X rec) := by
  intro top N code c hcmp T s ex T' s' h
  cases hcmp with
  | skip =>
    simp only [evStep] at h; cases h
    exact ⟨Mono.refl _, fun ro hro ρ a w Q hs ht hf hQ => ⟨wpIn_skip (hQ ρ a w (.plain (Post.refl hs) ht rfl)), fun x e => by cases e⟩⟩
  | label l =>
    simp only [evStep] at h; cases h
    exact ⟨Mono.refl _, fun ro hro ρ a w Q hs ht hf hQ => ⟨wpIn_label (hQ ρ a w (.plain (Post.refl hs) ht rfl)), fun x e => by cases e⟩⟩
  | exit id =>
    simp only [evStep] at h; cases h
    exact ⟨Mono.refl _, fun ro hro ρ a w Q hs ht hf hQ => ⟨wpIn_exit (hQ ρ a w (.plain (Post.refl hs) ht rfl)), fun x e => by cases e⟩⟩
  | ret =>
    simp only [evStep] at h; cases h
    exact ⟨Mono.refl _, fun ro hro ρ a w Q hs ht hf hQ => ⟨wpIn_ret (hQ ρ a w (.plain (Post.refl hs) ht rfl)), fun x e => by cases e⟩⟩
  | dead => simp only [evStep] at h; cases h
  | rf hg htab htop =>
    simp only [evStep] at h
    obtain ⟨m, hk⟩ := evRf_ok hce hg htab h
    refine ⟨m, fun ro hro ρ a w Q hs ht hf hQ => ⟨?_, fun x e => by cases e⟩⟩
    have := hro htop
    subst this
    subst htop
    exact hk ρ a w Q hs ht hf hQ
  | reg id ops l hl hC =>
    simp only [evStep] at h
    split at h <;> cases h
    rename_i hv
    have key := fun ro (Q : Exit → Act → World → Prop) ρ a w => reg_ok (ro := ro) (Q := Q) hc l 0 T T' s s' ρ a w (by simpa using hl) (fun i oe hi => by simpa using hC i oe hi) hv
    refine ⟨(key none (fun _ _ _ => True) (fun _ => none) ⟨#[], []⟩ default).1, fun ro hro ρ a w Q hs ht hf hQ => ⟨wpIn_region ?_, fun x e => by cases e⟩⟩
    have := (key ro Q ρ a w).2 hs ht hf fun ρ' a' w' h1 h2 h3 => hQ ρ' a' w' (.plain h1 h2 h3)
    rwa [hl, ← List.range_eq_range'] at this
  | dreg id ops l hst =>
    simp only [evStep] at h
    split at h <;> cases h
    rename_i hv
    refine ⟨(dreg_ok (ro := none) (Q := fun _ _ _ => True) (id := id) hc hm hst hv).1, fun ro hro ρ a w Q hs ht hf hQ => ⟨?_, fun x e => by cases e⟩⟩
    exact (dreg_ok (Q := Q) (id := id) hc hm hst hv).2 ρ a w hs ht hf fun ρ' a' w' h1 h2 h3 => hQ ρ' a' w' (.plain h1 h2 h3)
  | seq h1 h2 =>
    simp only [evStep] at h
    split at h
    · rename_i T1 s1 hv
      obtain ⟨m1, k1⟩ := hr _ _ _ _ h1 _ _ _ _ _ hv
      obtain ⟨m2, k2⟩ := hr _ _ _ _ h2 _ _ _ _ _ h
      refine ⟨m1.trans m2, fun ro hro ρ a w Q hs ht hf hQ => ⟨wpIn_seq ?_, fun x e => by cases e⟩⟩
      have hf1 : Fresh ρ s s1 := fun i h1 h2 => hf i h1 (Nat.lt_of_lt_of_le h2 m2.next)
      refine (k1 ro hro ρ a w _ hs ht hf1 fun ρ' a' w' ho => ?_).1
      refine (k2 ro hro ρ' a' w' Q ho.post.sat ho.tm (ho.post.fresh hf) fun ρ'' a'' w'' ho' => ?_).1
      exact hQ ρ'' a'' w'' (ho.trans hf ho')
    · rename_i hno
      obtain ⟨m1, k1⟩ := hr _ _ _ _ h1 _ _ _ _ _ h
      refine ⟨m1, fun ro hro ρ a w Q hs ht hf hQ => ⟨wpIn_seq ?_, fun x e => by cases e⟩⟩
      refine (k1 ro hro ρ a w _ hs ht hf fun ρ' a' w' ho => ?_).1
      cases ex with
      | normal => exact (hno _ _ h).elim
      | exit id => exact hQ ρ' a' w' ho
      | ret => exact hQ ρ' a' w' ho
  | cond hcO h1 h2 =>
    rename_i Xo c0 x y a0 b0
    simp only [evStep] at h
    split at h
    · rename_i hv
      obtain ⟨m1, k1⟩ := hr _ _ _ _ h1 _ _ _ _ _ h
      refine ⟨m1, fun ro hro ρ a w Q hs ht hf hQ => ⟨?_, fun x e => by cases e⟩⟩
      have := ht.env.env _ _ _ hcO hv
      simp only [Rel] at this
      exact wpIn_cond_true this (k1 ro hro ρ a w Q hs ht hf hQ).1
    · rename_i hv
      obtain ⟨m1, k1⟩ := hr _ _ _ _ h2 _ _ _ _ _ h
      refine ⟨m1, fun ro hro ρ a w Q hs ht hf hQ => ⟨?_, fun x e => by cases e⟩⟩
      have := ht.env.env _ _ _ hcO hv
      simp only [Rel] at this
      exact wpIn_cond_false this (k1 ro hro ρ a w Q hs ht hf hQ).1
    · cases h
  | block id h1 =>
    simp only [evStep] at h
    split at h
    · rename_i j T1 s1 hv
      obtain ⟨m1, k1⟩ := hr _ _ _ _ h1 _ _ _ _ _ hv
      split at h
      · rename_i hj
        cases h
        have hj' := Nat.eq_of_beq_eq_true hj
        refine ⟨m1, fun ro hro ρ a w Q hs ht hf hQ => ⟨wpIn_block ?_, fun x e => by cases e⟩⟩
        refine (k1 ro hro ρ a w _ hs ht hf fun ρ' a' w' ho => ?_).1
        simp only [Ex.of, Exit.inBlock, hj', if_true]
        exact hQ ρ' a' w' ho
      · rename_i hj
        cases h
        have hj' : ¬ j = id := fun e => by subst e; simp at hj
        refine ⟨m1, fun ro hro ρ a w Q hs ht hf hQ => ⟨wpIn_block ?_, fun x e => by cases e⟩⟩
        refine (k1 ro hro ρ a w _ hs ht hf fun ρ' a' w' ho => ?_).1
        simp only [Ex.of, Exit.inBlock, hj', if_false]
        exact hQ ρ' a' w' ho
    · rename_i hno
      obtain ⟨m1, k1⟩ := hr _ _ _ _ h1 _ _ _ _ _ h
      refine ⟨m1, fun ro hro ρ a w Q hs ht hf hQ => ⟨wpIn_block ?_, fun x e => by cases e⟩⟩
      refine (k1 ro hro ρ a w _ hs ht hf fun ρ' a' w' ho => ?_).1
      cases ex with
      | normal => exact hQ ρ' a' w' ho
      | exit j => exact (hno _ _ _ h).elim
      | ret => exact hQ ρ' a' w' ho
  | loop h1 =>
    rename_i x0 a0
    simp only [evStep] at h
    split at h
    · rename_i T1 s1 hv
      obtain ⟨m1, k1⟩ := hr _ _ _ _ h1 _ _ _ _ _ hv
      obtain ⟨m2, k2⟩ := hr _ _ _ _ (.loop h1) _ _ _ _ _ h
      have key : ∀ ro, (top = true → ro = none) → ∀ (ρ : Rho) (a : Act) (w : World) (Q : Exit → Act → World → Prop), Sat ρ s.get w → TRel ρ T N a → Fresh ρ s s' →
          (∀ ρ' a' w', Out top N ρ s a w ρ' T' s' a' w' → Q ex.of a' w') → LoopW ro P x0 Q a w := by
        intro ro hro ρ a w Q hs ht hf hQ
        have hf1 : Fresh ρ s s1 := fun i h1 h2 => hf i h1 (Nat.lt_of_lt_of_le h2 m2.next)
        refine loopW_of (k1 ro hro ρ a w _ hs ht hf1 fun ρ' a' w' ho => ?_).1
        refine (k2 ro hro ρ' a' w' Q ho.post.sat ho.tm (ho.post.fresh hf) fun ρ'' a'' w'' ho' => ?_).2 _ rfl
        exact hQ ρ'' a'' w'' (ho.trans hf ho')
      exact ⟨m1.trans m2, fun ro hro ρ a w Q hs ht hf hQ => ⟨wp_of_loopW (key ro hro ρ a w Q hs ht hf hQ), fun x e => by cases e; exact key ro hro ρ a w Q hs ht hf hQ⟩⟩
    · rename_i hno
      obtain ⟨m1, k1⟩ := hr _ _ _ _ h1 _ _ _ _ _ h
      have key : ∀ ro, (top = true → ro = none) → ∀ (ρ : Rho) (a : Act) (w : World) (Q : Exit → Act → World → Prop), Sat ρ s.get w → TRel ρ T N a → Fresh ρ s s' →
          (∀ ρ' a' w', Out top N ρ s a w ρ' T' s' a' w' → Q ex.of a' w') → LoopW ro P x0 Q a w := by
        intro ro hro ρ a w Q hs ht hf hQ
        refine loopW_of (k1 ro hro ρ a w _ hs ht hf fun ρ' a' w' ho => ?_).1
        cases ex with
        | normal => exact (hno _ _ h).elim
        | exit j => exact hQ ρ' a' w' ho
        | ret => exact hQ ρ' a' w' ho
      exact ⟨m1, fun ro hro ρ a w Q hs ht hf hQ => ⟨wp_of_loopW (key ro hro ρ a w Q hs ht hf hQ), fun x e => by cases e; exact key ro hro ρ a w Q hs ht hf hQ⟩⟩

/-- A function's results, told. -/
def cRv (P : Program) : List ResultVar → Option (List Rv)
  | [] => some []
  | .tmp t :: r => match cRv P r with
    | some l => some (.tmp t :: l)
    | none => none
  | .cell a t :: r => match cPartT P t, cRv P r with
    | some n, some l => some (.cell n a :: l)
    | _, _ => none

/-- A function, told. -/
structure FnOk (P : Program) (f : Nat) (fn : FnC) : Prop where
  ok : ∃ fun_ code, P.funcs[f]? = some fun_ ∧ fun_.body = some code ∧ fun_.ntmps = fn.ntmps ∧ (fun_.name == "runtime.NumGoroutine") = false ∧ Cmp P true fn.ntmps code fn.body ∧ cRv P fun_.results.toList = some fn.results

def resF (tmps : Array Value) : ResultVar → Sem Value
  | .tmp t => pure (tmps.getD t undef)
  | .cell a t => do loadVar t (← asAddr (tmps.getD a undef))

theorem results_eq (fn : Func) (tmps : Array Value) : results fn tmps = (do
    let vs ← fn.results.mapM (resF tmps)
    pure (if h : vs.size = 1 then vs[0] else .tuple vs)) := by
  unfold results
  congr 1

theorem rvs_ok {T : Tm} {s : St} {N : Nat} {ρ : Rho} {a : Act} (hs : Sat ρ s.get w) (ht : TRel ρ T N a) : ∀ {rs : List ResultVar} {l : List Rv} {vs : List V}, cRv P rs = some l → rvs T s l = some vs →
    ∃ xs, RelL ρ vs xs ∧ (rs.mapM (resF a.tmps)).run P w = .ok xs w
  | [], l, vs, hc, hv => by
    simp only [cRv] at hc; cases hc
    simp only [rvs] at hv; cases hv
    exact ⟨[], by simp [RelL], by simp⟩
  | .tmp t :: r, l, vs, hc, hv => by
    simp only [cRv] at hc
    split at hc <;> cases hc
    rename_i l' hl
    simp only [rvs] at hv
    split at hv <;> cases hv
    rename_i v m hvt hm
    obtain ⟨xs, h1, h2⟩ := rvs_ok hs ht hl hm
    obtain ⟨x, hx, hrx⟩ := ht.tmp t v hvt
    refine ⟨x :: xs, by simp only [RelL]; exact ⟨x, xs, hrx, h1, rfl⟩, ?_⟩
    have : a.tmps.getD t undef = x := by simp [Array.getD_eq_getD_getElem?, hx]
    simp only [List.mapM_cons, Sem.run_bind, resF, Sem.run_pure, Result.andThen_ok, this]
    rw [h2]; rfl
  | .cell t ty :: r, l, vs, hc, hv => by
    simp only [cRv] at hc
    split at hc <;> cases hc
    rename_i n l' hn hl
    simp only [rvs] at hv
    split at hv <;> (try (cases hv; done))
    rename_i v hvt
    split at hv <;> cases hv
    rename_i u m hu hm
    obtain ⟨xs, h1, h2⟩ := rvs_ok hs ht hl hm
    obtain ⟨x, hx, hrx⟩ := ht.tmp t v hvt
    have hp := cPartT_ok hn
    obtain ⟨y, hy, hry⟩ : ∃ y, Ok P (Instr.loadAt ty x) w y ∧ Rel ρ u y := by
      cases n with
      | none => exact vld1_ok hs hrx hu hp
      | some n => exact vldn_ok hs hrx hu hp.1 hp.2
    refine ⟨y :: xs, by simp only [RelL]; exact ⟨y, xs, hry, h1, rfl⟩, ?_⟩
    have hgx : a.tmps.getD t undef = x := by simp [Array.getD_eq_getD_getElem?, hx]
    have hld : (do loadVar ty (← asAddr x) : Sem Value).run P w = .ok y w := by
      have hxp : ∃ b, x = .pointer (some b) := by
        cases v with
        | p o off => simp only [Rel] at hrx; obtain ⟨L, _, rfl⟩ := hrx; exact ⟨_, rfl⟩
        | _ => cases n <;> simp [vld1, vldn] at hu
      obtain ⟨b, rfl⟩ := hxp
      exact hy
    simp only [List.mapM_cons, Sem.run_bind, resF, hgx]
    have := hld
    simp only [Sem.run_bind] at this
    rw [this]
    simp only [Result.andThen_ok]
    rw [h2]; rfl

theorem args0_get : ∀ (l : List V) (k : Nat) (T : Tm) (t : Nat) (v : V), Tr.get (args0 l k T) t = some v → (k ≤ t ∧ l[t - k]? = some v) ∨ Tr.get T t = some v
  | [], k, T, t, v, h => .inr h
  | x :: l, k, T, t, v, h => by
    rcases args0_get l (k + 1) (Tr.set T k (some x)) t v h with ⟨h1, h2⟩ | h1
    · refine .inl ⟨by omega, ?_⟩
      rw [show t - k = (t - (k + 1)) + 1 by omega]
      simpa using h2
    · rcases Tm.put_get T (some k) x t v h1 with ⟨h2, rfl⟩ | ⟨h2, h3⟩
      · cases h2
        exact .inl ⟨Nat.le_refl _, by simp⟩
      · exact .inr h3

/-- A round, told. -/
def RdOk (P : Program) (site : Nat) (rd : Rd) : Prop :=
  ∃ N ps x y, tab site = some (N, ps, x, y) ∧ rd.ps = ps.toList ∧ (∀ p ∈ rd.ps, p < N) ∧ Cmp P false N x rd.assign ∧ Cmp P false N y rd.body

/-- What is told of a program. -/
structure FsOk (P : Program) (F : Fs) : Prop where
  f : ∀ k fn, F.f k = some fn → FnOk P k fn
  y : ∀ k rd, F.y k = some rd → RdOk P k rd

theorem leaves_marks {fn : Func} {tmps : Array Value} {R : Ending → World → Prop} {ρ ρ' : Rho} {s s' : St} {w : World} (hs : Sat ρ s.get w) (hR : ∀ w', Post ρ s w ρ' s' w' → ∃ x, (results fn tmps).run P w' = .ok x w' ∧ R (.returned x) w') :
    ∀ (ms : List Deferred) (w' : World), Post ρ s w ρ' s' w' → Marks w.heap.size ρ' s' w' ms → LeavesInM (Fr none) 0 P fn tmps R ms .returning w'
  | [], w', hp, _ => hR w' hp
  | d :: ms, w', hp, hm => by
    obtain ⟨⟨r, h1, h2, h3, h4⟩, h5, h6⟩ := hm
    have hoth : ∀ b, b ≠ r → (w'.putObj r (.deferred none)).heap[b]? = w'.heap[b]? := fun b hb => World.putObj_heap_other hb
    refine ⟨by simp, .inl ⟨r, w'.putObj r (.deferred none), h1, run_takeDeferred h3, leaves_marks hs hR ms _ ?_ ?_⟩⟩
    · refine { ext := hp.ext, dom := hp.dom, sat := ⟨fun o ob ho => ?_, hp.sat.apart⟩, next := hp.next, ver := hp.ver, alive := hp.alive, size := by simpa using hp.size, os := hp.os, output := hp.output, tape := hp.tape,
               other := fun b hb hno => ?_, kept := fun o ob ho hv => ?_ }
      · obtain ⟨L, hL, hr⟩ := hp.sat.obj o ob ho
        exact ⟨L, hL, hr.mono (fun _ _ h => h) (hoth _ (h4 o ob L ho hL))⟩
      · rw [hoth b (by omega)]; exact hp.other b hb hno
      · obtain ⟨h7, h8⟩ := hp.kept o ob ho hv
        refine ⟨h7, fun L hL => ?_⟩
        obtain ⟨L', hL', hr⟩ := hs.obj o ob h7
        rw [hL] at hL'; cases hL'
        have := hr.lt
        rw [hoth _ (by omega)]; exact h8 L hL
    · have key : ∀ ms : List Deferred, (∀ d' ∈ ms, d'.target ≠ d.target) → Marks w.heap.size ρ' s' w' ms → Marks w.heap.size ρ' s' (w'.putObj r (.deferred none)) ms := by
        intro ms
        induction ms with
        | nil => intro _ _; trivial
        | cons x ms ih =>
          intro hne hm
          obtain ⟨⟨r', e1, e2, e3, e4⟩, e5, e6⟩ := hm
          refine ⟨⟨r', e1, e2, ?_, e4⟩, e5, ih (fun d' hd' => hne d' (by simp [hd'])) e6⟩
          have : r' ≠ r := by
            intro e
            subst e
            exact hne x (by simp) (e1.trans h1.symm)
          rw [hoth r' this]; exact e3
      exact key ms h5 h6

theorem callT_ok {F : Fs} {rec : EvC} (hr : RunOk P rec) (hF : FsOk P F) : EntOk P (callT F rec) := by
  intro f args s v s' h
  unfold callT at h
  split at h <;> (try (cases h; done))
  rename_i fn hfn
  obtain ⟨fun_, code, h1, h2, h3, h4, h5, h6⟩ := (hF.f f fn hfn).ok
  split at h <;> (try (cases h; done))
  rename_i hle
  have hle' := Nat.le_of_ble_eq_true hle
  have fin : ∀ ex T, rec fn.body (args0 args 0 (Tr.nil 3)) s = some (ex, T, s') → (ex = .normal ∨ ex = .ret) → rv T s' fn.results = some v → Mono s s' ∧ ∀ ρ w X, Sat ρ s.get w → RelL ρ args X → Fresh ρ s s' →
      (callFunc f X.toArray).run P w = .ok (.enter f X.toArray) w ∧ Calls P f X.toArray w (RetR ρ s w v s') := by
    intro ex T hev hex hrv
    obtain ⟨m, k⟩ := hr _ _ _ _ h5 _ _ _ _ _ hev
    refine ⟨m, fun ρ w Xs hs hx hf => ⟨?_, ?_⟩⟩
    · have h4' : ¬ fun_.name = "runtime.NumGoroutine" := by simpa using h4
      simp [callFunc, h1, h4', h2]
    · refine (callsIn_wide (n := 0)).1 (callsIn_of_wp_marks (F := Fr none) h1 h2 trivial ?_ rfl)
      have htr : TRel ρ (args0 args 0 (Tr.nil 3)) fn.ntmps { tmps := Xs.toArray ++ Array.replicate (fun_.ntmps - Xs.toArray.size) undef, defers := [] } := by
        have hlen := hx.length
        refine ⟨by simp [h3]; omega, fun t u ht => ?_⟩
        rcases args0_get args 0 (Tr.nil 3) t u ht with ⟨_, h7⟩ | h7
        · simp only [Nat.sub_zero] at h7
          obtain ⟨y, hy, hry⟩ := hx.get t u h7
          refine ⟨y, ?_, hry⟩
          have := (List.getElem?_eq_some_iff.1 hy).1
          simp [Array.getElem?_append, this]
          rw [List.getElem?_eq_getElem this] at hy
          exact Option.some.inj hy
        · rw [Tr.get_nil] at h7; cases h7
      refine (k none (fun _ => rfl) ρ _ w _ hs htr hf fun ρ' a' w' ho => ?_).1
      obtain ⟨ms, hd', hms, _⟩ := ho.de
      simp only [List.append_nil] at hd'
      have hres : ∀ w'', Post ρ s w ρ' s' w'' → ∃ x, (results fun_ a'.tmps).run P w'' = .ok x w'' ∧ RetR ρ s w v s' (.returned x) w'' := by
        intro w'' hp
        unfold rv at hrv
        have hmap : ∀ vs, rvs T s' fn.results = some vs → ∃ xs, RelL ρ' vs xs ∧ (results fun_ a'.tmps).run P w'' = .ok (if h : xs.toArray.size = 1 then xs.toArray[0] else .tuple xs.toArray) w'' := by
          intro vs hvs
          obtain ⟨xs, h7, h8⟩ := rvs_ok (P := P) hp.sat ho.tm h6 hvs
          refine ⟨xs, h7, ?_⟩
          rw [results_eq, Array.mapM_eq_mapM_toList]
          simp only [Sem.run_bind, Sem.run_map]
          rw [h8]
          rfl
        split at hrv
        · rename_i v' hvs
          cases hrv
          obtain ⟨xs, h7, h8⟩ := hmap _ hvs
          simp only [RelL] at h7
          obtain ⟨y, ys, h9, h10, rfl⟩ := h7
          subst h10
          exact ⟨y, by simpa using h8, y, ρ', rfl, h9, hp⟩
        · rename_i l hno hvs
          cases hrv
          obtain ⟨xs, h7, h8⟩ := hmap _ hvs
          have hne : ¬ xs.toArray.size = 1 := by
            intro e
            have := h7.length
            simp at e
            match l, this with
            | [z], _ => exact hno z rfl
            | [], hh => simp [e] at hh
            | _ :: _ :: _, hh => simp [e] at hh
          rw [dif_neg hne] at h8
          exact ⟨_, h8, _, ρ', rfl, by simp only [Rel]; exact ⟨xs, h7, rfl⟩, hp⟩
        · cases hrv
      have := leaves_marks (P := P) hs hres ms w' ho.post hms
      rcases hex with rfl | rfl
      · show LeavesInM (Fr none) 0 P fun_ a'.tmps _ a'.defers .returning w'
        rw [hd']; exact this
      · show LeavesInM (Fr none) 0 P fun_ a'.tmps _ a'.defers .returning w'
        rw [hd']; exact this
  split at h
  · rename_i T s1 hev
    split at h <;> cases h
    rename_i hrv
    exact fin _ _ hev (.inl rfl) hrv
  · rename_i T s1 hev
    split at h <;> cases h
    rename_i hrv
    exact fin _ _ hev (.inr rfl) hrv
  · cases h

theorem callY_ok {F : Fs} {rec : EvC} (hr : RunOk P rec) (hF : FsOk P F) : RdsOk P (callY F rec) := by
  intro l args s v s' h
  unfold callY at h
  split at h <;> (try (cases h; done))
  rename_i k0 T site ve0 hg0
  split at h <;> (try (cases h; done))
  rename_i rd hrd
  obtain ⟨N, ps, x, y, htab, hps, hpn, hcx, hcy⟩ := hF.y _ _ hrd
  split at h <;> (try (cases h; done))
  rename_i T1 hT1
  split at h <;> (try (cases h; done))
  rename_i T2 s1 hev1
  split at h <;> (try (cases h; done))
  rename_i k1 T3 site3 ve1 hg1
  split at h <;> (try (cases h; done))
  rename_i hk1
  split at h <;> (try (cases h; done))
  rename_i ex T2' s2 hev2
  split at h <;> (try (cases h; done))
  rename_i k2 T4 site4 ve2 hg2
  cases h
  have hk1' := Nat.eq_of_beq_eq_true hk1
  subst hk1'
  obtain ⟨m1, r1⟩ := hr _ _ _ _ hcx _ _ _ _ _ hev1
  obtain ⟨m2, r2⟩ := hr _ _ _ _ hcy _ _ _ _ _ hev2
  have mw1 := write_mono hg1 (.loop 1 T3 site3 s1.ver) none rfl
  have mw2 := write_mono hg2 (.loop (exK ex) T4 site4 s2.ver) none rfl
  refine ⟨((m1.trans mw1).trans m2).trans mw2, fun ro ρ w X L hs hx hf hL => ?_⟩
  obtain ⟨L0, hL0, r, N0, e1, e2, e3, e4, e5, e6⟩ := hs.obj _ _ hg0
  rw [hL] at hL0; cases hL0
  rw [htab] at e4; cases e4
  have ht0 : TRel ρ T N { tmps := r.tmps, defers := [] } := ⟨e5, e6⟩
  obtain ⟨hlen, ht1⟩ := putPs_ok hT1 hpn hx ht0
  have hfold : (r.params.zip X.toArray).foldl (fun tmps (t, a) => tmps.setIfInBounds t a) r.tmps = (rd.ps.zip X).foldl (fun tmps (p : Nat × Value) => tmps.setIfInBounds p.1 p.2) r.tmps := by
    rw [← Array.foldl_toList, Array.toList_zip, hps]
  refine ⟨r.fn, _, r.assign, r.body, run_yield e1 (by simp [hlen, hps]), ?_⟩
  rw [hfold]
  refine roundIn_of_wpIn trivial ?_
  have hf1 : Fresh ρ s s1 := fun i h1 h2 => hf i h1 (Nat.lt_of_lt_of_le h2 ((mw1.trans m2).trans mw2).next)
  refine (r1 (some L.blk) (fun e => by cases e) ρ _ w _ hs ht1 hf1 fun ρ1 a1 w1 ho1 => ?_).1
  obtain ⟨L1, hL1, q1, N1, f1, f2, f3, f4, f5, f6⟩ := ho1.post.sat.obj _ _ hg1
  have hL1' := ho1.post.ext _ _ hL
  rw [hL1'] at hL1; cases hL1
  have hpw1 : Post ρ1 s1 w1 ρ1 (s1.write l (.loop 1 T3 site3 s1.ver) none) (w1.putObj L.blk (.loop { q1 with state := .busy })) := by
    refine write_post (ob0 := .loop 0 T3 site3 ve1) ho1.post.sat hg1 hL1' ?_ rfl rfl (fun b hb => World.putObj_heap_other hb) (by simp) rfl rfl rfl
    exact ⟨{ q1 with state := .busy }, N1, World.putObj_heap_same (Array.getElem?_eq_some_iff.1 f1).1, rfl, by rw [show ({ q1 with state := LoopState.busy } : Loop).pending = q1.pending from rfl, f3]; rfl, f4, f5, f6⟩
  refine ⟨_, run_beginRound f1 f2, ?_⟩
  have hfw1 : Fresh ρ1 s1 (s1.write l (.loop 1 T3 site3 s1.ver) none) := fun i h1 h2 => absurd h2 (Nat.not_lt.2 h1)
  have hp1 := ho1.post.trans hf1 hpw1
  have hf2 : Fresh ρ1 (s1.write l (.loop 1 T3 site3 s1.ver) none) s2 := fun i h1 h2 => ho1.post.fresh hf i h1 (Nat.lt_of_lt_of_le h2 mw2.next)
  refine (r2 (some L.blk) (fun e => by cases e) ρ1 a1 _ _ hpw1.sat ho1.tm hf2 fun ρ2 a2 w2 ho2 => ?_).1
  obtain ⟨L2, hL2, q2, N2, g1, g2, g3, g4, g5, g6⟩ := ho2.post.sat.obj _ _ hg2
  have hL2' := ho2.post.ext _ _ hL1'
  rw [hL2'] at hL2; cases hL2
  have fin : ∀ jump : Option Code, (if jump.isNone then LoopState.ready else LoopState.done) = lpSt (exK ex) → jump = lpPen (exK ex) → jump.isNone = exB ex →
      ∃ v w', (Instr.endRound L.blk jump).run P w2 = .ok v w' ∧ RetR ρ s w (.b (exB ex)) (s2.write l (.loop (exK ex) T4 site4 s2.ver) none) (.returned v) w' := by
    intro jump hj1 hj2 hj3
    have hpw2 : Post ρ2 s2 w2 ρ2 (s2.write l (.loop (exK ex) T4 site4 s2.ver) none) (w2.putObj L.blk (.loop { q2 with state := if jump.isNone then .ready else .done, pending := jump })) := by
      refine write_post (ob0 := .loop k2 T4 site4 ve2) ho2.post.sat hg2 hL2' ?_ rfl rfl (fun b hb => World.putObj_heap_other hb) (by simp) rfl rfl rfl
      exact ⟨{ q2 with state := if jump.isNone then .ready else .done, pending := jump }, N2, World.putObj_heap_same (Array.getElem?_eq_some_iff.1 g1).1, hj1, hj2, g4, g5, g6⟩
    have hp12 := hp1.trans (fun i h1 h2 => hf i h1 (Nat.lt_of_lt_of_le h2 (m2.trans mw2).next)) ho2.post
    have hp := hp12.trans (fun i h1 h2 => hf i h1 (Nat.lt_of_lt_of_le h2 mw2.next)) hpw2
    exact ⟨_, _, run_endRound jump g1, _, ρ2, rfl, by simp [Rel, hj3], hp⟩
  cases ex with
  | normal => exact fin none rfl rfl rfl
  | ret => exact fin (some .ret) rfl rfl rfl
  | exit id => exact fin (some (.exit id)) rfl rfl rfl

theorem callW_ok {F : Fs} {X : XF} {rec : EvC} (hr : RunOk P rec) (hF : FsOk P F)
    (hX : ∀ f x, X f = some x → FnsOk P fun g args s => if g = f then x args s else none) : CallOk P (callW F X rec) := by
  refine ⟨fun f args s v s' h => ?_, callY_ok hr hF⟩
  simp only [callW, callFn] at h
  split at h
  · rename_i x hx
    exact hX f x hx f args s v s' (by simpa using h)
  · obtain ⟨m, k⟩ := callT_ok hr hF f args s v s' h
    exact ⟨m, fun ρ w Xs hs hx hf => .inl (k ρ w Xs hs hx hf)⟩

theorem ev_ok {F : Fs} {X : XF} (hm : P.follows .mixedOrders = true) (hF : FsOk P F)
    (hX : ∀ f x, X f = some x → FnsOk P fun g args s => if g = f then x args s else none) : ∀ n, RunOk P (ev F X n)
  | 0 => by intro top N code c _ T s ex T' s' h; simp [ev] at h
  | n + 1 => evStep_ok hm (ev_ok hm hF hX n) (callW_ok (ev_ok hm hF hX n) hF hX) (callT_ok (ev_ok hm hF hX n) hF)

theorem evFn_ok {F : Fs} {X : XF} (hm : P.follows .mixedOrders = true) (hF : FsOk P F)
    (hX : ∀ f x, X f = some x → FnsOk P fun g args s => if g = f then x args s else none) (n : Nat) : CallOk P (evFn F X n) := callW_ok (ev_ok hm hF hX n) hF hX

end Go.Wg
