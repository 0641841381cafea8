/- One operation, and a region whose order is fixed, held against the model's. -/
import Derived.Test.YtfeddldjjpnjoaaGreatDoorF
import Derived.OrdersIn
import Derived.RangeFuncRecord
import Derived.RangeFuncCalls
namespace Go.Wg
variable {P : Program} {ρ : Rho} {g : Get} {w : World}

/-- The small machine's memory goes on. -/
structure Mono (s s' : St) : Prop where
  next : s.next ≤ s'.next
  ver : s.ver ≤ s'.ver
  kept : ∀ o ob, s'.get o = some ob → ob.ver < s.ver → s.get o = some ob
  alive : ∀ o ob, s'.get o = some ob → (∃ ob0, s.get o = some ob0) ∨ (s.next ≤ o ∧ o < s'.next)

theorem Mono.refl (s : St) : Mono s s := ⟨Nat.le_refl _, Nat.le_refl _, fun _ _ h _ => h, fun _ _ h => .inl ⟨_, h⟩⟩
theorem Mono.trans {s s' s'' : St} (h : Mono s s') (h' : Mono s' s'') : Mono s s'' := by
  refine ⟨Nat.le_trans h.next h'.next, Nat.le_trans h.ver h'.ver, fun o ob ho hv => h.kept o ob (h'.kept o ob ho (Nat.lt_of_lt_of_le hv h.ver)) hv, fun o ob ho => ?_⟩
  rcases h'.alive o ob ho with ⟨ob0, h1⟩ | ⟨h1, h2⟩
  · rcases h.alive o ob0 h1 with h3 | ⟨h3, h4⟩
    · exact .inl h3
    · exact .inr ⟨h3, Nat.lt_of_lt_of_le h4 h'.next⟩
  · exact .inr ⟨Nat.le_trans h.next h1, h2⟩

def RetR (ρ : Rho) (s : St) (w : World) (v : V) (s' : St) (e : Ending) (w' : World) : Prop := ∃ x ρ', e = .returned x ∧ Rel ρ' v x ∧ Post ρ s w ρ' s' w'

/-- A function's frames, or those of a loop's rounds. -/
abbrev Fr (ro : Option Nat) : Fence := { Fence.wide with round := ro }

/-- Calls of functions are answered rightly. -/
def FnsOk (P : Program) (call : Nat → List V → St → Option (V × St)) : Prop :=
  ∀ f args s v s', call f args s = some (v, s') → Mono s s' ∧ ∀ ρ w X, Sat ρ s.get w → RelL ρ args X → Fresh ρ s s' →
    ((callFunc f X.toArray).run P w = .ok (.enter f X.toArray) w ∧ Calls P f X.toArray w (RetR ρ s w v s')) ∨
    (∃ x w', (callFunc f X.toArray).run P w = .ok (.value x) w' ∧ RetR ρ s w v s' (.returned x) w')

/-- Rounds are answered rightly. -/
def RdsOk (P : Program) (call : Nat → List V → St → Option (V × St)) : Prop :=
  ∀ l args s v s', call l args s = some (v, s') → Mono s s' ∧ ∀ ro ρ w X L, Sat ρ s.get w → RelL ρ args X → Fresh ρ s s' → ρ l = some L →
    ∃ fn tmps assign body, (Instr.yield L.blk X.toArray).run P w = .ok (.round L.blk fn tmps assign body) w ∧ RoundIn (Fr ro) 0 P L.blk fn tmps assign body w (RetR ρ s w v s')

/-- Calls are answered rightly. -/
structure CallOk (P : Program) (call : CallF) : Prop where
  f : FnsOk P fun k => call (.f k)
  y : RdsOk P fun k => call (.y k)

/-- What slots hold. -/
structure EnvT (ρ : Rho) (e : Env) (a : Act) : Prop where
  tmp : ∀ d v, e (.t d) = some v → ∃ x, a.tmps[d]? = some x ∧ Rel ρ v x
  const : ∀ v, e (.c v) = some v

theorem EnvT.env {e : Env} {a : Act} (h : EnvT ρ e a) : EnvR ρ e a.eval := by
  intro X x v hc hv
  cases X with
  | tmp t =>
    simp only [cO] at hc; cases hc
    obtain ⟨y, hy, hr⟩ := h.tmp t v hv
    simpa [Act.eval, Array.getD_eq_getD_getElem?, hy] using hr
  | const c =>
    simp only [cO] at hc
    split at hc <;> cases hc
    rename_i u hu
    rw [h.const] at hv; cases hv
    exact cV_ok hu
  | func f =>
    simp only [cO] at hc; cases hc
    rw [h.const] at hv; cases hv
    simp only [Rel, Act.eval, RelL]
    exact ⟨[], rfl, rfl⟩
  | global g => simp [cO] at hc

/-- A call, told. -/
def CallC (o : Oper) (f : Opd) (args : List Opd) : Prop :=
  ∃ F A ts, o.op = .call { callee := .value F, args := A, argTypes := ts } ∧ cO F = some f ∧ cOs A.toList = some args

def IC (P : Program) (o : Oper) (i : I) : Prop :=
  match i with
  | .q q => SndQ P o q
  | .a a => SndA P o a
  | .h h => SndH P o h
  | .call f args => CallC o f args

/-- An operation, told. -/
structure OpC (P : Program) (N : Nat) (ops : Array Oper) (o : Oper) (e : OpE) : Prop where
  dst : e.dst = o.dst
  lt : ∀ d, o.dst = some d → d < N
  guard : (o.guard = none ∧ e.guard = none) ∨ ∃ j x d oj, o.guard = some (j, x) ∧ ops[j]? = some oj ∧ oj.dst = some d ∧ e.guard = some (d, x)
  i : IC P o e.i

theorem want_ok {N : Nat} {ops : Array Oper} {o : Oper} {oe : OpE} {e : Env} {a : Act} {b : Bool} (hC : OpC P N ops o oe) (he : EnvT ρ e a) (hw : want e oe.guard = some b) : Region.wanted o (yielded ops a.tmps) = b := by
  rcases hC.guard with ⟨h1, h2⟩ | ⟨j, x, d, oj, h1, h2, h3, h4⟩
  · rw [h2] at hw; simp only [want] at hw; cases hw
    simp [Region.wanted, h1]
  · rw [h4] at hw
    simp only [want] at hw
    split at hw
    · rename_i y hy
      obtain ⟨z, hz, hr⟩ := he.tmp _ _ hy
      simp only [Rel] at hr; subst hr
      cases hw
      cases x <;> cases y <;> simp [Region.wanted, h1, yielded, h2, h3, hz]
    · rename_i hy
      obtain ⟨z, hz, hr⟩ := he.tmp _ _ hy
      simp only [Rel, RelL] at hr
      obtain ⟨cs, rfl, rfl⟩ := hr
      cases hw
      simp [Region.wanted, h1, yielded, h2, h3, hz]
    · cases hw

theorem Rel.undef : Rel ρ (.tup []) Go.undef := by
  simp only [Rel, RelL]; exact ⟨[], rfl, rfl⟩

theorem evCall_some {call : CallF} {e : Env} {s s' : St} {f : Opd} {args : List Opd} {v : V} (h : evCall call e s f args = some (v, s')) :
    (∃ fn caps l, e f = some (.fn fn caps) ∧ evL e args = some l ∧ call (.f fn) (l ++ caps) s = some (v, s')) ∨
    ∃ o l, e f = some (.yv o) ∧ evL e args = some l ∧ call (.y o) l s = some (v, s') := by
  unfold evCall at h
  split at h
  · rename_i fn caps h1
    split at h
    · rename_i l h2; exact .inl ⟨fn, caps, l, h1, h2, h⟩
    · cases h
  · rename_i o h1
    split at h
    · rename_i l h2; exact .inr ⟨o, l, h1, h2, h⟩
    · cases h
  · cases h

section
variable {N : Nat} {ops : Array Oper} {o : Oper} {call : CallF} {a : Act} {K : Act → World → Prop} {Q : Exit → Act → World → Prop} {ro : Option Nat}

theorem no_defer {ρ' : Operand → Value} {n : Next} {w' : World} (h : (execOp ρ' o).run P w = .ok n w') (hn : (∃ x, n = .value x) ∨ n = .skip) : ∀ c, o.op ≠ .defer c := by
  intro c hc
  simp only [execOp, hc, Sem.run_bind] at h
  revert h
  generalize (resolve ρ' c o.type).run P w = r
  cases r with
  | ok d w1 =>
    intro h
    simp only [Result.andThen_ok, Sem.run_pure] at h
    cases h
    rcases hn with ⟨x, hx⟩ | hx <;> cases hx
  | halt x w1 => intro h; cases h

theorem wp_res {s s' : St} {v : V} (h : Res P (execOp a.eval o) ρ s w v s') (hK : ∀ ρ' w' x, Post ρ s w ρ' s' w' → Rel ρ' v x → K (a.put o.dst x) w') : o.wpIn (Fr ro) 0 P a w K Q := by
  obtain ⟨n, w', ρ', x, h1, h2, h3, h4⟩ := h
  refine ⟨fun _ _ => trivial, ?_⟩
  rw [Oper.semAt_eq _ _ _ (no_defer h1 (by rcases h2 with rfl | ⟨rfl, rfl⟩ <;> simp)), h1]
  rcases h2 with rfl | ⟨rfl, rfl⟩
  · exact hK _ _ _ h4 h3
  · exact hK _ _ _ h4 h3

theorem wp_call {s s' : St} {e : Env} {v : V} {f : Opd} {args : List Opd} (hc : CallOk P call) (hC : CallC o f args) (he : EnvT ρ e a) (hs : Sat ρ s.get w) (hf : Fresh ρ s s') (hv : evCall call e s f args = some (v, s'))
    (hK : ∀ ρ' w' x, Post ρ s w ρ' s' w' → Rel ρ' v x → K (a.put o.dst x) w') : o.wpIn (Fr ro) 0 P a w K Q := by
  obtain ⟨F, A, ts, ho, hF, hA⟩ := hC
  have hr := he.env
  have hnd : ∀ c, o.op ≠ .defer c := by intro c hc; rw [ho] at hc; cases hc
  rcases evCall_some hv with ⟨fn, caps, l, h1, h2, h3⟩ | ⟨l0, l, h1, h2, h3⟩
  case inr =>
    have hfr := hr _ _ _ hF h1
    simp only [Rel] at hfr
    obtain ⟨L, hL, hfv⟩ := hfr
    have hl := evL_rel hr hA h2
    obtain ⟨fn, tmps, assign, body, h4, h5⟩ := (hc.y l0 _ s v s' h3).2 ro ρ w _ L hs hl hf hL
    have hex : execOp a.eval o = Instr.yield L.blk (A.toList.map a.eval).toArray := by
      simp only [execOp, ho, resolve, hfv, Deferred.ofValue, pure_bind, invoke]
      congr 1
      apply Array.ext'
      simp
    refine ⟨fun _ _ => trivial, ?_⟩
    rw [Oper.semAt_eq _ _ _ hnd, hex, h4, Oper.uponIn_round]
    refine ⟨fun h => by simp [Fence.wide] at h, RoundIn.mono h5 fun e' w' h => ?_⟩
    obtain ⟨x, ρ', rfl, h7, h8⟩ := h
    exact hK _ _ _ h8 h7
  have hfr := hr _ _ _ hF h1
  simp only [Rel] at hfr
  obtain ⟨cs, hcs, hfv⟩ := hfr
  have hl := evL_rel hr hA h2
  have hX := hl.append hcs
  have hex : execOp a.eval o = callFunc fn (A.toList.map a.eval ++ cs).toArray := by
    simp only [execOp, ho, resolve, hfv, Deferred.ofValue, pure_bind, invoke]
    congr 1
    apply Array.ext'
    simp
  refine ⟨fun _ _ => trivial, ?_⟩
  rw [Oper.semAt_eq _ _ _ hnd, hex]
  rcases (hc.f fn _ s v s' h3).2 ρ w _ hs hX hf with ⟨h4, h5⟩ | ⟨x, w', h4, y, ρ', h6, h7, h8⟩
  · rw [h4, Oper.uponIn_enter]
    refine ⟨fun h => by simp [Fence.wide] at h, CallsIn.mono (callsIn_wide.2 h5 : CallsIn (Fr ro) 0 P _ _ _ _) fun e' w' h => ?_⟩
    obtain ⟨x, ρ', rfl, h7, h8⟩ := h
    exact hK _ _ _ h8 h7
  · rw [h4]
    cases h6
    exact hK _ _ _ h8 h7

/-- One operation that is wanted. -/
theorem step_I {s s' : St} {e : Env} {v : V} {i : Nat} {oe : OpE} (hc : CallOk P call) (ho : ops[i]? = some o) (hC : OpC P N ops o oe) (he : EnvT ρ e a) (hw : want e oe.guard = some true) (hv : evI call e s oe.i = some (v, s'))
    (hs : Sat ρ s.get w) (hf : Fresh ρ s s') (hK : ∀ ρ' w' x, Post ρ s w ρ' s' w' → Rel ρ' v x → K (a.put o.dst x) w') : wpOpIn (Fr ro) 0 P ops Q i K a w := by
  unfold wpOpIn
  rw [ho]
  simp only [want_ok hC he hw, if_true]
  have hi := hC.i
  cases hoe : oe.i with
  | q q =>
    rw [hoe] at hi hv
    simp only [evI] at hv
    split at hv <;> cases hv
    rename_i hq
    obtain ⟨x, h1, h2⟩ := hi ρ _ w a.eval e v hs he.env hq
    refine ⟨fun _ _ => trivial, ?_⟩
    rw [Oper.semAt_eq _ _ _ (no_defer h1 (.inl ⟨_, rfl⟩)), h1]
    exact hK ρ w x (Post.refl hs) h2
  | a q =>
    rw [hoe] at hi hv
    exact wp_res (hi ρ s w a.eval e v s' hs he.env hf hv) hK
  | h q =>
    rw [hoe] at hi hv
    exact wp_res (hi ρ s w a.eval e v s' hs he.env hf hv) hK
  | call f args =>
    rw [hoe] at hi hv
    exact wp_call hc hi he hs hf hv hK

/-- One operation that is not wanted. -/
theorem step_no {e : Env} {i : Nat} {oe : OpE} (ho : ops[i]? = some o) (hC : OpC P N ops o oe) (he : EnvT ρ e a) (hw : want e oe.guard = some false) (hK : K (a.put o.dst undef) w) : wpOpIn (Fr ro) 0 P ops Q i K a w := by
  unfold wpOpIn
  rw [ho]
  simp only [want_ok hC he hw, Bool.false_eq_true, if_false]
  exact ⟨fun _ _ => trivial, hK⟩
end

/-- What all slots hold. -/
structure TRel (ρ : Rho) (T : Tm) (N : Nat) (a : Act) : Prop where
  size : a.tmps.size = N
  tmp : ∀ d v, Tr.get T d = some v → ∃ x, a.tmps[d]? = some x ∧ Rel ρ v x

theorem TRel.env {T : Tm} {N : Nat} {a : Act} (h : TRel ρ T N a) : EnvT ρ (Tm.opd T) a := ⟨h.tmp, fun _ => rfl⟩
theorem TRel.mono {ρ' : Rho} {T : Tm} {N : Nat} {a : Act} (h : TRel ρ T N a) (hle : Rho.le ρ ρ') : TRel ρ' T N a :=
  ⟨h.size, fun d v hd => by obtain ⟨x, hx, hr⟩ := h.tmp d v hd; exact ⟨x, hx, hr.mono hle⟩⟩

theorem put_size (a : Act) (d : Option Nat) (x : Value) : (a.put d x).tmps.size = a.tmps.size := by cases d <;> simp [Act.put]
theorem put_defers' (a : Act) (d : Option Nat) (x : Value) : (a.put d x).defers = a.defers := by cases d <;> simp [Act.put]

theorem Tm.put_get (T : Tm) (d : Option Nat) (v : V) (t : Nat) (u : V) (h : Tr.get (Tm.put T d v) t = some u) : (d = some t ∧ u = v) ∨ (d ≠ some t ∧ Tr.get T t = some u) := by
  cases d with
  | none => exact .inr ⟨by simp, h⟩
  | some d =>
    by_cases e : t = d
    · subst e
      have hlt := Tr.get_lt h
      simp only [Tm.put] at h
      rw [Tr.get_set_self _ _ _ hlt] at h
      cases h
      exact .inl ⟨rfl, rfl⟩
    · simp only [Tm.put] at h
      rw [Tr.get_set_ne _ _ (Ne.symm e)] at h
      exact .inr ⟨fun h => e (by cases h; rfl), h⟩

theorem TRel.put {T : Tm} {N : Nat} {a : Act} (h : TRel ρ T N a) {d : Option Nat} {v : V} {x : Value} (hv : Rel ρ v x) (hd : ∀ k, d = some k → k < N) : TRel ρ (Tm.put T d v) N (a.put d x) := by
  refine ⟨(put_size a d x).trans h.size, fun t u ht => ?_⟩
  rcases Tm.put_get T d v t u ht with ⟨rfl, rfl⟩ | ⟨h1, h2⟩
  · have := hd t rfl
    exact ⟨x, by simp [Act.put, h.size, this], hv⟩
  · obtain ⟨y, hy, hr⟩ := h.tmp t u h2
    refine ⟨y, ?_, hr⟩
    cases d with
    | none => exact hy
    | some d =>
      have : ¬ d = t := fun e => h1 (by rw [e])
      simp [Act.put, this, hy]

theorem write_mono {s : St} {o : Nat} {ob0 : Ob} (h : s.get o = some ob0) (ob : Ob) (pa : Option Nat) (hv : ob.ver = s.ver) : Mono s (s.write o ob pa) := by
  have key : ∀ j ob', (s.write o ob pa).get j = some ob' → (j = o ∧ ob' = ob) ∨ s.get j = some ob' := by
    intro j ob' hj
    rw [St.write_get h ob pa j] at hj
    split at hj
    · rename_i e; cases hj; exact .inl ⟨e, rfl⟩
    · split at hj
      · cases hj
      · exact .inr hj
  refine ⟨Nat.le_refl _, Nat.le_succ _, fun j ob' hj hlt => ?_, fun j ob' hj => ?_⟩
  · rcases key j ob' hj with ⟨_, rfl⟩ | h1
    · omega
    · exact h1
  · rcases key j ob' hj with ⟨rfl, _⟩ | h1
    · exact .inl ⟨_, h⟩
    · exact .inl ⟨_, h1⟩

theorem hput_mono {s s' : St} {o off : Nat} {vs : List V} (h : hput s o off vs = some s') : Mono s s' := by
  unfold hput at h
  split at h
  · rename_i cells sk pa ve hg
    split at h <;> cases h
    exact write_mono hg _ pa rfl
  · cases h

theorem push_mono (s : St) (ob : Ob) (hv : ob.ver = s.ver) (hk : s.next < Tr.lim) : Mono s (s.push ob) := by
  have key : ∀ j, (s.push ob).get j = if j = s.next then some ob else s.get j := fun j => Tr.get_set s.h s.next j (some ob) hk
  refine ⟨Nat.le_succ _, Nat.le_succ _, fun j ob' hj hlt => ?_, fun j ob' hj => ?_⟩
  · rw [key] at hj
    split at hj
    · cases hj; omega
    · exact hj
  · rw [key] at hj
    split at hj
    · rename_i e; subst e; exact .inr ⟨Nat.le_refl _, Nat.lt_succ_self _⟩
    · exact .inl ⟨_, hj⟩

theorem evA_mono {e : Env} {s s' : St} {a : A} {v : V} (h : evA e s a = some (v, s')) : Mono s s' ∧ ∃ ob, s' = s.push ob ∧ ob.ver = s.ver ∧ ob.partner = none ∧ s.next < Tr.lim ∧
    ∀ hh, evA e ⟨hh, s.next, s.ver⟩ a = some (v, St.push ⟨hh, s.next, s.ver⟩ ob) := by
  have new : ∀ l v s', hnew l s = some (v, s') → ∃ ob, s' = s.push ob ∧ ob.ver = s.ver ∧ ob.partner = none ∧ s.next < Tr.lim ∧ ∀ hh, hnew l ⟨hh, s.next, s.ver⟩ = some (v, St.push ⟨hh, s.next, s.ver⟩ ob) := by
    intro l v s' h
    unfold hnew at h
    split at h <;> cases h
    rename_i hk
    refine ⟨_, rfl, rfl, rfl, okNext_lt hk, fun hh => ?_⟩
    have : okNext ⟨hh, s.next, s.ver⟩ = true := hk
    simp only [hnew, this]
  have mks : ∀ esz n c l v s', hmks esz n c l s = some (v, s') → ∃ ob, s' = s.push ob ∧ ob.ver = s.ver ∧ ob.partner = none ∧ s.next < Tr.lim ∧ ∀ hh, hmks esz n c l ⟨hh, s.next, s.ver⟩ = some (v, St.push ⟨hh, s.next, s.ver⟩ ob) := by
    intro esz n c l v s' h
    unfold hmks at h
    split at h <;> cases h
    rename_i hk h1 h2 h3
    refine ⟨_, rfl, rfl, rfl, okNext_lt hk, fun hh => ?_⟩
    have : okNext ⟨hh, s.next, s.ver⟩ = true := hk
    simp only [hmks, this, h1, h2, h3]
  have key : ∃ ob, s' = s.push ob ∧ ob.ver = s.ver ∧ ob.partner = none ∧ s.next < Tr.lim ∧ ∀ hh, evA e ⟨hh, s.next, s.ver⟩ a = some (v, St.push ⟨hh, s.next, s.ver⟩ ob) := by
    cases a with
    | new l => exact new l v s' h
    | box x =>
      simp only [evA] at h
      split at h <;> (try (cases h; done))
      rename_i u hu
      simpa only [evA, hu] using new _ v s' h
    | mkSl esz n zero parts =>
      simp only [evA] at h
      split at h <;> (try (cases h; done))
      rename_i l hl
      split at h <;> (try (cases h; done))
      rename_i r hr
      simpa only [evA, hl, hr] using mks _ _ _ _ v s' h
    | mk esz bytes zero x y =>
      simp only [evA] at h
      split at h <;> (try (cases h; done))
      rename_i p q hp hq
      have h' := h
      unfold hmake at h
      split at h <;> (try (cases h; done))
      split at h <;> (try (cases h; done))
      rename_i h1 h2 h3 h4
      simpa only [evA, hp, hq, hmake, h1, h2, h3, h4] using mks _ _ _ _ v s' h
    | mkm =>
      simp only [evA, hmkm] at h
      split at h <;> cases h
      rename_i hk
      refine ⟨_, rfl, rfl, rfl, okNext_lt hk, fun hh => ?_⟩
      have : okNext ⟨hh, s.next, s.ver⟩ = true := hk
      simp only [evA, hmkm, this]
    | sb x =>
      simp only [evA] at h
      split at h <;> (try (cases h; done))
      rename_i u hu
      unfold hsb at h
      split at h <;> (try (cases h; done))
      split at h <;> cases h
      rename_i hk
      refine ⟨_, rfl, rfl, rfl, okNext_lt hk, fun hh => ?_⟩
      have : okNext ⟨hh, s.next, s.ver⟩ = true := hk
      simp only [evA, hu, hsb, this]
  obtain ⟨ob, rfl, h2, h3, h4, h5⟩ := key
  exact ⟨push_mono s ob h2 h4, ob, rfl, h2, h3, h4, h5⟩

theorem happG_mono {esz bytes need : Nat} {s s' : St} {v : V} {old nw : List V} (h : happG esz bytes s old nw need = some (v, s')) : Mono s s' := by
  unfold happG at h
  split at h <;> cases h
  rename_i hk _ _
  exact push_mono s _ rfl (okNext_lt hk)

theorem happS_mono {esz bytes n o off len z : Nat} {cap : Option Nat} {s s' : St} {v : V} {nw : List V} (h : happS esz bytes s o off len cap z n nw = some (v, s')) : Mono s s' := by
  have hG : ∀ old nw need, happG esz bytes s old nw need = some (v, s') → Mono s s' := fun old nw need => happG_mono
  unfold happS at h
  split at h <;> (try (cases h; done))
  rename_i cells sk pa ve hg
  split at h <;> (try (cases h; done))
  split at h
  · cases h
    exact write_mono hg _ pa rfl
  · exact hG _ _ _ h
  · unfold happM at h
    split at h <;> cases h
    rename_i hk _ _
    refine ⟨Nat.le_succ _, Nat.le_succ _, fun j ob' hj hlt => ?_, fun j ob' hj => ?_⟩
    · simp only [St.get] at hj
      rw [Tr.get_set _ _ _ _ (okNext_lt hk), Tr.get_set _ _ _ _ (Tr.get_lt hg), St.lose_get] at hj
      split at hj
      · cases hj; simp [Ob.ver] at hlt
      · split at hj
        · cases hj; simp [Ob.ver] at hlt
        · split at hj
          · cases hj
          · exact hj
    · simp only [St.get] at hj
      rw [Tr.get_set _ _ _ _ (okNext_lt hk), Tr.get_set _ _ _ _ (Tr.get_lt hg), St.lose_get] at hj
      split at hj
      · rename_i e; subst e; exact .inr ⟨Nat.le_refl _, Nat.lt_succ_self _⟩
      · split at hj
        · rename_i e; subst e; exact .inl ⟨_, hg⟩
        · split at hj
          · cases hj
          · exact .inl ⟨_, hj⟩

theorem happL_mono {esz bytes n : Nat} {s s' : St} {x v : V} {nw : List V} (h : happL esz bytes s x n nw = some (v, s')) : Mono s s' := by
  unfold happL at h
  split at h
  · split at h <;> cases h <;> exact Mono.refl s
  · split at h <;> (try (cases h; done))
    split at h <;> (try (cases h; done))
    · exact happG_mono h
    · exact happS_mono h
    · exact happS_mono h

theorem happ_mono {esz bytes : Nat} {s s' : St} {x y v : V} (h : happ esz bytes s x y = some (v, s')) : Mono s s' := by
  unfold happ at h
  split at h <;> (try (cases h; done))
  split at h
  · exact happL_mono h
  · split at h <;> (try (cases h; done))
    exact happL_mono h

theorem happZ_mono {esz bytes : Nat} {zero : List V} {s s' : St} {x y v : V} (h : happZ esz bytes zero s x y = some (v, s')) : Mono s s' := by
  unfold happZ at h
  split at h <;> (try (cases h; done))
  split at h <;> (try (cases h; done))
  exact happL_mono h

theorem evH_mono {e : Env} {s s' : St} {h : H} {v : V} (hh : evH e s h = some (v, s')) : Mono s s' := by
  cases h with
  | st n a x =>
    simp only [evH] at hh
    split at hh <;> (try (cases hh; done))
    unfold unitV at hh
    split at hh <;> cases hh
    rename_i hs
    unfold hst at hs
    split at hs <;> (try (cases hs; done))
    split at hs <;> (try (cases hs; done))
    exact hput_mono hs
  | cpy esz d x =>
    simp only [evH] at hh
    split at hh <;> (try (cases hh; done))
    unfold hcpy at hh
    split at hh
    · split at hh <;> (try (cases hh; done))
      split at hh
      · cases hh; exact Mono.refl s
      · split at hh <;> cases hh
        rename_i hp
        exact hput_mono hp
    · cases hh; exact Mono.refl s
    · cases hh; exact Mono.refl s
    · cases hh
  | app esz bytes x y =>
    simp only [evH] at hh
    split at hh <;> (try (cases hh; done))
    exact happ_mono hh
  | appZ esz bytes zero x y =>
    simp only [evH] at hh
    split at hh <;> (try (cases hh; done))
    exact happZ_mono hh
  | clr esz zero x =>
    simp only [evH] at hh
    split at hh <;> (try (cases hh; done))
    unfold hclr at hh
    split at hh <;> (try (cases hh; done))
    · cases hh; exact Mono.refl s
    · cases hh; exact Mono.refl s
    · split at hh
      · cases hh; exact Mono.refl s
      · split at hh <;> cases hh
        rename_i hp
        exact hput_mono hp
  | mu k m x v =>
    simp only [evH] at hh
    split at hh <;> (try (cases hh; done))
    unfold unitV at hh
    split at hh <;> cases hh
    rename_i hs
    unfold hmu at hs
    split at hs <;> (try (cases hs; done))
    split at hs <;> (try (cases hs; done))
    rename_i es ve hg
    split at hs <;> (try (cases hs; done))
    split at hs <;> cases hs
    · exact write_mono hg _ none rfl
    · exact write_mono hg _ none rfl

theorem evI_mono {call : CallF} (hc : CallOk P call) {e : Env} {s s' : St} {i : I} {v : V} (h : evI call e s i = some (v, s')) : Mono s s' := by
  cases i with
  | q q =>
    simp only [evI] at h
    split at h <;> cases h
    exact Mono.refl s
  | a a => exact (evA_mono h).1
  | h q => exact evH_mono h
  | call f args =>
    rcases evCall_some h with ⟨fn, caps, l, _, _, h3⟩ | ⟨o, l, _, _, h3⟩
    · exact (hc.f _ _ _ _ _ h3).1
    · exact (hc.y _ _ _ _ _ h3).1

/-- A region whose order is fixed. -/
theorem reg_ok {ro : Option Nat} {N : Nat} {ops : Array Oper} {call : CallF} {Q : Exit → Act → World → Prop} (hc : CallOk P call) : ∀ (l : List OpE) (k : Nat) (T T' : Tm) (s s' : St) (ρ : Rho) (a : Act) (w : World),
    k + l.length = ops.size → (∀ (i : Nat) (oe : OpE), l[i]? = some oe → ∃ o, ops[k + i]? = some o ∧ OpC P N ops o oe) → evOps call l T s = some (T', s') → Mono s s' ∧
    (Sat ρ s.get w → TRel ρ T N a → Fresh ρ s s' → (∀ ρ' a' w', Post ρ s w ρ' s' w' → TRel ρ' T' N a' → a'.defers = a.defers → Q .normal a' w') → wpOpsIn (Fr ro) 0 P ops Q (List.range' k l.length) a w)
  | [], k, T, T', s, s', ρ, a, w, hl, hC, hv => by
    simp only [evOps] at hv; cases hv
    refine ⟨Mono.refl s, fun hs ht hf hQ => ?_⟩
    simp only [List.length_nil, List.range'_zero, wpOpsIn]
    exact hQ ρ a w (Post.refl hs) ht rfl
  | oe :: l, k, T, T', s, s', ρ, a, w, hl, hC, hv => by
    obtain ⟨o, ho, hoC⟩ := hC 0 oe (by simp)
    simp only [Nat.add_zero] at ho
    have hC' : ∀ (i : Nat) (oe : OpE), l[i]? = some oe → ∃ o, ops[k + 1 + i]? = some o ∧ OpC P N ops o oe := by
      intro i oe' hi
      have := hC (i + 1) oe' (by simpa using hi)
      rwa [show k + (i + 1) = k + 1 + i by omega] at this
    simp only [evOps] at hv
    split at hv <;> (try (cases hv; done))
    rename_i T1 s1 h1
    unfold evOp at h1
    split at h1 <;> (try (cases h1; done))
    · rename_i hw
      split at h1 <;> cases h1
      rename_i v hi
      have hm := evI_mono hc hi
      have ih := fun ρ a w => reg_ok (ro := ro) (Q := Q) hc l (k + 1) _ T' s1 s' ρ a w (by simp at hl; omega) hC' hv
      refine ⟨hm.trans (ih ρ a w).1, fun hs ht hf hQ => ?_⟩
      simp only [List.length_cons, List.range'_succ]
      rw [wpOpsIn_cons]
      have hf1 : Fresh ρ s s1 := fun i h1 h2 => hf i h1 (Nat.lt_of_lt_of_le h2 (ih ρ a w).1.next)
      refine step_I hc ho hoC ht.env hw hi hs hf1 fun ρ' w' x hp hr => ?_
      refine (ih ρ' _ w').2 hp.sat ?_ (hp.fresh hf) ?_
      · rw [hoC.dst]
        exact (ht.mono hp.ext).put hr hoC.lt
      · intro ρ'' a'' w'' hp' ht' hd'
        exact hQ ρ'' a'' w'' (hp.trans hf1 hp') ht' (hd'.trans (put_defers' _ _ _))
    · rename_i hw
      cases h1
      have ih := fun ρ a w => reg_ok (ro := ro) (Q := Q) hc l (k + 1) _ T' s s' ρ a w (by simp at hl; omega) hC' hv
      refine ⟨(ih ρ a w).1, fun hs ht hf hQ => ?_⟩
      simp only [List.length_cons, List.range'_succ]
      rw [wpOpsIn_cons]
      refine step_no ho hoC ht.env hw ?_
      refine (ih ρ _ w).2 hs ?_ hf ?_
      · rw [hoC.dst]
        exact ht.put Rel.undef hoC.lt
      · intro ρ'' a'' w'' hp' ht' hd'
        exact hQ ρ'' a'' w'' hp' ht' (hd'.trans (put_defers' _ _ _))

end Go.Wg
