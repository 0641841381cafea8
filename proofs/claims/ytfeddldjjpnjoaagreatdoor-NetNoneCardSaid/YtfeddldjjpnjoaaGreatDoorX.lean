/- Functions that are known otherwise: two of the library's that have no text, and one that is called with nothing and hands back a bool; no statement of the set is proved here. -/
import Derived.Test.YtfeddldjjpnjoaaGreatDoorK7
import Derived.Laws.Externs
import Derived.Lib.Bytealg
import Derived.Below
namespace Go.Wg
variable {P : Program}

/-- How many bytes of a kind. -/
def countX (args : List V) (s : St) : Option (V × St) := match args with
  | [.s b, .i .u8 c] => some (.i .i64 (Lib.countByte b.data.toList c.toNat.toUInt8), s)
  | _ => none
/-- The first byte of a kind. -/
def indexX (args : List V) (s : St) : Option (V × St) := match args with
  | [.s b, .i .u8 c] => some (.i .i64 (Lib.indexByte b.data.toList c.toNat.toUInt8), s)
  | _ => none

theorem ext_ok {f : FuncId} {fn : Func} {e : Array Value → Sem Value} {X : List V → St → Option (V × St)} (hf : P.funcs[f]? = some fn) (hname : (fn.name == "runtime.NumGoroutine") = false)
    (hb : fn.body.isNone = true) (hn : Extern.findNext fn = none) (he : Extern.find fn = some e)
    (hX : ∀ args s v s', X args s = some (v, s') → s' = s ∧ ∀ ρ w xs, RelL ρ args xs → ∃ x, (e xs.toArray).run P w = .ok x w ∧ Rel ρ v x) :
    FnsOk P fun g args s => if g = f then X args s else none := by
  intro g args s v s' h
  dsimp only at h
  split at h
  · rename_i hg
    subst hg
    obtain ⟨rfl, k⟩ := hX args s v s' h
    refine ⟨Mono.refl s', fun ρ w xs hs hx _ => .inr ?_⟩
    obtain ⟨x, h1, h2⟩ := k ρ w xs hx
    refine ⟨x, w, ?_, x, ρ, rfl, h2, Post.refl hs⟩
    rw [run_callFunc_extern hf hname hb hn he, h1]
    rfl
  · cases h

theorem countX_ok {f : FuncId} {fn : Func} (hf : P.funcs[f]? = some fn) (hname : (fn.name == "runtime.NumGoroutine") = false) (hb : fn.body.isNone = true) (hn : Extern.findNext fn = none)
    (he : Extern.find fn = some Extern.BytealgCount.count) : FnsOk P fun g args s => if g = f then countX args s else none :=
  ext_ok hf hname hb hn he fun args s v s' h => by
    unfold countX at h
    split at h
    · cases h
      refine ⟨rfl, fun ρ w xs hx => ?_⟩
      simp only [RelL, Rel] at hx
      obtain ⟨y, ys, rfl, ⟨z, zs, rfl, rfl, rfl⟩, rfl⟩ := hx
      exact ⟨_, Lib.run_countString _ _ w, by simp only [Rel]⟩
    · cases h
theorem indexX_ok {f : FuncId} {fn : Func} (hf : P.funcs[f]? = some fn) (hname : (fn.name == "runtime.NumGoroutine") = false) (hb : fn.body.isNone = true) (hn : Extern.findNext fn = none)
    (he : Extern.find fn = some Extern.BytealgIndexByte.indexByte) : FnsOk P fun g args s => if g = f then indexX args s else none :=
  ext_ok hf hname hb hn he fun args s v s' h => by
    unfold indexX at h
    split at h
    · cases h
      refine ⟨rfl, fun ρ w xs hx => ?_⟩
      simp only [RelL, Rel] at hx
      obtain ⟨y, ys, rfl, ⟨z, zs, rfl, rfl, rfl⟩, rfl⟩ := hx
      exact ⟨_, Lib.run_indexByteString _ _ w, by simp only [Rel]⟩
    · cases h

/-- The state of one who knows of no object. -/
def st0 : St := ⟨Tr.nil 7, 0, 1⟩
theorem st0_get (o : Nat) : st0.get o = none := Tr.get_nil 7 o
theorem sat0 (w : World) : Sat (fun _ => none) st0.get w := ⟨fun o ob h => (by rw [st0_get] at h; cases h), fun o1 o2 b1 b2 L1 L2 h1 => (by rw [st0_get] at h1; cases h1)⟩
theorem fresh0 (s : St) : Fresh (fun _ => none) st0 s := fun _ _ _ => rfl

/-- What one leaves who knows of no object. -/
theorem Post.away {ρ1 : Rho} {s1 : St} {w w1 : World} (hp : Post (fun _ => none) st0 w ρ1 s1 w1) {ρ : Rho} {s : St} (hs : Sat ρ s.get w) : Post ρ s w ρ s w1 := by
  have hold : ∀ b, b < w.heap.size → w1.heap[b]? = w.heap[b]? := fun b hb => hp.other b hb fun o ob L ho => by rw [st0_get] at ho; cases ho
  refine { ext := fun _ _ h => h, dom := fun _ _ h => .inl h, sat := ⟨fun o ob ho => ?_, hs.apart⟩, next := Nat.le_refl _, ver := Nat.le_refl _, alive := fun _ _ h => .inl ⟨_, h⟩,
           size := hp.size, os := hp.os, output := hp.output, tape := hp.tape, other := fun b hb _ => hold b hb, kept := fun o ob ho _ => ⟨ho, fun L hL => ?_⟩ }
  · obtain ⟨L, hL, hr⟩ := hs.obj o ob ho
    exact ⟨L, hL, hr.mono (fun _ _ h => h) (hold _ hr.lt)⟩
  · obtain ⟨L', hL', hr⟩ := hs.obj o ob ho
    rw [hL'] at hL; cases hL
    exact hold _ hr.lt

/-- Below the old end of memory nothing has turned. -/
theorem Post.below {ρ : Rho} {s : St} {w w1 : World} (hs : Sat ρ s.get w) (h : RowKit.Below w.heap.size w w1) : Post ρ s w ρ s w1 := by
  refine { ext := fun _ _ h => h, dom := fun _ _ h => .inl h, sat := ⟨fun o ob ho => ?_, hs.apart⟩, next := Nat.le_refl _, ver := Nat.le_refl _, alive := fun _ _ h => .inl ⟨_, h⟩,
           size := h.size, os := h.os, output := h.output, tape := h.tape, other := fun b hb _ => h.block b hb, kept := fun o ob ho _ => ⟨ho, fun L hL => ?_⟩ }
  · obtain ⟨L, hL, hr⟩ := hs.obj o ob ho
    exact ⟨L, hL, hr.mono (fun _ _ h => h) (h.block _ hr.lt)⟩
  · obtain ⟨L', hL', hr⟩ := hs.obj o ob ho
    rw [hL'] at hL; cases hL
    exact h.block _ hr.lt
theorem Post.toBelow {ρ1 : Rho} {s1 : St} {w w1 : World} (hp : Post (fun _ => none) st0 w ρ1 s1 w1) : RowKit.Below w.heap.size w w1 :=
  ⟨hp.os, hp.tape, hp.output, hp.size, fun b hb => hp.other b hb fun o ob L ho => (by rw [st0_get] at ho; cases ho)⟩
theorem run_enter {f : Nat} {fn : Func} (hf : P.funcs[f]? = some fn) (hb : fn.body.isSome = true) (hn : (fn.name == "runtime.NumGoroutine") = false) (args : Array Value) (w : World) : (callFunc f args).run P w = .ok (.enter f args) w := by
  obtain ⟨c, h1⟩ := Option.isSome_iff_exists.1 hb
  have h2 : fn.name ≠ "runtime.NumGoroutine" := by simpa using hn
  simp [callFunc, hf, h2, h1]
/-- A function that leaves old memory as it is, and hands back what is told: of such arguments. -/
theorem plainX_ok {f : Nat} {fn : Func} (hf : P.funcs[f]? = some fn) (hb : fn.body.isSome = true) (hn : (fn.name == "runtime.NumGoroutine") = false) {X : List V → St → Option (V × St)}
    (hX : ∀ args s v s', X args s = some (v, s') → s' = s ∧ ∀ ρ w xs, RelL ρ args xs → Calls P f xs.toArray w fun e w' => ∃ x, e = .returned x ∧ Rel ρ v x ∧ RowKit.Below w.heap.size w w') :
    FnsOk P fun g args s => if g = f then X args s else none := by
  intro g args s v s' h
  dsimp only at h
  split at h
  · rename_i hg
    subst hg
    obtain ⟨rfl, k⟩ := hX args s v s' h
    refine ⟨Mono.refl s', fun ρ w xs hs hx _ => .inl ⟨run_enter hf hb hn _ w, (k ρ w xs hx).mono ?_⟩⟩
    rintro e w' ⟨x, h1, h2, h3⟩
    exact ⟨x, ρ, h1, h2, Post.below hs h3⟩
  · cases h

/-- A function that is called with nothing, and hands back this bool. -/
def boolX (b : Bool) (args : List V) (s : St) : Option (V × St) := match args with
  | [] => some (.b b, s)
  | _ => none
theorem boolX_ok {call : CallF} (hc : CallOk P call) {f : Nat} {b : Bool} {s1 : St} (h : call (.f f) [] st0 = some (.b b, s1)) : FnsOk P fun g args s => if g = f then boolX b args s else none := by
  intro g args s v s' e
  dsimp only at e
  split at e
  · rename_i hg
    subst hg
    unfold boolX at e
    split at e
    · cases e
      refine ⟨Mono.refl s, fun ρ w xs hs hx _ => ?_⟩
      simp only [RelL] at hx
      subst hx
      have ret : ∀ e w', RetR (fun _ => none) st0 w (.b b) s1 e w' → RetR ρ s w (.b b) s e w' := by
        rintro e w' ⟨x, ρ1, h1, h2, h3⟩
        exact ⟨x, ρ, h1, by simpa only [Rel] using h2, h3.away hs⟩
      rcases (hc.f g [] st0 (.b b) s1 h).2 (fun _ => none) w [] (sat0 w) (by simp only [RelL]) (fresh0 s1) with ⟨h1, h2⟩ | ⟨x, w', h1, h2⟩
      · exact .inl ⟨h1, h2.mono ret⟩
      · exact .inr ⟨x, w', h1, ret _ _ h2⟩
    · cases e
  · cases e
end Go.Wg
