/- Told functions in a list, each held against the program's own; no statement of the set is proved here. -/
import Derived.Test.YtfeddldjjpnjoaaGreatDoorX
namespace Go.Wg
variable {P : Program}

def look {α : Type} : List (Nat × α) → Nat → Option α
  | [], _ => none
  | (k, a) :: r, n => match Nat.beq k n with
    | true => some a
    | false => look r n

theorem fnOk_of {k : Nat} {f : Func} {fn : FnC} (hf : P.funcs[k]? = some f) (hb : f.body.isSome = true) (hn : Nat.beq f.ntmps fn.ntmps = true) (hg : (f.name == "runtime.NumGoroutine") = false)
    (hc : reC P fn.ntmps (f.body.getD .skip) fn.body = some fn.body) (hr : noRf fn.body = true) (hv : cRv P f.results.toList = some fn.results) : FnOk P k fn := by
  obtain ⟨c, h1⟩ := Option.isSome_iff_exists.1 hb
  rw [h1] at hc
  refine ⟨f, c, hf, h1, Nat.eq_of_beq_eq_true hn, hg, reC_ok c fn.body fn.body hc fun x hx => ?_, hv⟩
  rw [rfs_none c fn.body hr] at hx
  cases hx
def rfsOk (l : List (Nat × Nat × Array Tmp × Code × Code)) : Prop := match l with
  | [] => True
  | x :: r => tab x.1 = some x.2 ∧ rfsOk r
theorem rfsOk_mem : ∀ {l : List (Nat × Nat × Array Tmp × Code × Code)}, rfsOk l → ∀ x ∈ l, tab x.1 = some x.2
  | [], _, x, h => by cases h
  | y :: l, hl, x, h => by
    rcases List.mem_cons.1 h with rfl | h
    · exact hl.1
    · exact rfsOk_mem hl.2 x h
theorem fnOk_rf {k : Nat} {f : Func} {fn : FnC} (hf : P.funcs[k]? = some f) (hb : f.body.isSome = true) (hn : Nat.beq f.ntmps fn.ntmps = true) (hg : (f.name == "runtime.NumGoroutine") = false)
    (hc : reC P fn.ntmps (f.body.getD .skip) fn.body = some fn.body) (hr : rfsOk (rfs fn.ntmps (f.body.getD .skip) fn.body)) (hv : cRv P f.results.toList = some fn.results) : FnOk P k fn := by
  obtain ⟨c, h1⟩ := Option.isSome_iff_exists.1 hb
  rw [h1] at hc hr
  exact ⟨f, c, hf, h1, Nat.eq_of_beq_eq_true hn, hg, reC_ok c fn.body fn.body hc fun x hx => ⟨rfl, rfsOk_mem hr x hx⟩, hv⟩
theorem rdOk_of {k N : Nat} {ps : Array Tmp} {x y : Code} {rd : Rd} (ht : tab k = some (N, ps, x, y)) (hp : rd.ps = ps.toList) (hl : (rd.ps.all fun p => Nat.blt p N) = true)
    (hx : reC P N x rd.assign = some rd.assign) (hy : reC P N y rd.body = some rd.body) (hrx : noRf rd.assign = true) (hry : noRf rd.body = true) : RdOk P k rd := by
  refine ⟨N, ps, x, y, ht, hp, fun p hm => Tr.blt_iff.1 (List.all_eq_true.1 hl p hm), reC_ok x _ _ hx fun z hz => ?_, reC_ok y _ _ hy fun z hz => ?_⟩
  · rw [rfs_none _ _ hrx] at hz; cases hz
  · rw [rfs_none _ _ hry] at hz; cases hz
noncomputable def tabD (k : Nat) : Nat × Array Tmp × Code × Code := (tab k).getD (0, #[], .skip, .skip)
theorem rdOk_tab {k : Nat} {rd : Rd} (ht : (tab k).isSome = true) (hp : rd.ps = (tabD k).2.1.toList) (hl : (rd.ps.all fun p => Nat.blt p (tabD k).1) = true)
    (hx : reC P (tabD k).1 (tabD k).2.2.1 rd.assign = some rd.assign) (hy : reC P (tabD k).1 (tabD k).2.2.2 rd.body = some rd.body) (hrx : noRf rd.assign = true) (hry : noRf rd.body = true) : RdOk P k rd := by
  obtain ⟨x, h1⟩ := Option.isSome_iff_exists.1 ht
  have e : tabD k = x := by simp [tabD, h1]
  exact rdOk_of (N := (tabD k).1) (ps := (tabD k).2.1) (x := (tabD k).2.2.1) (y := (tabD k).2.2.2) (by rw [h1, e]) hp hl hx hy hrx hry
def AllF (P : Program) : List (Nat × FnC) → Prop
  | [] => True
  | p :: r => FnOk P p.1 p.2 ∧ AllF P r
def AllY (P : Program) : List (Nat × Rd) → Prop
  | [] => True
  | p :: r => RdOk P p.1 p.2 ∧ AllY P r
theorem look_f : ∀ {l : List (Nat × FnC)} {k : Nat} {fn : FnC}, AllF P l → look l k = some fn → FnOk P k fn
  | [], _, _, _, h => by cases h
  | (j, a) :: l, k, fn, hl, h => by
    unfold look at h
    split at h
    · rename_i e
      have := Nat.eq_of_beq_eq_true e
      subst this
      cases h
      exact hl.1
    · exact look_f hl.2 h
theorem look_y : ∀ {l : List (Nat × Rd)} {k : Nat} {fn : Rd}, AllY P l → look l k = some fn → RdOk P k fn
  | [], _, _, _, h => by cases h
  | (j, a) :: l, k, fn, hl, h => by
    unfold look at h
    split at h
    · rename_i e
      have := Nat.eq_of_beq_eq_true e
      subst this
      cases h
      exact hl.1
    · exact look_y hl.2 h
theorem AllF_app : ∀ {a b : List (Nat × FnC)}, AllF P a → AllF P b → AllF P (a ++ b)
  | [], _, _, h => h
  | _ :: _, _, h, h' => ⟨h.1, AllF_app h.2 h'⟩
def fsOf (lF : List (Nat × FnC)) (lY : List (Nat × Rd)) : Fs := ⟨look lF, look lY⟩
theorem fsOf_ok {lF : List (Nat × FnC)} {lY : List (Nat × Rd)} (hF : AllF P lF) (hY : AllY P lY) : FsOk P (fsOf lF lY) := ⟨fun _ _ h => look_f hF h, fun _ _ h => look_y hY h⟩

/-- Functions that are known otherwise, in a list. -/
abbrev XFn := List V → St → Option (V × St)
def AllX (P : Program) : List (Nat × XFn) → Prop
  | [] => True
  | p :: r => (FnsOk P fun g args s => if g = p.1 then p.2 args s else none) ∧ AllX P r
theorem look_x : ∀ {l : List (Nat × XFn)}, AllX P l → ∀ f x, look l f = some x → FnsOk P fun g args s => if g = f then x args s else none
  | [], _, _, _, h => by cases h
  | (j, a) :: l, hl, f, x, h => by
    unfold look at h
    split at h
    · rename_i e
      have := Nat.eq_of_beq_eq_true e
      subst this
      cases h
      exact hl.1
    · exact look_x hl.2 f x h
end Go.Wg
