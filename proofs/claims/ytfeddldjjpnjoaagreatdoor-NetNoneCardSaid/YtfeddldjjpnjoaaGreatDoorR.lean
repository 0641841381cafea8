/-
  PROVED: the statement NetNone of layer 27, its tied card: a net that nobody made has no boxes, whatever act it is told.
  CONDITIONS: none beyond the row's own (the listed package variables start as the program's text lays them).
-/
import Derived.Test.YtfeddldjjpnjoaaGreatDoorQ
import Derived.Test.YtfeddldjjpnjoaaGreatDoorT
import Derived.Test.YtfeddldjjpnjoaaGreatDoorCards
import Derived.Test.YtfeddldjjpnjoaaGreatDoorTie
import Derived.ProofKit
import Derived.OpenShut
import Derived.LaidMore
import Derived.Lay
import Derived.SevenTiedAt
import Derived.Stop.Joined
namespace Go.Proofs.YtfeddldjjpnjoaaGreatDoor
open Go.ChangeShapes Go.WideShapes Go.ChangeAt Go.RowKit

set_option maxRecDepth 100000
theorem own : ownKnob Tryz.prog.godebug = none := by kernel_rfl
theorem laidOut : laidOutB Tryz.prog = true := by kernel_rfl

theorem cell_int {P : Program} {W : World} {t : TypeId} {k : IntKind} {v : Value} {b : Nat} (ht : P.underlying t = some (.int k)) (h : Cell.okWide P W .any b t v) : ∃ n, v = .int k n :=
  okWide_int (r := .any) (base := b) (w := W) ht (by unfold Value.okWide; rw [ht]; exact h)
theorem cell_str {P : Program} {W : World} {t : TypeId} {v : Value} {b : Nat} (ht : P.underlying t = some .string) (h : Cell.okWide P W .any b t v) : ∃ n, v = .string n :=
  okWide_string (r := .any) (base := b) (w := W) ht (by unfold Value.okWide; rw [ht]; exact h)
theorem row_of {P : Program} {W : World} {t : TypeId} {v : Value} {b : Nat} {fs : Array Field} (ht : P.underlying t = some (.struct fs)) (h : Value.okWide P W .any b t v) : ∃ cs, v = .agg cs ∧ cs.size = P.cellsOf t ∧ Row.okWide P W .any b t cs := by
  unfold Value.okWide at h; rw [ht] at h; exact h
theorem array6 {α : Type} {cs : Array α} (h : cs.size = 6) : ∃ a b c d e f, cs = #[a, b, c, d, e, f] := by
  obtain ⟨l⟩ := cs
  match l, h with
  | [a, b, c, d, e, f], _ => exact ⟨a, b, c, d, e, f, rfl⟩
/-- An act's value. -/
theorem act_shape {W : World} {b : Nat} {v : Value} (h : Value.okWide Tryz.prog W .any b 23 v) : ∃ a0 a1 a2 a3 a4 s, v = .agg #[.int .i64 a0, .int .i64 a1, .int .i64 a2, .int .i64 a3, .int .i64 a4, .string s] := by
  obtain ⟨cs, rfl, hs, ts, h1, _, h2⟩ := row_of Tryz.underlying23 h
  obtain ⟨c0, c1, c2, c3, c4, c5, rfl⟩ := array6 (hs.trans (show Tryz.prog.cellsOf 23 = 6 by kernel_rfl))
  obtain rfl : [3, 3, 3, 3, 3, 9] = ts := Option.some.inj ((show Tryz.prog.cellTypes Tryz.prog.depth 23 = some [3, 3, 3, 3, 3, 9] by kernel_rfl).symm.trans h1)
  have hi : ∀ (j : Nat) (x : Value), (#[c0, c1, c2, c3, c4, c5] : Array Value)[j]? = some x → j < 5 → ∃ n, x = .int .i64 n := by
    intro j x hx hj
    obtain ⟨u, hu, hc⟩ := h2 j x hx
    have : u = 3 := by
      rcases j with _ | _ | _ | _ | _ | j <;> first | (cases hu; rfl) | omega
    subst this
    exact cell_int Tryz.underlying3 hc
  obtain ⟨n0, rfl⟩ := hi 0 c0 rfl (by omega)
  obtain ⟨n1, rfl⟩ := hi 1 c1 rfl (by omega)
  obtain ⟨n2, rfl⟩ := hi 2 c2 rfl (by omega)
  obtain ⟨n3, rfl⟩ := hi 3 c3 rfl (by omega)
  obtain ⟨n4, rfl⟩ := hi 4 c4 rfl (by omega)
  obtain ⟨u, hu, hc⟩ := h2 5 c5 rfl
  cases hu
  obtain ⟨s, rfl⟩ := cell_str Tryz.underlying9 hc
  exact ⟨n0, n1, n2, n3, n4, s, rfl⟩

/-- The law's call. -/
theorem law_any (a b c d f : Int) (s : ByteArray) (W : World) :
    Calls Tryz.prog 3 #[.agg #[.int .i64 a, .int .i64 b, .int .i64 c, .int .i64 d, .int .i64 f, .string s]] W fun e w' => e = .returned (.bool true) ∧ Below W.heap.size W w' := by
  obtain ⟨v, s', h1, h2⟩ := Wg.fnK_ok (Wg.none_run a b c d f s)
  have hv : v = .b true := by
    cases v with
    | b x => exact congrArg Wg.V.b (show x = true from h2)
    | _ => exact nomatch (show false = true from h2)
  subst hv
  have hc := Wg.evFn_ok Wg.mixed (Wg.fsOf_ok Wg.allF Wg.allY) (Wg.look_x Wg.allX1) 1000
  have hx : Wg.RelL (fun _ => none) [.agg [.i .i64 a, .i .i64 b, .i .i64 c, .i .i64 d, .i .i64 f, .s s]] [.agg #[.int .i64 a, .int .i64 b, .int .i64 c, .int .i64 d, .int .i64 f, .string s]] := by
    simp only [Wg.RelL, Wg.Rel]
    exact ⟨_, _, ⟨_, ⟨_, _, rfl, ⟨_, _, rfl, ⟨_, _, rfl, ⟨_, _, rfl, ⟨_, _, rfl, ⟨_, _, rfl, rfl, rfl⟩, rfl⟩, rfl⟩, rfl⟩, rfl⟩, rfl⟩, rfl⟩, rfl, rfl⟩
  rcases (hc.f 3 _ Wg.st0 _ s' h1).2 (fun _ => none) W _ (Wg.sat0 W) hx (Wg.fresh0 s') with ⟨_, h4⟩ | ⟨y, w', h4, _⟩
  · refine h4.mono ?_
    rintro e w' ⟨y, ρ1, h5, h6, h7⟩
    refine ⟨?_, h7.toBelow⟩
    rw [h5]
    simp only [Wg.Rel] at h6
    rw [h6]
  · rw [Wg.run_enter (fn := Tryz.f3) Tryz.func3 (by kernel_rfl) (by kernel_rfl)] at h4
    cases h4

set_option maxRecDepth 100000 in
theorem lifted (os : Os) (started : os.Started) (H : Type) (enc : TypeId × Value → H) :
    ReturnsInHanded {} Tryz.checked os 3 .any (fun w args => (Rows.netNoneSpec.pre enc Tryz.prog Tryz.f3 Rows.netNoneRow.domain false w args ∧ laidMetH Tryz.prog Rows.netNoneRow.laid w) ∧ sizedMet enc Tryz.prog Tryz.f3 (OpenSpec.ofChange Rows.netNoneSpec) false w args)
      (Rows.netNoneSpec.post enc Tryz.prog Tryz.f3 false true false false) := by
  refine returnsInHanded_of_change_and (C := Tryz.checked) (X := fun w _ => laidMetH Tryz.prog Rows.netNoneRow.laid w) (fun _ _ _ hh h => h.of_heap hh) own started (by kernel_rfl) Tryz.func3
    (ChangeSpec.witness_shaped (enc := enc) (C := Tryz.checked) (os := os) (X := fun w _ => laidMetH Tryz.prog Rows.netNoneRow.laid w) false (World.laidAll Tryz.prog os Rows.netNoneRow.laid) #[.agg #[.int .i64 0, .int .i64 0, .int .i64 0, .int .i64 0, .int .i64 0, .string ⟨#[]⟩]] 8 (World.laidAll_os _ _ _)
      (World.shaped_of_ZipB (by kernel_rfl) (by kernel_rfl)) (by kernel_rfl) (by kernel_rfl) (by kernel_rfl)
      (by rw [MakeChecks.laidMetH_plain _ _ _ (by kernel_rfl)]; exact laidMet_laidAll _ (by kernel_rfl) (by kernel_rfl))) ?_
  intro W base args ds gs before hval0 hW hc _ hL _
  have hval : ∀ (j : Nat) t v, Tryz.f3.params[j]? = some t → args[j]? = some v → Value.okWide Tryz.prog W .any base t v := hval0
  have hW' := hW
  obtain ⟨p, q, hA0, hV, rfl, _, _⟩ := hW
  have hA : DataW.TrodAll enc Tryz.prog W 0 (fun _ => true) true Tryz.f3.params.toList args.toList ds p := hA0
  rw [Tryz.params3] at hA hval
  obtain ⟨v0, d0, rfl, rfl, h0⟩ := trodAll_one hA
  obtain ⟨rfl, rfl⟩ := trodVars_none hV
  obtain ⟨a0, a1, a2, a3, a4, s, rfl⟩ := act_shape (hval 0 23 v0 rfl rfl)
  simp only [List.append_nil] at hW'
  have hlt : ∀ x ∈ p, x.block < W.heap.size := fun x hx => by simpa using hW'.lt x hx
  refine (law_any a0 a1 a2 a3 a4 s W).mono ?_
  rintro e W' ⟨rfl, hb⟩
  refine ⟨_, rfl, _, _, _, [], p, [], hW', ?_, ?_, rfl, hb.frame _, fun h => by cases h⟩
  · exact trodAll_mk1 (shut_bool Tryz.underlying4 _)
  · exact trodAll_mk1 (Below.trod laidOut (by kernel_rfl) (of_decide_eq_true (by kernel_rfl)) h0 hb hlt)

set_option maxHeartbeats 1000000000
theorem named : Tryz.prog.funcNamed "weirgate/weirgatelaw27.NetNone" = some 3 := by kernel_rfl
theorem wrapped : Tryz.f3.isWrapper Tryz.prog Rows.netNoneRow.wrapper Rows.netNoneRow.mainSum := by
  unfold Func.isWrapper; first | (rw [if_pos (by decide +kernel)]; kernel_rfl) | (rw [if_neg (by decide +kernel)]; exact ⟨rfl, rfl⟩)
theorem inst : Tryz.f3.isInstance Tryz.prog Rows.netNoneRow.origin Rows.netNoneRow.targs := of_decide_eq_true (by kernel_rfl)
theorem holds : Rows.NetNoneSaid :=
  OpenClaim.holds_of_wide 3 Tryz.f3 rfl rfl rfl rfl rfl rfl rfl ⟨rfl, rfl, rfl, rfl, rfl⟩ rfl rfl rfl rfl rfl named Tryz.func3 closed
    inst wrapped (fun os started H enc _ => lifted os started H enc)
theorem plain (f : FuncId) (fn : Func) (hf : Tryz.pinned.checked.prog.funcNamed "weirgate/weirgatelaw27.NetNone" = some f) (hfn : Tryz.pinned.checked.prog.funcs[f]? = some fn) :
    true = Tryz.pinned.checked.prog.looks [] ∧ ∀ (j : Nat) t, fn.params[j]? = some t → Tryz.pinned.checked.prog.wantsStandIn t = false := by
  obtain rfl : f = 3 := Option.some.inj (named.symm.trans hf) |>.symm
  obtain rfl : fn = Tryz.f3 := (Option.some.inj (Tryz.func3.symm.trans hfn)).symm
  exact ⟨by as_aux_lemma => kernel_rfl, fun j t ht => by
    rw [Tryz.params3] at ht
    have hm : t ∈ [23] := by simpa using Array.mem_of_getElem? ht
    have hall : ([23].all fun u => !Tryz.prog.wantsStandIn u) = true := by as_aux_lemma => kernel_rfl
    exact (show Tryz.prog.wantsStandIn t = false by simpa using List.all_eq_true.1 hall t hm)⟩
theorem card : Rows.NetNoneCardSaid :=
  Claim7.holds_tied_plain_at .later [] _ _ _ _ holds (fun _ h => by cases h) (by as_aux_lemma => kernel_rfl) (fun _ h => by cases h) netNone_row_tie rfl ⟨rfl, rfl⟩ (by as_aux_lemma => kernel_rfl) rfl
    plain (by as_aux_lemma => kernel_rfl)
#print axioms card
end Go.Proofs.YtfeddldjjpnjoaaGreatDoor
