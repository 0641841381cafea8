/- A net that nobody made has no boxes: the law's own run; no statement of the set is proved here. -/
import Derived.Test.YtfeddldjjpnjoaaGreatDoorO
namespace Go.Wg
open Go.Proofs Go.RowKit
/-- What a net that nobody made answers to an act. -/
def doX (args : List V) (s : St) : Option (V × St) := match args with
  | [.nilp, .agg [.i .i64 _, .i .i64 _, .i .i64 _, .i .i64 _, .i .i64 _, .s _]] => some (.tup [.nilsl, .nilsl], s)
  | _ => none
theorem do_any (a b c d f : Int) (x : ByteArray) (w : World) :
    Calls Tryz.prog 6 #[.pointer none, .agg #[.int .i64 a, .int .i64 b, .int .i64 c, .int .i64 d, .int .i64 f, .string x]] w fun e w' => e = .returned (.tuple #[.slice none 0 0, .slice none 0 0]) ∧ Below w.heap.size w w' := by
  cases h3 : a == 3 with
  | false => exact YtfeddldjjpnjoaaGreatDoor.do_other a b c d f x w h3
  | true =>
    obtain rfl : a = 3 := by simpa using h3
    obtain ⟨v, s', h1, h2⟩ := fnK_ok (do_lose b c d f x)
    have hv : v = .tup [.nilsl, .nilsl] := by
      unfold isNN at h2
      split at h2
      · rfl
      · cases h2
    subst hv
    have hc := evFn_ok mixed (fsOf_ok allF allY) (look_x allX0) 1000
    have hx : RelL (fun _ => none) [.nilp, .agg [.i .i64 (Int.ofNat 3), .i .i64 b, .i .i64 c, .i .i64 d, .i .i64 f, .s x]] [.pointer none, .agg #[.int .i64 3, .int .i64 b, .int .i64 c, .int .i64 d, .int .i64 f, .string x]] := by
      simp only [RelL, Rel]
      refine ⟨_, _, rfl, ⟨_, _, ⟨_, ⟨_, _, rfl, ⟨_, _, rfl, ⟨_, _, rfl, ⟨_, _, rfl, ⟨_, _, rfl, ⟨_, _, rfl, rfl, rfl⟩, rfl⟩, rfl⟩, rfl⟩, rfl⟩, rfl⟩, rfl⟩, rfl, rfl⟩, rfl⟩
    rcases (hc.f 6 _ st0 _ s' h1).2 (fun _ => none) w _ (sat0 w) hx (fresh0 s') with ⟨_, h4⟩ | ⟨y, w', h4, _⟩
    · refine h4.mono ?_
      rintro e w' ⟨y, ρ1, h5, h6, h7⟩
      refine ⟨?_, h7.toBelow⟩
      rw [h5]
      simp only [Rel, RelL] at h6
      obtain ⟨cs, ⟨y1, ys1, rfl, ⟨y2, ys2, rfl, rfl, rfl⟩, rfl⟩, rfl⟩ := h6
      rfl
    · rw [run_enter (fn := Tryz.f6) Tryz.func6 (by kernel_rfl) (by kernel_rfl)] at h4
      cases h4
theorem doX_ok : FnsOk Tryz.prog fun g args s => if g = 6 then doX args s else none :=
  plainX_ok Tryz.func6 (by kernel_rfl) (by kernel_rfl) fun args s v s' h => by
    unfold doX at h
    split at h
    · cases h
      refine ⟨rfl, fun ρ w xs hx => ?_⟩
      simp only [RelL, Rel] at hx
      obtain ⟨_, _, rfl, ⟨_, _, ⟨_, ⟨_, _, rfl, ⟨_, _, rfl, ⟨_, _, rfl, ⟨_, _, rfl, ⟨_, _, rfl, ⟨_, _, rfl, rfl, rfl⟩, rfl⟩, rfl⟩, rfl⟩, rfl⟩, rfl⟩, rfl⟩, rfl, rfl⟩, rfl⟩ := hx
      refine (do_any _ _ _ _ _ _ w).mono ?_
      rintro e w' ⟨h1, h2⟩
      exact ⟨_, h1, by simp only [Rel, RelL]; exact ⟨_, ⟨_, _, rfl, ⟨_, _, rfl, rfl, rfl⟩, rfl⟩, rfl⟩, h2⟩
    · cases h
def x1 : List (Nat × XFn) := (4, boolX true) :: (6, doX) :: x0
theorem allX1 : AllX Tryz.prog x1 := ⟨wakes_ok, doX_ok, allX0⟩
theorem keyLen {l : List UInt8} {a : Nat} {k : Nat → Bool} (h : ∀ n, k n = true) : lenE l a k = true := by rw [lenE_eq]; exact h _
theorem keyGtr {kd : IntKind} {a b : Int} {k : V → Bool} (h : k (.b true) = true) (h' : k (.b false) = true) : binE .gtr (.i kd a) (.i kd b) k = true := by
  rw [binE_eq, vbin_i (by decide) (by decide)]
  show k (.b (decide (b < a))) = true
  cases decide (b < a)
  · exact h'
  · exact h
set_option maxRecDepth 100000 in
set_option maxHeartbeats 2000000 in
theorem none_run (a b c d f : Int) (x : ByteArray) : fnK (fsOf lF lY) (look x1) 1000 3 [.agg [.i .i64 a, .i .i64 b, .i .i64 c, .i .i64 d, .i .i64 f, .s x]] st0 (fun v _ => is_b v (fun b => b) false) = true := by
  refine keyLen fun n => ?_
  conv => lhs; whnf
  generalize Nat.blt _ _ = b
  cases b
  · kernel_rfl
  · kernel_rfl
end Go.Wg
