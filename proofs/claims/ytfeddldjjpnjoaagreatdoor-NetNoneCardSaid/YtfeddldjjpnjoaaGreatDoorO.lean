/- What a net that nobody made answers to any act; no statement of the set is proved here. -/
import Derived.Test.YtfeddldjjpnjoaaGreatDoorN
import Derived.Test.YtfeddldjjpnjoaaGreatDoorChecked
import Derived.WalkKit
import Derived.WalkSpells
import Derived.WalkLawsBesides
namespace Go.Proofs.YtfeddldjjpnjoaaGreatDoor
open Go.RowKit Go.Wg
set_option maxHeartbeats 1000000
theorem wire_nil (i : Int) (w : World) :
    Calls Tryz.prog 8 #[.pointer none, .int .i64 i] w fun e w' => e = .returned (.pointer none) ∧ w' = w := by
  go_enter Tryz.func8, Tryz.ntmps8
  go_wp2
  go_ret
  exact ⟨rfl, rfl⟩
theorem box_nil (i : Int) (w : World) :
    Calls Tryz.prog 7 #[.pointer none, .int .i64 i] w fun e w' => e = .returned (.pointer none) ∧ w' = w := by
  go_enter Tryz.func7, Tryz.ntmps7
  go_wp2
  go_ret
  exact ⟨rfl, rfl⟩
theorem take_nil (i : Int) (w : World) :
    Calls Tryz.prog 21 #[.pointer none, .int .i64 i] w fun e w' => e = .returned (.tuple #[.slice none 0 0, .bool false]) ∧ w' = w := by
  go_enter Tryz.func21, Tryz.ntmps21
  go_wp2
  go_ret2
  exact ⟨rfl, rfl⟩
theorem deliver_nil (i j : Int) (w : World) :
    Calls Tryz.prog 20 #[.pointer none, .int .i64 i, .int .i64 j] w fun e w' => e = .returned (.tuple #[.slice none 0 0, .bool false]) ∧ w' = w := by
  go_enter Tryz.func20, Tryz.ntmps20
  go_wp2
  go_ret2
  exact ⟨rfl, rfl⟩
theorem do_other (a b c d f : Int) (s : ByteArray) (w : World) (h3 : (a == 3) = false) :
    Calls Tryz.prog 6 #[.pointer none, .agg #[.int .i64 a, .int .i64 b, .int .i64 c, .int .i64 d, .int .i64 f, .string s]] w fun e w' => e = .returned (.tuple #[.slice none 0 0, .slice none 0 0]) ∧ Below w.heap.size w w' := by
  go_enter Tryz.func6, Tryz.ntmps6
  go_wp2_with (first
    | (go_at_call 20; refine (deliver_nil _ _ _).mono ?_; rintro e w' ⟨rfl, rfl⟩)
    | (go_at_call 7; refine (box_nil _ _).mono ?_; rintro e w' ⟨rfl, rfl⟩))
  all_goals go_ret2
  all_goals exact ⟨rfl, (Below.refl _ _).alloc (Nat.le_refl _) _⟩
end Go.Proofs.YtfeddldjjpnjoaaGreatDoor

namespace Go.Wg
open Go.Proofs
def isNN (v : V) : Bool := match v with
  | .tup [.nilsl, .nilsl] => true
  | _ => false
theorem do_lose (b c d f : Int) (s : ByteArray) : fnK (fsOf lF lY) (look x0) 1000 6 [.nilp, .agg [.i .i64 (Int.ofNat 3), .i .i64 b, .i .i64 c, .i .i64 d, .i .i64 f, .s s]] st0 (fun v _ => isNN v) = true := by kernel_rfl
end Go.Wg
