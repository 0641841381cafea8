/- The boot that each statement of the layer ends with: it hands back true, whatever lies in memory; no statement of the set is proved here. -/
import Derived.Test.YtfeddldjjpnjoaaGreatDoorM
namespace Go.Wg
open Go.Proofs
theorem mixed : Tryz.prog.follows .mixedOrders = true := by kernel_rfl
/-- The library's two that have no text. -/
def x0 : List (Nat × XFn) := [(275, countX), (321, indexX)]
theorem allX0 : AllX Tryz.prog x0 :=
  ⟨countX_ok Tryz.func275 (by kernel_rfl) (by kernel_rfl) (by kernel_rfl) (by kernel_rfl), indexX_ok Tryz.func321 (by kernel_rfl) (by kernel_rfl) (by kernel_rfl) (by kernel_rfl), trivial⟩
set_option maxRecDepth 10000000 in
theorem wakes_run : fnK (fsOf lF lY) (look x0) 1000000 4 [] st0 (fun v _ => is_b v (fun b => b) false) = true := by kernel_rfl
theorem wakes_ok : FnsOk Tryz.prog fun g args s => if g = 4 then boolX true args s else none := by
  obtain ⟨v, s', h1, h2⟩ := fnK_ok wakes_run
  have hv : v = .b true := by
    cases v with
    | b x => exact congrArg V.b (show x = true from h2)
    | _ => exact nomatch (show false = true from h2)
  subst hv
  exact boolX_ok (evFn_ok mixed (fsOf_ok allF allY) (look_x allX0) 1000000) h1
end Go.Wg
