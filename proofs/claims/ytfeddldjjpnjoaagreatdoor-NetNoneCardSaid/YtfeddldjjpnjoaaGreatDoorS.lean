/- The loops over functions of a program, by number; where a program is proved, its own table stands here. -/
import Derived.Test.YtfeddldjjpnjoaaGreatDoorProg
import Derived.Calls
import Derived.Orders
namespace Go.Wg

/-- A function's first loop over a function: what it hands to a round, the assignment, the body. -/
def firstRf : Code → Option (Array Tmp × Code × Code)
  | .rangeFunc _ ps a b => some (ps, a, b)
  | .seq x y => match firstRf x with
    | some r => some r
    | none => firstRf y
  | .cond _ x y => match firstRf x with
    | some r => some r
    | none => firstRf y
  | .block _ x => firstRf x
  | .loop x => firstRf x
  | _ => none

def rfOf (P : Program) (k : Nat) : Option (Nat × Array Tmp × Code × Code) := match P.funcs[k]? with
  | some fn => match fn.body with
    | some c => match firstRf c with
      | some (ps, a, b) => some (fn.ntmps, ps, a, b)
      | none => none
    | none => none
  | none => none

/-- A loop's code, by number. -/
noncomputable def tab : Nat → Option (Nat × Array Tmp × Code × Code) := fun k => rfOf Go.Proofs.Tryz.prog k

end Go.Wg
