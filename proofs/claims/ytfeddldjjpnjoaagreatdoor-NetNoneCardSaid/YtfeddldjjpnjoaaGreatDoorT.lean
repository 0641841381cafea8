/- The closed facts of the row; no statement of the set is proved here. -/
import Derived.Test.YtfeddldjjpnjoaaGreatDoorCards
import Derived.Test.YtfeddldjjpnjoaaGreatDoorTie
import Derived.ProofKit
import Derived.OpenShut
import Derived.LaidMore
import Derived.Lay
import Derived.SevenTiedAt
import Derived.Stop.Joined
namespace Go.Proofs.YtfeddldjjpnjoaaGreatDoor
open Go.ChangeShapes Go.WideShapes Go.ChangeAt Go.RowKit
set_option maxRecDepth 100000
set_option maxHeartbeats 1000000000
theorem closed : joinedFacts Tryz.prog 3 Tryz.f3 Rows.netNoneSpec Rows.netNoneRow = true := by
  simp only [joinedFacts, Bool.and_eq_true]
  repeat' apply And.intro
  all_goals (as_aux_lemma => kernel_rfl)

end Go.Proofs.YtfeddldjjpnjoaaGreatDoor
