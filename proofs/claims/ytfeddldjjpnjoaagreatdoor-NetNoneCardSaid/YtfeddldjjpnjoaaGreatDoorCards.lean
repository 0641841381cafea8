/-
  DERIVED. GIVEN WITH THE SEED: THE CARDS: each row of YtfeddldjjpnjoaaGreatDoorRows.lean that lists a variable, with what it lists TIED to the program's text (the seventh form; the later family's looks); each row that meets fmt, with fmt's text TOLD by the authors' own Lean function (tested against real Go, not proved from fmt's source: count such statements apart). THE CARD IS WHAT COUNTS. Prove the row's statement (the work); the ties are given (YtfeddldjjpnjoaaGreatDoorTie.lean); close each card by the builder's one call (the guide's Derived/Test/ToyasCard.lean, 'card_holds'). Laid BY PROGRAM, IN A SANDBOX (cutbox-door.mjs). By AI agents, Wed Nov 11 2026. No macro, syntax, notation, axiom, sorry.
-/
import Derived.Test.YtfeddldjjpnjoaaGreatDoorRows
import GoSem.ClaimSeven
namespace Go.Proofs.YtfeddldjjpnjoaaGreatDoor
namespace Rows

/-- THE TIED CARD OF 'weirgatelaw27.NetNone'. -/
def netNoneCard : Claim7 := { stood := { row := netNoneRow, standIns := [], harness := (true, "ca0299461a309649f2369a88ecea1faa95ccc887fd51403de320412d0a84e7bb"), looks := true }, kinds := [], alts := [], laidByText := true, laidKinds := [.data, .data, .data, .data, .sentinel, .sentinel, .pinned], laidTests := true, laidLooks := .later }
def NetNoneCardSaid : Prop := Claim7.holds Tryz.pinned (.plain (OpenSpec.ofChange netNoneSpec)) netNoneCard

/-- THE SECOND FORM's CARD OF 'weirgatelaw27.NetNone'. -/
def netNoneUptoCard : Claim7 := { stood := { row := netNoneUptoRow, standIns := [], harness := (true, "ca0299461a309649f2369a88ecea1faa95ccc887fd51403de320412d0a84e7bb"), looks := true }, kinds := [], alts := [], laidByText := true, laidKinds := [.data, .data, .data, .data, .sentinel, .sentinel, .pinned], laidTests := true, laidLooks := .later }
def NetNoneUptoCardSaid : Prop := Claim7.holds Tryz.pinned (.plain (OpenSpec.upto netNoneSpec)) netNoneUptoCard
end Rows
end Go.Proofs.YtfeddldjjpnjoaaGreatDoor
