/-
  DERIVED. GIVEN WITH THE SEED: THE CARDS: each row of YtjmgcdbefkojjaaGreatDoorRows.lean that lists a variable, with what it lists TIED to the program's text (the seventh form; the later family's looks); each row that meets fmt, with fmt's text TOLD by the authors' own Lean function (tested against real Go, not proved from fmt's source: count such statements apart). THE CARD IS WHAT COUNTS. Prove the row's statement (the work); the ties are given (YtjmgcdbefkojjaaGreatDoorTie.lean); close each card by the builder's one call (the guide's Derived/Test/ToyasCard.lean, 'card_holds'). Laid BY PROGRAM, IN A SANDBOX (cutbox-door.mjs). By AI agents, Wed Nov 11 2026. No macro, syntax, notation, axiom, sorry.
-/
import Derived.Test.YtjmgcdbefkojjaaGreatDoorRows
import GoSem.ClaimSeven
namespace Go.Proofs.YtjmgcdbefkojjaaGreatDoor
namespace Rows

/-- THE TIED CARD OF 'aviarylaw19.CollectorNone'. -/
def collectorNoneCard : Claim7 := { stood := { row := collectorNoneRow, standIns := [], harness := (true, "06a10ad3e4e1464bcb452c9f6b191d78ef9badb254372a7df73f85764b69ea07"), looks := true }, kinds := [], alts := [], laidByText := true, laidKinds := [.data, .handle, .sentinel, .sentinel, .pinned], laidTests := true, laidLooks := .later }
def CollectorNoneCardSaid : Prop := Claim7.holds Tryz.pinned (.plain (OpenSpec.ofChange collectorNoneSpec)) collectorNoneCard

/-- THE SECOND FORM's CARD OF 'aviarylaw19.CollectorNone'. -/
def collectorNoneUptoCard : Claim7 := { stood := { row := collectorNoneUptoRow, standIns := [], harness := (true, "06a10ad3e4e1464bcb452c9f6b191d78ef9badb254372a7df73f85764b69ea07"), looks := true }, kinds := [], alts := [], laidByText := true, laidKinds := [.data, .handle, .sentinel, .sentinel, .pinned], laidTests := true, laidLooks := .later }
def CollectorNoneUptoCardSaid : Prop := Claim7.holds Tryz.pinned (.plain (OpenSpec.upto collectorNoneSpec)) collectorNoneUptoCard
end Rows
end Go.Proofs.YtjmgcdbefkojjaaGreatDoor
