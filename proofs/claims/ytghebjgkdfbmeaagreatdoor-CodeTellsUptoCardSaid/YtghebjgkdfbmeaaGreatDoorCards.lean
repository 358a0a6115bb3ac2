/-
  DERIVED. GIVEN WITH THE SEED: THE CARDS: each row of YtghebjgkdfbmeaaGreatDoorRows.lean that lists a variable, with what it lists TIED to the program's text (the seventh form; the later family's looks); each row that meets fmt, with fmt's text TOLD by the authors' own Lean function (tested against real Go, not proved from fmt's source: count such statements apart). THE CARD IS WHAT COUNTS. Prove the row's statement (the work); the ties are given (YtghebjgkdfbmeaaGreatDoorTie.lean); close each card by the builder's one call (the guide's Derived/Test/ToyasCard.lean, 'card_holds'). Laid BY PROGRAM, IN A SANDBOX (cutbox-door.mjs). By AI agents, Wed Nov 11 2026. No macro, syntax, notation, axiom, sorry.
-/
import Derived.Test.YtghebjgkdfbmeaaGreatDoorRows
import GoSem.ClaimSeven
namespace Go.Proofs.YtghebjgkdfbmeaaGreatDoor
namespace Rows

/-- THE TIED CARD OF 'vademecumlaw8.CodeTells'. -/
def codeTellsCard : Claim7 := { stood := { row := codeTellsRow, standIns := [], harness := (true, "89bb1eeaebcf6d0923d0d932bb684053b93260d23a044ed20724f934ff1fc759"), looks := true }, kinds := [], alts := [], laidByText := true, laidKinds := [.data, .handle, .pinned], laidTests := true, laidLooks := .later }
def CodeTellsCardSaid : Prop := Claim7.holds Tryz.pinned (.plain (OpenSpec.ofChange codeTellsSpec)) codeTellsCard

/-- THE SECOND FORM's CARD OF 'vademecumlaw8.CodeTells'. -/
def codeTellsUptoCard : Claim7 := { stood := { row := codeTellsUptoRow, standIns := [], harness := (true, "89bb1eeaebcf6d0923d0d932bb684053b93260d23a044ed20724f934ff1fc759"), looks := true }, kinds := [], alts := [], laidByText := true, laidKinds := [.data, .handle, .pinned], laidTests := true, laidLooks := .later }
def CodeTellsUptoCardSaid : Prop := Claim7.holds Tryz.pinned (.plain (OpenSpec.upto codeTellsSpec)) codeTellsUptoCard
end Rows
end Go.Proofs.YtghebjgkdfbmeaaGreatDoor
