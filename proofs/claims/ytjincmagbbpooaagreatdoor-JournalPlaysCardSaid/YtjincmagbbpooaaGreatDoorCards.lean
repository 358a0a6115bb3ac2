/-
  DERIVED. GIVEN WITH THE SEED: THE CARDS: each row of YtjincmagbbpooaaGreatDoorRows.lean that lists a variable, with what it lists TIED to the program's text (the seventh form; the later family's looks); each row that meets fmt, with fmt's text TOLD by the authors' own Lean function (tested against real Go, not proved from fmt's source: count such statements apart). THE CARD IS WHAT COUNTS. Prove the row's statement (the work); the ties are given (YtjincmagbbpooaaGreatDoorTie.lean); close each card by the builder's one call (the guide's Derived/Test/ToyasCard.lean, 'card_holds'). Laid BY PROGRAM, IN A SANDBOX (cutbox-door.mjs). By AI agents, Wed Nov 11 2026. No macro, syntax, notation, axiom, sorry.
-/
import Derived.Test.YtjincmagbbpooaaGreatDoorRows
import GoSem.ClaimSeven
namespace Go.Proofs.YtjincmagbbpooaaGreatDoor
namespace Rows

/-- THE TIED CARD OF 'vademecumlaw4.JournalNone'. -/
def journalNoneCard : Claim7 := { stood := { row := journalNoneRow, standIns := [], harness := (true, "2eca5eef9437316ad490d9ddc520979859f0074a9d7ce6939ec25eb2a2fef0a7"), looks := true }, kinds := [], alts := [], laidByText := true, laidKinds := [.data, .handle, .pinned], laidTests := true, laidLooks := .later }
def JournalNoneCardSaid : Prop := Claim7.holds Tryz.pinned (.plain (OpenSpec.ofChange journalNoneSpec)) journalNoneCard

/-- THE TIED CARD OF 'vademecumlaw4.JournalCompacts'. -/
def journalCompactsCard : Claim7 := { stood := { row := journalCompactsRow, standIns := [], harness := (true, "2eca5eef9437316ad490d9ddc520979859f0074a9d7ce6939ec25eb2a2fef0a7"), looks := true }, kinds := [], alts := [], laidByText := true, laidKinds := [.data, .handle, .pinned], laidTests := true, laidLooks := .later }
def JournalCompactsCardSaid : Prop := Claim7.holds Tryz.pinned (.plain (OpenSpec.ofChange journalCompactsSpec)) journalCompactsCard

/-- THE TIED CARD OF 'vademecumlaw4.JournalAgain'. -/
def journalAgainCard : Claim7 := { stood := { row := journalAgainRow, standIns := [], harness := (true, "2eca5eef9437316ad490d9ddc520979859f0074a9d7ce6939ec25eb2a2fef0a7"), looks := true }, kinds := [], alts := [], laidByText := true, laidKinds := [.data, .handle, .pinned], laidTests := true, laidLooks := .later }
def JournalAgainCardSaid : Prop := Claim7.holds Tryz.pinned (.plain (OpenSpec.ofChange journalAgainSpec)) journalAgainCard

/-- THE TIED CARD OF 'vademecumlaw4.JournalPlays'. -/
def journalPlaysCard : Claim7 := { stood := { row := journalPlaysRow, standIns := [], harness := (true, "2eca5eef9437316ad490d9ddc520979859f0074a9d7ce6939ec25eb2a2fef0a7"), looks := true }, kinds := [], alts := [], laidByText := true, laidKinds := [.data, .handle, .pinned], laidTests := true, laidLooks := .later }
def JournalPlaysCardSaid : Prop := Claim7.holds Tryz.pinned (.plain (OpenSpec.ofChange journalPlaysSpec)) journalPlaysCard

/-- THE SECOND FORM's CARD OF 'vademecumlaw4.JournalNone'. -/
def journalNoneUptoCard : Claim7 := { stood := { row := journalNoneUptoRow, standIns := [], harness := (true, "2eca5eef9437316ad490d9ddc520979859f0074a9d7ce6939ec25eb2a2fef0a7"), looks := true }, kinds := [], alts := [], laidByText := true, laidKinds := [.data, .handle, .pinned], laidTests := true, laidLooks := .later }
def JournalNoneUptoCardSaid : Prop := Claim7.holds Tryz.pinned (.plain (OpenSpec.upto journalNoneSpec)) journalNoneUptoCard

/-- THE SECOND FORM's CARD OF 'vademecumlaw4.JournalCompacts'. -/
def journalCompactsUptoCard : Claim7 := { stood := { row := journalCompactsUptoRow, standIns := [], harness := (true, "2eca5eef9437316ad490d9ddc520979859f0074a9d7ce6939ec25eb2a2fef0a7"), looks := true }, kinds := [], alts := [], laidByText := true, laidKinds := [.data, .handle, .pinned], laidTests := true, laidLooks := .later }
def JournalCompactsUptoCardSaid : Prop := Claim7.holds Tryz.pinned (.plain (OpenSpec.upto journalCompactsSpec)) journalCompactsUptoCard

/-- THE SECOND FORM's CARD OF 'vademecumlaw4.JournalAgain'. -/
def journalAgainUptoCard : Claim7 := { stood := { row := journalAgainUptoRow, standIns := [], harness := (true, "2eca5eef9437316ad490d9ddc520979859f0074a9d7ce6939ec25eb2a2fef0a7"), looks := true }, kinds := [], alts := [], laidByText := true, laidKinds := [.data, .handle, .pinned], laidTests := true, laidLooks := .later }
def JournalAgainUptoCardSaid : Prop := Claim7.holds Tryz.pinned (.plain (OpenSpec.upto journalAgainSpec)) journalAgainUptoCard

/-- THE SECOND FORM's CARD OF 'vademecumlaw4.JournalPlays'. -/
def journalPlaysUptoCard : Claim7 := { stood := { row := journalPlaysUptoRow, standIns := [], harness := (true, "2eca5eef9437316ad490d9ddc520979859f0074a9d7ce6939ec25eb2a2fef0a7"), looks := true }, kinds := [], alts := [], laidByText := true, laidKinds := [.data, .handle, .pinned], laidTests := true, laidLooks := .later }
def JournalPlaysUptoCardSaid : Prop := Claim7.holds Tryz.pinned (.plain (OpenSpec.upto journalPlaysSpec)) journalPlaysUptoCard
end Rows
end Go.Proofs.YtjincmagbbpooaaGreatDoor
