/-
  DERIVED. GIVEN WITH THE SEED: THE CARDS: each row of YtlmkcdebchahpaaDoorRows.lean that lists a variable, with what it lists TIED to the program's text (the seventh form; the later family's looks); each row that meets fmt, with fmt's text TOLD by the authors' own Lean function (tested against real Go, not proved from fmt's source: count such statements apart). THE CARD IS WHAT COUNTS. Prove the row's statement (the work); the ties are given (YtlmkcdebchahpaaDoorTie.lean); close each card by the builder's one call (the guide's Derived/Test/ToyasCard.lean, 'card_holds'). Laid BY PROGRAM, IN A SANDBOX (cutbox-door.mjs). By AI agents, Wed Nov 11 2026. No macro, syntax, notation, axiom, sorry.
-/
import Derived.Test.YtlmkcdebchahpaaDoorRows
import GoSem.ClaimSeven
namespace Go.Proofs.YtlmkcdebchahpaaDoor
namespace Rows

/-- THE TIED CARD OF 'vademecumlaw9.LexWords'. -/
def lexWordsCard : Claim7 := { stood := { row := lexWordsRow, standIns := [], harness := (true, "7dfaa3ccbf4d9a79215fa211c8b285901d1e07df151cc1c5f5318983937e894d"), looks := true }, kinds := [], alts := [], laidByText := true, laidKinds := [.data, .pinned], laidTests := true, laidLooks := .later }
def LexWordsCardSaid : Prop := Claim7.holds Tryd.pinned (.plain (OpenSpec.ofChange lexWordsSpec)) lexWordsCard

/-- THE TIED CARD OF 'vademecumlaw9.LexPoints'. -/
def lexPointsCard : Claim7 := { stood := { row := lexPointsRow, standIns := [], harness := (true, "7dfaa3ccbf4d9a79215fa211c8b285901d1e07df151cc1c5f5318983937e894d"), looks := true }, kinds := [], alts := [], laidByText := true, laidKinds := [.data, .pinned], laidTests := true, laidLooks := .later }
def LexPointsCardSaid : Prop := Claim7.holds Tryd.pinned (.plain (OpenSpec.ofChange lexPointsSpec)) lexPointsCard

/-- THE TIED CARD OF 'vademecumlaw9.LexBytes'. -/
def lexBytesCard : Claim7 := { stood := { row := lexBytesRow, standIns := [], harness := (true, "7dfaa3ccbf4d9a79215fa211c8b285901d1e07df151cc1c5f5318983937e894d"), looks := true }, kinds := [], alts := [], laidByText := true, laidKinds := [.data, .pinned], laidTests := true, laidLooks := .later }
def LexBytesCardSaid : Prop := Claim7.holds Tryd.pinned (.plain (OpenSpec.ofChange lexBytesSpec)) lexBytesCard

/-- THE TIED CARD OF 'vademecumlaw9.LexTells'. -/
def lexTellsCard : Claim7 := { stood := { row := lexTellsRow, standIns := [], harness := (true, "7dfaa3ccbf4d9a79215fa211c8b285901d1e07df151cc1c5f5318983937e894d"), looks := true }, kinds := [], alts := [], laidByText := true, laidKinds := [.data, .handle, .pinned], laidTests := true, laidLooks := .later }
def LexTellsCardSaid : Prop := Claim7.holds Tryd.pinned (.plain (OpenSpec.ofChange lexTellsSpec)) lexTellsCard

/-- THE SECOND FORM's CARD OF 'vademecumlaw9.LexWords'. -/
def lexWordsUptoCard : Claim7 := { stood := { row := lexWordsUptoRow, standIns := [], harness := (true, "7dfaa3ccbf4d9a79215fa211c8b285901d1e07df151cc1c5f5318983937e894d"), looks := true }, kinds := [], alts := [], laidByText := true, laidKinds := [.data, .pinned], laidTests := true, laidLooks := .later }
def LexWordsUptoCardSaid : Prop := Claim7.holds Tryd.pinned (.plain (OpenSpec.upto lexWordsSpec)) lexWordsUptoCard

/-- THE SECOND FORM's CARD OF 'vademecumlaw9.LexPoints'. -/
def lexPointsUptoCard : Claim7 := { stood := { row := lexPointsUptoRow, standIns := [], harness := (true, "7dfaa3ccbf4d9a79215fa211c8b285901d1e07df151cc1c5f5318983937e894d"), looks := true }, kinds := [], alts := [], laidByText := true, laidKinds := [.data, .pinned], laidTests := true, laidLooks := .later }
def LexPointsUptoCardSaid : Prop := Claim7.holds Tryd.pinned (.plain (OpenSpec.upto lexPointsSpec)) lexPointsUptoCard

/-- THE SECOND FORM's CARD OF 'vademecumlaw9.LexBytes'. -/
def lexBytesUptoCard : Claim7 := { stood := { row := lexBytesUptoRow, standIns := [], harness := (true, "7dfaa3ccbf4d9a79215fa211c8b285901d1e07df151cc1c5f5318983937e894d"), looks := true }, kinds := [], alts := [], laidByText := true, laidKinds := [.data, .pinned], laidTests := true, laidLooks := .later }
def LexBytesUptoCardSaid : Prop := Claim7.holds Tryd.pinned (.plain (OpenSpec.upto lexBytesSpec)) lexBytesUptoCard

/-- THE SECOND FORM's CARD OF 'vademecumlaw9.LexTells'. -/
def lexTellsUptoCard : Claim7 := { stood := { row := lexTellsUptoRow, standIns := [], harness := (true, "7dfaa3ccbf4d9a79215fa211c8b285901d1e07df151cc1c5f5318983937e894d"), looks := true }, kinds := [], alts := [], laidByText := true, laidKinds := [.data, .handle, .pinned], laidTests := true, laidLooks := .later }
def LexTellsUptoCardSaid : Prop := Claim7.holds Tryd.pinned (.plain (OpenSpec.upto lexTellsSpec)) lexTellsUptoCard
end Rows
end Go.Proofs.YtlmkcdebchahpaaDoor
