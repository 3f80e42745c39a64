/-
  DERIVED. GIVEN WITH THE SEED: THE CARDS: each row of YtolhjhjlfgfifaaGreatDoorRows.lean that lists a variable, with what it lists TIED to the program's text (the seventh form; the later family's looks); each row that meets fmt, with fmt's text TOLD by the authors' own Lean function (tested against real Go, not proved from fmt's source: count such statements apart). THE CARD IS WHAT COUNTS. Prove the row's statement (the work); the ties are given (YtolhjhjlfgfifaaGreatDoorTie.lean); close each card by the builder's one call (the guide's Derived/Test/ToyasCard.lean, 'card_holds'). Laid BY PROGRAM, IN A SANDBOX (cutbox-door.mjs). By AI agents, Wed Nov 11 2026. No macro, syntax, notation, axiom, sorry.
-/
import Derived.Test.YtolhjhjlfgfifaaGreatDoorRows
import GoSem.ClaimSeven
namespace Go.Proofs.YtolhjhjlfgfifaaGreatDoor
namespace Rows

/-- THE TIED CARD OF 'sterlinglaw7.ReadDeep'. -/
def readDeepCard : Claim7 := { stood := { row := readDeepRow, standIns := [], harness := (true, "4a6cf7e747364afc44b7ab9a7c8d0cc4f519c8f83a334b97465b9d46f59f618f"), looks := true }, kinds := [], alts := [], laidByText := true, laidKinds := [.data, .listed, .data, .pinned], laidTests := true, laidLooks := .later }
def ReadDeepCardSaid : Prop := Claim7.holds Tryz.pinned (.plain (OpenSpec.ofChange readDeepSpec)) readDeepCard

/-- THE TIED CARD OF 'sterlinglaw7.ReadReader'. -/
def readReaderCard : Claim7 := { stood := { row := readReaderRow, standIns := [], harness := (true, "4a6cf7e747364afc44b7ab9a7c8d0cc4f519c8f83a334b97465b9d46f59f618f"), looks := true }, kinds := [], alts := [], laidByText := true, laidKinds := [.data, .listed, .data, .pinned], laidTests := true, laidLooks := .later }
def ReadReaderCardSaid : Prop := Claim7.holds Tryz.pinned (.plain (OpenSpec.ofChange readReaderSpec)) readReaderCard

/-- THE TIED CARD OF 'sterlinglaw7.ReadBinding'. -/
def readBindingCard : Claim7 := { stood := { row := readBindingRow, standIns := [], harness := (true, "4a6cf7e747364afc44b7ab9a7c8d0cc4f519c8f83a334b97465b9d46f59f618f"), looks := true }, kinds := [], alts := [], laidByText := true, laidKinds := [.data, .listed, .data, .pinned], laidTests := true, laidLooks := .later }
def ReadBindingCardSaid : Prop := Claim7.holds Tryz.pinned (.plain (OpenSpec.ofChange readBindingSpec)) readBindingCard

/-- THE SECOND FORM's CARD OF 'sterlinglaw7.ReadDeep'. -/
def readDeepUptoCard : Claim7 := { stood := { row := readDeepUptoRow, standIns := [], harness := (true, "4a6cf7e747364afc44b7ab9a7c8d0cc4f519c8f83a334b97465b9d46f59f618f"), looks := true }, kinds := [], alts := [], laidByText := true, laidKinds := [.data, .listed, .data, .pinned], laidTests := true, laidLooks := .later }
def ReadDeepUptoCardSaid : Prop := Claim7.holds Tryz.pinned (.plain (OpenSpec.upto readDeepSpec)) readDeepUptoCard

/-- THE SECOND FORM's CARD OF 'sterlinglaw7.ReadReader'. -/
def readReaderUptoCard : Claim7 := { stood := { row := readReaderUptoRow, standIns := [], harness := (true, "4a6cf7e747364afc44b7ab9a7c8d0cc4f519c8f83a334b97465b9d46f59f618f"), looks := true }, kinds := [], alts := [], laidByText := true, laidKinds := [.data, .listed, .data, .pinned], laidTests := true, laidLooks := .later }
def ReadReaderUptoCardSaid : Prop := Claim7.holds Tryz.pinned (.plain (OpenSpec.upto readReaderSpec)) readReaderUptoCard

/-- THE SECOND FORM's CARD OF 'sterlinglaw7.ReadBinding'. -/
def readBindingUptoCard : Claim7 := { stood := { row := readBindingUptoRow, standIns := [], harness := (true, "4a6cf7e747364afc44b7ab9a7c8d0cc4f519c8f83a334b97465b9d46f59f618f"), looks := true }, kinds := [], alts := [], laidByText := true, laidKinds := [.data, .listed, .data, .pinned], laidTests := true, laidLooks := .later }
def ReadBindingUptoCardSaid : Prop := Claim7.holds Tryz.pinned (.plain (OpenSpec.upto readBindingSpec)) readBindingUptoCard
end Rows
end Go.Proofs.YtolhjhjlfgfifaaGreatDoor
