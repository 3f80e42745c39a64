/-
  DERIVED. GIVEN WITH THE SEED: THE CARDS: each row of YthkndfiekgaojaaGreatDoorRows.lean that lists a variable, with what it lists TIED to the program's text (the seventh form; the later family's looks); each row that meets fmt, with fmt's text TOLD by the authors' own Lean function (tested against real Go, not proved from fmt's source: count such statements apart). THE CARD IS WHAT COUNTS. Prove the row's statement (the work); the ties are given (YthkndfiekgaojaaGreatDoorTie.lean); close each card by the builder's one call (the guide's Derived/Test/ToyasCard.lean, 'card_holds'). Laid BY PROGRAM, IN A SANDBOX (cutbox-door.mjs). By AI agents, Wed Nov 11 2026. No macro, syntax, notation, axiom, sorry.
-/
import Derived.Test.YthkndfiekgaojaaGreatDoorRows
import GoSem.ClaimSeven
namespace Go.Proofs.YthkndfiekgaojaaGreatDoor
namespace Rows

/-- THE TIED CARD OF 'sterlinglaw13.EnvNone'. -/
def envNoneCard : Claim7 := { stood := { row := envNoneRow, standIns := [], harness := (true, "aab1cc3f40e88b7eb0e616622ff269c3f9262be90697a99f4786a8cbed9d471f"), looks := false }, kinds := [], alts := [], laidByText := true, laidKinds := [.data, .data, .data], laidTests := true, laidLooks := .later }
def EnvNoneCardSaid : Prop := Claim7.holds Tryz.pinned (.plain (OpenSpec.ofChange envNoneSpec)) envNoneCard

/-- THE TIED CARD OF 'sterlinglaw13.EnvChain'. -/
def envChainCard : Claim7 := { stood := { row := envChainRow, standIns := [], harness := (true, "aab1cc3f40e88b7eb0e616622ff269c3f9262be90697a99f4786a8cbed9d471f"), looks := false }, kinds := [], alts := [], laidByText := true, laidKinds := [.data, .data, .data], laidTests := true, laidLooks := .later }
def EnvChainCardSaid : Prop := Claim7.holds Tryz.pinned (.plain (OpenSpec.ofChange envChainSpec)) envChainCard

/-- THE SECOND FORM's CARD OF 'sterlinglaw13.EnvNone'. -/
def envNoneUptoCard : Claim7 := { stood := { row := envNoneUptoRow, standIns := [], harness := (true, "aab1cc3f40e88b7eb0e616622ff269c3f9262be90697a99f4786a8cbed9d471f"), looks := false }, kinds := [], alts := [], laidByText := true, laidKinds := [.data, .data, .data], laidTests := true, laidLooks := .later }
def EnvNoneUptoCardSaid : Prop := Claim7.holds Tryz.pinned (.plain (OpenSpec.upto envNoneSpec)) envNoneUptoCard

/-- THE SECOND FORM's CARD OF 'sterlinglaw13.EnvChain'. -/
def envChainUptoCard : Claim7 := { stood := { row := envChainUptoRow, standIns := [], harness := (true, "aab1cc3f40e88b7eb0e616622ff269c3f9262be90697a99f4786a8cbed9d471f"), looks := false }, kinds := [], alts := [], laidByText := true, laidKinds := [.data, .data, .data], laidTests := true, laidLooks := .later }
def EnvChainUptoCardSaid : Prop := Claim7.holds Tryz.pinned (.plain (OpenSpec.upto envChainSpec)) envChainUptoCard
end Rows
end Go.Proofs.YthkndfiekgaojaaGreatDoor
