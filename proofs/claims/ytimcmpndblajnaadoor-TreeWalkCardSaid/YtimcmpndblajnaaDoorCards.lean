/-
  DERIVED. GIVEN WITH THE SEED: THE CARDS: each row of YtimcmpndblajnaaDoorRows.lean that lists a variable, with what it lists TIED to the program's text (the seventh form; the later family's looks); each row that meets fmt, with fmt's text TOLD by the authors' own Lean function (tested against real Go, not proved from fmt's source: count such statements apart). THE CARD IS WHAT COUNTS. Prove the row's statement (the work); the ties are given (YtimcmpndblajnaaDoorTie.lean); close each card by the builder's one call (the guide's Derived/Test/ToyasCard.lean, 'card_holds'). Laid BY PROGRAM, IN A SANDBOX (cutbox-door.mjs). By AI agents, Wed Nov 11 2026. No macro, syntax, notation, axiom, sorry.
-/
import Derived.Test.YtimcmpndblajnaaDoorRows
import GoSem.ClaimSeven
namespace Go.Proofs.YtimcmpndblajnaaDoor
namespace Rows

/-- THE TIED CARD OF 'sterlinglaw6.TreeWalk'. -/
def treeWalkCard : Claim7 := { stood := { row := treeWalkRow, standIns := [], harness := (true, "330b32044deb785e5aa3048c8e0f182e9205f1baa2c6e07a716fae38d3dc5735"), looks := false }, kinds := [], alts := [], laidByText := true, laidKinds := [.data, .pinned], laidTests := true, laidLooks := .later }
def TreeWalkCardSaid : Prop := Claim7.holds Tryd.pinned (.plain (OpenSpec.ofChange treeWalkSpec)) treeWalkCard

/-- THE TIED CARD OF 'sterlinglaw6.TreeEq'. -/
def treeEqCard : Claim7 := { stood := { row := treeEqRow, standIns := [], harness := (true, "330b32044deb785e5aa3048c8e0f182e9205f1baa2c6e07a716fae38d3dc5735"), looks := false }, kinds := [], alts := [], laidByText := true, laidKinds := [.data, .pinned], laidTests := true, laidLooks := .later }
def TreeEqCardSaid : Prop := Claim7.holds Tryd.pinned (.plain (OpenSpec.ofChange treeEqSpec)) treeEqCard

/-- THE SECOND FORM's CARD OF 'sterlinglaw6.TreeWalk'. -/
def treeWalkUptoCard : Claim7 := { stood := { row := treeWalkUptoRow, standIns := [], harness := (true, "330b32044deb785e5aa3048c8e0f182e9205f1baa2c6e07a716fae38d3dc5735"), looks := false }, kinds := [], alts := [], laidByText := true, laidKinds := [.data, .pinned], laidTests := true, laidLooks := .later }
def TreeWalkUptoCardSaid : Prop := Claim7.holds Tryd.pinned (.plain (OpenSpec.upto treeWalkSpec)) treeWalkUptoCard

/-- THE SECOND FORM's CARD OF 'sterlinglaw6.TreeEq'. -/
def treeEqUptoCard : Claim7 := { stood := { row := treeEqUptoRow, standIns := [], harness := (true, "330b32044deb785e5aa3048c8e0f182e9205f1baa2c6e07a716fae38d3dc5735"), looks := false }, kinds := [], alts := [], laidByText := true, laidKinds := [.data, .pinned], laidTests := true, laidLooks := .later }
def TreeEqUptoCardSaid : Prop := Claim7.holds Tryd.pinned (.plain (OpenSpec.upto treeEqSpec)) treeEqUptoCard
end Rows
end Go.Proofs.YtimcmpndblajnaaDoor
