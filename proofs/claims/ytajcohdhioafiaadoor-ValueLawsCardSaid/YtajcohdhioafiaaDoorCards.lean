/-
  DERIVED. GIVEN WITH THE SEED: THE CARDS: each row of YtajcohdhioafiaaDoorRows.lean that lists a variable, with what it lists TIED to the program's text (the seventh form; the later family's looks); each row that meets fmt, with fmt's text TOLD by the authors' own Lean function (tested against real Go, not proved from fmt's source: count such statements apart). THE CARD IS WHAT COUNTS. Prove the row's statement (the work); the ties are given (YtajcohdhioafiaaDoorTie.lean); close each card by the builder's one call (the guide's Derived/Test/ToyasCard.lean, 'card_holds'). Laid BY PROGRAM, IN A SANDBOX (cutbox-door.mjs). By AI agents, Wed Nov 11 2026. No macro, syntax, notation, axiom, sorry.
-/
import Derived.Test.YtajcohdhioafiaaDoorRows
import GoSem.ClaimSeven
namespace Go.Proofs.YtajcohdhioafiaaDoor
namespace Rows

/-- THE TIED CARD OF 'sterlinglaw25.ValueFloats'. -/
def valueFloatsCard : Claim7 := { stood := { row := valueFloatsRow, standIns := [], harness := (true, "cb6534786bbc47a9faf716e053a62bbe9f2d10076eb0c5ca4e19c1f96e220f81"), looks := false }, kinds := [], alts := [], laidByText := true, laidKinds := [.data, .data, .data], laidTests := true, laidLooks := .later }
def ValueFloatsCardSaid : Prop := Claim7.holds Tryd.pinned (.plain (OpenSpec.ofChange valueFloatsSpec)) valueFloatsCard

/-- THE TIED CARD OF 'sterlinglaw25.ValueLaws'. -/
def valueLawsCard : Claim7 := { stood := { row := valueLawsRow, standIns := [], harness := (true, "cb6534786bbc47a9faf716e053a62bbe9f2d10076eb0c5ca4e19c1f96e220f81"), looks := false }, kinds := [], alts := [], laidByText := true, laidKinds := [.data, .data, .data], laidTests := true, laidLooks := .later }
def ValueLawsCardSaid : Prop := Claim7.holds Tryd.pinned (.plain (OpenSpec.ofChange valueLawsSpec)) valueLawsCard

/-- THE SECOND FORM's CARD OF 'sterlinglaw25.ValueFloats'. -/
def valueFloatsUptoCard : Claim7 := { stood := { row := valueFloatsUptoRow, standIns := [], harness := (true, "cb6534786bbc47a9faf716e053a62bbe9f2d10076eb0c5ca4e19c1f96e220f81"), looks := false }, kinds := [], alts := [], laidByText := true, laidKinds := [.data, .data, .data], laidTests := true, laidLooks := .later }
def ValueFloatsUptoCardSaid : Prop := Claim7.holds Tryd.pinned (.plain (OpenSpec.upto valueFloatsSpec)) valueFloatsUptoCard

/-- THE SECOND FORM's CARD OF 'sterlinglaw25.ValueLaws'. -/
def valueLawsUptoCard : Claim7 := { stood := { row := valueLawsUptoRow, standIns := [], harness := (true, "cb6534786bbc47a9faf716e053a62bbe9f2d10076eb0c5ca4e19c1f96e220f81"), looks := false }, kinds := [], alts := [], laidByText := true, laidKinds := [.data, .data, .data], laidTests := true, laidLooks := .later }
def ValueLawsUptoCardSaid : Prop := Claim7.holds Tryd.pinned (.plain (OpenSpec.upto valueLawsSpec)) valueLawsUptoCard
end Rows
end Go.Proofs.YtajcohdhioafiaaDoor
