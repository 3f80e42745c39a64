/-
  DERIVED. GIVEN WITH THE SEED: THE CARDS: each row of YtbdebcmklaooaaaDoorRows.lean that lists a variable, with what it lists TIED to the program's text (the seventh form; the later family's looks); each row that meets fmt, with fmt's text TOLD by the authors' own Lean function (tested against real Go, not proved from fmt's source: count such statements apart). THE CARD IS WHAT COUNTS. Prove the row's statement (the work); the ties are given (YtbdebcmklaooaaaDoorTie.lean); close each card by the builder's one call (the guide's Derived/Test/ToyasCard.lean, 'card_holds'). Laid BY PROGRAM, IN A SANDBOX (cutbox-door.mjs). By AI agents, Wed Nov 11 2026. No macro, syntax, notation, axiom, sorry.
-/
import Derived.Test.YtbdebcmklaooaaaDoorRows
import GoSem.ClaimSeven
namespace Go.Proofs.YtbdebcmklaooaaaDoor
namespace Rows

/-- THE TIED CARD OF 'sterlinglaw5.ScanAll'. -/
def scanAllCard : Claim7 := { stood := { row := scanAllRow, standIns := [], harness := (true, "5a24279398ab35a0e267f4f341677e9cd0239c731905654561badb66ef028941"), looks := false }, kinds := [], alts := [], laidByText := true, laidKinds := [.data, .listed, .data, .pinned], laidTests := true, laidLooks := .later }
def ScanAllCardSaid : Prop := Claim7.holds Tryd.pinned (.plain (OpenSpec.ofChange scanAllSpec)) scanAllCard

/-- THE TIED CARD OF 'sterlinglaw5.ScanAgain'. -/
def scanAgainCard : Claim7 := { stood := { row := scanAgainRow, standIns := [], harness := (true, "5a24279398ab35a0e267f4f341677e9cd0239c731905654561badb66ef028941"), looks := false }, kinds := [], alts := [], laidByText := true, laidKinds := [.data, .listed, .data, .pinned], laidTests := true, laidLooks := .later }
def ScanAgainCardSaid : Prop := Claim7.holds Tryd.pinned (.plain (OpenSpec.ofChange scanAgainSpec)) scanAgainCard

/-- THE TIED CARD OF 'sterlinglaw5.ScanValue'. -/
def scanValueCard : Claim7 := { stood := { row := scanValueRow, standIns := [], harness := (true, "5a24279398ab35a0e267f4f341677e9cd0239c731905654561badb66ef028941"), looks := false }, kinds := [], alts := [], laidByText := true, laidKinds := [.data, .listed, .data, .pinned], laidTests := true, laidLooks := .later }
def ScanValueCardSaid : Prop := Claim7.holds Tryd.pinned (.plain (OpenSpec.ofChange scanValueSpec)) scanValueCard

/-- THE TIED CARD OF 'sterlinglaw5.ScanEnds'. -/
def scanEndsCard : Claim7 := { stood := { row := scanEndsRow, standIns := [], harness := (true, "5a24279398ab35a0e267f4f341677e9cd0239c731905654561badb66ef028941"), looks := false }, kinds := [], alts := [], laidByText := true, laidKinds := [.data, .listed, .data, .pinned], laidTests := true, laidLooks := .later }
def ScanEndsCardSaid : Prop := Claim7.holds Tryd.pinned (.plain (OpenSpec.ofChange scanEndsSpec)) scanEndsCard

/-- THE SECOND FORM's CARD OF 'sterlinglaw5.ScanAll'. -/
def scanAllUptoCard : Claim7 := { stood := { row := scanAllUptoRow, standIns := [], harness := (true, "5a24279398ab35a0e267f4f341677e9cd0239c731905654561badb66ef028941"), looks := false }, kinds := [], alts := [], laidByText := true, laidKinds := [.data, .listed, .data, .pinned], laidTests := true, laidLooks := .later }
def ScanAllUptoCardSaid : Prop := Claim7.holds Tryd.pinned (.plain (OpenSpec.upto scanAllSpec)) scanAllUptoCard

/-- THE SECOND FORM's CARD OF 'sterlinglaw5.ScanAgain'. -/
def scanAgainUptoCard : Claim7 := { stood := { row := scanAgainUptoRow, standIns := [], harness := (true, "5a24279398ab35a0e267f4f341677e9cd0239c731905654561badb66ef028941"), looks := false }, kinds := [], alts := [], laidByText := true, laidKinds := [.data, .listed, .data, .pinned], laidTests := true, laidLooks := .later }
def ScanAgainUptoCardSaid : Prop := Claim7.holds Tryd.pinned (.plain (OpenSpec.upto scanAgainSpec)) scanAgainUptoCard

/-- THE SECOND FORM's CARD OF 'sterlinglaw5.ScanValue'. -/
def scanValueUptoCard : Claim7 := { stood := { row := scanValueUptoRow, standIns := [], harness := (true, "5a24279398ab35a0e267f4f341677e9cd0239c731905654561badb66ef028941"), looks := false }, kinds := [], alts := [], laidByText := true, laidKinds := [.data, .listed, .data, .pinned], laidTests := true, laidLooks := .later }
def ScanValueUptoCardSaid : Prop := Claim7.holds Tryd.pinned (.plain (OpenSpec.upto scanValueSpec)) scanValueUptoCard

/-- THE SECOND FORM's CARD OF 'sterlinglaw5.ScanEnds'. -/
def scanEndsUptoCard : Claim7 := { stood := { row := scanEndsUptoRow, standIns := [], harness := (true, "5a24279398ab35a0e267f4f341677e9cd0239c731905654561badb66ef028941"), looks := false }, kinds := [], alts := [], laidByText := true, laidKinds := [.data, .listed, .data, .pinned], laidTests := true, laidLooks := .later }
def ScanEndsUptoCardSaid : Prop := Claim7.holds Tryd.pinned (.plain (OpenSpec.upto scanEndsSpec)) scanEndsUptoCard
end Rows
end Go.Proofs.YtbdebcmklaooaaaDoor
