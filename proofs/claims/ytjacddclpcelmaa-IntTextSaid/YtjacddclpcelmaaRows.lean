/-
  No cell of these rows narrows 'for every input' (looked for: loops, veiled, ifaces, maps, wideKeys, modest, calm, conditions, laid).
  DERIVED. THE GIVEN ROWS OF THIS SEAT. 7 by the template 'for every input the law returns true; each argument reads behind the call as it read before'; 0 by the template 'total and deterministic' (their statements: YtjacddclpcelmaaTotals.lean).
  GIVEN WITH THE SEED: the statements are not yours to turn. If you find one false, say at which input.
  Laid BY PROGRAM, IN A SANDBOX (cutbox-rows.mjs): the forced cells as the released guide's own fill.sh prints them over the translation 0d105b000d241ad9… (all of the seat's roots in one cut). By AI agents, Wed Nov 11 2026. No macro, syntax, notation, axiom, sorry.
-/
import Derived.Test.YtjacddclpcelmaaChecked
import GoSem.Claim
import GoSem.ClaimJoined
import GoSem.ClaimMapViews
import Derived.JoinedTies
import Derived.KernelRfl
namespace Go.Proofs.Ytjacddclpcelmaa
/- THE CELL 'sum', in the pinned program and in every row, IS THE sha256 OF THE DUMP (.gsa) THAT YtjacddclpcelmaaProg.lean LOADS. Nothing in Lean hashes anything: it is a label: what it is worth is what the hold of that sum in a sandbox is worth. -/
noncomputable def Try.pinned : Pinned := { name := "ytjacddclpcelmaa", sum := "0d105b000d241ad9fd7ece9ebdeb3373adc3a4111731ef07e6770fd94b24e319", checked := Try.checked }
namespace Rows
def none {H : Type} : Left H := { results := [], args := [] }

/-- 'sterlinglaw1.IntSums': WHATEVER THE INPUT: true; the input reads as it did. -/
def intSumsSpec : ChangeSpec := { name := "intSums", fn := fun _ => fun
  | [d1, d2] => { results := [.lit (.bool true)], args := [d1, d2] }
  | _ => none }
def intSumsRow : OpenClaim := { program := "ytjacddclpcelmaa", sum := "0d105b000d241ad9fd7ece9ebdeb3373adc3a4111731ef07e6770fd94b24e319", func := "sterling/sterlinglaw1.IntSums", spec := "intSums", apart := false }
def IntSumsSaid : Prop := intSumsRow.holds Try.pinned (OpenSpec.ofChange intSumsSpec)

/-- ITS FALSE NEIGHBOUR: 'it returns false'. Refute it at one input. -/
def intSumsWrong : ChangeSpec := { name := "intSums", fn := fun _ => fun
  | [d1, d2] => { results := [.lit (.bool false)], args := [d1, d2] }
  | _ => none }
def IntSumsWrongFalsely : Prop := intSumsRow.holds Try.pinned (OpenSpec.ofChange intSumsWrong)

/-- 'sterlinglaw1.IntQuo': WHATEVER THE INPUT: true; the input reads as it did. -/
def intQuoSpec : ChangeSpec := { name := "intQuo", fn := fun _ => fun
  | [d1, d2] => { results := [.lit (.bool true)], args := [d1, d2] }
  | _ => none }
def intQuoRow : OpenClaim := { program := "ytjacddclpcelmaa", sum := "0d105b000d241ad9fd7ece9ebdeb3373adc3a4111731ef07e6770fd94b24e319", func := "sterling/sterlinglaw1.IntQuo", spec := "intQuo", apart := false }
def IntQuoSaid : Prop := intQuoRow.holds Try.pinned (OpenSpec.ofChange intQuoSpec)

/-- ITS FALSE NEIGHBOUR: 'it returns false'. Refute it at one input. -/
def intQuoWrong : ChangeSpec := { name := "intQuo", fn := fun _ => fun
  | [d1, d2] => { results := [.lit (.bool false)], args := [d1, d2] }
  | _ => none }
def IntQuoWrongFalsely : Prop := intQuoRow.holds Try.pinned (OpenSpec.ofChange intQuoWrong)

/-- 'sterlinglaw1.IntBitwise': WHATEVER THE INPUT: true; the input reads as it did. -/
def intBitwiseSpec : ChangeSpec := { name := "intBitwise", fn := fun _ => fun
  | [d1, d2, d3] => { results := [.lit (.bool true)], args := [d1, d2, d3] }
  | _ => none }
def intBitwiseRow : OpenClaim := { program := "ytjacddclpcelmaa", sum := "0d105b000d241ad9fd7ece9ebdeb3373adc3a4111731ef07e6770fd94b24e319", func := "sterling/sterlinglaw1.IntBitwise", spec := "intBitwise", apart := false }
def IntBitwiseSaid : Prop := intBitwiseRow.holds Try.pinned (OpenSpec.ofChange intBitwiseSpec)

/-- ITS FALSE NEIGHBOUR: 'it returns false'. Refute it at one input. -/
def intBitwiseWrong : ChangeSpec := { name := "intBitwise", fn := fun _ => fun
  | [d1, d2, d3] => { results := [.lit (.bool false)], args := [d1, d2, d3] }
  | _ => none }
def IntBitwiseWrongFalsely : Prop := intBitwiseRow.holds Try.pinned (OpenSpec.ofChange intBitwiseWrong)

/-- 'sterlinglaw1.IntRing': WHATEVER THE INPUT: true; the input reads as it did. -/
def intRingSpec : ChangeSpec := { name := "intRing", fn := fun _ => fun
  | [d1, d2, d3, d4] => { results := [.lit (.bool true)], args := [d1, d2, d3, d4] }
  | _ => none }
def intRingRow : OpenClaim := { program := "ytjacddclpcelmaa", sum := "0d105b000d241ad9fd7ece9ebdeb3373adc3a4111731ef07e6770fd94b24e319", func := "sterling/sterlinglaw1.IntRing", spec := "intRing", apart := false }
def IntRingSaid : Prop := intRingRow.holds Try.pinned (OpenSpec.ofChange intRingSpec)

/-- ITS FALSE NEIGHBOUR: 'it returns false'. Refute it at one input. -/
def intRingWrong : ChangeSpec := { name := "intRing", fn := fun _ => fun
  | [d1, d2, d3, d4] => { results := [.lit (.bool false)], args := [d1, d2, d3, d4] }
  | _ => none }
def IntRingWrongFalsely : Prop := intRingRow.holds Try.pinned (OpenSpec.ofChange intRingWrong)

/-- 'sterlinglaw1.IntPower': WHATEVER THE INPUT: true; the input reads as it did. -/
def intPowerSpec : ChangeSpec := { name := "intPower", fn := fun _ => fun
  | [d1, d2] => { results := [.lit (.bool true)], args := [d1, d2] }
  | _ => none }
def intPowerRow : OpenClaim := { program := "ytjacddclpcelmaa", sum := "0d105b000d241ad9fd7ece9ebdeb3373adc3a4111731ef07e6770fd94b24e319", func := "sterling/sterlinglaw1.IntPower", spec := "intPower", apart := false }
def IntPowerSaid : Prop := intPowerRow.holds Try.pinned (OpenSpec.ofChange intPowerSpec)

/-- ITS FALSE NEIGHBOUR: 'it returns false'. Refute it at one input. -/
def intPowerWrong : ChangeSpec := { name := "intPower", fn := fun _ => fun
  | [d1, d2] => { results := [.lit (.bool false)], args := [d1, d2] }
  | _ => none }
def IntPowerWrongFalsely : Prop := intPowerRow.holds Try.pinned (OpenSpec.ofChange intPowerWrong)

/-- 'sterlinglaw1.IntOwn': WHATEVER THE INPUT: true; the input reads as it did. -/
def intOwnSpec : ChangeSpec := { name := "intOwn", fn := fun _ => fun
  | [d1, d2] => { results := [.lit (.bool true)], args := [d1, d2] }
  | _ => none }
def intOwnRow : OpenClaim := { program := "ytjacddclpcelmaa", sum := "0d105b000d241ad9fd7ece9ebdeb3373adc3a4111731ef07e6770fd94b24e319", func := "sterling/sterlinglaw1.IntOwn", spec := "intOwn", apart := false }
def IntOwnSaid : Prop := intOwnRow.holds Try.pinned (OpenSpec.ofChange intOwnSpec)

/-- ITS FALSE NEIGHBOUR: 'it returns false'. Refute it at one input. -/
def intOwnWrong : ChangeSpec := { name := "intOwn", fn := fun _ => fun
  | [d1, d2] => { results := [.lit (.bool false)], args := [d1, d2] }
  | _ => none }
def IntOwnWrongFalsely : Prop := intOwnRow.holds Try.pinned (OpenSpec.ofChange intOwnWrong)

/-- 'sterlinglaw1.IntText': WHATEVER THE INPUT: true; the input reads as it did. -/
def intTextSpec : ChangeSpec := { name := "intText", fn := fun _ => fun
  | [d1, d2, d3, d4] => { results := [.lit (.bool true)], args := [d1, d2, d3, d4] }
  | _ => none }
def intTextRow : OpenClaim := { program := "ytjacddclpcelmaa", sum := "0d105b000d241ad9fd7ece9ebdeb3373adc3a4111731ef07e6770fd94b24e319", func := "sterling/sterlinglaw1.IntText", spec := "intText", apart := false }
def IntTextSaid : Prop := intTextRow.holds Try.pinned (OpenSpec.ofChange intTextSpec)

/-- ITS FALSE NEIGHBOUR: 'it returns false'. Refute it at one input. -/
def intTextWrong : ChangeSpec := { name := "intText", fn := fun _ => fun
  | [d1, d2, d3, d4] => { results := [.lit (.bool false)], args := [d1, d2, d3, d4] }
  | _ => none }
def IntTextWrongFalsely : Prop := intTextRow.holds Try.pinned (OpenSpec.ofChange intTextWrong)

/- THE SECOND FORM. 'bulk': how many values and letters a reading holds, each counted each time it is reached (what is shared counts as often as it is met; a slice's spare places count too). A statement '..UptoSaid' is the law's where the arguments, and the package variables that the reading takes, are together of bulk at most 1048576: NARROWER than '..Said'. Prove '..Said' where nothing that the law and all that it calls make is longer than what came in: it says more and counts as full. Else prove '..UptoSaid'. A law counts once. -/
mutual
def uptoBulk {H : Type} : DataW H → Nat
  | .lit (.string bytes) => bytes.length + 1
  | .lit _ => 1
  | .nil => 1
  | .ptr d => uptoBulk d + 1
  | .slice elems spare => uptoBulkAll elems + uptoBulkAll spare + 1
  | .agg parts => uptoBulkAll parts + 1
  | .iface _ d => uptoBulk d + 1
  | .map entries => uptoBulkEntries entries + 1
  | .held _ => 1
def uptoBulkAll {H : Type} : List (DataW H) → Nat
  | [] => 0
  | d :: r => uptoBulk d + uptoBulkAll r
def uptoBulkEntries {H : Type} : List (Lit × DataW H) → Nat
  | [] => 0
  | x :: r => uptoBulkEntry x + uptoBulkEntries r
def uptoBulkEntry {H : Type} : Lit × DataW H → Nat
  | (.string bytes, d) => bytes.length + uptoBulk d + 1
  | (_, d) => uptoBulk d + 1
 end
def uptoSmall : (H : Type) → List (DataW H) → Bool := fun _ ds => decide (uptoBulkAll ds ≤ 1048576)
def OpenSpec.upto (s : _root_.Go.ChangeSpec) : _root_.Go.OpenSpec := { _root_.Go.OpenSpec.ofChange s with cond := some uptoSmall }

/-- 'sterlinglaw1.IntSums', WHERE WHAT IT READS IS OF BULK AT MOST 1048576: true; the input reads as it did. -/
def intSumsUptoRow : OpenClaim := { program := "ytjacddclpcelmaa", sum := "0d105b000d241ad9fd7ece9ebdeb3373adc3a4111731ef07e6770fd94b24e319", func := "sterling/sterlinglaw1.IntSums", spec := "intSums", apart := false, narrowed := true }
def IntSumsUptoSaid : Prop := intSumsUptoRow.holds Try.pinned (OpenSpec.upto intSumsSpec)

/-- 'sterlinglaw1.IntQuo', WHERE WHAT IT READS IS OF BULK AT MOST 1048576: true; the input reads as it did. -/
def intQuoUptoRow : OpenClaim := { program := "ytjacddclpcelmaa", sum := "0d105b000d241ad9fd7ece9ebdeb3373adc3a4111731ef07e6770fd94b24e319", func := "sterling/sterlinglaw1.IntQuo", spec := "intQuo", apart := false, narrowed := true }
def IntQuoUptoSaid : Prop := intQuoUptoRow.holds Try.pinned (OpenSpec.upto intQuoSpec)

/-- 'sterlinglaw1.IntBitwise', WHERE WHAT IT READS IS OF BULK AT MOST 1048576: true; the input reads as it did. -/
def intBitwiseUptoRow : OpenClaim := { program := "ytjacddclpcelmaa", sum := "0d105b000d241ad9fd7ece9ebdeb3373adc3a4111731ef07e6770fd94b24e319", func := "sterling/sterlinglaw1.IntBitwise", spec := "intBitwise", apart := false, narrowed := true }
def IntBitwiseUptoSaid : Prop := intBitwiseUptoRow.holds Try.pinned (OpenSpec.upto intBitwiseSpec)

/-- 'sterlinglaw1.IntRing', WHERE WHAT IT READS IS OF BULK AT MOST 1048576: true; the input reads as it did. -/
def intRingUptoRow : OpenClaim := { program := "ytjacddclpcelmaa", sum := "0d105b000d241ad9fd7ece9ebdeb3373adc3a4111731ef07e6770fd94b24e319", func := "sterling/sterlinglaw1.IntRing", spec := "intRing", apart := false, narrowed := true }
def IntRingUptoSaid : Prop := intRingUptoRow.holds Try.pinned (OpenSpec.upto intRingSpec)

/-- 'sterlinglaw1.IntPower', WHERE WHAT IT READS IS OF BULK AT MOST 1048576: true; the input reads as it did. -/
def intPowerUptoRow : OpenClaim := { program := "ytjacddclpcelmaa", sum := "0d105b000d241ad9fd7ece9ebdeb3373adc3a4111731ef07e6770fd94b24e319", func := "sterling/sterlinglaw1.IntPower", spec := "intPower", apart := false, narrowed := true }
def IntPowerUptoSaid : Prop := intPowerUptoRow.holds Try.pinned (OpenSpec.upto intPowerSpec)

/-- 'sterlinglaw1.IntOwn', WHERE WHAT IT READS IS OF BULK AT MOST 1048576: true; the input reads as it did. -/
def intOwnUptoRow : OpenClaim := { program := "ytjacddclpcelmaa", sum := "0d105b000d241ad9fd7ece9ebdeb3373adc3a4111731ef07e6770fd94b24e319", func := "sterling/sterlinglaw1.IntOwn", spec := "intOwn", apart := false, narrowed := true }
def IntOwnUptoSaid : Prop := intOwnUptoRow.holds Try.pinned (OpenSpec.upto intOwnSpec)

/-- 'sterlinglaw1.IntText', WHERE WHAT IT READS IS OF BULK AT MOST 1048576: true; the input reads as it did. -/
def intTextUptoRow : OpenClaim := { program := "ytjacddclpcelmaa", sum := "0d105b000d241ad9fd7ece9ebdeb3373adc3a4111731ef07e6770fd94b24e319", func := "sterling/sterlinglaw1.IntText", spec := "intText", apart := false, narrowed := true }
def IntTextUptoSaid : Prop := intTextUptoRow.holds Try.pinned (OpenSpec.upto intTextSpec)

end Rows
end Go.Proofs.Ytjacddclpcelmaa
