/-
  No cell of these rows narrows 'for every input' (looked for: loops, veiled, ifaces, maps, wideKeys, modest, calm, conditions, laid).
  DERIVED. THE GIVEN ROWS OF THIS SEAT. 2 by the template 'for every input the law returns true; each argument reads behind the call as it read before'; 0 by the template 'total and deterministic' (their statements: YtodgdmhifbnofaaTotals.lean).
  GIVEN WITH THE SEED: the statements are not yours to turn. If you find one false, say at which input.
  Laid BY PROGRAM, IN A SANDBOX (cutbox-rows.mjs): the forced cells as the released guide's own fill.sh prints them over the translation 048bef2e4f5250bd… (all of the seat's roots in one cut). By AI agents, Wed Nov 11 2026. No macro, syntax, notation, axiom, sorry.
-/
import Derived.Test.YtodgdmhifbnofaaChecked
import GoSem.Claim
import GoSem.ClaimJoined
import GoSem.ClaimMapViews
import Derived.JoinedTies
import Derived.KernelRfl
namespace Go.Proofs.Ytodgdmhifbnofaa
/- THE CELL 'sum', in the pinned program and in every row, IS THE sha256 OF THE DUMP (.gsa) THAT YtodgdmhifbnofaaProg.lean LOADS. Nothing in Lean hashes anything: it is a label: what it is worth is what the hold of that sum in a sandbox is worth. -/
noncomputable def Try.pinned : Pinned := { name := "ytodgdmhifbnofaa", sum := "048bef2e4f5250bdbcaf36e9272cb41718d15ce5a098d2d76397975bb170c5af", checked := Try.checked }
namespace Rows
def none {H : Type} : Left H := { results := [], args := [] }

/-- 'sterlinglaw4.SourceNorm': WHATEVER THE INPUT: true; the input reads as it did. -/
def sourceNormSpec : ChangeSpec := { name := "sourceNorm", fn := fun _ => fun
  | [d] => { results := [.lit (.bool true)], args := [d] }
  | _ => none }
def sourceNormRow : OpenClaim := { program := "ytodgdmhifbnofaa", sum := "048bef2e4f5250bdbcaf36e9272cb41718d15ce5a098d2d76397975bb170c5af", func := "sterling/sterlinglaw4.SourceNorm", spec := "sourceNorm", inPlace := ["internal/bytealg.abigen_runtime_cmpstring", "internal/bytealg.Count", "internal/bytealg.IndexByte", "internal/bytealg.Index", "internal/bytealg.IndexByteString", "internal/bytealg.IndexString"], unfollowed := true, recurses := true, named := ["internal/bytealg.MaxLen"], apart := false }
def SourceNormSaid : Prop := sourceNormRow.holds Try.pinned (OpenSpec.ofChange sourceNormSpec)

/-- ITS FALSE NEIGHBOUR: 'it returns false'. Refute it at one input. -/
def sourceNormWrong : ChangeSpec := { name := "sourceNorm", fn := fun _ => fun
  | [d] => { results := [.lit (.bool false)], args := [d] }
  | _ => none }
def SourceNormWrongFalsely : Prop := sourceNormRow.holds Try.pinned (OpenSpec.ofChange sourceNormWrong)

/-- 'sterlinglaw4.SourceDiags': WHATEVER THE INPUT: true; the input reads as it did. -/
def sourceDiagsSpec : ChangeSpec := { name := "sourceDiags", fn := fun _ => fun
  | [d] => { results := [.lit (.bool true)], args := [d] }
  | _ => none }
def sourceDiagsRow : OpenClaim := { program := "ytodgdmhifbnofaa", sum := "048bef2e4f5250bdbcaf36e9272cb41718d15ce5a098d2d76397975bb170c5af", func := "sterling/sterlinglaw4.SourceDiags", spec := "sourceDiags", inPlace := ["internal/bytealg.abigen_runtime_cmpstring", "internal/bytealg.Count", "internal/bytealg.IndexByte", "internal/bytealg.Index", "internal/bytealg.IndexByteString", "internal/bytealg.IndexString"], unfollowed := true, recurses := true, named := ["internal/bytealg.MaxLen"], apart := false }
def SourceDiagsSaid : Prop := sourceDiagsRow.holds Try.pinned (OpenSpec.ofChange sourceDiagsSpec)

/-- ITS FALSE NEIGHBOUR: 'it returns false'. Refute it at one input. -/
def sourceDiagsWrong : ChangeSpec := { name := "sourceDiags", fn := fun _ => fun
  | [d] => { results := [.lit (.bool false)], args := [d] }
  | _ => none }
def SourceDiagsWrongFalsely : Prop := sourceDiagsRow.holds Try.pinned (OpenSpec.ofChange sourceDiagsWrong)

/- THE SECOND FORM. 'bulk': how many values and letters a reading holds, each counted each time it is reached (what is shared counts as often as it is met; a slice's spare places count too). A statement '..UptoSaid' is the law's where the arguments, and the package variables that the reading takes, are together of bulk at most 1048576: NARROWER than '..Said'. Prove '..Said' where nothing that the law and all that it calls make is longer than what came in: it says more and counts as full. Else prove '..UptoSaid'. A law counts once. -/
mutual
def uptoBulk {H : Type} : DataW H → Nat
  | .lit (.string bytes) => bytes.length + 1
  | .lit _ => 1
  | .nil => 1
  | .ptr d => uptoBulk d + 1
  | .slice elems spare => uptoBulkAll elems + uptoBulkAll spare + 1
  | .agg parts => uptoBulkAll parts + 1
  | .iface _ d => uptoBulk d + 1
  | .map entries => uptoBulkEntries entries + 1
  | .held _ => 1
def uptoBulkAll {H : Type} : List (DataW H) → Nat
  | [] => 0
  | d :: r => uptoBulk d + uptoBulkAll r
def uptoBulkEntries {H : Type} : List (Lit × DataW H) → Nat
  | [] => 0
  | x :: r => uptoBulkEntry x + uptoBulkEntries r
def uptoBulkEntry {H : Type} : Lit × DataW H → Nat
  | (.string bytes, d) => bytes.length + uptoBulk d + 1
  | (_, d) => uptoBulk d + 1
 end
def uptoSmall : (H : Type) → List (DataW H) → Bool := fun _ ds => decide (uptoBulkAll ds ≤ 1048576)
def OpenSpec.upto (s : _root_.Go.ChangeSpec) : _root_.Go.OpenSpec := { _root_.Go.OpenSpec.ofChange s with cond := some uptoSmall }

/-- 'sterlinglaw4.SourceNorm', WHERE WHAT IT READS IS OF BULK AT MOST 1048576: true; the input reads as it did. -/
def sourceNormUptoRow : OpenClaim := { program := "ytodgdmhifbnofaa", sum := "048bef2e4f5250bdbcaf36e9272cb41718d15ce5a098d2d76397975bb170c5af", func := "sterling/sterlinglaw4.SourceNorm", spec := "sourceNorm", inPlace := ["internal/bytealg.abigen_runtime_cmpstring", "internal/bytealg.Count", "internal/bytealg.IndexByte", "internal/bytealg.Index", "internal/bytealg.IndexByteString", "internal/bytealg.IndexString"], unfollowed := true, recurses := true, named := ["internal/bytealg.MaxLen"], apart := false, narrowed := true }
def SourceNormUptoSaid : Prop := sourceNormUptoRow.holds Try.pinned (OpenSpec.upto sourceNormSpec)

/-- 'sterlinglaw4.SourceDiags', WHERE WHAT IT READS IS OF BULK AT MOST 1048576: true; the input reads as it did. -/
def sourceDiagsUptoRow : OpenClaim := { program := "ytodgdmhifbnofaa", sum := "048bef2e4f5250bdbcaf36e9272cb41718d15ce5a098d2d76397975bb170c5af", func := "sterling/sterlinglaw4.SourceDiags", spec := "sourceDiags", inPlace := ["internal/bytealg.abigen_runtime_cmpstring", "internal/bytealg.Count", "internal/bytealg.IndexByte", "internal/bytealg.Index", "internal/bytealg.IndexByteString", "internal/bytealg.IndexString"], unfollowed := true, recurses := true, named := ["internal/bytealg.MaxLen"], apart := false, narrowed := true }
def SourceDiagsUptoSaid : Prop := sourceDiagsUptoRow.holds Try.pinned (OpenSpec.upto sourceDiagsSpec)

end Rows
end Go.Proofs.Ytodgdmhifbnofaa
