/- IntBitwise answers true whatever the operator and the two numbers: bit by bit in two's complement, both come to the same number, or both know no such operator. No condition. -/
import Derived.Test.YtjacddclpcelmaaBi56
import Derived.Test.YtjacddclpcelmaaRows
import Derived.WalkKit
import Derived.ProofKit
import Derived.OpenShut
import Derived.ShutString
import Derived.ChangeOld
import Derived.Below
import Derived.SizedLaws
import Derived.Carry
namespace Go.Proofs.Ytjacddclpcelmaa.intBitwise
open Go.ChangeShapes Go.WideShapes Go.ChangeAt Go.RowKit
open Go.ChangeMaps (open_string shut_string)
set_option linter.unusedVariables false
theorem laidOut : laidOutB Try.prog = true := by kernel_rfl
theorem own : ownKnob Try.prog.godebug = none := by kernel_rfl
set_option maxRecDepth 100000 in
theorem lifted (os : Os) (started : os.Started) (H : Type) (enc : TypeId × Value → H) :
    ReturnsInHanded {} Try.checked os 5 .any (Rows.intBitwiseSpec.pre6 enc Try.prog Try.f5 Rows.intBitwiseRow.domain false) (Rows.intBitwiseSpec.post enc Try.prog Try.f5 false true false false) := by
  refine returnsInHanded_of_change_sized (C := Try.checked) own started (by kernel_rfl) Try.func5
    (ChangeSpec.witness6 (enc := enc) (C := Try.checked) false ⟨#[], #[.string ⟨⟨[]⟩⟩, .agg #[.bool false, .slice none 0 0], .agg #[.bool false, .slice none 0 0]], []⟩ 8 (by kernel_rfl) (by kernel_rfl) (by kernel_rfl) (by kernel_rfl)) ?_
  intro W base args ds gs before hval0 hW hcnd hsz0 _
  have hval : ∀ (j : Nat) t v, Try.f5.params[j]? = some t → args[j]? = some v → Value.okWide Try.prog W .any base t v := hval0
  have hW' := hW
  obtain ⟨p, q, hA0, hV, rfl, hfz, hnd⟩ := hW
  have hA : DataW.TrodAll enc Try.prog W 0 (fun _ => true) true Try.f5.params.toList args.toList ds p := hA0
  rw [Try.params5] at hA hval
  obtain ⟨v0, vs0, d0, ds0, p0, q0, hargs, rfl, rfl, h0, r0⟩ := trodAll_cons hA
  obtain ⟨v1, vs1, d1, ds1, p1, q1, rfl, rfl, rfl, h1, r1⟩ := trodAll_cons r0
  obtain ⟨v2, vs2, d2, ds2, p2, q2, rfl, rfl, rfl, h2, r2⟩ := trodAll_cons r1
  obtain ⟨rfl, rfl, rfl⟩ := trodAll_nil r2
  obtain rfl : args = #[v0, v1, v2] := by cases args; simp_all
  obtain ⟨rfl, rfl⟩ := trodVars_none hV
  obtain ⟨a0, rfl, rfl, rfl, w0⟩ := open_string Try.underlying9 (hval 0 9 v0 rfl rfl) h0
  obtain ⟨x1, l1, t1, b1, k1⟩ := Go.Proofs.Ytjacddclpcelmaa.AM.Bi.arg_big (hval 1 24 v1 rfl rfl) h1
  obtain ⟨x2, l2, t2, b2, k2⟩ := Go.Proofs.Ytjacddclpcelmaa.AM.Bi.arg_big (hval 2 24 v2 rfl rfl) h2
  clear hA0 hval0 hsz0
  have hlt1 : ∀ x ∈ p1, x.block < W.heap.size := fun x hx => hW'.lt x (by simp [hx])
  have hlt2 : ∀ x ∈ p2, x.block < W.heap.size := fun x hx => hW'.lt x (by simp [hx])
  refine (Go.Proofs.Ytjacddclpcelmaa.AM.Bi.law_calls (ts := [.sc (.string a0), t1, t2]) (vs := [.string a0, v1, v2]) ⟨Try.f5, Try.func5, by kernel_rfl, by kernel_rfl⟩ (Go.Proofs.Ytjacddclpcelmaa.AM.Bi.law_bw a0 w0 b1 b2) (by simp only [Go.Proofs.Ytjacddclpcelmaa.AM.RTL, Go.Proofs.Ytjacddclpcelmaa.AM.RT]; exact ⟨_, _, rfl, rfl, _, _, rfl, k1, _, _, rfl, k2, rfl⟩)).mono fun e W' ⟨he, bel⟩ => ?_
  subst he
  exact ⟨_, rfl, _, _, _, [], _, [], hW', trodAll_mk1 (shut_bool Try.underlying4 _), (trodAll_cons_mk (shut_string Try.underlying9 w0) (trodAll_cons_mk (Below.trod laidOut (by kernel_rfl) (of_decide_eq_true (by kernel_rfl)) h1 bel hlt1) (trodAll_cons_mk (Below.trod laidOut (by kernel_rfl) (of_decide_eq_true (by kernel_rfl)) h2 bel hlt2) trodAll_mk0))), rfl, bel.frame _, fun h => by cases h⟩
theorem over : Rows.intBitwiseRow.holds Try.pinned (OpenSpec.ofChange Rows.intBitwiseSpec) :=
  OpenClaim.holds_of_wide 5 Try.f5 rfl rfl rfl rfl rfl rfl rfl ⟨rfl, rfl, rfl, rfl, rfl⟩ rfl rfl rfl rfl rfl (by kernel_rfl) Try.func5 (by kernel_rfl)
    (of_decide_eq_true (by kernel_rfl)) (by unfold Func.isWrapper; first | (rw [if_pos (by decide +kernel)]; kernel_rfl) | (rw [if_neg (by decide +kernel)]; exact ⟨rfl, rfl⟩))
    (fun os started H enc _ => lifted os started H enc)
theorem proved : Rows.IntBitwiseSaid := over
end Go.Proofs.Ytjacddclpcelmaa.intBitwise
namespace Go.Proofs.Ytjacddclpcelmaa
/-- The row, under a short name, for the claim. -/
theorem intBitwise_holds : Rows.IntBitwiseSaid := intBitwise.proved
#print axioms intBitwise_holds
end Go.Proofs.Ytjacddclpcelmaa
