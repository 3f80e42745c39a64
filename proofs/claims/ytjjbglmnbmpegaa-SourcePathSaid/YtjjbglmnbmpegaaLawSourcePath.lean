/- SourcePath answers true whatever the string: it is cut at 120 bytes, and the two ways to normal form of it are the same. No condition. -/
import Derived.Test.YtjjbglmnbmpegaaSp7
import Derived.Test.YtjjbglmnbmpegaaRows
import Derived.WalkKit
import Derived.ProofKit
import Derived.OpenShut
import Derived.ShutString
import Derived.ChangeOld
import Derived.Below
import Derived.HandedShaped
namespace Go.Proofs.Ytjjbglmnbmpegaa.sourcePath
open Go.ChangeShapes Go.WideShapes Go.ChangeAt Go.RowKit
open Go.ChangeMaps (open_string shut_string)
set_option linter.unusedVariables false
theorem own : ownKnob Try.prog.godebug = none := by kernel_rfl
set_option maxRecDepth 100000 in
theorem lifted (os : Os) (started : os.Started) (H : Type) (enc : TypeId × Value → H) :
    ReturnsInHanded {} Try.checked os 3 .any (Rows.sourcePathSpec.pre6 enc Try.prog Try.f3 Rows.sourcePathRow.domain false) (Rows.sourcePathSpec.post enc Try.prog Try.f3 false true false false) := by
  refine returnsInHanded_of_change_shaped (C := Try.checked) own started (by kernel_rfl) Try.func3
    (ChangeSpec.witness6 (enc := enc) (C := Try.checked) false ⟨#[], #[.string ByteArray.empty], []⟩ 8 (by kernel_rfl) (by kernel_rfl) (by kernel_rfl) (by kernel_rfl)) ?_
  intro W base args ds gs before hval0 hW hcnd _ hsh _
  have hval : ∀ (j : Nat) t v, Try.f3.params[j]? = some t → args[j]? = some v → Value.okWide Try.prog W .any base t v := hval0
  have hW' := hW
  obtain ⟨p, q, hA0, hV, rfl, hfz, hnd⟩ := hW
  have hA : DataW.TrodAll enc Try.prog W 0 (fun _ => true) true Try.f3.params.toList args.toList ds p := hA0
  rw [Try.params3] at hA hval
  obtain ⟨v0, vs0, d0, ds0, p0, q0, hargs, rfl, rfl, h0, r0⟩ := trodAll_cons hA
  obtain ⟨rfl, rfl, rfl⟩ := trodAll_nil r0
  obtain rfl : args = #[v0] := by cases args; simp_all
  obtain ⟨rfl, rfl⟩ := trodVars_none hV
  obtain ⟨s, rfl, rfl, rfl, w0⟩ := open_string Try.underlying9 (hval 0 9 v0 rfl rfl) h0
  clear hA0 hval0
  have hm : ∃ m, W.cell? ⟨0, 0, none⟩ = some (.int .i64 m) := Try.laysM144.s1_3 W hsh
  have hg : 0 < W.heap.size := by
    obtain ⟨m, hm⟩ := hm
    rcases Nat.eq_zero_or_pos W.heap.size with h | h
    · exfalso
      revert hm
      simp [World.cell?, h]
    · exact h
  refine (Go.Proofs.Ytjjbglmnbmpegaa.AM.Sp.walk s W hg hm).mono fun e W' ⟨he, bel⟩ => ?_
  subst he
  exact ⟨_, rfl, _, _, _, [], _, [], hW', trodAll_mk1 (shut_bool Try.underlying4 _), (trodAll_cons_mk (shut_string Try.underlying9 w0) trodAll_mk0), rfl, bel.frame _, fun h => by cases h⟩
theorem over : Rows.sourcePathRow.holds Try.pinned (OpenSpec.ofChange Rows.sourcePathSpec) :=
  OpenClaim.holds_of_wide 3 Try.f3 rfl rfl rfl rfl rfl rfl rfl ⟨rfl, rfl, rfl, rfl, rfl⟩ rfl rfl rfl rfl rfl (by kernel_rfl) Try.func3 (by kernel_rfl)
    (of_decide_eq_true (by kernel_rfl)) (by unfold Func.isWrapper; first | (rw [if_pos (by decide +kernel)]; kernel_rfl) | (rw [if_neg (by decide +kernel)]; exact ⟨rfl, rfl⟩))
    (fun os started H enc _ => lifted os started H enc)
theorem proved : Rows.SourcePathSaid := over
end Go.Proofs.Ytjjbglmnbmpegaa.sourcePath
namespace Go.Proofs.Ytjjbglmnbmpegaa
/-- The row, under a short name, for the claim. -/
theorem sourcePath_holds : Rows.SourcePathSaid := sourcePath.proved
#print axioms sourcePath_holds
end Go.Proofs.Ytjjbglmnbmpegaa
