/- EnvNone answers true: no environment knows error and comparable. No condition. -/
import Derived.Test.YthkndfiekgaojaaGreatDoorEv12
import Derived.Test.YthkndfiekgaojaaGreatDoorEvW
import Derived.Test.YthkndfiekgaojaaGreatDoorRows
import Derived.WalkKit
import Derived.ProofKit
import Derived.OpenShut
import Derived.ShutString
import Derived.ChangeOld
import Derived.ChangeVars
import Derived.Below
import Derived.Carry
namespace Go.Proofs.YthkndfiekgaojaaGreatDoor.envNone
open Go.ChangeShapes Go.WideShapes Go.ChangeAt Go.RowKit
open Go.ChangeMaps (open_string shut_string)
open Go.Lib
set_option linter.unusedVariables false
set_option linter.unusedSimpArgs false
set_option maxRecDepth 100000 in
theorem lifted (os : Os) (started : os.Started) (H : Type) (enc : TypeId × Value → H) :
    ReturnsInHanded {} Tryz.checked os 3 .any (fun w args => (Rows.envNoneSpec.pre enc Tryz.prog Tryz.f3 [] false w args ∧ laidMetH Tryz.prog Rows.envNoneRow.laid w) ∧ sizedMet enc Tryz.prog Tryz.f3 (OpenSpec.ofChange Rows.envNoneSpec) false w args)
      (Rows.envNoneSpec.post enc Tryz.prog Tryz.f3 false true false false) := by
  refine Go.Proofs.YthkndfiekgaojaaGreatDoor.AM.returns_and_shaped (C := Tryz.checked) (X := fun w _ => laidMetH Tryz.prog Rows.envNoneRow.laid w) (fun _ _ _ hh h => h.of_heap hh) Go.Proofs.YthkndfiekgaojaaGreatDoor.AM.Ev.own started (by kernel_rfl) Tryz.func3
    (Go.Proofs.YthkndfiekgaojaaGreatDoor.AM.witness_ref (enc := enc) (C := Tryz.checked) (os := os) (X := fun w _ => laidMetH Tryz.prog Rows.envNoneRow.laid w) false (Go.Proofs.YthkndfiekgaojaaGreatDoor.AM.Ev.laidWorld os) #[] 8 rfl (by kernel_rfl) (by kernel_rfl) (by kernel_rfl) (by kernel_rfl) (by kernel_rfl) (Go.Proofs.YthkndfiekgaojaaGreatDoor.AM.Ev.laid_met os _)) ?_
  intro W base args ds gs before hval0 hW hL hsh
  have hval : ∀ (j : Nat) t v, Tryz.f3.params[j]? = some t → args[j]? = some v → Value.okWide Tryz.prog W .any base t v := hval0
  have hW' := hW
  obtain ⟨p, q, hA0, hV, rfl, hfz, hnd⟩ := hW
  have hA : DataW.TrodAll enc Tryz.prog W 0 (fun _ => true) true Tryz.f3.params.toList args.toList ds p := hA0
  rw [Tryz.params3] at hA hval
  obtain ⟨hargs, rfl, rfl⟩ := trodAll_nil hA
  obtain rfl : args = #[] := by cases args; simp_all
  obtain ⟨rfl, rfl⟩ := trodVars_none hV
  clear hA0 hval0
  refine (Go.Proofs.YthkndfiekgaojaaGreatDoor.AM.Ev.law_calls (ts := []) (vs := []) (Go.Proofs.YthkndfiekgaojaaGreatDoor.AM.Ev.ground_of hL hsh) ⟨Tryz.f3, Tryz.func3, by kernel_rfl, by kernel_rfl⟩ (Go.Proofs.YthkndfiekgaojaaGreatDoor.AM.Ev.law_envNone ) (by simp only [Go.Proofs.YthkndfiekgaojaaGreatDoor.AM.RTL, Go.Proofs.YthkndfiekgaojaaGreatDoor.AM.RT])).mono fun e W' ⟨he, bel⟩ => ?_
  subst he
  exact ⟨_, rfl, _, _, _, [], _, [], hW', trodAll_mk1 (shut_bool Tryz.underlying4 _), trodAll_mk0, rfl, bel.frame _, fun h => by cases h⟩
theorem over : Rows.envNoneRow.holds Tryz.pinned (OpenSpec.ofChange Rows.envNoneSpec) :=
  OpenClaim.holds_of_wide 3 Tryz.f3 rfl rfl rfl rfl rfl rfl rfl ⟨rfl, rfl, rfl, rfl, rfl⟩ rfl rfl rfl rfl rfl (by kernel_rfl) Tryz.func3 (by kernel_rfl)
    (of_decide_eq_true (by kernel_rfl)) (by unfold Func.isWrapper; first | (rw [if_pos (by decide +kernel)]; kernel_rfl) | (rw [if_neg (by decide +kernel)]; exact ⟨rfl, rfl⟩))
    (fun os started H enc _ => lifted os started H enc)
theorem proved : Rows.EnvNoneSaid := over
end Go.Proofs.YthkndfiekgaojaaGreatDoor.envNone
