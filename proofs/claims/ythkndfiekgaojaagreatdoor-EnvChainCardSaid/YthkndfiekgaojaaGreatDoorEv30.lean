/- EnvChain answers true whatever the number and the flag: declared types that stand for one another come to the last one, in a ring to none. No condition. -/
import Derived.Test.YthkndfiekgaojaaGreatDoorEv13
import Derived.Test.YthkndfiekgaojaaGreatDoorEvW
import Derived.Test.YthkndfiekgaojaaGreatDoorRows
import Derived.WalkKit
import Derived.ProofKit
import Derived.OpenShut
import Derived.ShutString
import Derived.ChangeOld
import Derived.ChangeVars
import Derived.Below
import Derived.Carry
namespace Go.Proofs.YthkndfiekgaojaaGreatDoor.envChain
open Go.ChangeShapes Go.WideShapes Go.ChangeAt Go.RowKit
open Go.ChangeMaps (open_string shut_string)
open Go.Lib
set_option linter.unusedVariables false
set_option linter.unusedSimpArgs false
set_option maxRecDepth 100000 in
theorem lifted (os : Os) (started : os.Started) (H : Type) (enc : TypeId × Value → H) :
    ReturnsInHanded {} Tryz.checked os 4 .any (fun w args => (Rows.envChainSpec.pre enc Tryz.prog Tryz.f4 [] false w args ∧ laidMetH Tryz.prog Rows.envChainRow.laid w) ∧ sizedMet enc Tryz.prog Tryz.f4 (OpenSpec.ofChange Rows.envChainSpec) false w args)
      (Rows.envChainSpec.post enc Tryz.prog Tryz.f4 false true false false) := by
  refine Go.Proofs.YthkndfiekgaojaaGreatDoor.AM.returns_and_shaped (C := Tryz.checked) (X := fun w _ => laidMetH Tryz.prog Rows.envChainRow.laid w) (fun _ _ _ hh h => h.of_heap hh) Go.Proofs.YthkndfiekgaojaaGreatDoor.AM.Ev.own started (by kernel_rfl) Tryz.func4
    (Go.Proofs.YthkndfiekgaojaaGreatDoor.AM.witness_ref (enc := enc) (C := Tryz.checked) (os := os) (X := fun w _ => laidMetH Tryz.prog Rows.envChainRow.laid w) false (Go.Proofs.YthkndfiekgaojaaGreatDoor.AM.Ev.laidWorld os) #[.int .i64 0, .bool false] 8 rfl (by kernel_rfl) (by kernel_rfl) (by kernel_rfl) (by kernel_rfl) (by kernel_rfl) (Go.Proofs.YthkndfiekgaojaaGreatDoor.AM.Ev.laid_met os _)) ?_
  intro W base args ds gs before hval0 hW hL hsh
  have hval : ∀ (j : Nat) t v, Tryz.f4.params[j]? = some t → args[j]? = some v → Value.okWide Tryz.prog W .any base t v := hval0
  have hW' := hW
  obtain ⟨p, q, hA0, hV, rfl, hfz, hnd⟩ := hW
  have hA : DataW.TrodAll enc Tryz.prog W 0 (fun _ => true) true Tryz.f4.params.toList args.toList ds p := hA0
  rw [Tryz.params4] at hA hval
  obtain ⟨v0, vs0, d0, ds0, p0, q0, hargs, rfl, rfl, h0, r0⟩ := trodAll_cons hA
  obtain ⟨v1, vs1, d1, ds1, p1, q1, rfl, rfl, rfl, h1, r1⟩ := trodAll_cons r0
  obtain ⟨rfl, rfl, rfl⟩ := trodAll_nil r1
  obtain rfl : args = #[v0, v1] := by cases args; simp_all
  obtain ⟨rfl, rfl⟩ := trodVars_none hV
  obtain ⟨a0, rfl, rfl, rfl, w0⟩ := open_int Tryz.underlying3 (hval 0 3 v0 rfl rfl) h0
  have i0 : -9223372036854775808 ≤ a0 ∧ a0 ≤ 9223372036854775807 := by
    simp only [Lit.wf, Bool.and_eq_true, decide_eq_true_eq] at w0
    exact ⟨w0.1, w0.2⟩
  obtain ⟨a1, rfl, rfl, rfl⟩ := open_bool Tryz.underlying4 (hval 1 4 v1 rfl rfl) h1
  clear hA0 hval0
  refine (Go.Proofs.YthkndfiekgaojaaGreatDoor.AM.Ev.law_calls (ts := [.sc (.int .i64 a0), .sc (.bool a1)]) (vs := [.int .i64 a0, .bool a1]) (Go.Proofs.YthkndfiekgaojaaGreatDoor.AM.Ev.ground_of hL hsh) ⟨Tryz.f4, Tryz.func4, by kernel_rfl, by kernel_rfl⟩ (Go.Proofs.YthkndfiekgaojaaGreatDoor.AM.Ev.law_envChain a0 a1) (by simp only [Go.Proofs.YthkndfiekgaojaaGreatDoor.AM.RTL, Go.Proofs.YthkndfiekgaojaaGreatDoor.AM.RT]; exact ⟨_, _, rfl, rfl, _, _, rfl, rfl, rfl⟩)).mono fun e W' ⟨he, bel⟩ => ?_
  subst he
  exact ⟨_, rfl, _, _, _, [], _, [], hW', trodAll_mk1 (shut_bool Tryz.underlying4 _), (trodAll_cons_mk (shut_int Tryz.underlying3 w0) (trodAll_cons_mk (shut_bool Tryz.underlying4 _) trodAll_mk0)), rfl, bel.frame _, fun h => by cases h⟩
theorem over : Rows.envChainRow.holds Tryz.pinned (OpenSpec.ofChange Rows.envChainSpec) :=
  OpenClaim.holds_of_wide 4 Tryz.f4 rfl rfl rfl rfl rfl rfl rfl ⟨rfl, rfl, rfl, rfl, rfl⟩ rfl rfl rfl rfl rfl (by kernel_rfl) Tryz.func4 (by kernel_rfl)
    (of_decide_eq_true (by kernel_rfl)) (by unfold Func.isWrapper; first | (rw [if_pos (by decide +kernel)]; kernel_rfl) | (rw [if_neg (by decide +kernel)]; exact ⟨rfl, rfl⟩))
    (fun os started H enc _ => lifted os started H enc)
theorem proved : Rows.EnvChainSaid := over
end Go.Proofs.YthkndfiekgaojaaGreatDoor.envChain
