/- ValueLaws answers true whatever the type's name and the two numbers. No condition. -/
import Derived.Test.YtajcohdhioafiaaDoorVl8
import Derived.Test.YtajcohdhioafiaaDoorVlW
import Derived.Test.YtajcohdhioafiaaDoorRows
import Derived.WalkKit
import Derived.ProofKit
import Derived.OpenShut
import Derived.ShutString
import Derived.ChangeOld
import Derived.ChangeVars
import Derived.Below
import Derived.Carry
namespace Go.Proofs.YtajcohdhioafiaaDoor.valueLaws
open Go.ChangeShapes Go.WideShapes Go.ChangeAt Go.RowKit
open Go.ChangeMaps (open_string shut_string)
open Go.Lib
set_option linter.unusedVariables false
set_option linter.unusedSimpArgs false
set_option maxRecDepth 100000 in
theorem lifted (os : Os) (started : os.Started) (H : Type) (enc : TypeId × Value → H) :
    ReturnsInHanded {} Tryd.checked os 4 .any (fun w args => (Rows.valueLawsSpec.pre enc Tryd.prog Tryd.f4 [] false w args ∧ laidMetH Tryd.prog Rows.valueLawsRow.laid w) ∧ sizedMet enc Tryd.prog Tryd.f4 (OpenSpec.ofChange Rows.valueLawsSpec) false w args)
      (Rows.valueLawsSpec.post enc Tryd.prog Tryd.f4 false true false false) := by
  refine Go.Proofs.YtajcohdhioafiaaDoor.AM.returns_and_shaped (C := Tryd.checked) (X := fun w _ => laidMetH Tryd.prog Rows.valueLawsRow.laid w) (fun _ _ _ hh h => h.of_heap hh) Go.Proofs.YtajcohdhioafiaaDoor.AM.Vl.own started (by kernel_rfl) Tryd.func4
    (Go.Proofs.YtajcohdhioafiaaDoor.AM.witness_ref (enc := enc) (C := Tryd.checked) (os := os) (X := fun w _ => laidMetH Tryd.prog Rows.valueLawsRow.laid w) false (Go.Proofs.YtajcohdhioafiaaDoor.AM.Vl.laidWorld os) #[.string ⟨⟨[]⟩⟩, .int .i64 0, .int .i64 0] 8 rfl (by kernel_rfl) (by kernel_rfl) (by kernel_rfl) (by kernel_rfl) (by kernel_rfl) (Go.Proofs.YtajcohdhioafiaaDoor.AM.Vl.laid_met os _)) ?_
  intro W base args ds gs before hval0 hW hL hsh
  have hval : ∀ (j : Nat) t v, Tryd.f4.params[j]? = some t → args[j]? = some v → Value.okWide Tryd.prog W .any base t v := hval0
  have hW' := hW
  obtain ⟨p, q, hA0, hV, rfl, hfz, hnd⟩ := hW
  have hA : DataW.TrodAll enc Tryd.prog W 0 (fun _ => true) true Tryd.f4.params.toList args.toList ds p := hA0
  rw [Tryd.params4] at hA hval
  obtain ⟨v0, vs0, d0, ds0, p0, q0, hargs, rfl, rfl, h0, r0⟩ := trodAll_cons hA
  obtain ⟨v1, vs1, d1, ds1, p1, q1, rfl, rfl, rfl, h1, r1⟩ := trodAll_cons r0
  obtain ⟨v2, vs2, d2, ds2, p2, q2, rfl, rfl, rfl, h2, r2⟩ := trodAll_cons r1
  obtain ⟨rfl, rfl, rfl⟩ := trodAll_nil r2
  obtain rfl : args = #[v0, v1, v2] := by cases args; simp_all
  obtain ⟨rfl, rfl⟩ := trodVars_none hV
  obtain ⟨a0, rfl, rfl, rfl, w0⟩ := open_string Tryd.underlying9 (hval 0 9 v0 rfl rfl) h0
  obtain ⟨a1, rfl, rfl, rfl, w1⟩ := open_int Tryd.underlying2 (hval 1 2 v1 rfl rfl) h1
  obtain ⟨a2, rfl, rfl, rfl, w2⟩ := open_int Tryd.underlying2 (hval 2 2 v2 rfl rfl) h2
  clear hA0 hval0
  have i1 : Go.Proofs.YtajcohdhioafiaaDoor.AM.Vl.i64in a1 := by
    simp only [Lit.wf, Bool.and_eq_true, decide_eq_true_eq] at w1
    exact ⟨w1.1, w1.2⟩
  have i2 : Go.Proofs.YtajcohdhioafiaaDoor.AM.Vl.i64in a2 := by
    simp only [Lit.wf, Bool.and_eq_true, decide_eq_true_eq] at w2
    exact ⟨w2.1, w2.2⟩
  refine (Go.Proofs.YtajcohdhioafiaaDoor.AM.Vl.law_calls (ts := [.sc (.string a0), .sc (.int .i64 a1), .sc (.int .i64 a2)]) (vs := [.string a0, .int .i64 a1, .int .i64 a2]) (Go.Proofs.YtajcohdhioafiaaDoor.AM.Vl.ground_of hL) ⟨Tryd.f4, Tryd.func4, by kernel_rfl, by kernel_rfl⟩ (Go.Proofs.YtajcohdhioafiaaDoor.AM.Vl.law_values a0.data.toList a1 a2 i1 i2) (by simp only [Go.Proofs.YtajcohdhioafiaaDoor.AM.RTL, Go.Proofs.YtajcohdhioafiaaDoor.AM.RT]; exact ⟨_, _, rfl, rfl, _, _, rfl, rfl, _, _, rfl, rfl, rfl⟩)).mono fun e W' ⟨he, bel⟩ => ?_
  subst he
  exact ⟨_, rfl, _, _, _, [], _, [], hW', trodAll_mk1 (shut_bool Tryd.underlying4 _), (trodAll_cons_mk (shut_string Tryd.underlying9 w0) (trodAll_cons_mk (shut_int Tryd.underlying2 w1) (trodAll_cons_mk (shut_int Tryd.underlying2 w2) trodAll_mk0))), rfl, bel.frame _, fun h => by cases h⟩
theorem over : Rows.valueLawsRow.holds Tryd.pinned (OpenSpec.ofChange Rows.valueLawsSpec) :=
  OpenClaim.holds_of_wide 4 Tryd.f4 rfl rfl rfl rfl rfl rfl rfl ⟨rfl, rfl, rfl, rfl, rfl⟩ rfl rfl rfl rfl rfl (by kernel_rfl) Tryd.func4 (by kernel_rfl)
    (of_decide_eq_true (by kernel_rfl)) (by unfold Func.isWrapper; first | (rw [if_pos (by decide +kernel)]; kernel_rfl) | (rw [if_neg (by decide +kernel)]; exact ⟨rfl, rfl⟩))
    (fun os started H enc _ => lifted os started H enc)
theorem proved : Rows.ValueLawsSaid := over
end Go.Proofs.YtajcohdhioafiaaDoor.valueLaws
