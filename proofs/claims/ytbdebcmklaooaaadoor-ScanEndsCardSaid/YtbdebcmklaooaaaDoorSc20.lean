/- ScanEnds answers true whatever the number and the flag: a newline behind a token makes a semicolon just where it should. No condition. -/
import Derived.Test.YtbdebcmklaooaaaDoorSc10
import Derived.Test.YtbdebcmklaooaaaDoorScW
import Derived.Test.YtbdebcmklaooaaaDoorRows
import Derived.WalkKit
import Derived.ProofKit
import Derived.OpenShut
import Derived.ShutString
import Derived.ChangeOld
import Derived.ChangeVars
import Derived.Below
import Derived.Carry
namespace Go.Proofs.YtbdebcmklaooaaaDoor.scanEnds
open Go.ChangeShapes Go.WideShapes Go.ChangeAt Go.RowKit
open Go.ChangeMaps (open_string shut_string)
open Go.Lib
set_option linter.unusedVariables false
set_option linter.unusedSimpArgs false
set_option maxRecDepth 100000 in
theorem lifted (os : Os) (started : os.Started) (H : Type) (enc : TypeId × Value → H) :
    ReturnsInHanded {} Tryd.checked os 6 .any (fun w args => (Rows.scanEndsSpec.pre enc Tryd.prog Tryd.f6 [] false w args ∧ laidMetH Tryd.prog Rows.scanEndsRow.laid w) ∧ sizedMet enc Tryd.prog Tryd.f6 (OpenSpec.ofChange Rows.scanEndsSpec) false w args)
      (Rows.scanEndsSpec.post enc Tryd.prog Tryd.f6 false true false false) := by
  refine Go.Proofs.YtbdebcmklaooaaaDoor.AM.returns_and_shaped (C := Tryd.checked) (X := fun w _ => laidMetH Tryd.prog Rows.scanEndsRow.laid w) (fun _ _ _ hh h => h.of_heap hh) Go.Proofs.YtbdebcmklaooaaaDoor.AM.Sc.own started (by kernel_rfl) Tryd.func6
    (Go.Proofs.YtbdebcmklaooaaaDoor.AM.witness_ref (enc := enc) (C := Tryd.checked) (os := os) (X := fun w _ => laidMetH Tryd.prog Rows.scanEndsRow.laid w) false (Go.Proofs.YtbdebcmklaooaaaDoor.AM.Sc.laidWorld os) #[.int .i64 0, .bool false] 8 rfl (by kernel_rfl) (by kernel_rfl) (by kernel_rfl) (by kernel_rfl) (by kernel_rfl) (Go.Proofs.YtbdebcmklaooaaaDoor.AM.Sc.laid_met os _)) ?_
  intro W base args ds gs before hval0 hW hL hsh
  have hval : ∀ (j : Nat) t v, Tryd.f6.params[j]? = some t → args[j]? = some v → Value.okWide Tryd.prog W .any base t v := hval0
  have hW' := hW
  obtain ⟨p, q, hA0, hV, rfl, hfz, hnd⟩ := hW
  have hA : DataW.TrodAll enc Tryd.prog W 0 (fun _ => true) true Tryd.f6.params.toList args.toList ds p := hA0
  rw [Tryd.params6] at hA hval
  obtain ⟨v0, vs0, d0, ds0, p0, q0, hargs, rfl, rfl, h0, r0⟩ := trodAll_cons hA
  obtain ⟨v1, vs1, d1, ds1, p1, q1, rfl, rfl, rfl, h1, r1⟩ := trodAll_cons r0
  obtain ⟨rfl, rfl, rfl⟩ := trodAll_nil r1
  obtain rfl : args = #[v0, v1] := by cases args; simp_all
  obtain ⟨rfl, rfl⟩ := trodVars_none hV
  obtain ⟨a0, rfl, rfl, rfl, w0⟩ := open_int Tryd.underlying3 (hval 0 3 v0 rfl rfl) h0
  obtain ⟨a1, rfl, rfl, rfl⟩ := open_bool Tryd.underlying4 (hval 1 4 v1 rfl rfl) h1
  clear hA0 hval0
  refine (Go.Proofs.YtbdebcmklaooaaaDoor.AM.Sc.law_calls (ts := [.sc (.int .i64 a0), .sc (.bool a1)]) (vs := [.int .i64 a0, .bool a1]) (Go.Proofs.YtbdebcmklaooaaaDoor.AM.Sc.ground_of hL hsh) ⟨Tryd.f6, Tryd.func6, by kernel_rfl, by kernel_rfl⟩ (Go.Proofs.YtbdebcmklaooaaaDoor.AM.Sc.law_scanEnds a0 a1) (by simp only [Go.Proofs.YtbdebcmklaooaaaDoor.AM.RTL, Go.Proofs.YtbdebcmklaooaaaDoor.AM.RT]; exact ⟨_, _, rfl, rfl, _, _, rfl, rfl, rfl⟩)).mono fun e W' ⟨he, bel⟩ => ?_
  subst he
  exact ⟨_, rfl, _, _, _, [], _, [], hW', trodAll_mk1 (shut_bool Tryd.underlying4 _), (trodAll_cons_mk (shut_int Tryd.underlying3 w0) (trodAll_cons_mk (shut_bool Tryd.underlying4 _) trodAll_mk0)), rfl, bel.frame _, fun h => by cases h⟩
theorem over : Rows.scanEndsRow.holds Tryd.pinned (OpenSpec.ofChange Rows.scanEndsSpec) :=
  OpenClaim.holds_of_wide 6 Tryd.f6 rfl rfl rfl rfl rfl rfl rfl ⟨rfl, rfl, rfl, rfl, rfl⟩ rfl rfl rfl rfl rfl (by kernel_rfl) Tryd.func6 (by kernel_rfl)
    (of_decide_eq_true (by kernel_rfl)) (by unfold Func.isWrapper; first | (rw [if_pos (by decide +kernel)]; kernel_rfl) | (rw [if_neg (by decide +kernel)]; exact ⟨rfl, rfl⟩))
    (fun os started H enc _ => lifted os started H enc)
theorem proved : Rows.ScanEndsSaid := over
end Go.Proofs.YtbdebcmklaooaaaDoor.scanEnds
