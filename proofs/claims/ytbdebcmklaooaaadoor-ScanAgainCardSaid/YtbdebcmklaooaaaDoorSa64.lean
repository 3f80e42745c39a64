/- ScanAgain answers true whatever the bytes: the texts of the tokens, with blanks between, are read as the same tokens. No condition. -/
import Derived.Test.YtbdebcmklaooaaaDoorSa70
import Derived.Test.YtbdebcmklaooaaaDoorSaW
import Derived.Test.YtbdebcmklaooaaaDoorRows
import Derived.WalkKit
import Derived.ProofKit
import Derived.OpenShut
import Derived.ShutString
import Derived.ChangeOld
import Derived.ChangeVars
import Derived.Below
import Derived.Carry
namespace Go.Proofs.YtbdebcmklaooaaaDoor.scanAgain
open Go.ChangeShapes Go.WideShapes Go.ChangeAt Go.RowKit
open Go.ChangeMaps (open_string shut_string)
open Go.Lib
set_option linter.unusedVariables false
set_option linter.unusedSimpArgs false
set_option maxRecDepth 100000 in
theorem lifted (os : Os) (started : os.Started) (H : Type) (enc : TypeId × Value → H) :
    ReturnsInHanded {} Tryd.checked os 4 .any (fun w args => (Rows.scanAgainSpec.pre enc Tryd.prog Tryd.f4 [] false w args ∧ laidMetH Tryd.prog Rows.scanAgainRow.laid w) ∧ sizedMet enc Tryd.prog Tryd.f4 (OpenSpec.ofChange Rows.scanAgainSpec) false w args)
      (Rows.scanAgainSpec.post enc Tryd.prog Tryd.f4 false true false false) := by
  refine Go.Proofs.YtbdebcmklaooaaaDoor.AM.returns_and_shaped (C := Tryd.checked) (X := fun w _ => laidMetH Tryd.prog Rows.scanAgainRow.laid w) (fun _ _ _ hh h => h.of_heap hh) Go.Proofs.YtbdebcmklaooaaaDoor.AM.Sa.own started (by kernel_rfl) Tryd.func4
    (Go.Proofs.YtbdebcmklaooaaaDoor.AM.witness_ref (enc := enc) (C := Tryd.checked) (os := os) (X := fun w _ => laidMetH Tryd.prog Rows.scanAgainRow.laid w) false (Go.Proofs.YtbdebcmklaooaaaDoor.AM.Sa.laidWorld os) #[.slice none 0 0] 8 rfl (by kernel_rfl) (by kernel_rfl) (by kernel_rfl) (by kernel_rfl) (by kernel_rfl) (Go.Proofs.YtbdebcmklaooaaaDoor.AM.Sa.laid_met os _)) ?_
  intro W base args ds gs before hval0 hW hL hsh
  have hval : ∀ (j : Nat) t v, Tryd.f4.params[j]? = some t → args[j]? = some v → Value.okWide Tryd.prog W .any base t v := hval0
  have hW' := hW
  obtain ⟨p, q, hA0, hV, rfl, hfz, hnd⟩ := hW
  have hA : DataW.TrodAll enc Tryd.prog W 0 (fun _ => true) true Tryd.f4.params.toList args.toList ds p := hA0
  rw [Tryd.params4] at hA hval
  obtain ⟨v0, vs0, d0, ds0, p0, q0, hargs, rfl, rfl, h0, r0⟩ := trodAll_cons hA
  obtain ⟨rfl, rfl, rfl⟩ := trodAll_nil r0
  obtain rfl : args = #[v0] := by cases args; simp_all
  obtain ⟨rfl, rfl⟩ := trodVars_none hV
  obtain ⟨y0_0, y0_1, y0_2, y0_3⟩ := Go.Proofs.YtbdebcmklaooaaaDoor.AM.Sa.arg_bytes (hval 0 22 v0 rfl rfl) h0
  clear hA0 hval0
  have hlt0 : ∀ x ∈ p0, x.block < W.heap.size := fun x hx => hW'.lt x (by simp [hx])
  refine (Go.Proofs.YtbdebcmklaooaaaDoor.AM.Sa.law_calls (ts := [y0_1]) (vs := [v0]) (Go.Proofs.YtbdebcmklaooaaaDoor.AM.Sa.ground_of hL hsh) ⟨Tryd.f4, Tryd.func4, by kernel_rfl, by kernel_rfl⟩ (Go.Proofs.YtbdebcmklaooaaaDoor.AM.Sa.law_again y0_2) (by simp only [Go.Proofs.YtbdebcmklaooaaaDoor.AM.RTL, Go.Proofs.YtbdebcmklaooaaaDoor.AM.RT]; exact ⟨_, _, rfl, y0_3, rfl⟩)).mono fun e W' ⟨he, bel⟩ => ?_
  subst he
  exact ⟨_, rfl, _, _, _, [], _, [], hW', trodAll_mk1 (shut_bool Tryd.underlying4 _), (trodAll_cons_mk (Below.trod Go.Proofs.YtbdebcmklaooaaaDoor.AM.Sa.laidOut (by kernel_rfl) (of_decide_eq_true (by kernel_rfl)) h0 bel hlt0) trodAll_mk0), rfl, bel.frame _, fun h => by cases h⟩
theorem over : Rows.scanAgainRow.holds Tryd.pinned (OpenSpec.ofChange Rows.scanAgainSpec) :=
  OpenClaim.holds_of_wide 4 Tryd.f4 rfl rfl rfl rfl rfl rfl rfl ⟨rfl, rfl, rfl, rfl, rfl⟩ rfl rfl rfl rfl rfl (by kernel_rfl) Tryd.func4 (by kernel_rfl)
    (of_decide_eq_true (by kernel_rfl)) (by unfold Func.isWrapper; first | (rw [if_pos (by decide +kernel)]; kernel_rfl) | (rw [if_neg (by decide +kernel)]; exact ⟨rfl, rfl⟩))
    (fun os started H enc _ => lifted os started H enc)
theorem proved : Rows.ScanAgainSaid := over
end Go.Proofs.YtbdebcmklaooaaaDoor.scanAgain
