/- the reader: part D. -/
import Derived.Test.YtolhjhjlfgfifaaGreatDoorRdB
import Derived.Recover
set_option maxRecDepth 1000000
set_option linter.unusedVariables false
set_option linter.unusedSimpArgs false
namespace Go.Proofs.YtolhjhjlfgfifaaGreatDoor.AM.Rd0
open Go.Proofs Go.RowKit
theorem idle53 (p q r s : Value) (w : World) :
    CallsD Tryz.prog 53 #[p, q, r, s] .returning w fun e u' w' => (∃ x, e = .returned x) ∧ u' = .returning ∧ w' = w := by
  refine callsD_of_wpS Tryz.func53 rfl fun c₀ cs hu => ?_
  apply wpS_seq
  apply wpS_region
  simp [wpOpsS, go_sem, recoverD, hu, Tryz.ntmps53, Exit.thenS]
  apply wpS_seq
  apply wpS_region
  simp [wpOpsS, go_sem, recoverD, hu, Tryz.ntmps53, Exit.thenS]
  refine wpS_cond (t := false) (by simp [Act.eval, Array.replicate]) ?_
  simp only [Bool.false_eq_true, if_false]
  refine wpS_of_wp (Go.wp_skip ?_)
  cases c₀
  simp_all [bodyPostS, results, Tryz.results53]
theorem dfr53 (Gd : Ground) : DfrOk Gd Tryz.prog 53 4 := by
  refine ⟨⟨_, Tryz.func53, by kernel_rfl, by kernel_rfl⟩, fun n0 w0 w xs _ _ _ hx => ?_⟩
  obtain ⟨p, q, r, s, rfl⟩ : ∃ p q r s, xs = #[p, q, r, s] := by
    match xs, hx with
    | ⟨[p, q, r, s]⟩, _ => exact ⟨p, q, r, s, rfl⟩
  refine (idle53 p q r s w).mono ?_
  rintro e u' w' ⟨h1, h2, rfl⟩
  exact ⟨h1, h2, Below.refl _ _⟩
end Go.Proofs.YtolhjhjlfgfifaaGreatDoor.AM.Rd0
