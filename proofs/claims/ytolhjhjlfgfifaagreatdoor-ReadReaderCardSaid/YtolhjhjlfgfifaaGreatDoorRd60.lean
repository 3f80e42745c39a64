/- ReadReader answers true whatever the bytes and the number: a reader goes over the tokens one by one, and stays at the end. No condition. -/
import Derived.Test.YtolhjhjlfgfifaaGreatDoorRd50
import Derived.Test.YtolhjhjlfgfifaaGreatDoorRdW
import Derived.Test.YtolhjhjlfgfifaaGreatDoorRows
import Derived.WalkKit
import Derived.ProofKit
import Derived.OpenShut
import Derived.ShutString
import Derived.ChangeOld
import Derived.ChangeVars
import Derived.Below
import Derived.Carry
namespace Go.Proofs.YtolhjhjlfgfifaaGreatDoor.readReader
open Go.ChangeShapes Go.WideShapes Go.ChangeAt Go.RowKit
open Go.ChangeMaps (open_string shut_string)
open Go.Lib
set_option linter.unusedVariables false
set_option linter.unusedSimpArgs false
set_option maxRecDepth 100000 in
theorem lifted (os : Os) (started : os.Started) (H : Type) (enc : TypeId × Value → H) :
    ReturnsInHanded {} Tryz.checked os 4 .any (fun w args => (Rows.readReaderSpec.pre enc Tryz.prog Tryz.f4 [] false w args ∧ laidMetH Tryz.prog Rows.readReaderRow.laid w) ∧ sizedMet enc Tryz.prog Tryz.f4 (OpenSpec.ofChange Rows.readReaderSpec) false w args)
      (Rows.readReaderSpec.post enc Tryz.prog Tryz.f4 false true false false) := by
  refine Go.Proofs.YtolhjhjlfgfifaaGreatDoor.AM.returns_and_shaped (C := Tryz.checked) (X := fun w _ => laidMetH Tryz.prog Rows.readReaderRow.laid w) (fun _ _ _ hh h => h.of_heap hh) Go.Proofs.YtolhjhjlfgfifaaGreatDoor.AM.Rd.own started (by kernel_rfl) Tryz.func4
    (Go.Proofs.YtolhjhjlfgfifaaGreatDoor.AM.witness_ref (enc := enc) (C := Tryz.checked) (os := os) (X := fun w _ => laidMetH Tryz.prog Rows.readReaderRow.laid w) false (Go.Proofs.YtolhjhjlfgfifaaGreatDoor.AM.Rd.laidWorld os) #[.slice none 0 0, .int .i64 0] 8 rfl (by kernel_rfl) (by kernel_rfl) (by kernel_rfl) (by kernel_rfl) (by kernel_rfl) (Go.Proofs.YtolhjhjlfgfifaaGreatDoor.AM.Rd.laid_met os _)) ?_
  intro W base args ds gs before hval0 hW hL hsh
  have hval : ∀ (j : Nat) t v, Tryz.f4.params[j]? = some t → args[j]? = some v → Value.okWide Tryz.prog W .any base t v := hval0
  have hW' := hW
  obtain ⟨p, q, hA0, hV, rfl, hfz, hnd⟩ := hW
  have hA : DataW.TrodAll enc Tryz.prog W 0 (fun _ => true) true Tryz.f4.params.toList args.toList ds p := hA0
  rw [Tryz.params4] at hA hval
  obtain ⟨v0, vs0, d0, ds0, p0, q0, hargs, rfl, rfl, h0, r0⟩ := trodAll_cons hA
  obtain ⟨v1, vs1, d1, ds1, p1, q1, rfl, rfl, rfl, h1, r1⟩ := trodAll_cons r0
  obtain ⟨rfl, rfl, rfl⟩ := trodAll_nil r1
  obtain rfl : args = #[v0, v1] := by cases args; simp_all
  obtain ⟨rfl, rfl⟩ := trodVars_none hV
  obtain ⟨y0_0, y0_1, y0_2, y0_3⟩ := Go.Proofs.YtolhjhjlfgfifaaGreatDoor.AM.Rd.arg_bytes (hval 0 24 v0 rfl rfl) h0
  obtain ⟨a1, rfl, rfl, rfl, w1⟩ := open_int Tryz.underlying3 (hval 1 3 v1 rfl rfl) h1
  have i1 : -9223372036854775808 ≤ a1 ∧ a1 ≤ 9223372036854775807 := by
    simp only [Lit.wf, Bool.and_eq_true, decide_eq_true_eq] at w1
    exact ⟨w1.1, w1.2⟩
  clear hA0 hval0
  have hlt0 : ∀ x ∈ p0, x.block < W.heap.size := fun x hx => hW'.lt x (by simp [hx])
  refine (Go.Proofs.YtolhjhjlfgfifaaGreatDoor.AM.Rd.law_calls (ts := [y0_1, .sc (.int .i64 a1)]) (vs := [v0, .int .i64 a1]) (Go.Proofs.YtolhjhjlfgfifaaGreatDoor.AM.Rd.ground_of hL hsh) ⟨Tryz.f4, Tryz.func4, by kernel_rfl, by kernel_rfl⟩ (Go.Proofs.YtolhjhjlfgfifaaGreatDoor.AM.Rd.law_reader y0_2 a1) (by simp only [Go.Proofs.YtolhjhjlfgfifaaGreatDoor.AM.RTL, Go.Proofs.YtolhjhjlfgfifaaGreatDoor.AM.RT]; exact ⟨_, _, rfl, y0_3, _, _, rfl, rfl, rfl⟩)).mono fun e W' ⟨he, bel⟩ => ?_
  subst he
  exact ⟨_, rfl, _, _, _, [], _, [], hW', trodAll_mk1 (shut_bool Tryz.underlying4 _), (trodAll_cons_mk (Below.trod Go.Proofs.YtolhjhjlfgfifaaGreatDoor.AM.Rd.laidOut (by kernel_rfl) (of_decide_eq_true (by kernel_rfl)) h0 bel hlt0) (trodAll_cons_mk (shut_int Tryz.underlying3 w1) trodAll_mk0)), rfl, bel.frame _, fun h => by cases h⟩
theorem over : Rows.readReaderRow.holds Tryz.pinned (OpenSpec.ofChange Rows.readReaderSpec) :=
  OpenClaim.holds_of_wide 4 Tryz.f4 rfl rfl rfl rfl rfl rfl rfl ⟨rfl, rfl, rfl, rfl, rfl⟩ rfl rfl rfl rfl rfl (by kernel_rfl) Tryz.func4 (by kernel_rfl)
    (of_decide_eq_true (by kernel_rfl)) (by unfold Func.isWrapper; first | (rw [if_pos (by decide +kernel)]; kernel_rfl) | (rw [if_neg (by decide +kernel)]; exact ⟨rfl, rfl⟩))
    (fun os started H enc _ => lifted os started H enc)
theorem proved : Rows.ReadReaderSaid := over
end Go.Proofs.YtolhjhjlfgfifaaGreatDoor.readReader
