/- ImportsOrder answers true whatever the paths and the lists: each next one is the smallest that needs no one that is not in the order, or none is, and what is left is put in order; the other way comes to the same. No condition. -/
import Derived.Test.YtknoiiacnfbkaaaIo312
import Derived.Test.YtknoiiacnfbkaaaRows
import Derived.WalkKit
import Derived.ProofKit
import Derived.OpenShut
import Derived.ShutString
import Derived.ChangeOld
import Derived.Below
import Derived.SizedLaws
import Derived.Carry
namespace Go.Proofs.Ytknoiiacnfbkaaa.importsOrder
open Go.ChangeShapes Go.WideShapes Go.ChangeAt Go.RowKit
open Go.ChangeMaps (open_string shut_string)
set_option linter.unusedVariables false
set_option linter.unusedSimpArgs false
theorem laidOut : laidOutB Try.prog = true := by kernel_rfl
theorem own : ownKnob Try.prog.godebug = none := by kernel_rfl
set_option maxRecDepth 100000 in
theorem lifted (os : Os) (started : os.Started) (H : Type) (enc : TypeId × Value → H) :
    ReturnsInHanded {} Try.checked os 3 .any (Rows.importsOrderSpec.pre6 enc Try.prog Try.f3 Rows.importsOrderRow.domain false) (Rows.importsOrderSpec.post enc Try.prog Try.f3 false true false false) := by
  refine returnsInHanded_of_change_sized (C := Try.checked) own started (by kernel_rfl) Try.func3
    (ChangeSpec.witness6 (enc := enc) (C := Try.checked) false ⟨#[], #[.slice none 0 0, .slice none 0 0], []⟩ 8 (by kernel_rfl) (by kernel_rfl) (by kernel_rfl) (by kernel_rfl)) ?_
  intro W base args ds gs before hval0 hW hcnd hsz0 _
  have hval : ∀ (j : Nat) t v, Try.f3.params[j]? = some t → args[j]? = some v → Value.okWide Try.prog W .any base t v := hval0
  have hW' := hW
  obtain ⟨p, q, hA0, hV, rfl, hfz, hnd⟩ := hW
  have hA : DataW.TrodAll enc Try.prog W 0 (fun _ => true) true Try.f3.params.toList args.toList ds p := hA0
  rw [Try.params3] at hA hval
  obtain ⟨v0, vs0, d0, ds0, p0, q0, hargs, rfl, rfl, h0, r0⟩ := trodAll_cons hA
  obtain ⟨v1, vs1, d1, ds1, p1, q1, rfl, rfl, rfl, h1, r1⟩ := trodAll_cons r0
  obtain ⟨rfl, rfl, rfl⟩ := trodAll_nil r1
  obtain rfl : args = #[v0, v1] := by cases args; simp_all
  obtain ⟨rfl, rfl⟩ := trodVars_none hV
  obtain ⟨y0_0, y0_1, y0_2, y0_3⟩ := Go.Proofs.Ytknoiiacnfbkaaa.AM.Io.arg_paths (hval 0 22 v0 rfl rfl) h0
  obtain ⟨y1_0, y1_1, y1_2, y1_3, y1_4, y1_5⟩ := Go.Proofs.Ytknoiiacnfbkaaa.AM.Io.arg_deps (hval 1 23 v1 rfl rfl) h1
  clear hA0 hval0 hsz0
  have hlt0 : ∀ x ∈ p0, x.block < W.heap.size := fun x hx => hW'.lt x (by simp [hx])
  have hlt1 : ∀ x ∈ p1, x.block < W.heap.size := fun x hx => hW'.lt x (by simp [hx])
  refine (Go.Proofs.Ytknoiiacnfbkaaa.AM.Io.law_calls (ts := [y0_1, y1_2]) (vs := [v0, v1]) ⟨Try.f3, Try.func3, by kernel_rfl, by kernel_rfl⟩ (Go.Proofs.Ytknoiiacnfbkaaa.AM.Io.law_imports y0_2 y1_3 y1_4) (by simp only [Go.Proofs.Ytknoiiacnfbkaaa.AM.RTL, Go.Proofs.Ytknoiiacnfbkaaa.AM.RT]; exact ⟨_, _, rfl, y0_3, _, _, rfl, y1_5, rfl⟩)).mono fun e W' ⟨he, bel⟩ => ?_
  subst he
  exact ⟨_, rfl, _, _, _, [], _, [], hW', trodAll_mk1 (shut_bool Try.underlying4 _), (trodAll_cons_mk (Below.trod laidOut (by kernel_rfl) (of_decide_eq_true (by kernel_rfl)) h0 bel hlt0) (trodAll_cons_mk (Below.trod laidOut (by kernel_rfl) (of_decide_eq_true (by kernel_rfl)) h1 bel hlt1) trodAll_mk0)), rfl, bel.frame _, fun h => by cases h⟩
theorem over : Rows.importsOrderRow.holds Try.pinned (OpenSpec.ofChange Rows.importsOrderSpec) :=
  OpenClaim.holds_of_wide 3 Try.f3 rfl rfl rfl rfl rfl rfl rfl ⟨rfl, rfl, rfl, rfl, rfl⟩ rfl rfl rfl rfl rfl (by kernel_rfl) Try.func3 (by kernel_rfl)
    (of_decide_eq_true (by kernel_rfl)) (by unfold Func.isWrapper; first | (rw [if_pos (by decide +kernel)]; kernel_rfl) | (rw [if_neg (by decide +kernel)]; exact ⟨rfl, rfl⟩))
    (fun os started H enc _ => lifted os started H enc)
theorem proved : Rows.ImportsOrderSaid := over
end Go.Proofs.Ytknoiiacnfbkaaa.importsOrder
namespace Go.Proofs.Ytknoiiacnfbkaaa
/-- The row, under a short name, for the claim. -/
theorem importsOrder_holds : Rows.ImportsOrderSaid := importsOrder.proved
#print axioms importsOrder_holds
end Go.Proofs.Ytknoiiacnfbkaaa
