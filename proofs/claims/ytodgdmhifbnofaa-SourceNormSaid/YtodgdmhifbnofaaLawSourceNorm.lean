/- SourceNorm answers true whatever the packages: those that come out are ordered, so are their files, none is lost and none is new; and two of one name give nothing. No condition. -/
import Derived.Test.YtodgdmhifbnofaaSn33
import Derived.Test.YtodgdmhifbnofaaRows
import Derived.WalkKit
import Derived.ProofKit
import Derived.OpenShut
import Derived.ShutString
import Derived.ChangeOld
import Derived.Below
import Derived.HandedShaped
import Derived.Carry
namespace Go.Proofs.Ytodgdmhifbnofaa.sourceNorm
open Go.ChangeShapes Go.WideShapes Go.ChangeAt Go.RowKit
open Go.ChangeMaps (open_string shut_string)
set_option linter.unusedVariables false
theorem laidOut : laidOutB Try.prog = true := by kernel_rfl
theorem own : ownKnob Try.prog.godebug = none := by kernel_rfl
set_option maxRecDepth 100000 in
theorem lifted (os : Os) (started : os.Started) (H : Type) (enc : TypeId × Value → H) :
    ReturnsInHanded {} Try.checked os 3 .any (Rows.sourceNormSpec.pre6 enc Try.prog Try.f3 Rows.sourceNormRow.domain false) (Rows.sourceNormSpec.post enc Try.prog Try.f3 false true false false) := by
  refine returnsInHanded_of_change_shaped (C := Try.checked) own started (by kernel_rfl) Try.func3
    (ChangeSpec.witness6 (enc := enc) (C := Try.checked) false ⟨#[], #[.agg #[.slice none 0 0]], []⟩ 8 (by kernel_rfl) (by kernel_rfl) (by kernel_rfl) (by kernel_rfl)) ?_
  intro W base args ds gs before hval0 hW hcnd hwt hsh _
  have hval : ∀ (j : Nat) t v, Try.f3.params[j]? = some t → args[j]? = some v → Value.okWide Try.prog W .any base t v := hval0
  have hW' := hW
  obtain ⟨p, q, hA0, hV, rfl, hfz, hnd⟩ := hW
  have hA : DataW.TrodAll enc Try.prog W 0 (fun _ => true) true Try.f3.params.toList args.toList ds p := hA0
  rw [Try.params3] at hA hval
  obtain ⟨v0, vs0, d0, ds0, p0, q0, hargs, rfl, rfl, h0, r0⟩ := trodAll_cons hA
  obtain ⟨rfl, rfl, rfl⟩ := trodAll_nil r0
  obtain rfl : args = #[v0] := by cases args; simp_all
  obtain ⟨rfl, rfl⟩ := trodVars_none hV
  have h0k := h0
  have hz : Go.Proofs.Ytodgdmhifbnofaa.AM.SzD Try.prog 24 d0 := fun n hn => by
    have := List.all_eq_true.1 hwt n (DataW.weights_mem_each (j := 0) (t := 24) (d := d0) (by rw [Try.params3]; rfl) rfl n hn)
    simpa using this
  obtain ⟨gp, pk, tp, hx1, hx2, hx3, hr⟩ := Go.Proofs.Ytodgdmhifbnofaa.AM.Sn.arg_tree (hval 0 24 v0 rfl rfl) h0 hz
  clear hA0 hval0
  have hlt : ∀ x ∈ p0, x.block < W.heap.size := fun x hx => hW'.lt x (by simp [hx])
  have hm : ∃ m, W.cell? ⟨0, 0, none⟩ = some (.int .i64 m) := Try.laysM144.s1_3 W hsh
  have hg : 0 < W.heap.size := by
    obtain ⟨m, hm⟩ := hm
    rcases Nat.eq_zero_or_pos W.heap.size with h | h
    · exfalso
      revert hm
      simp [World.cell?, h]
    · exact h
  refine (Go.Proofs.Ytodgdmhifbnofaa.AM.Sn.walk hx1 hx2 hx3 hr hg hm).mono fun e W' ⟨he, bel⟩ => ?_
  subst he
  exact ⟨_, rfl, _, _, _, [], _, [], hW', trodAll_mk1 (shut_bool Try.underlying4 _), (trodAll_cons_mk (Below.trod laidOut (by kernel_rfl) (of_decide_eq_true (by kernel_rfl)) h0k bel hlt) trodAll_mk0), rfl, bel.frame _, fun h => by cases h⟩
theorem over : Rows.sourceNormRow.holds Try.pinned (OpenSpec.ofChange Rows.sourceNormSpec) :=
  OpenClaim.holds_of_wide 3 Try.f3 rfl rfl rfl rfl rfl rfl rfl ⟨rfl, rfl, rfl, rfl, rfl⟩ rfl rfl rfl rfl rfl (by kernel_rfl) Try.func3 (by kernel_rfl)
    (of_decide_eq_true (by kernel_rfl)) (by unfold Func.isWrapper; first | (rw [if_pos (by decide +kernel)]; kernel_rfl) | (rw [if_neg (by decide +kernel)]; exact ⟨rfl, rfl⟩))
    (fun os started H enc _ => lifted os started H enc)
theorem proved : Rows.SourceNormSaid := over
end Go.Proofs.Ytodgdmhifbnofaa.sourceNorm
namespace Go.Proofs.Ytodgdmhifbnofaa
theorem sourceNorm_holds : Rows.SourceNormSaid := sourceNorm.proved
#print axioms sourceNorm_holds
end Go.Proofs.Ytodgdmhifbnofaa
