/- InitOrder: part 21. -/
import Derived.Test.YtknoiiacnfbkaaaIo20
import Derived.Test.YtknoiiacnfbkaaaIo8
set_option maxRecDepth 1000000
set_option linter.unusedVariables false
set_option linter.unusedSimpArgs false
namespace Go.Proofs.Ytknoiiacnfbkaaa.AM.Io
open Go.Proofs Go.RowKit
section
variable {H : Type} {enc : TypeId × Value → H} {w : World}
theorem arg_bools {r : Reach} {b0 : Nat} {v : Value} {d : DataW H} {ps : List MemPlace} (hval : Value.okWide Try.prog w r b0 29 v) (hd : DataW.Trod enc Try.prog w 0 (fun _ => true) true 29 v d ps) :
    ∃ vs t, varsT vs t ∧ RT w.heap (fun b => b < w.heap.size) t v := by
  obtain ⟨x, hx, hr⟩ := Opens.one Try.underlying29 hval hd (fun n => opens_slice (t := 29) (e := 4) Try.underlying29 (c := 1) (by kernel_rfl) (E := fun b : Bool => [bT b]) (fun _ => rfl) fun _ _ => opens_bool Try.underlying4)
  rcases x with _ | ⟨l, c⟩
  · exact ⟨[], _, .inl ⟨rfl, rfl⟩, rtl_one hr⟩
  · have e : l.flatMap (fun b : Bool => [bT b]) = l.map bT := by
      clear hx hr
      induction l with
      | nil => rfl
      | cons a l ih => rw [List.flatMap_cons, ih]; rfl
    simp only [slE] at hr
    refine ⟨l, .row (l.map bT) l.length (some c), .inr ⟨some c, by rw [List.length_map]⟩, ?_⟩
    rw [← e]
    exact rtl_one hr
end
end Go.Proofs.Ytknoiiacnfbkaaa.AM.Io
