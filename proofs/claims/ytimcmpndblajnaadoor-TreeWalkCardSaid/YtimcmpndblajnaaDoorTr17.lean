/- TreeWalk: part 17. -/
import Derived.Test.YtimcmpndblajnaaDoorTr16
import Derived.Test.YtimcmpndblajnaaDoorTr9
set_option maxRecDepth 1000000
set_option linter.unusedVariables false
set_option linter.unusedSimpArgs false
namespace Go.Proofs.YtimcmpndblajnaaDoor.AM.Tr
open Go.Proofs Go.RowKit
section
variable {H : Type} {enc : TypeId × Value → H} {w : World}
theorem rtl_one {h : Array Go.Obj} {I : Nat → Prop} {t : Tree} {v : Value} (r : RTL h I [t] [v]) : RT h I t v := by
  simp only [RTL] at r
  obtain ⟨y, ys, h, r, _⟩ := r
  cases h
  exact r
theorem arg_ints {r : Reach} {b0 : Nat} {v : Value} {d : DataW H} {ps : List MemPlace} (hval : Value.okWide Tryd.prog w r b0 25 v) (hd : DataW.Trod enc Tryd.prog w 0 (fun _ => true) true 25 v d ps) :
    ∃ (l : List Int) (t : Tree), Rw (l.map iT) (.tr t) ∧ RT w.heap (fun b => b < w.heap.size) t v := by
  obtain ⟨x, hx, hr⟩ := Opens.one Tryd.underlying25 hval hd (fun n => opens_slice (t := 25) (e := 3) Tryd.underlying25 (c := 1) (by kernel_rfl) (E := fun z : Int => [iT z]) (fun _ => rfl) fun _ _ => opens_int Tryd.underlying3)
  rcases x with _ | ⟨l, c⟩
  · exact ⟨[], _, .inl ⟨rfl, rfl⟩, rtl_one hr⟩
  · have e : l.flatMap (fun z : Int => [iT z]) = l.map iT := by
      clear hx hr
      induction l with
      | nil => rfl
      | cons a l ih => rw [List.flatMap_cons, ih]; rfl
    simp only [slE] at hr
    refine ⟨l, .row (l.map iT) l.length (some c), .inr ⟨some c, by rw [List.length_map]⟩, ?_⟩
    rw [← e]
    exact rtl_one hr
end
end Go.Proofs.YtimcmpndblajnaaDoor.AM.Tr
