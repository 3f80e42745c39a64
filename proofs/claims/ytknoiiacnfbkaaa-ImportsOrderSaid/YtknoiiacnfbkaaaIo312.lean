/- ImportsOrder: part 312. -/
import Derived.Test.YtknoiiacnfbkaaaIo311
import Derived.Test.YtknoiiacnfbkaaaIo8
set_option maxRecDepth 1000000
set_option linter.unusedVariables false
set_option linter.unusedSimpArgs false
namespace Go.Proofs.Ytknoiiacnfbkaaa.AM.Io
open Go.Proofs Go.RowKit
section
variable {H : Type} {enc : TypeId × Value → H} {w : World}
abbrev bT' (s : ByteArray) : Tree := .sc (.string s)
theorem map_sT (l : List ByteArray) : l.map bT' = (l.map fun s => s.data.toList).map sT := by
  rw [List.map_map]
  refine List.map_congr_left fun s _ => ?_
  rfl
theorem opens_strs {n : Nat} : Opens enc Try.prog w n 22 (slE fun s : ByteArray => [bT' s]) (slOk fun s => s.size ≤ maxLen) :=
  opens_slice (t := 22) (e := 9) Try.underlying22 (c := 1) (by kernel_rfl) (fun _ => rfl) fun _ _ => opens_string Try.underlying9
def ssT : Option (List ByteArray × Nat) → Tree
  | none => .sc (.slice none 0 0)
  | some (l, c) => .row (l.map bT') l.length (some c)
theorem ssE_T (s : Option (List ByteArray × Nat)) : slE (fun z : ByteArray => [bT' z]) s = [ssT s] := by
  rcases s with _ | ⟨l, c⟩
  · rfl
  · have : l.flatMap (fun z : ByteArray => [bT' z]) = l.map bT' := by
      induction l with
      | nil => rfl
      | cons a l ih => rw [List.flatMap_cons, ih]; rfl
    simp only [slE, ssT, this]
def ssL : Option (List ByteArray × Nat) → List S
  | none => []
  | some (l, _) => l.map fun s => s.data.toList
theorem ssT_rw (s : Option (List ByteArray × Nat)) : Rw ((ssL s).map sT) (.tr (ssT s)) := by
  rcases s with _ | ⟨l, c⟩
  · exact .inl ⟨rfl, rfl⟩
  · refine .inr ⟨some c, ?_⟩
    simp only [ssL, ← map_sT, List.length_map]
    rfl
theorem arg_paths {r : Reach} {b0 : Nat} {v : Value} {d : DataW H} {ps : List MemPlace} (hval : Value.okWide Try.prog w r b0 22 v) (hd : DataW.Trod enc Try.prog w 0 (fun _ => true) true 22 v d ps) :
    ∃ (l : List S) (t : Tree), Rw (l.map sT) (.tr t) ∧ RT w.heap (fun b => b < w.heap.size) t v := by
  obtain ⟨x, hx, hr⟩ := Opens.one Try.underlying22 hval hd (fun n => opens_strs)
  rw [ssE_T] at hr
  exact ⟨ssL x, ssT x, ssT_rw x, rtl_one hr⟩
theorem arg_deps {r : Reach} {b0 : Nat} {v : Value} {d : DataW H} {ps : List MemPlace} (hval : Value.okWide Try.prog w r b0 23 v) (hd : DataW.Trod enc Try.prog w 0 (fun _ => true) true 23 v d ps) :
    ∃ (ds : List (List S)) (ts : List Tree) (t : Tree), Rw ts (.tr t) ∧ LsS ds ts ∧ RT w.heap (fun b => b < w.heap.size) t v := by
  obtain ⟨x, hx, hr⟩ := Opens.one Try.underlying23 hval hd (fun n => opens_slice (t := 23) (e := 22) Try.underlying23 (c := 1) (by kernel_rfl) (fun a => by rw [ssE_T]; rfl) fun _ _ => opens_strs)
  rcases x with _ | ⟨l, c⟩
  · exact ⟨[], [], _, .inl ⟨rfl, rfl⟩, ⟨rfl, fun i x l h => by simp at h⟩, rtl_one hr⟩
  · have e : l.flatMap (fun a => slE (fun z : ByteArray => [bT' z]) a) = l.map ssT := by
      clear hx hr
      induction l with
      | nil => rfl
      | cons a l ih => rw [List.flatMap_cons, ih, ssE_T]; rfl
    have hr' := hr
    simp only [slE] at hr'
    refine ⟨l.map ssL, l.map ssT, .row (l.map ssT) l.length (some c), .inr ⟨some c, by rw [List.length_map]⟩, ⟨by simp, fun i x m hx hm => ?_⟩, ?_⟩
    · rw [List.getElem?_map] at hx hm
      cases hl : l[i]? with
      | none => rw [hl] at hx; cases hx
      | some s =>
        rw [hl] at hx hm
        cases hx
        cases hm
        exact ssT_rw s
    · rw [← e]
      exact rtl_one hr'
end
end Go.Proofs.Ytknoiiacnfbkaaa.AM.Io
