/- TreeWalk: part 5. -/
import Derived.Test.YtimcmpndblajnaaDoorTr4
set_option maxRecDepth 1000000
set_option linter.unusedVariables false
set_option linter.unusedSimpArgs false
namespace Go.Proofs.YtimcmpndblajnaaDoor.AM.Tr
open Go.Proofs

theorem cells_mkAgg (cs : List V) : cellsOf (mkAgg cs) = cs := by
  unfold mkAgg
  split
  · rename_i ts h
    rw [allTr_some h]; rfl
  · rfl
theorem one_w4 {c : K} (h : oneV c.2.2.2 = true) : (w4 c).all oneV = true := by
  simp only [w4, List.all_cons, List.all_nil, h, Bool.and_true]
  rfl
/-- A literal of one tree. -/
theorem bs4 (σ : Store) (c : K) (z1 z2 z3 z4 : Tree) : ∃ x σ1, opBslice false 1 4 [z1, z2, z3, z4] [(0, 4, mkAgg (w4 c))] σ = some (x, σ1) ∧ elems σ1 4 x = some (w4 c, 1) ∧ (σ1 = σ ∨ σ1 = σ ++ [.row (w4 c) 0]) := by
  have e : fillV ((rep 1 [z1, z2, z3, z4]).map .tr) [(0, 4, mkAgg (w4 c))] = some (w4 c) := by
    have h1 := cells_mkAgg (w4 c)
    obtain ⟨m, hm⟩ : ∃ m, m = mkAgg (w4 c) := ⟨_, rfl⟩
    rw [← hm] at h1 ⊢
    simp [rep, fillV, h1, splice, w4]
  unfold opBslice
  simp only [e, Bool.false_eq_true, if_false]
  cases h : allTr (w4 c) with
  | some ts =>
    have ht := allTr_some h
    have hl : ts.length = 4 := by
      have := congrArg List.length ht
      simpa [w4] using this.symm
    refine ⟨_, σ, rfl, ?_, .inl rfl⟩
    simp only [elems, hl, if_true, ← ht]
  | none =>
    refine ⟨_, _, rfl, ?_, .inr rfl⟩
    have ho : obCells (σ ++ [.row (w4 c) 0]) σ.length 0 = some (w4 c) := by simp [obCells]
    simp only [elems, if_true, ho]
    rfl
def LS (σ : Store) (lo : Nat) (ks : List Nd) (w : V) : Prop := (ks = [] ∧ w = nilSl) ∨ ∃ id g C, lo ≤ id ∧ ks ≠ [] ∧ w = .own id g 0 ks.length 4 none ∧ σ[id]? = some (.row (C.flatMap w4) g) ∧ CL σ (fun i => lo ≤ i ∧ i ≠ id) ks C
theorem flat_w4 (C : List K) : (C.flatMap w4).length = C.length * 4 := by
  induction C with
  | nil => rfl
  | cons a C ih => rw [List.flatMap_cons, List.length_append, ih, List.length_cons]; simp [w4]; omega
theorem app4 {σ : Store} {lo mid : Nat} {ks : List Nd} {w x : V} {y : Nd} {c : K} (h : LS σ lo ks w) (hx : elems σ 4 x = some (w4 c, 1)) (hc : oneV c.2.2.2 = true) (hy : CN σ (fun i => mid ≤ i) y c) (hmid : ∀ id g n, w = .own id g 0 n 4 none → id < mid) (hlm : lo ≤ mid) (hlo : lo ≤ σ.length) (hl : ks.length ≤ 100) :
    ∃ w' σ', opAppend 4 56 w x σ = some (w', σ') ∧ LS σ' lo (ks ++ [y]) w' ∧ (∀ i, i < lo → i < σ.length → σ'[i]? = σ[i]?) ∧ σ.length ≤ σ'.length ∧ oneV w' = true := by
  have hr1 : room 1 56 = true := by decide +kernel
  have hr2 : room ks.length 56 = true := by
    unfold room
    have : ks.length * (56 + 1) ≤ 100 * 57 := Nat.mul_le_mul hl (by omega)
    exact Nat.ble_eq_true_of_le (by omega)
  rcases h with ⟨rfl, rfl⟩ | ⟨id, g, C, h1, h2, rfl, h4, h5⟩
  · refine ⟨.own σ.length 0 0 1 4 none, σ ++ [.row (w4 c) 0], ?_, .inr ⟨σ.length, 0, [c], hlo, by simp, by simp, by simp, ?_⟩, fun i hi hl => by rw [List.getElem?_append_left hl], by simp, rfl⟩
    · unfold opAppend nilSl
      simp [hx, hr1]
    · simp only [List.nil_append, CL]
      exact ⟨c, [], rfl, cn_mono (fun i hi hl => ⟨by rw [List.getElem?_append_left hl], by omega, by omega⟩) hy, rfl⟩
  · have hid := (List.getElem?_eq_some_iff.1 h4).1
    have hCl := cl_len h5
    have hfl := flat_w4 C
    rw [hCl] at hfl
    have hold : slice? (C.flatMap w4) 0 (ks.length * 4) = some (C.flatMap w4) := by
      unfold slice?
      have ht : ((C.flatMap w4).drop 0).take (ks.length * 4) = C.flatMap w4 := by
        rw [List.drop_zero, List.take_of_length_le (by rw [hfl]; exact Nat.le_refl _)]
      simp only [ht, hfl, if_true]
    have hm := hmid id g ks.length rfl
    refine ⟨.own id (g + 1) 0 (ks.length + 1) 4 none, σ.set id (.row (C.flatMap w4 ++ w4 c) (g + 1)), ?_, .inr ⟨id, g + 1, C ++ [c], h1, by simp, by simp, by rw [List.getElem?_set_self hid]; simp, ?_⟩, fun i hi hl => by rw [List.getElem?_set_ne (by omega)], by simp, rfl⟩
    · unfold opAppend
      have hn : ¬ (0 + (ks.length + 1) * 4 ≤ (C.flatMap w4).length ∧ 0 < 4) := by rw [hfl]; omega
      have ha : (w4 c).all oneV = true := one_w4 hc
      simp only [hx, hr1, hr2, h4, hold, Bool.not_true, Bool.false_eq_true, if_false, ne_eq, not_true_eq_false, Nat.one_ne_zero, hn, ha, if_true]
    · refine cl_snoc (cn_mono (fun i hi hl => ⟨by rw [List.getElem?_set_ne (by omega)], by omega, by omega⟩) hy) (cl_mono (fun i hi hl => ⟨by rw [List.getElem?_set_ne (by omega)], hi⟩) h5)
end Go.Proofs.YtimcmpndblajnaaDoor.AM.Tr
