/- ImportsOrder: part 37. -/
import Derived.Test.YtknoiiacnfbkaaaIo36
set_option maxRecDepth 1000000
set_option linter.unusedVariables false
set_option linter.unusedSimpArgs false
namespace Go.Proofs.Ytknoiiacnfbkaaa.AM.Io
open Go.Proofs

/-- A list of texts in a place of its own, with something behind it. -/
def Ex (id : Nat) (l : List S) (w : V) (σ : Store) : Prop := ∃ g post, w = .own id g 0 l.length 1 none ∧ σ[id]? = some (.row ((l.map sT ++ post).map .tr) g)
theorem Ex.rds {id : Nat} {l : List S} {w : V} {σ : Store} (h : Ex id l w σ) : Rds σ w l := by
  obtain ⟨g, post, rfl, hs⟩ := h
  exact rds_stk (id := id) ⟨g, none, [], post, by simp, by simpa using hs, fun c hc => by cases hc⟩
theorem Ex.lt {id : Nat} {l : List S} {w : V} {σ : Store} (h : Ex id l w σ) : id < σ.length := by
  obtain ⟨g, post, rfl, hs⟩ := h
  exact (List.getElem?_eq_some_iff.1 hs).1
theorem Ex.keep {id : Nat} {l : List S} {w : V} {σ σ' : Store} (h : Ex id l w σ) (hs' : σ'[id]? = σ[id]?) : Ex id l w σ' := by
  obtain ⟨g, post, h1, hs⟩ := h
  exact ⟨g, post, h1, by rw [hs']; exact hs⟩
theorem Ex.snap {id : Nat} {l : List S} {w : V} {σ : Store} (h : Ex id l w σ) (d : Nat) : ∃ t, Go.Proofs.Ytknoiiacnfbkaaa.AM.snap σ (d + 1) w = some t ∧ Rw (l.map sT) (.tr t) := by
  obtain ⟨g, post, rfl, hs⟩ := h
  have := snapT (ts := l.map sT) (pre := []) (post := post) (off := 0) (n := l.length) (cap := none) (d := d) (by simpa using hs) rfl (by simp)
  exact ⟨_, this, .inr ⟨none, rfl⟩⟩

/-- slices.Sort of such a list. -/
theorem ex_sort {id g : Nat} {l : List S} {σ : Store} (hs : σ[id]? = some (.row ((l.map sT).map .tr) g)) (h0 : l ≠ []) (hl : l.length ≤ 100000) :
    callL T 16 [.own id g 0 l.length 1 none] σ = some (.tr (.tup []), σ.set id (.row (((sortS l).map sT).map .tr) g)) := by
  refine callL_ext T16 rfl rfl extV_9 ?_
  have hp := List.length_pos_iff.2 h0
  have hc : obCells σ id g = some ((l.map sT).map .tr) := by simp [obCells, hs]
  have hsl : slice? ((l.map sT).map V.tr) 0 l.length = some ((l.map sT).map .tr) := by
    unfold slice?
    have : (((l.map sT).map V.tr).drop 0).take l.length = (l.map sT).map .tr := by
      rw [List.drop_zero, List.take_of_length_le (by simp)]
    simp only [this]
    rw [if_pos (by simp)]
  have hb1 : (Nat.beq 1 1 && (Nat.blt 0 l.length && Nat.ble l.length 100000)) = true := by
    simp only [Bool.and_eq_true, Nat.blt_eq, Nat.ble_eq]
    exact ⟨rfl, hp, hl⟩
  have hsc : sortCells 9 ((l.map sT).map .tr) = some (((sortS l).map sT).map .tr) := by
    unfold sortCells
    simp only [strsOf_map]
    rw [List.map_map]
    rfl
  have hput : obPut σ id g 0 (((sortS l).map sT).map .tr) = some (σ.set id (.row (((sortS l).map sT).map .tr) g)) := by
    unfold obPut
    rw [hs]
    simp only
    rw [if_pos ⟨trivial, by simp [sortS_len], ones_all (ones_str _)⟩]
    congr 3
    unfold splice
    simp [sortS_len]
  unfold extW
  simp only [hb1, hc, hsl, hsc, hput]

/-- What is ordered is in order. -/
theorem sortS_lt {l : List S} (nd : l.Nodup) : (sortS l).Pairwise lt ∧ ∀ x, x ∈ sortS l ↔ x ∈ l := by
  have hp : (sortS l).Perm l := by rw [sortS_eq]; exact List.mergeSort_perm _ _
  have hs : (sortS l).Pairwise (fun a b => decide (a ≤ b) = true) := by
    rw [sortS_eq]
    exact List.pairwise_mergeSort (le := fun x y : S => decide (x ≤ y)) (fun a b c => by simp only [decide_eq_true_eq]; exact fun h1 h2 => List.le_trans h1 h2) (fun a b => by simp only [Bool.or_eq_true, decide_eq_true_eq]; exact List.le_total a b) l
  have hnd : (sortS l).Nodup := hp.nodup_iff.2 nd
  refine ⟨?_, fun x => hp.mem_iff⟩
  refine List.Pairwise.imp ?_ (hs.and hnd)
  rintro a b ⟨h1, h2⟩
  unfold lt
  rw [bytesLt_lt]
  simp only [decide_eq_true_eq] at h1
  by_cases h : a < b
  · exact h
  · exact absurd (List.le_antisymm h1 (List.not_lt.1 h)) h2

theorem delete_ok {id : Nat} {l : List S} {w : V} {σ : Store} {i : Nat} (h : Ex id l w σ) (hi : i < l.length) (hl : l.length ≤ 1000) :
    ∃ w' σ', callL T 21 [w, nv .i64 i, nv .i64 (i + 1)] σ = some (w', σ') ∧ Ex id (l.eraseIdx i) w' σ' ∧ (∀ j, j ≠ id → σ'[j]? = σ[j]?) ∧ σ'.length = σ.length := by
  obtain ⟨g, post, rfl, hs⟩ := h
  have hid := (List.getElem?_eq_some_iff.1 hs).1
  suffices hh : ∃ v σ', callL T 21 [.own id g 0 l.length 1 none, nv .i64 i, nv .i64 (i + 1)] σ = some (v, σ') ∧ (v = .own id g 0 (l.length - 1) 1 none ∧ σ' = σ.set id (.row (((l.eraseIdx i).map sT ++ (sT [] :: post)).map .tr) g)) by
    obtain ⟨v, σ', h1, rfl, rfl⟩ := hh
    have hel : (l.eraseIdx i).length = l.length - 1 := List.length_eraseIdx_of_lt hi
    exact ⟨_, _, h1, ⟨g, sT [] :: post, by rw [hel], by rw [List.getElem?_set_self hid]⟩, fun j hj => by rw [List.getElem?_set_ne (Ne.symm hj)], by simp⟩
  refine call_shared T21 rfl rfl ?_
  obtain ⟨n, hn⟩ : ∃ n, l.length = n + 1 := ⟨l.length - 1, by omega⟩
  rw [hn]
  have hn1 : n + 1 - 1 = n := by omega
  rw [hn1]
  obtain ⟨C, hC⟩ : ∃ C : List V, C = (l.map sT ++ post).map .tr := ⟨_, rfl⟩
  rw [← hC] at hs
  have hCl : C.length = n + 1 + post.length := by rw [hC]; simp [hn]
  have hcells : obCells σ id g = some C := by simp [obCells, hs]
  have hi1 : asIdx? (nv .i64 (i + 1)) = some (i + 1) := asIdx_nat .i64 (i + 1)
  have hlen : ∀ (k : Nat) σ, opLen 1 (.own id g 0 k 1 none) σ = some (nv .i64 k) := fun k σ => rfl
  have s0 : opSlice 1 (.own id g 0 (n + 1) 1 none) (some (nv .i64 i)) (some (nv .i64 (i + 1))) (some (nv .i64 (n + 1))) σ = some (.own id g (0 + i * 1) (i + 1 - i) 1 (some (n + 1 - i))) := by
    unfold opSlice
    simp only [optIdx, asIdx_nat, Option.isSome_some, Option.isNone_some, Bool.and_false, Bool.false_eq_true, if_false, Option.getD_some, hcells, ne_eq, not_true_eq_false]
    rw [if_pos ⟨by omega, by omega, .inl (Nat.le_refl _)⟩]
    rfl
  have s1 : opSlice 1 (.own id g 0 (n + 1) 1 none) none (some (nv .i64 i)) none σ = some (.own id g 0 i 1 none) := by
    unfold opSlice
    simp only [optIdx, asIdx_nat, Option.isSome_none, Bool.false_and, Bool.false_eq_true, if_false, Option.getD_some, Option.getD_none, hcells, ne_eq, not_true_eq_false]
    rw [if_pos ⟨by omega, by omega, .inl (by omega)⟩]
    simp [cutCap]
  have s2 : opSlice 1 (.own id g 0 (n + 1) 1 none) (some (nv .i64 (i + 1))) none none σ = some (.own id g (i + 1) (n - i) 1 none) := by
    unfold opSlice
    simp only [optIdx, asIdx_nat, Option.isSome_none, Bool.false_and, Bool.false_eq_true, if_false, Option.getD_some, Option.getD_none, hcells, ne_eq, not_true_eq_false]
    rw [if_pos ⟨by omega, by omega, .inl (by omega)⟩]
    simp [cutCap]
  -- what is moved down
  obtain ⟨xs, hxs⟩ : ∃ xs : List V, xs = (C.drop (i + 1)).take (n - i) := ⟨_, rfl⟩
  have hxl : xs.length = n - i := by rw [hxs]; simp [hCl]; omega
  have hel : elems σ 1 (.own id g (i + 1) (n - i) 1 none) = some (xs, n - i) := by
    have hsl : slice? C (i + 1) ((n - i) * 1) = some xs := by
      unfold slice?
      rw [Nat.mul_one, ← hxs]
      simp only [hxl, if_true]
    simp only [elems, if_true, hcells, hsl]
  have hone : C.all oneV = true ∧ xs.all oneV = true ∨ True := .inr trivial
  have hxone : xs.all oneV = true := by
    rw [List.all_eq_true]
    intro v hv
    rw [hxs, hC, ← List.map_drop, ← List.map_take] at hv
    obtain ⟨t, ht, rfl⟩ := List.mem_map.1 hv
    have hlm : (l.map sT).length = n + 1 := by simp [hn]
    have ht2 : t ∈ l.map sT := by
      rw [List.drop_append, List.take_append] at ht
      rcases List.mem_append.1 ht with h | h
      · exact List.mem_of_mem_drop (List.mem_of_mem_take h)
      · have : n - i - ((l.map sT).drop (i + 1)).length = 0 := by rw [List.length_drop, hlm]; omega
        rw [this] at h
        simp at h
    obtain ⟨s, _, rfl⟩ := List.mem_map.1 ht2
    rfl
  obtain ⟨C1, hC1⟩ : ∃ C1, C1 = splice C i xs := ⟨_, rfl⟩
  have hC1l : C1.length = C.length := by rw [hC1]; exact splice_length (by rw [hxl, hCl]; omega)
  obtain ⟨σ1, hσ1⟩ : ∃ σ1, σ1 = σ.set id (.row C1 g) := ⟨_, rfl⟩
  have hs1 : σ1[id]? = some (.row C1 g) := by rw [hσ1, List.getElem?_set_self hid]
  have happ : opAppend 1 16 (.own id g 0 i 1 none) (.own id g (i + 1) (n - i) 1 none) σ = some (.own id g 0 n 1 none, σ1) := by
    have hr1 : room (n - i) 16 = true := by
      unfold room
      have : (n - i) * (16 + 1) ≤ 1000 * 17 := Nat.mul_le_mul (by omega) (by omega)
      exact Nat.ble_eq_true_of_le (by omega)
    have hr2 : room i 16 = true := by
      unfold room
      have : i * (16 + 1) ≤ 1000 * 17 := Nat.mul_le_mul (by omega) (by omega)
      exact Nat.ble_eq_true_of_le (by omega)
    have hold : slice? C 0 (i * 1) = some (C.take i) := by
      unfold slice?
      simp [hCl]
      omega
    have hput : obPut σ id g (0 + i * 1) xs = some σ1 := by
      unfold obPut
      rw [hs]
      simp only
      rw [if_pos ⟨trivial, by rw [hxl, hCl]; omega, hxone⟩, hσ1, hC1]
      simp
    unfold opAppend
    simp only [hel, hr1, hr2, hs, hold, Bool.not_true, Bool.false_eq_true, if_false, ne_eq, not_true_eq_false]
    by_cases hz : n - i = 0
    · have hxe : xs = [] := List.length_eq_zero_iff.1 (by omega)
      have hin : i = n := by omega
      have hCC : C1 = C := by rw [hC1, hxe]; simp [splice]
      have hσσ : σ1 = σ := by rw [hσ1, hCC]; exact set_self hs
      rw [if_pos hz, hσσ, hin]
    · rw [if_neg hz, if_pos ⟨by rw [hCl]; omega, by omega⟩, hput]
      simp only
      congr 3
      omega
  have hcells1 : obCells σ1 id g = some C1 := by simp [obCells, hs1]
  have s3 : opSlice 1 (.own id g 0 n 1 none) (some (nv .i64 n)) (some (nv .i64 (n + 1))) none σ1 = some (.own id g n 1 1 none) := by
    unfold opSlice
    simp only [optIdx, asIdx_nat, Option.isSome_none, Bool.false_and, Bool.false_eq_true, if_false, Option.getD_some, Option.getD_none, hcells1, ne_eq, not_true_eq_false]
    rw [if_pos ⟨by omega, by omega, .inr (.inl ⟨trivial, by rw [hC1l, hCl]; omega, by omega⟩)⟩]
    simp [cutCap]
  have hclr : opClear [.sc (.string ⟨⟨[]⟩⟩)] (.own id g n 1 1 none) σ1 = some (.tr (.tup []), σ.set id (.row (((l.eraseIdx i).map sT ++ (sT [] :: post)).map .tr) g)) := by
    have hput : obPut σ1 id g n ((rep 1 [Tree.sc (.string ⟨⟨[]⟩⟩)]).map .tr) = some (σ.set id (.row (((l.eraseIdx i).map sT ++ (sT [] :: post)).map .tr) g)) := by
      unfold obPut
      rw [hs1]
      simp only
      rw [if_pos ⟨trivial, by rw [hC1l, hCl]; simp [rep], by simp [rep]⟩, hσ1, List.set_set]
      congr 3
      rw [hC1, hxs, hC]
      obtain ⟨a, b, hab, hal⟩ : ∃ a b, l = a ++ b ∧ a.length = i := ⟨l.take i, l.drop i, (List.take_append_drop i l).symm, by rw [List.length_take]; omega⟩
      obtain ⟨x, b, rfl⟩ : ∃ x c, b = x :: c := by
        cases b with
        | nil => rw [hab] at hi; simp at hi; omega
        | cons x c => exact ⟨x, c, rfl⟩
      subst hab
      subst hal
      have hbl : b.length = n - a.length := by simp at hn; omega
      have he : (a ++ x :: b).eraseIdx a.length = a ++ b := by rw [List.eraseIdx_append_of_length_le (Nat.le_refl _)]; try simp
      rw [he]
      have hn2 : n = a.length + b.length := by simp at hn; omega
      subst hn2
      unfold splice rep rep
      simp only [List.map_append, List.map_cons, List.map_nil, List.append_nil, List.append_assoc, List.cons_append, List.nil_append, Nat.add_sub_cancel_left]
      have e1 : (a.map sT).map V.tr ++ (V.tr (sT x) :: ((b.map sT).map V.tr ++ post.map V.tr)) = ((a.map sT).map V.tr ++ [V.tr (sT x)]) ++ ((b.map sT).map V.tr ++ post.map V.tr) := by simp
      have d1 : ((a.map sT).map V.tr ++ (V.tr (sT x) :: ((b.map sT).map V.tr ++ post.map V.tr))).drop (a.length + 1) = (b.map sT).map V.tr ++ post.map V.tr := by
        rw [e1, List.drop_left' (by simp)]
      have t1 : ((b.map sT).map V.tr ++ post.map V.tr).take b.length = (b.map sT).map V.tr := List.take_left' (by simp)
      have t2 : ((a.map sT).map V.tr ++ (V.tr (sT x) :: ((b.map sT).map V.tr ++ post.map V.tr))).take a.length = (a.map sT).map V.tr := List.take_left' (by simp)
      have d2 : ((a.map sT).map V.tr ++ (V.tr (sT x) :: ((b.map sT).map V.tr ++ post.map V.tr))).drop (a.length + ((b.map sT).map V.tr).length) = (V.tr (sT x) :: ((b.map sT).map V.tr ++ post.map V.tr)).drop b.length := by
        rw [List.length_map, List.length_map, ← List.drop_drop, List.drop_left' (by simp)]
      rw [d1, t1, t2, d2]
      have t3 : ((a.map sT).map V.tr ++ ((b.map sT).map V.tr ++ (V.tr (sT x) :: ((b.map sT).map V.tr ++ post.map V.tr)).drop b.length)).take (a.length + b.length) = (a.map sT).map V.tr ++ (b.map sT).map V.tr := by
        rw [← List.append_assoc, List.take_left' (by simp)]
      have d3 : ((a.map sT).map V.tr ++ ((b.map sT).map V.tr ++ (V.tr (sT x) :: ((b.map sT).map V.tr ++ post.map V.tr)).drop b.length)).drop (a.length + b.length + [V.tr (Tree.sc (.string ⟨⟨[]⟩⟩))].length) = post.map V.tr := by
        rw [← List.append_assoc, ← List.drop_drop, List.drop_left' (by simp), List.drop_drop]
        rw [show b.length + [V.tr (Tree.sc (.string ⟨⟨[]⟩⟩))].length = b.length + 1 by rfl, List.drop_succ_cons, List.drop_left' (by simp)]
      rw [t3, d3]
      simp
    unfold opClear
    simp only [List.length_singleton, ne_eq, not_true_eq_false, if_false, hput]
  have w1 : (i : Int) = ((i + 1 : Nat) : Int) ↔ False := by constructor; (intro h; omega); exact False.elim
  have hne : ¬ (i : Int) = ((i + 1 : Nat) : Int) := by omega
  simp [hlen, s0, hne, k21_4, s1, s2, happ, s3, hclr, -Int.natCast_add]
end Go.Proofs.Ytknoiiacnfbkaaa.AM.Io
