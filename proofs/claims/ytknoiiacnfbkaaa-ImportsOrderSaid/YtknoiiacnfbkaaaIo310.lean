/- ImportsOrder: part 310. -/
import Derived.Test.YtknoiiacnfbkaaaIo39
set_option maxRecDepth 1000000
set_option linter.unusedVariables false
set_option linter.unusedSimpArgs false
namespace Go.Proofs.Ytknoiiacnfbkaaa.AM.Io
open Go.Proofs

theorem prs_idx (paths : List S) : ∀ (i : Nat), ∀ p ∈ prs paths i, p.2 < i
  | 0, p, h => by simp [prs] at h
  | i + 1, p, h => by
    have ih := prs_idx paths i
    rw [prs] at h
    split at h
    · split at h
      · have := ih p h; omega
      · rcases List.mem_append.1 h with h | h
        · have := ih p h; omega
        · simp at h; subst h; simp
    · have := ih p h; omega

theorem iorder_ok {paths : List S} {pt dt : Tree} {ds : List (List S)} {ts : List Tree} (hp : Rw (paths.map sT) (.tr pt)) (hpl : paths.length ≤ 12) (hd : Rw ts (.tr dt)) (hL : LsS ds ts) (hdl : ∀ l ∈ ds, l.length ≤ 1000) :
    ∃ t, (∀ σ, callL T 7 [.tr pt, .tr dt] σ = some (.tr t, σ)) ∧ ImpR (prs paths paths.length) ds t := by
  refine call_iso (ts := [pt, dt]) T7 rfl rfl ?_
  have hlen0 : ∀ σ, opLen 1 (.tr pt) σ = some (nv .i64 paths.length) := fun σ => by rw [rw_len hp, List.length_map]
  have hone := rw_one hd
  have hbx : opBox (.tr dt) [] = some (.ptr 0 0 0, [.row [.tr dt] 0]) := by unfold opBox; rw [cells_one hone]; rfl
  simp [hlen0, opAlloc, opMkmap, opBoxB, opStore, obPut, hbx]
  refine ord_names (dt := dt) hp hpl (by simp) (by exact ⟨[], 0, rfl, rfl⟩) (by simp [splice]) (by simp) (by simp) (by simp) (by simp [nilSl]) (by simp) (by simp) (by simp) ?_
  intro e' L' σ w7 h0 h1 h2 h7 h3 g3 g6 g7
  obtain ⟨N, hN⟩ : ∃ N, N = prs paths paths.length := ⟨_, rfl⟩
  have hNl : N.length ≤ 12 := by rw [hN]; exact Nat.le_trans (prs_len _ _) hpl
  have hN12 : ∀ p ∈ N, p.2 ≤ 100 := by rw [hN]; intro p hp; have := prs_idx paths _ p hp; omega
  have hnd : (N.map Prod.fst).Nodup := by rw [hN]; exact prs_nd _ _
  rw [← hN] at h1 h7 ⊢
  obtain ⟨hsA, hsB⟩ := sortS_lt hnd
  have hsort : ∃ id σ1, callL T 16 [w7] σ = some (.tr (.tup []), σ1) ∧ (∀ i, i ≤ 2 → σ1[i]? = σ[i]?) ∧ σ1.length = σ.length ∧ (2 < id ∧ id ≠ σ.length ∧ id ≠ σ.length + 1) ∧ ExN id (sortS (N.map Prod.fst)) w7 σ1 := by
    rcases h7 with ⟨a1, rfl⟩ | ⟨id, g, a1, a2, rfl, a3⟩
    · have hN0 : N = [] := by simpa using a1
      subst hN0
      exact ⟨σ.length + 2, σ, callL_ext T16 rfl rfl extV_9 rfl, fun _ _ => rfl, rfl, ⟨by omega, by omega, by omega⟩, .inl ⟨rfl, rfl⟩⟩
    · have hmm : ((N.map Prod.fst).map sv) = ((N.map Prod.fst).map sT).map V.tr := by rw [List.map_map (g := V.tr)]; rfl
      rw [hmm] at a3
      have hs := ex_sort (l := N.map Prod.fst) a3 (fun h => a2 (by rw [h]; rfl)) (by simp; omega)
      have hid := (List.getElem?_eq_some_iff.1 a3).1
      refine ⟨id, _, by rw [List.length_map]; exact hs, fun i hi => ?_, by simp, ⟨by simp at a1; omega, by omega, by omega⟩, .inr ⟨g, [], ?_, ?_⟩⟩
      · rw [List.getElem?_set_ne (by simp at a1; omega)]
      · rw [sortS_len, List.length_map]
      · rw [List.getElem?_set_self hid]; simp
  obtain ⟨id, σ1, a1, a2, a3, ⟨a4, a5, a5'⟩, a6⟩ := hsort
  have hnb : ∀ σ, allTr [V.ptr 2 0 0, V.ptr 0 0 0, V.ptr σ 0 0] = none := fun _ => rfl
  have hna : allTr [] = some [] := rfl
  simp [k7_12, g7, a1, opAlloc, opMkmap, opStore, obPut, g6, g3, hna, hnb]
  have lo : ∀ {i : Nat} {o : Ob}, σ1[i]? = some o → (σ1 ++ [Ob.map [] 0, Ob.row [V.mp σ1.length] 0])[i]? = some o := by
    intro i o hi
    rw [List.getElem?_append_left (List.getElem?_eq_some_iff.1 hi).1]; exact hi
  have := ord_loop (N := N) (ds := ds) (ts := ts) (dt := dt) (im := σ1.length) (id := id) (R0 := sortS (N.map Prod.fst)) (w7 := w7) (L := [])
    (σ := σ1 ++ [Ob.map [] 0, Ob.row [V.mp σ1.length] 0])
    (e := put (put (put e' 12 (V.ptr (σ1.length + 1) 0 0)) 13 (V.fn (Fn.func 17) [] [V.ptr 2 0 0, V.ptr 0 0 0, V.ptr (σ1.length + 1) 0 0])) 14 (V.tr (Tree.sc (Value.slice none 0 0))))
    hd hL hdl hN12 hNl hnd (by omega) a4 (by omega) (by omega)
    (lo (by rw [a2 0 (by omega)]; exact h0))
    (by obtain ⟨es, cl, d1, d2⟩ := h1; exact ⟨es, cl, lo (by rw [a2 1 (by omega)]; exact d1), d2⟩)
    (lo (by rw [a2 2 (by omega)]; exact h2))
    ⟨[], 0, by rw [List.getElem?_append_right (Nat.le_refl _)]; simp, rfl⟩
    (by rw [List.getElem?_append_right (by omega)]; simp)
    hsA hsB (a6.keep (fun hl => by rw [List.getElem?_append_left hl])) (by simp [g7]) (by simp) (by simp) (by simp [nilSl])
  simpa using this
end Go.Proofs.Ytknoiiacnfbkaaa.AM.Io
