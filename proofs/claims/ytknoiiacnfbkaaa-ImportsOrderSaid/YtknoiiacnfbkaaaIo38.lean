/- ImportsOrder: part 38. -/
import Derived.Test.YtknoiiacnfbkaaaIo37
set_option maxRecDepth 1000000
set_option linter.unusedVariables false
set_option linter.unusedSimpArgs false
namespace Go.Proofs.Ytknoiiacnfbkaaa.AM.Io
open Go.Proofs

theorem setK_new {κ : Type} [DecidableEq κ] {k : κ} {v : V} : ∀ {kv : List (κ × V)}, getK k kv = none → setK k v kv = kv ++ [(k, v)]
  | [], _ => rfl
  | p :: r, h => by
    unfold getK at h
    by_cases hk : k = p.1
    · rw [if_pos hk] at h; cases h
    · rw [if_neg hk] at h
      unfold setK
      rw [if_neg hk, setK_new h]
      rfl
theorem getK_none {κ α : Type} [DecidableEq κ] {k : κ} {f : κ × α → V} : ∀ {N : List (κ × α)}, getK k (N.map fun p => (p.1, f p)) = none ↔ k ∉ N.map Prod.fst
  | [] => by simp [getK]
  | p :: r => by
    have ih := getK_none (k := k) (f := f) (N := r)
    simp only [List.map_cons, getK, List.mem_cons]
    by_cases hk : k = p.1
    · simp [hk]
    · simp only [hk, if_false, false_or]
      exact ih
def nm (N : List (S × Nat)) : List (S × V) := N.map fun p => (p.1, nv .i64 p.2)

theorem getK_nm {x : S} : ∀ {N : List (S × Nat)}, x ∈ N.map Prod.fst → ∃ v, getK x (nm N) = some v ∧ ∃ j : Nat, v = nv .i64 j
  | [], h => by simp at h
  | a :: r, h => by
    unfold nm
    rw [List.map_cons, getK]
    by_cases hx : x = a.1
    · rw [if_pos hx]; exact ⟨_, rfl, _, rfl⟩
    · rw [if_neg hx]
      refine getK_nm (N := r) ?_
      rw [List.map_cons] at h
      rcases List.mem_cons.1 h with h | h
      · exact absurd h hx
      · exact h

/-- The names of the paths, once each, and where they stand. -/
theorem ord_names {paths : List S} {pt : Tree} {dt : Tree} {e L : List (Nat × V)} {σ : Store} {Q : Out → St → Prop}
    (hp : Rw (paths.map sT) (.tr pt)) (hpl : paths.length ≤ 12) (h0 : σ[0]? = some (.row [.tr dt] 0)) (h1 : MapOf encS [] 1 σ) (h2 : σ[2]? = some (.row [.mp 1] 0)) (h3 : 2 < σ.length)
    (g3 : look e 3 = some (.ptr 0 0 0)) (g6 : look e 6 = some (.ptr 2 0 0)) (g7 : look e 7 = some nilSl) (g17 : look e 17 = some (.tr pt)) (g18 : look e 18 = some (nv .i64 paths.length)) (g19 : look e 19 = some (iv 0))
    (hQ : ∀ e' L' σ w7, σ[0]? = some (.row [.tr dt] 0) → MapOf encS (nm (prs paths paths.length)) 1 σ → σ[2]? = some (.row [.mp 1] 0) → GxV [0, 1, 2] (((prs paths paths.length).map Prod.fst).map sv) w7 σ → 2 < σ.length →
      look e' 3 = some (.ptr 0 0 0) → look e' 6 = some (.ptr 2 0 0) → look e' 7 = some w7 → Q (.exit 0) ⟨e', L', σ⟩) :
    Wp T (.loop k7_4) ⟨e, L, σ⟩ Q := by
  obtain ⟨I, hI⟩ : ∃ I : Nat → St → Prop, I = (fun i s => i ≤ paths.length ∧ ∃ e L σ w7, s = ⟨e, L, σ⟩ ∧ σ[0]? = some (.row [.tr dt] 0) ∧ MapOf encS (nm (prs paths i)) 1 σ ∧ σ[2]? = some (.row [.mp 1] 0) ∧ GxV [0, 1, 2] (((prs paths i).map Prod.fst).map sv) w7 σ ∧ 2 < σ.length
    ∧ look e 3 = some (.ptr 0 0 0) ∧ look e 6 = some (.ptr 2 0 0) ∧ look e 7 = some w7 ∧ look e 17 = some (.tr pt) ∧ look e 18 = some (nv .i64 paths.length) ∧ look e 19 = some (nv .i64 i)) := ⟨_, rfl⟩
  refine wpc_up paths.length I ?_ ?_
  · rw [hI]
    exact ⟨Nat.zero_le _, e, L, σ, nilSl, rfl, h0, h1, h2, .inl ⟨rfl, rfl⟩, h3, g3, g6, g7, g17, g18, g19⟩
  clear h0 h1 h2 h3 g3 g6 g7 g17 g18 g19
  intro i s hIs
  rw [hI] at hIs
  obtain ⟨hi, e, L, σ, w7, rfl, h0, h1, h2, hw, h3, g3, g6, g7, g17, g18, g19⟩ := hIs
  by_cases hil : i < paths.length
  · obtain ⟨p, hpp⟩ : ∃ p, paths[i]? = some p := ⟨_, List.getElem?_eq_getElem hil⟩
    have hpT : (paths.map sT)[i]? = some (sT p) := by rw [List.getElem?_map, hpp]; rfl
    have hia := fun σ => rw_iaddr (σ := σ) hp hpT .i64
    have hld := fun σ => rw_load (σ := σ) hpT
    have w1 : IntKind.i64.wrap ((i : Int) + 1) = ((i + 1 : Nat) : Int) := w64 (by omega) (by omega)
    have hlp := prs_len paths i
    have hps := prs_some hpp
    have l2 : opLoad 1 false (.ptr 2 0 0) σ = some (.mp 1) := by simp [opLoad, obCells, h2, slice?]
    have hlk := map_lookup (enc := encS) keyEq_str h1 (kind := .string) (k := p) (kx := sv p) (asKey_str _) (.sc (.int .i64 0)) true
    by_cases hin : p ∈ (prs paths i).map Prod.fst
    · rw [if_pos hin] at hps
      have hg := getK_nm hin
      obtain ⟨v, hv, j, rfl⟩ := hg
      rw [hv] at hlk
      have hlk' : opLookup .string (.sc (.int .i64 0)) true (.mp 1) (sv p) σ = some (.tr (.tup [.sc (.int .i64 j), .sc (.bool true)])) := hlk
      simp [k7_4, g19, g18, hil, k7_6, g17, hia, hld, g6, l2, hlk', opExtract, k7_11, w1, -Int.natCast_add]
      rw [hI]
      exact ⟨by omega, _, _, σ, w7, rfl, h0, by rw [hps]; exact h1, h2, by rw [hps]; exact hw, h3, by simp [g3], by simp [g6], by simp [g7], by simp [g17], by simp [g18], by simp⟩
    · rw [if_neg hin] at hps
      have hv : getK p (nm (prs paths i)) = none := getK_none.2 hin
      rw [hv] at hlk
      have hlk' : opLookup .string (.sc (.int .i64 0)) true (.mp 1) (sv p) σ = some (.tr (.tup [.sc (.int .i64 0), .sc (.bool false)])) := hlk
      obtain ⟨σ1, a1, a2, a3, a4⟩ := map_update (enc := encS) keyEq_str h1 (kind := .string) (k := p) (kx := sv p) (asKey_str _) (nv .i64 i)
      rw [setK_new hv] at a2
      have h0' : σ1[0]? = some (.row [.tr dt] 0) := by rw [a3.same 0 (by omega) (by omega)]; exact h0
      have h2' : σ1[2]? = some (.row [.mp 1] 0) := by rw [a3.same 2 (by omega) (by omega)]; exact h2
      have hw' := hw.keep (σ' := σ1) (fun i hi hl => a3.same i (by simp at hi; omega) hl)
      have hbs := fun σ => bs1 (σ := σ) (t := sT p) (.sc (.string ⟨⟨[]⟩⟩)) rfl
      obtain ⟨w', σ2, b1, b2, b3, b4⟩ := gxv_app (c := sv p) (x := .tr (.row [sT p] 1 (some 1))) (b := 16) hw' rfl rfl (by rw [List.all_eq_true]; intro v hv; obtain ⟨t, _, rfl⟩ := List.mem_map.1 hv; rfl) (by omega) (by simp; omega) (fun i hi => by simp at hi; omega)
      simp [k7_4, g19, g18, hil, k7_6, g17, hia, hld, g6, l2, hlk', opExtract, a1, g7, hbs, b1, k7_11, w1, -Int.natCast_add]
      rw [hI]
      refine ⟨by omega, _, _, σ2, w', rfl, by rw [b3 0 (by simp)]; exact h0', ?_, by rw [b3 2 (by simp)]; exact h2', ?_, by omega, by simp [g3], by simp [g6], by simp, by simp [g17], by simp [g18], by simp⟩
      · rw [hps]
        obtain ⟨es, cl, c1, c2⟩ := a2
        refine ⟨es, cl, by rw [b3 1 (by simp)]; exact c1, by rw [c2]; simp [nm]⟩
      · rw [hps]; simpa using b2
  · have hie : i = paths.length := by omega
    subst hie
    simp [k7_4, g19, g18]
    exact hQ _ _ σ w7 h0 h1 h2 hw h3 (by simp [g3]) (by simp [g6]) (by simp [g7])
end Go.Proofs.Ytknoiiacnfbkaaa.AM.Io
