/- ImportsOrder: part 20. -/
import Derived.Test.YtknoiiacnfbkaaaIo19
set_option maxRecDepth 1000000
set_option linter.unusedVariables false
set_option linter.unusedSimpArgs false
namespace Go.Proofs.Ytknoiiacnfbkaaa.AM.Io
open Go.Proofs

theorem ord_same {vs : List Bool} {s : Nat → List Nat} {t t' : Tree} (h : OrdR vs s t) (h' : OrdR vs s t') : ∃ (ok : Bool) (O : List Nat) (t0 t0' : Tree), O.length ≤ vs.length ∧ Rw (O.map nT) (.tr t0) ∧ Rw (O.map nT) (.tr t0') ∧ t = .tup [t0, .sc (.bool ok)] ∧ t' = .tup [t0', .sc (.bool ok)] := by
  rcases h with ⟨hc, rfl⟩ | ⟨hc, O, t0, h1, h2, h3, rfl⟩
  · rcases h' with ⟨_, rfl⟩ | ⟨hc', _⟩
    · exact ⟨false, [], _, _, by simp, .inl ⟨rfl, rfl⟩, .inl ⟨rfl, rfl⟩, rfl, rfl⟩
    · exact absurd hc hc'
  · rcases h' with ⟨hc', _⟩ | ⟨_, O', t0', h1', h2', h3', rfl⟩
    · exact absurd hc' hc
    · have := done_uniq (S := Stp vs s) (fun _ _ _ hp hq => stp_func hp hq) h1 h1'
      subst this
      exact ⟨true, O, t0, t0', h3, h2, h2', rfl, rfl⟩

theorem law_order {deps : List (List Int)} {ts : List Tree} {td vt : Tree} {vs : List Bool} (hv : varsT vs vt) (htd : Rw ts (.tr td)) (hLs : Ls deps ts) : ∃ v σ', callL T 4 [.tr vt, .tr td] [] = some (v, σ') ∧ v = bv true := by
  refine call_shared T4 rfl rfl ?_
  obtain ⟨d, hd, us, hus, hLd⟩ := cut_ok (n := 20) htd hLs (by omega)
  have hdl : ∀ l ∈ (deps.take 20).map (List.take 8), l.length ≤ 1000 := cut_len
  have hn16 : ((deps.take 20).map (List.take 8)).length ≤ 20 := by simp; omega
  generalize (deps.take 20).map (List.take 8) = ds at *
  have hd' : ∀ σ, callL T 11 [.tr td, .tr (.sc (.int .i64 20))] σ = some (.tr d, σ) := hd
  have hvl : ∀ σ, opLen 1 (.tr vt) σ = some (nv .i64 vs.length) := fun σ => by rw [rw_len hv, List.length_map]
  have e10 := begun20
  have tail : ∀ e L (vs' : List Bool) (vt' : Tree), varsT vs' vt' → vs'.length ≤ 16 → look e 0 = some (.tr vt') → look e 1 = some (.tr td) → look e 5 = some (bv true) → wpc T k4_3 ⟨e, L, []⟩ (giv [.tmp 4] fun v σ' => v = bv true) := by
    intro e L vs' vt' hv' hvn' g0 g1 g5
    obtain ⟨t1, c1, o1⟩ := order_ok (n := vs'.length) hv' rfl (by omega) hus hLd hdl
    obtain ⟨t2, c2, o2⟩ := rinit_ok (n := vs'.length) hv' rfl (by omega) (by omega) hus hLd hdl
    obtain ⟨ok, O, t0, t0', hO, r1, r2, rfl, rfl⟩ := ord_same o1 o2
    have hl1 : ∀ σ, opLen 1 (.tr t0) σ = some (nv .i64 O.length) := fun σ => by rw [rw_len r1, List.length_map]
    have hl2 : ∀ σ, opLen 1 (.tr t0') σ = some (nv .i64 O.length) := fun σ => by rw [rw_len r2, List.length_map]
    simp [k4_3, g0, g1, hd', c1, c2, opExtract, hl1, hl2, k4_9]
    obtain ⟨I, hI⟩ : ∃ I : Nat → St → Prop, I = (fun i st => i ≤ O.length ∧ ∃ e L, st = ⟨e, L, []⟩ ∧ look e 5 = some (bv true) ∧ look e 7 = some (.tr t0) ∧ look e 9 = some (.tr t0') ∧ look e 11 = some (nv .i64 i)) := ⟨_, rfl⟩
    refine wpc_up O.length I ?_ ?_
    · rw [hI]
      exact ⟨Nat.zero_le _, _, _, rfl, by simp [g5], by simp, by simp, by simp⟩
    intro i st hIs
    rw [hI] at hIs
    obtain ⟨hi, e, L, rfl, g5, g7, g9, g11⟩ := hIs
    by_cases hil : i < O.length
    · obtain ⟨y, hy⟩ : ∃ y, O[i]? = some y := ⟨_, List.getElem?_eq_getElem hil⟩
      have hyT : (O.map nT)[i]? = some (nT y) := by rw [List.getElem?_map, hy]; rfl
      have hia1 := fun σ => rw_iaddr (σ := σ) r1 hyT .i64
      have hia2 := fun σ => rw_iaddr (σ := σ) r2 hyT .i64
      have hld := fun σ => rw_load (σ := σ) hyT
      have w1 : IntKind.i64.wrap ((i : Int) + 1) = ((i + 1 : Nat) : Int) := w64 (by omega) (by omega)
      simp [k4_11, g11, g7, hl1, hil, k4_13, g9, hia1, hia2, hld, k4_16, w1, -Int.natCast_add]
      rw [hI]
      exact ⟨by omega, _, _, rfl, by simp [g5], by simp [g7], by simp [g9], by simp⟩
    · simp [k4_11, g11, g7, hl1, hil, k4_17, g5]
  obtain ⟨k0, hk0⟩ : ∃ k, k = vs.length := ⟨_, rfl⟩
  rw [← hk0] at hvl
  by_cases h16 : 16 < k0
  · have h16' : (16 : Int) < k0 := by omega
    obtain ⟨t', hc, hr⟩ := rw_cut_hi hv (n := 16) (by simp; omega) .i64
    have hc' : ∀ σ, opSlice 1 (.tr vt) none (some (.tr (.sc (.int .i64 16)))) none σ = some (.tr t') := hc
    rw [← List.map_take] at hr
    simp [e10, hvl, h16, h16', hc']
    exact tail _ _ (vs.take 16) t' hr (by rw [List.length_take]; omega) (by simp) (by simp) (by simp)
  · have h16' : ¬ (16 : Int) < k0 := by omega
    simp [e10, hvl, h16, h16']
    exact tail _ _ vs vt hv (by omega) (by simp) (by simp) (by simp)
end Go.Proofs.Ytknoiiacnfbkaaa.AM.Io
