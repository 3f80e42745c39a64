/- ImportsOrder: part 32. -/
import Derived.Test.YtknoiiacnfbkaaaIo31
set_option maxRecDepth 1000000
set_option linter.unusedVariables false
set_option linter.unusedSimpArgs false
namespace Go.Proofs.Ytknoiiacnfbkaaa.AM.Io
open Go.Proofs

/-- Lists of texts, as trees. -/
def LsS (ds : List (List S)) (ts : List Tree) : Prop := ts.length = ds.length ∧ ∀ (i : Nat) (x : Tree) (l : List S), ts[i]? = some x → ds[i]? = some l → Rw (l.map sT) (.tr x)
theorem LsS.at {ds : List (List S)} {ts : List Tree} (h : LsS ds ts) {i : Nat} {l : List S} (hl : ds[i]? = some l) : ∃ x, ts[i]? = some x ∧ Rw (l.map sT) (.tr x) := by
  have hlt := (List.getElem?_eq_some_iff.1 hl).1
  have hlt' : i < ts.length := by rw [h.1]; exact hlt
  have hx : ts[i]? = some ts[i] := List.getElem?_eq_getElem hlt'
  exact ⟨_, hx, h.2 i _ l hx hl⟩
theorem LsS.ones {ds : List (List S)} {ts : List Tree} (h : LsS ds ts) : ones ts := by
  intro t ht
  obtain ⟨i, hi⟩ := List.getElem?_of_mem ht
  have hlt := (List.getElem?_eq_some_iff.1 hi).1
  have hlt' : i < ds.length := by rw [← h.1]; exact hlt
  have hd : ds[i]? = some ds[i] := List.getElem?_eq_getElem hlt'
  exact rw_one (h.2 i t _ hi hd)
def depS (ds : List (List S)) (i : Nat) : List S := (ds[i]?).getD []
/-- Each path once, with where it stands first. -/
def prs (paths : List S) : Nat → List (S × Nat)
  | 0 => []
  | i + 1 => match paths[i]? with
    | some p => if p ∈ (prs paths i).map Prod.fst then prs paths i else prs paths i ++ [(p, i)]
    | none => prs paths i
theorem prs_some {paths : List S} {i : Nat} {p : S} (h : paths[i]? = some p) : prs paths (i + 1) = if p ∈ (prs paths i).map Prod.fst then prs paths i else prs paths i ++ [(p, i)] := by
  rw [prs, h]
theorem prs_len (paths : List S) : ∀ i, (prs paths i).length ≤ i
  | 0 => by simp [prs]
  | i + 1 => by
    have := prs_len paths i
    rw [prs]
    split
    · split
      · omega
      · simp; omega
    · omega
theorem prs_nd (paths : List S) : ∀ i, ((prs paths i).map Prod.fst).Nodup
  | 0 => by simp [prs]
  | i + 1 => by
    have ih := prs_nd paths i
    rw [prs]
    split
    · rename_i p _
      split
      · exact ih
      · rename_i h
        rw [List.map_append, List.nodup_append]
        refine ⟨ih, by simp, fun a ha b hb => ?_⟩
        simp at hb
        subst hb
        rintro rfl
        exact h ha
    · exact ih

/-- What is needed, as it is laid. -/
def Needs (ds : List (List S)) (N : List (S × Nat)) (nts : List Tree) : Prop := nts.length = N.length ∧ ∀ (j : Nat) (x : Tree) (p : S × Nat), nts[j]? = some x → N[j]? = some p → Rw ((depS ds p.2).map sT) (.tr x)
theorem Needs.ones {ds : List (List S)} {N : List (S × Nat)} {nts : List Tree} (h : Needs ds N nts) : ones nts := by
  intro t ht
  obtain ⟨i, hi⟩ := List.getElem?_of_mem ht
  have hlt := (List.getElem?_eq_some_iff.1 hi).1
  have hlt' : i < N.length := by rw [← h.1]; exact hlt
  have hd : N[i]? = some N[i] := List.getElem?_eq_getElem hlt'
  exact rw_one (h.2 i t _ hi hd)

theorem rimp_names {paths : List S} {pt dt : Tree} {ds : List (List S)} {ts : List Tree} {e L : List (Nat × V)} {Q : Out → St → Prop}
    (hp : Rw (paths.map sT) (.tr pt)) (hpl : paths.length ≤ 12) (hd : Rw ts (.tr dt)) (hL : LsS ds ts)
    (g0 : look e 0 = some (.tr pt)) (g1 : look e 1 = some (.tr dt)) (g6 : look e 6 = some nilSl) (g7 : look e 7 = some nilSl) (g8 : look e 8 = some (iv 0))
    (hQ : ∀ e' L' σ r6 r7 w6 w7 nts, Root r6 ((prs paths paths.length).map fun p => sT p.1) w6 σ → Root r7 nts w7 σ → Needs ds (prs paths paths.length) nts → (∀ i ∈ r6, i ∉ r7) → look e' 6 = some w6 → look e' 7 = some w7 → Q (.exit 0) ⟨e', L', σ⟩) :
    Wp T (.loop k8_4) ⟨e, L, []⟩ Q := by
  have hlen0 : ∀ σ, opLen 1 (.tr pt) σ = some (nv .i64 paths.length) := fun σ => by rw [rw_len hp, List.length_map]
  have hlen1 : ∀ σ, opLen 1 (.tr dt) σ = some (nv .i64 ds.length) := fun σ => by rw [rw_len hd, hL.1]
  obtain ⟨I, hI⟩ : ∃ I : Nat → St → Prop, I = (fun i s => i ≤ paths.length ∧ ∃ e L σ r6 r7 w6 w7 nts, s = ⟨e, L, σ⟩ ∧ Root r6 ((prs paths i).map fun p => sT p.1) w6 σ ∧ Root r7 nts w7 σ ∧ Needs ds (prs paths i) nts ∧ (∀ i ∈ r6, i ∉ r7)
    ∧ look e 0 = some (.tr pt) ∧ look e 1 = some (.tr dt) ∧ look e 6 = some w6 ∧ look e 7 = some w7 ∧ look e 8 = some (nv .i64 i)) := ⟨_, rfl⟩
  refine wpc_up paths.length I ?_ ?_
  · rw [hI]
    exact ⟨Nat.zero_le _, e, L, [], [], [], nilSl, nilSl, [], rfl, Root.nil _, Root.nil _, ⟨rfl, fun j x p h => by simp at h⟩, by simp, g0, g1, g6, g7, g8⟩
  clear g0 g1 g6 g7 g8
  intro i s hIs
  rw [hI] at hIs
  obtain ⟨hi, e, L, σ, r6, r7, w6, w7, nts, rfl, h6, h7, hN, hdis, g0, g1, g6, g7, g8⟩ := hIs
  by_cases hil : i < paths.length
  · obtain ⟨p, hpp⟩ : ∃ p, paths[i]? = some p := ⟨_, List.getElem?_eq_getElem hil⟩
    have hpT : (paths.map sT)[i]? = some (sT p) := by rw [List.getElem?_map, hpp]; rfl
    have hia := fun σ => rw_iaddr (σ := σ) hp hpT .i64
    have hld := fun σ => rw_load (σ := σ) hpT
    have w1 : IntKind.i64.wrap ((i : Int) + 1) = ((i + 1 : Nat) : Int) := w64 (by omega) (by omega)
    have hlp := prs_len paths i
    have hmm : ((prs paths i).map fun p => sT p.1) = ((prs paths i).map Prod.fst).map sT := by rw [List.map_map]; rfl
    have hgx : Gx [] (((prs paths i).map Prod.fst).map sT) w6 σ := by
      rw [← hmm]
      rcases h6 with ⟨_, h1, h2⟩ | ⟨id, _, h1, h2⟩
      · exact .inl ⟨h1, h2⟩
      · exact .inr ⟨id, by simp, h1, h2⟩
    obtain ⟨k, hk, hkm⟩ := among_gx hgx (by simp; omega) p
    have hps := prs_some hpp
    by_cases hin : p ∈ (prs paths i).map Prod.fst
    · rw [if_pos hin] at hps
      have hk0 : 0 ≤ k := hkm.2 hin
      simp [k8_4, g8, g0, hlen0, hil, k8_6, g6, hia, hld, hk, hk0, k8_13, w1, -Int.natCast_add]
      rw [hI]
      exact ⟨by omega, _, _, σ, r6, r7, w6, w7, nts, rfl, by rw [hps]; exact h6, h7, by rw [hps]; exact hN, hdis, by simp [g0], by simp [g1], by simp [g6], by simp [g7], by simp⟩
    · rw [if_neg hin] at hps
      have hk0 : ¬ 0 ≤ k := fun h => hin (hkm.1 h)
      have hone6 : ones ((prs paths i).map fun p => sT p.1) := by rw [hmm]; exact ones_sT _
      obtain ⟨r6', w6', σ1, a1, a2, a3, a4, a5⟩ := root_app (t := sT p) (b := 16) h6 rfl hone6 (by omega) (by simp; omega) (some 1)
      have hbs := fun σ => bs1 (σ := σ) (t := sT p) (.sc (.string ⟨⟨[]⟩⟩)) rfl
      have h7' : Root r7 nts w7 σ1 := h7.keep (fun j hj => a4 j (fun h => hdis j h hj) (h7.lt j hj))
      have step : ∀ (x : Tree), Rw ((depS ds i).map sT) (.tr x) → ∃ r7' w7' σ2, opAppend 1 24 w7 (.tr (.row [x] 1 (some 1))) σ1 = some (w7', σ2) ∧ Root r6' ((prs paths (i + 1)).map fun p => sT p.1) w6' σ2 ∧ Root r7' (nts ++ [x]) w7' σ2 ∧ Needs ds (prs paths (i + 1)) (nts ++ [x]) ∧ (∀ i ∈ r6', i ∉ r7') := by
        intro x hx
        obtain ⟨r7', w7', σ2, b1, b2, b3, b4, b5⟩ := root_app (t := x) (b := 24) h7' (rw_one hx) hN.ones (by omega) (by rw [hN.1]; omega) (some 1)
        have hd1 : ∀ j ∈ r6', j ∉ r7 := by
          intro j hj hj7
          rcases a3 with rfl | rfl
          · exact hdis j hj hj7
          · simp at hj
            have := h7.lt j hj7
            omega
        refine ⟨r7', w7', σ2, b1, ?_, b2, ?_, ?_⟩
        · rw [hps, List.map_append]
          exact a2.keep (fun j hj => b4 j (hd1 j hj) (a2.lt j hj))
        · rw [hps]
          refine ⟨by simp [hN.1], fun j y q hy hq => ?_⟩
          by_cases hj : j < nts.length
          · rw [List.getElem?_append_left hj] at hy
            rw [List.getElem?_append_left (by rw [← hN.1]; exact hj)] at hq
            exact hN.2 j y q hy hq
          · have hj2 : j = nts.length := by
              have := (List.getElem?_eq_some_iff.1 hy).1
              simp at this; omega
            subst hj2
            rw [List.getElem?_append_right (by omega)] at hy
            rw [List.getElem?_append_right (by rw [← hN.1]; omega), ← hN.1] at hq
            simp at hy hq
            subst hy
            subst hq
            exact hx
        · intro j hj
          rcases b3 with rfl | rfl
          · exact hd1 j hj
          · simp
            have := a2.lt j hj
            omega
      by_cases hdl : i < ds.length
      · have hdi : ds[i]? = some ds[i] := List.getElem?_eq_getElem hdl
        obtain ⟨x, hx, hxl⟩ := hL.at hdi
        have hia1 := fun σ => rw_iaddr (σ := σ) hd hx .i64
        have hld1 := fun σ => rw_load (σ := σ) hx
        have hdep : depS ds i = ds[i] := by unfold depS; rw [hdi]; rfl
        obtain ⟨r7', w7', σ2, b1, b2, b3, b4, b5⟩ := step x (by rw [hdep]; exact hxl)
        have hbs2 := fun σ => bs1 (σ := σ) (t := x) (.sc (.slice none 0 0)) (rw_one hxl)
        simp [k8_4, g8, g0, hlen0, hil, k8_6, g6, hia, hld, hk, hk0, k8_8, hbs, a1, g1, hlen1, hdl, hia1, hld1, k8_12, g7, hbs2, b1, k8_13, w1, -Int.natCast_add]
        rw [hI]
        exact ⟨by omega, _, _, σ2, r6', r7', w6', w7', _, rfl, b2, b3, b4, b5, by simp [g0], by simp [g1], by simp, by simp, by simp⟩
      · have hdep : depS ds i = [] := by unfold depS; rw [List.getElem?_eq_none (by omega)]; rfl
        obtain ⟨r7', w7', σ2, b1, b2, b3, b4, b5⟩ := step (.sc (.slice none 0 0)) (by rw [hdep]; exact .inl ⟨rfl, rfl⟩)
        have hbs2 := fun σ => bs1 (σ := σ) (t := .sc (.slice none 0 0)) (.sc (.slice none 0 0)) rfl
        simp [k8_4, g8, g0, hlen0, hil, k8_6, g6, hia, hld, hk, hk0, k8_8, hbs, a1, g1, hlen1, hdl, k8_12, g7, hbs2, b1, k8_13, w1, -Int.natCast_add]
        rw [hI]
        exact ⟨by omega, _, _, σ2, r6', r7', w6', w7', _, rfl, b2, b3, b4, b5, by simp [g0], by simp [g1], by simp, by simp, by simp⟩
  · have hie : i = paths.length := by omega
    subst hie
    simp [k8_4, g8, g0, hlen0]
    exact hQ _ _ σ r6 r7 w6 w7 nts h6 h7 hN hdis (by simp [g6]) (by simp [g7])
end Go.Proofs.Ytknoiiacnfbkaaa.AM.Io
