/- ImportsOrder: part 10. -/
import Derived.Test.YtknoiiacnfbkaaaIo7
set_option maxRecDepth 1000000
set_option linter.unusedVariables false
set_option linter.unusedSimpArgs false
namespace Go.Proofs.Ytknoiiacnfbkaaa.AM.Io
open Go.Proofs

/-- Those that are within n. -/
def inF (n : Nat) (l : List Int) : List Int := l.filter fun d => decide (0 ≤ d ∧ d < (n : Int))
theorem inF_take {n : Nat} {l : List Int} {i : Nat} {d : Int} (hi : l[i]? = some d) : inF n (l.take (i + 1)) = inF n (l.take i) ++ (if 0 ≤ d ∧ d < (n : Int) then [d] else []) := by
  unfold inF
  rw [List.take_add_one, hi, List.filter_append]
  congr 1
  by_cases h : 0 ≤ d ∧ d < (n : Int) <;> simp [h]
theorem inF_len {n : Nat} {l : List Int} : (inF n l).length ≤ l.length := List.length_filter_le _ _
theorem fl_inF {n : Nat} : ∀ l : List Int, fl n (inF n l) = fl n l
  | [] => rfl
  | d :: l => by
    have ih := fl_inF (n := n) l
    unfold inF fl at ih ⊢
    by_cases h : 0 ≤ d ∧ d < (n : Int)
    · simp only [List.filter_cons, decide_eq_true h, if_true, List.filterMap_cons, if_pos h, ih]
    · simp only [List.filter_cons, decide_eq_false h, Bool.false_eq_true, if_false, List.filterMap_cons, if_neg h, ih]

/-- The variables, as they are handed on. -/
abbrev varsT (vs : List Bool) (vt : Tree) : Prop := Rw (vs.map bT) (.tr vt)

theorem ord_inner {n : Nat} {vt x : Tree} {l : List Int} {B : List Nat} {e L : List (Nat × V)} {σ : Store} {w6 : V} {i : Nat} {td : Tree} {w7 : V} {Q : Out → St → Prop}
    (hB : ∀ i ∈ B, i < σ.length) (h0B : 0 ∈ B) (h0 : σ[0]? = some (.row [.tr vt] 0)) (hvl : ∀ σ, opLen 1 (.tr vt) σ = some (nv .i64 n)) (hn : n ≤ 1000) (hx : Rw (l.map iT) (.tr x)) (hl : l.length ≤ 1000)
    (g1 : look e 1 = some (.tr td)) (g2 : look e 2 = some (.ptr 0 0 0)) (g6 : look e 6 = some w6) (g8 : look e 8 = some nilSl) (g18 : look e 18 = some (nv .i64 n)) (g19 : look e 19 = some w7) (g29 : look e 29 = some (.tr x)) (g30 : look e 30 = some (nv .i64 l.length)) (g31 : look e 31 = some (iv 0))
    (hQ : ∀ e' L' σ' w8, Gx B ((inF n l).map iT) w8 σ' → (∀ i ∈ B, σ'[i]? = σ[i]?) → σ.length ≤ σ'.length → look e' 1 = some (.tr td) → look e' 2 = some (.ptr 0 0 0) → look e' 6 = some w6 → look e' 8 = some w8 → look e' 18 = some (nv .i64 n) → look e' 19 = some w7 → Q (.exit 2) ⟨e', L', σ'⟩) :
    Wp T (.loop k12_11) ⟨e, L, σ⟩ Q := by
  obtain ⟨I, hI⟩ : ∃ I : Nat → St → Prop, I = (fun i s => i ≤ l.length ∧ ∃ e L σ' w8, s = ⟨e, L, σ'⟩ ∧ Gx B ((inF n (l.take i)).map iT) w8 σ' ∧ (∀ i ∈ B, σ'[i]? = σ[i]?) ∧ σ.length ≤ σ'.length
    ∧ look e 1 = some (.tr td) ∧ look e 2 = some (.ptr 0 0 0) ∧ look e 6 = some w6 ∧ look e 8 = some w8 ∧ look e 18 = some (nv .i64 n) ∧ look e 19 = some w7 ∧ look e 29 = some (.tr x) ∧ look e 30 = some (nv .i64 l.length) ∧ look e 31 = some (nv .i64 i)) := ⟨_, rfl⟩
  refine wpc_up l.length I ?_ ?_
  · rw [hI]
    exact ⟨Nat.zero_le _, e, L, σ, nilSl, rfl, .inl ⟨by simp [inF], rfl⟩, fun _ _ => rfl, Nat.le_refl _, g1, g2, g6, g8, g18, g19, g29, g30, g31⟩
  clear g1 g2 g6 g8 g18 g19 g29 g30 g31
  intro i s hIs
  rw [hI] at hIs
  obtain ⟨hi, e, L, σ', w8, rfl, h8, hs, hsl, g1, g2, g6, g8, g18, g19, g29, g30, g31⟩ := hIs
  by_cases hil : i < l.length
  · have hil' : (i : Int) < l.length := by omega
    obtain ⟨d, hd⟩ : ∃ d, l[i]? = some d := ⟨_, List.getElem?_eq_getElem hil⟩
    have hdT : (l.map iT)[i]? = some (iT d) := by rw [List.getElem?_map, hd]; rfl
    have hia := fun σ => rw_iaddr (σ := σ) hx hdT .i64
    have hld := fun σ => rw_load (σ := σ) hdT
    have w1 : IntKind.i64.wrap ((i : Int) + 1) = ((i + 1 : Nat) : Int) := w64 (by omega) (by omega)
    have htk := inF_take (n := n) hd
    have h0' : σ'[0]? = some (.row [.tr vt] 0) := by rw [hs 0 h0B]; exact h0
    have hv0 : opLoad 1 false (.ptr 0 0 0) σ' = some (.tr vt) := by
      have := ownT_load (ts := [vt]) (σ := σ') (id := 0) (g := 0) (i := 0) (t := vt) h0' rfl
      exact this
    have next : ∀ e' L' σ2 w8', Gx B ((inF n (l.take (i + 1))).map iT) w8' σ2 → (∀ i ∈ B, σ2[i]? = σ[i]?) → σ.length ≤ σ2.length → look e' 1 = some (.tr td) → look e' 2 = some (.ptr 0 0 0) → look e' 6 = some w6 → look e' 8 = some w8' → look e' 18 = some (nv .i64 n) → look e' 19 = some w7 → look e' 29 = some (.tr x) → look e' 30 = some (nv .i64 l.length) → look e' 31 = some (nv .i64 (i + 1)) → I (i + 1) ⟨e', L', σ2⟩ := by
      intro e' L' σ2 w8' c8 c1 c2 f1 f2 f6 f8 f18 f19 f29 f30 f31
      rw [hI]
      exact ⟨by omega, e', L', σ2, w8', rfl, c8, c1, c2, f1, f2, f6, f8, f18, f19, f29, f30, f31⟩
    by_cases hin : 0 ≤ d ∧ d < (n : Int)
    · rw [if_pos hin] at htk
      have hlen2 : ((inF n (l.take i)).map iT).length ≤ 100000 := by
        have := inF_len (n := n) (l := l.take i)
        rw [List.length_take] at this
        simp; omega
      obtain ⟨w8', σ2, a1, a2, a3, a4⟩ := gx_app (t := iT d) (b := 8) h8 rfl (by intro t ht; obtain ⟨z, _, rfl⟩ := List.mem_map.1 ht; rfl) (by omega) hlen2 (some 1) (fun i hi => Nat.lt_of_lt_of_le (hB i hi) hsl)
      have hbs := fun σ => bs1 (σ := σ) (t := iT d) (.sc (.int .i64 0)) rfl
      simp [k12_11, g31, g30, hil, k12_13, g29, hia, hld, hin.1, g2, hv0, hvl, hin.2, g8, hbs, a1, k12_16, w1, -Int.natCast_add]
      exact next _ _ σ2 w8' (by rw [htk, List.map_append]; exact a2) (fun i hi => by rw [a3 i hi, hs i hi]) (Nat.le_trans hsl a4) (by simp [g1]) (by simp [g2]) (by simp [g6]) (by simp) (by simp [g18]) (by simp [g19]) (by simp [g29]) (by simp [g30]) (by simp)
    · rw [if_neg hin, List.append_nil] at htk
      by_cases hd0 : 0 ≤ d
      · have hdn : ¬ d < (n : Int) := by omega
        simp [k12_11, g31, g30, hil, k12_13, g29, hia, hld, hd0, g2, hv0, hvl, hdn, k12_16, w1, -Int.natCast_add]
        exact next _ _ σ' w8 (by rw [htk]; exact h8) hs hsl (by simp [g1]) (by simp [g2]) (by simp [g6]) (by simp [g8]) (by simp [g18]) (by simp [g19]) (by simp [g29]) (by simp [g30]) (by simp)
      · simp [k12_11, g31, g30, hil, k12_13, g29, hia, hld, hd0, k12_16, w1, -Int.natCast_add]
        exact next _ _ σ' w8 (by rw [htk]; exact h8) hs hsl (by simp [g1]) (by simp [g2]) (by simp [g6]) (by simp [g8]) (by simp [g18]) (by simp [g19]) (by simp [g29]) (by simp [g30]) (by simp)
  · have hie : i = l.length := by omega
    subst hie
    rw [List.take_of_length_le (Nat.le_refl _)] at h8
    simp [k12_11, g31, g30]
    exact hQ _ _ σ' w8 h8 hs hsl (by simp [g1]) (by simp [g2]) (by simp [g6]) (by simp [g8]) (by simp [g18]) (by simp [g19])
end Go.Proofs.Ytknoiiacnfbkaaa.AM.Io
