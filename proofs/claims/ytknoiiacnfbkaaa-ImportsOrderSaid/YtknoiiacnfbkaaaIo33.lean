/- ImportsOrder: part 33. -/
import Derived.Test.YtknoiiacnfbkaaaIo32
set_option maxRecDepth 1000000
set_option linter.unusedVariables false
set_option linter.unusedSimpArgs false
namespace Go.Proofs.Ytknoiiacnfbkaaa.AM.Io
open Go.Proofs

def RdyI (ds : List (List S)) (O : List S) (i : Nat) : Prop := ∀ d ∈ depS ds i, d ∈ O
/-- The one that comes next. -/
def StpI (N : List (S × Nat)) (ds : List (List S)) (O : List S) (x : S) : Prop := (∃ i, (x, i) ∈ N ∧ RdyI ds O i) ∧ x ∉ O ∧ ∀ y j, (y, j) ∈ N → y ∉ O → RdyI ds O j → ¬ lt y x
theorem stpI_func {N : List (S × Nat)} {ds : List (List S)} {O : List S} {x y : S} (hx : StpI N ds O x) (hy : StpI N ds O y) : x = y := by
  obtain ⟨⟨i, hi1, hi2⟩, hxO, hx3⟩ := hx
  obtain ⟨⟨j, hj1, hj2⟩, hyO, hy3⟩ := hy
  exact lt_tri (hy3 x i hi1 hxO hi2) (hx3 y j hj1 hyO hj2)
/-- An order and the rest. -/
def ImpR (N : List (S × Nat)) (ds : List (List S)) (t : Tree) : Prop := ∃ (O R : List S) (tO tR : Tree), DoneOk (StpI N ds) O ∧ O.length ≤ N.length ∧ R.length ≤ N.length ∧ Rw (O.map sT) (.tr tO) ∧ R.Pairwise lt ∧ (∀ x, x ∈ R ↔ x ∈ N.map Prod.fst ∧ x ∉ O) ∧ Rw (R.map sT) (.tr tR) ∧ t = .tup [tO, tR]
theorem chainI {N : List (S × Nat)} {ds : List (List S)} {O : List S} (h : ChainOk (StpI N ds) O) : O.Nodup ∧ (∀ x ∈ O, x ∈ N.map Prod.fst) := by
  constructor
  · unfold List.Nodup
    rw [List.pairwise_iff_getElem]
    intro i j hi hj hij e
    have hy : O[j]? = some O[j] := List.getElem?_eq_getElem hj
    apply (h j _ hy).2.1
    rw [List.mem_take_iff_getElem]
    exact ⟨i, by omega, e⟩
  · intro x hx
    obtain ⟨j, hj⟩ := List.getElem?_of_mem hx
    obtain ⟨i, hi, _⟩ := (h j x hj).1
    exact List.mem_map.2 ⟨_, hi, rfl⟩
theorem subS_len {α : Type} [BEq α] [LawfulBEq α] {V O : List α} (nd : V.Nodup) (hs : ∀ x ∈ V, x ∈ O) : V.length ≤ O.length := by
  induction V generalizing O with
  | nil => simp
  | cons a V ih =>
    obtain ⟨h1, h2⟩ := List.nodup_cons.1 nd
    have ha := hs a (by simp)
    have h3 := ih h2 (O := O.erase a) (fun x hx => by
      have hxa : x ≠ a := by rintro rfl; exact h1 hx
      exact (List.mem_erase_of_ne hxa).2 (hs x (by simp [hx])))
    have hp := List.length_pos_of_mem ha
    rw [List.length_erase_of_mem ha] at h3
    simp
    omega
theorem chainI_len {N : List (S × Nat)} {ds : List (List S)} {O : List S} (h : ChainOk (StpI N ds) O) : O.length ≤ N.length := by
  obtain ⟨h1, h2⟩ := chainI h
  have := subS_len h1 h2
  simpa using this

section
variable {N : List (S × Nat)} {ds : List (List S)} {O : List S} {σ : Store} {w6 w7 w10 : V} {r6 r7 r10 : List Nat} {nts : List Tree}

theorem gx_of_root {r : List Nat} {td : List Tree} {w : V} (h : Root r td w σ) : Gx [] td w σ := by
  rcases h with ⟨_, h1, h2⟩ | ⟨id, _, h1, h2⟩
  · exact .inl ⟨h1, h2⟩
  · exact .inr ⟨id, by simp, h1, h2⟩

theorem rdyI_loop {e L : List (Nat × V)} {x : Tree} {l : List S} {i : Nat} {bst : Int} {Q : Out → St → Prop}
    (h10 : Root r10 (O.map sT) w10 σ) (hO : O.length ≤ 100) (h7 : Root r7 nts w7 σ) (hx : nts[i]? = some x) (hxl : Rw (l.map sT) (.tr x)) (hll : l.length ≤ 1000)
    (g6 : look e 6 = some w6) (g7 : look e 7 = some w7) (g10 : look e 10 = some w10) (g11 : look e 11 = some (iv bst)) (g12 : look e 12 = some (nv .i64 i)) (g13 : look e 13 = some (bv true)) (g14 : look e 14 = some (iv 0))
    (hQ : ∀ e' L' (b : Bool), (b = true ↔ ∀ d ∈ l, d ∈ O) → look e' 6 = some w6 → look e' 7 = some w7 → look e' 10 = some w10 → look e' 11 = some (iv bst) → look e' 12 = some (nv .i64 i) → look e' 13 = some (bv b) → Q (.exit 6) ⟨e', L', σ⟩) :
    Wp T (.loop k8_26) ⟨e, L, σ⟩ Q := by
  obtain ⟨p7, hp1, hp2⟩ := h7.load hx .i64
  have hlx : ∀ σ, opLen 1 (.tr x) σ = some (nv .i64 l.length) := fun σ => by rw [rw_len hxl, List.length_map]
  obtain ⟨I, hI⟩ : ∃ I : Nat → St → Prop, I = (fun k st => k ≤ l.length ∧ ∃ e L, ∃ b : Bool, st = ⟨e, L, σ⟩ ∧ (b = true → ∀ d ∈ l.take k, d ∈ O) ∧ (b = false → ∃ d ∈ l, d ∉ O)
    ∧ look e 6 = some w6 ∧ look e 7 = some w7 ∧ look e 10 = some w10 ∧ look e 11 = some (iv bst) ∧ look e 12 = some (nv .i64 i) ∧ look e 13 = some (bv b) ∧ look e 14 = some (nv .i64 k)) := ⟨_, rfl⟩
  refine wpc_up l.length I ?_ ?_
  · rw [hI]
    exact ⟨Nat.zero_le _, e, L, true, rfl, fun _ d hd => by simp at hd, (fun h => by cases h), g6, g7, g10, g11, g12, g13, g14⟩
  clear g6 g7 g10 g11 g12 g13 g14
  intro k st hIs
  rw [hI] at hIs
  obtain ⟨hk, e, L, b, rfl, hb1, hb0, g6, g7, g10, g11, g12, g13, g14⟩ := hIs
  by_cases hgo : k < l.length ∧ b = true
  · obtain ⟨hkn, rfl⟩ := hgo
    have w1 : IntKind.i64.wrap ((k : Int) + 1) = ((k + 1 : Nat) : Int) := w64 (by omega) (by omega)
    obtain ⟨d, hd⟩ : ∃ b, l[k]? = some b := ⟨_, List.getElem?_eq_getElem hkn⟩
    have hdT : (l.map sT)[k]? = some (sT d) := by rw [List.getElem?_map, hd]; rfl
    have hia := fun σ => rw_iaddr (σ := σ) hxl hdT .i64
    have hld := fun σ => rw_load (σ := σ) hdT
    obtain ⟨q, hq, hqm⟩ := among_gx (gx_of_root h10) (by omega) d
    simp [k8_26, g14, g7, g12, hp1, hp2, hlx, hkn, g13, k8_28, g10, hia, hld, hq, w1, -Int.natCast_add]
    rw [hI]
    refine ⟨by omega, _, _, decide (0 ≤ q), rfl, fun hb z hz => ?_, fun hb => ⟨d, List.mem_of_getElem? hd, fun h => ?_⟩, by simp [g6], by simp [g7], by simp [g10], by simp [g11], by simp [g12], by simp, by simp⟩
    · rw [List.take_add_one, hd] at hz
      rcases List.mem_append.1 hz with h | h
      · exact hb1 rfl z h
      · simp at h
        subst h
        exact hqm.1 (by simpa using hb)
    · have := hqm.2 h
      simp at hb
      omega
  · have fin : (b = true ↔ ∀ d ∈ l, d ∈ O) := by
      cases b with
      | true =>
        have hkn : k = l.length := by
          rcases Nat.lt_or_ge k l.length with h | h
          · exact absurd ⟨h, rfl⟩ hgo
          · omega
        refine ⟨fun _ d hd => hb1 rfl d (by rw [hkn, List.take_of_length_le (Nat.le_refl _)]; exact hd), fun _ => rfl⟩
      | false =>
        obtain ⟨d, h1, h2⟩ := hb0 rfl
        exact ⟨fun h => (by cases h), fun h => absurd (h d h1) h2⟩
    by_cases hkn : k < l.length
    · have hb : b = false := by
        cases b with
        | true => exact absurd ⟨hkn, rfl⟩ hgo
        | false => rfl
      subst hb
      simp [k8_26, g14, g7, g12, hp1, hp2, hlx, hkn, g13]
      exact hQ _ _ false fin (by simp [g6]) (by simp [g7]) (by simp [g10]) (by simp [g11]) (by simp [g12]) (by simp [g13])
    · simp [k8_26, g14, g7, g12, hp1, hp2, hlx, hkn]
      exact hQ _ _ b fin (by simp [g6]) (by simp [g7]) (by simp [g10]) (by simp [g11]) (by simp [g12]) (by simp [g13])

/-- The best one so far. -/
def Bst (N : List (S × Nat)) (ds : List (List S)) (O : List S) (i : Nat) (b : Int) : Prop := (b = -1 ∧ ∀ j y q, j < i → N[j]? = some (y, q) → y ∉ O → ¬ RdyI ds O q) ∨ ∃ k : Nat, ∃ y q, b = k ∧ k < i ∧ N[k]? = some (y, q) ∧ y ∉ O ∧ RdyI ds O q ∧ ∀ j y' q', j < i → N[j]? = some (y', q') → y' ∉ O → RdyI ds O q' → ¬ lt y' y
theorem best_loop {e L : List (Nat × V)} {Q : Out → St → Prop}
    (hNl : N.length ≤ 12) (h6 : Root r6 (N.map fun p => sT p.1) w6 σ) (h7 : Root r7 nts w7 σ) (hN : Needs ds N nts) (h10 : Root r10 (O.map sT) w10 σ) (hO : O.length ≤ 100) (hdl : ∀ i, (depS ds i).length ≤ 1000)
    (g6 : look e 6 = some w6) (g7 : look e 7 = some w7) (g10 : look e 10 = some w10) (g11 : look e 11 = some (iv (-1))) (g12 : look e 12 = some (iv 0))
    (hQ : ∀ e' L' b, Bst N ds O N.length b → look e' 6 = some w6 → look e' 7 = some w7 → look e' 10 = some w10 → look e' 11 = some (iv b) → Q (.exit 4) ⟨e', L', σ⟩) :
    Wp T (.loop k8_19) ⟨e, L, σ⟩ Q := by
  have hl6 := fun σ' => h6.len (σ' := σ')
  rw [List.length_map] at hl6
  obtain ⟨I, hI⟩ : ∃ I : Nat → St → Prop, I = (fun i st => i ≤ N.length ∧ ∃ e L, ∃ b : Int, st = ⟨e, L, σ⟩ ∧ Bst N ds O i b
    ∧ look e 6 = some w6 ∧ look e 7 = some w7 ∧ look e 10 = some w10 ∧ look e 11 = some (iv b) ∧ look e 12 = some (nv .i64 i)) := ⟨_, rfl⟩
  refine wpc_up N.length I ?_ ?_
  · rw [hI]
    exact ⟨Nat.zero_le _, e, L, -1, rfl, .inl ⟨rfl, fun j y q hj => by omega⟩, g6, g7, g10, g11, g12⟩
  clear g6 g7 g10 g11 g12
  intro i st hIs
  rw [hI] at hIs
  obtain ⟨hi, e, L, b, rfl, hb, g6, g7, g10, g11, g12⟩ := hIs
  by_cases hil : i < N.length
  · have w1 : IntKind.i64.wrap ((i : Int) + 1) = ((i + 1 : Nat) : Int) := w64 (by omega) (by omega)
    obtain ⟨⟨y, q⟩, hy⟩ : ∃ p, N[i]? = some p := ⟨_, List.getElem?_eq_getElem hil⟩
    have hyT : (N.map fun p => sT p.1)[i]? = some (sT y) := by rw [List.getElem?_map, hy]; rfl
    obtain ⟨p6, hp1, hp2⟩ := h6.load hyT .i64
    obtain ⟨k, hk, hkm⟩ := among_gx (gx_of_root h10) (by omega) y
    have keep : (y ∈ O ∨ ¬ RdyI ds O q) → Bst N ds O (i + 1) b := by
      intro h
      rcases hb with ⟨h1, h2⟩ | ⟨m, y', q', h1, h2, h3, h4, h5, h6⟩
      · refine .inl ⟨h1, fun j z r hj hz hzO => ?_⟩
        by_cases hji : j = i
        · subst hji
          rw [hy] at hz
          cases hz
          rcases h with h | h
          · exact absurd h hzO
          · exact h
        · exact h2 j z r (by omega) hz hzO
      · refine .inr ⟨m, y', q', h1, by omega, h3, h4, h5, fun j z r hj hz hzO hr => ?_⟩
        by_cases hji : j = i
        · subst hji
          rw [hy] at hz
          cases hz
          rcases h with h | h
          · exact absurd h hzO
          · exact absurd hr h
        · exact h6 j z r (by omega) hz hzO hr
    have next : ∀ e' L' (b' : Int), Bst N ds O (i + 1) b' → look e' 6 = some w6 → look e' 7 = some w7 → look e' 10 = some w10 → look e' 11 = some (iv b') → look e' 12 = some (nv .i64 (i + 1)) → I (i + 1) ⟨e', L', σ⟩ := by
      intro e' L' b' hb' f6 f7 f10 f11 f12
      rw [hI]
      exact ⟨by omega, e', L', b', rfl, hb', f6, f7, f10, f11, f12⟩
    by_cases hyO : y ∈ O
    · have hk0 : 0 ≤ k := hkm.2 hyO
      simp [k8_19, g12, g6, hl6, hil, k8_21, g10, hp1, hp2, hk, hk0, k8_31, w1, -Int.natCast_add]
      exact next _ _ b (keep (.inl hyO)) (by simp [g6]) (by simp [g7]) (by simp [g10]) (by simp [g11]) (by simp)
    · have hk0 : ¬ 0 ≤ k := fun h => hyO (hkm.1 h)
      have hil7 : i < nts.length := by rw [hN.1]; exact hil
      have hx : nts[i]? = some nts[i] := List.getElem?_eq_getElem hil7
      have hxl := hN.2 i _ _ hx hy
      simp [k8_19, g12, g6, hl6, hil, k8_21, g10, hp1, hp2, hk, hk0, k8_23]
      refine rdyI_loop (O := O) (w6 := w6) (w7 := w7) (w10 := w10) (bst := b) (i := i) h10 hO h7 hx hxl (hdl q) (by simp [g6]) (by simp [g7]) (by simp [g10]) (by simp [g11]) (by simp [g12]) (by simp) (by simp) ?_
      intro e' L' bb hbb f6 f7 f10 f11 f12 f13
      cases bb with
      | false =>
        have hnr : ¬ RdyI ds O q := fun h => by have := hbb.2 h; cases this
        simp [k8_29, f13, f11, f12, f6, k8_31, w1, -Int.natCast_add]
        exact next _ _ b (keep (.inr hnr)) (by simp [f6]) (by simp [f7]) (by simp [f10]) (by simp [f11]) (by simp)
      | true =>
        have hr : RdyI ds O q := hbb.1 rfl
        rcases hb with ⟨rfl, h2⟩ | ⟨m, y', q', rfl, h2, h3, h4, h5, h6'⟩
        · have hm1 : (-1 : Int) < 0 := by omega
          simp [k8_29, f13, f11, f12, f6, k8_31, w1, -Int.natCast_add]
          refine next _ _ i (.inr ⟨i, y, q, rfl, by omega, hy, hyO, hr, fun j z r hj hz hzO hr' => ?_⟩) (by simp [f6]) (by simp [f7]) (by simp [f10]) (by simp) (by simp)
          by_cases hji : j = i
          · subst hji
            rw [hy] at hz
            cases hz
            exact fun h => lt_asym h h
          · exact absurd hr' (h2 j z r (by omega) hz hzO)
        · have hm0 : ¬ (m : Int) < 0 := by omega
          have hmT : (N.map fun p => sT p.1)[m]? = some (sT y') := by rw [List.getElem?_map, h3]; rfl
          obtain ⟨pm, hm1, hm2⟩ := h6.load hmT .i64
          have hlt := slt_ y y'
          cases hc : bytesLt y y' with
          | true =>
            rw [hc] at hlt
            simp [k8_29, f13, f11, hm0, f12, f6, hp1, hp2, hm1, hm2, hlt, k8_31, w1, -Int.natCast_add]
            refine next _ _ i (.inr ⟨i, y, q, rfl, by omega, hy, hyO, hr, fun j z r hj hz hzO hr' => ?_⟩) (by simp [f6]) (by simp [f7]) (by simp [f10]) (by simp) (by simp)
            by_cases hji : j = i
            · subst hji
              rw [hy] at hz
              cases hz
              exact fun h => lt_asym h h
            · intro hzy
              exact h6' j z r (by omega) hz hzO hr' (lt_trans hzy hc)
          | false =>
            rw [hc] at hlt
            simp [k8_29, f13, f11, hm0, f12, f6, hp1, hp2, hm1, hm2, hlt, k8_31, w1, -Int.natCast_add]
            refine next _ _ m (.inr ⟨m, y', q', rfl, by omega, h3, h4, h5, fun j z r hj hz hzO hr' => ?_⟩) (by simp [f6]) (by simp [f7]) (by simp [f10]) (by simp [f11]) (by simp)
            by_cases hji : j = i
            · subst hji
              rw [hy] at hz
              cases hz
              intro h
              unfold lt at h
              rw [hc] at h; cases h
            · exact h6' j z r (by omega) hz hzO hr'
  · have hie : i = N.length := by omega
    subst hie
    simp [k8_19, g12, g6, hl6]
    exact hQ _ _ b hb (by simp [g6]) (by simp [g7]) (by simp [g10]) (by simp [g11])
end
end Go.Proofs.Ytknoiiacnfbkaaa.AM.Io
