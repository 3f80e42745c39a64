/- ImportsOrder: part 17. -/
import Derived.Test.YtknoiiacnfbkaaaIo16
set_option maxRecDepth 1000000
set_option linter.unusedVariables false
set_option linter.unusedSimpArgs false
namespace Go.Proofs.Ytknoiiacnfbkaaa.AM.Io
open Go.Proofs

/-- How many of the first are variables. -/
def cnt (vs : List Bool) (i : Nat) : Nat := ((List.range i).filter fun j => vs[j]? == some true).length
theorem cnt_succ (vs : List Bool) (i : Nat) : cnt vs (i + 1) = cnt vs i + if vs[i]? = some true then 1 else 0 := by
  unfold cnt
  rw [List.range_succ, List.filter_append, List.length_append]
  congr 1
  by_cases h : vs[i]? = some true
  · simp [h]
  · simp [h]
theorem cnt_le (vs : List Bool) (i : Nat) : cnt vs i ≤ i := by
  unfold cnt
  have := List.length_filter_le (fun j => vs[j]? == some true) (List.range i)
  simpa using this
theorem sub_len {V O : List Nat} (nd : V.Nodup) (hs : ∀ x ∈ V, x ∈ O) : V.length ≤ O.length := by
  induction V generalizing O with
  | nil => simp
  | cons a V ih =>
    obtain ⟨h1, h2⟩ := List.nodup_cons.1 nd
    have ha := hs a (by simp)
    have h3 := ih h2 (O := O.erase a) (fun x hx => by
      have hxa : x ≠ a := by rintro rfl; exact h1 hx
      exact (List.mem_erase_of_ne hxa).2 (hs x (by simp [hx])))
    have hp := List.length_pos_of_mem ha
    rw [List.length_erase_of_mem ha] at h3
    simp
    omega
theorem least {R : Nat → Nat → Prop} (tr : ∀ a b c, R a b → R b c → R a c) : ∀ (U : List Nat), U ≠ [] → (∀ a ∈ U, ¬ R a a) → ∃ i ∈ U, ∀ d ∈ U, ¬ R i d
  | [], h, _ => absurd rfl h
  | [a], _, ir => ⟨a, by simp, fun d hd => by simp at hd; subst hd; exact ir _ (by simp)⟩
  | a :: b :: U, _, ir => by
    obtain ⟨i, h1, h2⟩ := least tr (b :: U) (by simp) (fun x hx => ir x (List.mem_cons_of_mem _ hx))
    by_cases h : R i a
    · refine ⟨a, by simp, fun d hd hr => ?_⟩
      rcases List.mem_cons.1 hd with rfl | hd
      · exact ir _ (by simp) hr
      · exact h2 d hd (tr _ _ _ h hr)
    · refine ⟨i, List.mem_cons_of_mem _ h1, fun d hd => ?_⟩
      rcases List.mem_cons.1 hd with rfl | hd
      · exact h
      · exact h2 d hd
theorem rdy_ex {vs : List Bool} {s : Nat → List Nat} {O : List Nat} {n : Nat} (hvn : vs.length = n) (hcy : ¬ Cyc vs s) (hlt : O.length < cnt vs n) : ∃ i, i < n ∧ Rdy vs s O i := by
  obtain ⟨U, hU⟩ : ∃ U, U = (List.range n).filter fun j => vs[j]? == some true && !decide (j ∈ O) := ⟨_, rfl⟩
  have hm : ∀ j, j ∈ U ↔ j < n ∧ vs[j]? = some true ∧ j ∉ O := by
    intro j
    rw [hU, List.mem_filter]
    simp
  have hne : U ≠ [] := by
    intro he
    have : cnt vs n ≤ O.length := by
      unfold cnt
      refine sub_len (List.nodup_range.filter _) (fun x hx => ?_)
      rw [List.mem_filter] at hx
      simp at hx
      rcases Classical.em (x ∈ O) with h | h
      · exact h
      · have := (hm x).2 ⟨hx.1, hx.2, h⟩
        rw [he] at this; simp at this
    omega
  obtain ⟨i, h1, h2⟩ := least (R := Rch s) (fun a b c => Rch.trans) U hne (fun a ha hr => hcy ⟨a, ((hm a).1 ha).2.1, hr⟩)
  obtain ⟨h3, h4, h5⟩ := (hm i).1 h1
  refine ⟨i, h3, h4, h5, fun d hd hvd => ?_⟩
  rcases Classical.em (d ∈ O) with h | h
  · exact h
  · exact absurd hd (h2 d ((hm d).2 ⟨by have := (List.getElem?_eq_some_iff.1 hvd).1; omega, hvd, h⟩))
theorem rdy_no {vs : List Bool} {s : Nat → List Nat} {O : List Nat} {n : Nat} (hvn : vs.length = n) (hch : ChainOk (Stp vs s) O) (hge : cnt vs n ≤ O.length) (p : Nat) : ¬ Rdy vs s O p := by
  intro h
  obtain ⟨nd, hv⟩ := chain_len hch
  have : (p :: O).length ≤ cnt vs n := by
    unfold cnt
    refine sub_len (List.nodup_cons.2 ⟨h.2.1, nd⟩) (fun x hx => ?_)
    rw [List.mem_filter]
    rcases List.mem_cons.1 hx with rfl | hx
    · have := (List.getElem?_eq_some_iff.1 h.1).1
      simp [h.1]; omega
    · have := hv x hx
      simp [this.2]; omega
  simp at this
  omega

/-- A row of what is reached. -/
def RB (n : Nat) (s : Nat → List Nat) (i : Nat) (t : Tree) : Prop := ∃ bs : List Bool, bs.length = n ∧ (∃ c, t = .row (bs.map bT) n c) ∧ ∀ x, bs[x]? = some true ↔ Rch s i x

section
variable {vs : List Bool} {vt : Tree} {n : Nat} {s : Nat → List Nat} {rts : List Tree} {σ : Store}

/-- Is one ready? -/
theorem rdy_loop {dn : List Bool} {O : List Nat} {i : Nat} {bs : List Bool} {c : Option Nat} {e L : List (Nat × V)} {w11 td : V} {m8 : Nat} {Q : Out → St → Prop}
    (hv : varsT vs vt) (hvn : vs.length = n) (hn : n ≤ 20) (hdn : dn.length = n) (hdk : Mk dn O) (h7 : σ[0]? = some (.row (rts.map .tr) 0)) (h10 : σ[1]? = some (.row ((dn.map bT).map .tr) 0)) (hin : i < n)
    (hri : rts[i]? = some (.row (bs.map bT) n c)) (hbl : bs.length = n) (hbm : ∀ x, bs[x]? = some true ↔ Rch s i x)
    (g0 : look e 0 = some (.tr vt)) (g1 : look e 1 = some td) (g6 : look e 6 = some (nv .i64 n)) (g7 : look e 7 = some (.own 0 0 0 n 1 (some n))) (g8 : look e 8 = some (nv .i64 m8)) (g10 : look e 10 = some (.own 1 0 0 n 1 (some n))) (g11 : look e 11 = some w11) (g12 : look e 12 = some (nv .i64 i)) (g13 : look e 13 = some (bv true)) (g14 : look e 14 = some (iv 0))
    (hQ : ∀ e' L' (b : Bool), (b = true ↔ ∀ d, Rch s i d → vs[d]? = some true → d ∈ O) → look e' 0 = some (.tr vt) → look e' 1 = some td → look e' 6 = some (nv .i64 n) → look e' 7 = some (.own 0 0 0 n 1 (some n)) → look e' 8 = some (nv .i64 m8) → look e' 10 = some (.own 1 0 0 n 1 (some n)) → look e' 11 = some w11 → look e' 12 = some (nv .i64 i) → look e' 13 = some (bv b) → Q (.exit 6) ⟨e', L', σ⟩) :
    Wp T (.loop k13_29) ⟨e, L, σ⟩ Q := by
  obtain ⟨I, hI⟩ : ∃ I : Nat → St → Prop, I = (fun k st => k ≤ n ∧ ∃ e L, ∃ b : Bool, st = ⟨e, L, σ⟩ ∧ (b = true → ∀ d, d < k → Rch s i d → vs[d]? = some true → d ∈ O) ∧ (b = false → ∃ d : Nat, Rch s i d ∧ vs[d]? = some true ∧ d ∉ O)
    ∧ look e 0 = some (.tr vt) ∧ look e 1 = some td ∧ look e 6 = some (nv .i64 n) ∧ look e 7 = some (.own 0 0 0 n 1 (some n)) ∧ look e 8 = some (nv .i64 m8) ∧ look e 10 = some (.own 1 0 0 n 1 (some n)) ∧ look e 11 = some w11 ∧ look e 12 = some (nv .i64 i) ∧ look e 13 = some (bv b) ∧ look e 14 = some (nv .i64 k)) := ⟨_, rfl⟩
  refine wpc_up n I ?_ ?_
  · rw [hI]
    exact ⟨Nat.zero_le _, e, L, true, rfl, fun _ d hd => by omega, (fun h => by cases h), g0, g1, g6, g7, g8, g10, g11, g12, g13, g14⟩
  clear g0 g1 g6 g7 g8 g10 g11 g12 g13 g14
  intro k st hIs
  rw [hI] at hIs
  obtain ⟨hk, e, L, b, rfl, hb1, hb0, g0, g1, g6, g7, g8, g10, g11, g12, g13, g14⟩ := hIs
  by_cases hgo : k < n ∧ b = true
  · obtain ⟨hkn, rfl⟩ := hgo
    have w1 : IntKind.i64.wrap ((k : Int) + 1) = ((k + 1 : Nat) : Int) := w64 (by omega) (by omega)
    obtain ⟨v, hvv⟩ : ∃ b, vs[k]? = some b := ⟨_, List.getElem?_eq_getElem (by omega)⟩
    obtain ⟨d, hd⟩ : ∃ b, dn[k]? = some b := ⟨_, List.getElem?_eq_getElem (by omega)⟩
    obtain ⟨q, hq⟩ : ∃ b, bs[k]? = some b := ⟨_, List.getElem?_eq_getElem (by omega)⟩
    have hvT : (vs.map bT)[k]? = some (bT v) := by rw [List.getElem?_map, hvv]; rfl
    have hdT : (dn.map bT)[k]? = some (bT d) := by rw [List.getElem?_map, hd]; rfl
    have hqT : (bs.map bT)[k]? = some (bT q) := by rw [List.getElem?_map, hq]; rfl
    have hia := fun σ => rw_iaddr (σ := σ) hv hvT .i64
    have hld := fun σ => rw_load (σ := σ) hvT
    have hiaD : opIaddr 1 (.own 1 0 0 n 1 (some n)) (.tr (.sc (.int .i64 (k : Int)))) σ = some (.ptr 1 0 (0 + k)) := own_iaddr h10 hkn
    rw [Nat.zero_add] at hiaD
    have hldD : opLoad 1 false (.ptr 1 0 k) σ = some (.tr (bT d)) := ownT_load h10 hdT
    have hiaR : opIaddr 1 (.own 0 0 0 n 1 (some n)) (.tr (.sc (.int .i64 (i : Int)))) σ = some (.ptr 0 0 (0 + i)) := own_iaddr h7 hin
    rw [Nat.zero_add] at hiaR
    have hldR : opLoad 1 false (.ptr 0 0 i) σ = some (.tr (.row (bs.map bT) n c)) := ownT_load h7 hri
    have hRw : Rw (bs.map bT) (.tr (.row (bs.map bT) n c)) := .inr ⟨c, by rw [List.length_map, hbl]⟩
    have hiaB := fun σ => rw_iaddr (σ := σ) hRw hqT .i64
    have hldB := fun σ => rw_load (σ := σ) hqT
    have next : ∀ e' L' (b : Bool), (b = true → vs[k]? = some true → Rch s i k → k ∈ O) → (b = false → Rch s i k ∧ vs[k]? = some true ∧ k ∉ O) → look e' 0 = some (.tr vt) → look e' 1 = some td → look e' 6 = some (nv .i64 n) → look e' 7 = some (.own 0 0 0 n 1 (some n)) → look e' 8 = some (nv .i64 m8) → look e' 10 = some (.own 1 0 0 n 1 (some n)) → look e' 11 = some w11 → look e' 12 = some (nv .i64 i) → look e' 13 = some (bv b) → look e' 14 = some (nv .i64 (k + 1)) → I (k + 1) ⟨e', L', σ⟩ := by
      intro e' L' b c1 c0 f0 f1 f6 f7 f8 f10 f11 f12 f13 f14
      rw [hI]
      refine ⟨by omega, e', L', b, rfl, fun hb d hd hr hvd => ?_, fun hb => ⟨k, c0 hb⟩, f0, f1, f6, f7, f8, f10, f11, f12, f13, f14⟩
      by_cases hdk2 : d = k
      · subst hdk2; exact c1 hb hvd hr
      · exact hb1 rfl d (by omega) hr hvd
    cases v with
    | false =>
      simp [k13_29, g14, g6, hkn, g13, k13_31, g0, hia, hld, w1, -Int.natCast_add]
      exact next _ _ true (fun _ h => by rw [hvv] at h; cases h) (fun h => by cases h) (by simp [g0]) (by simp [g1]) (by simp [g6]) (by simp [g7]) (by simp [g8]) (by simp [g10]) (by simp [g11]) (by simp [g12]) (by simp) (by simp)
    | true =>
      cases d with
      | true =>
        simp [k13_29, g14, g6, hkn, g13, k13_31, g0, hia, hld, g10, hiaD, hldD, w1, -Int.natCast_add]
        exact next _ _ true (fun _ _ _ => (hdk k).1 hd) (fun h => by cases h) (by simp [g0]) (by simp [g1]) (by simp [g6]) (by simp [g7]) (by simp [g8]) (by simp [g10]) (by simp [g11]) (by simp [g12]) (by simp) (by simp)
      | false =>
        have hkO : k ∉ O := fun h => by have := (hdk k).2 h; rw [hd] at this; cases this
        cases q with
        | false =>
          simp [k13_29, g14, g6, hkn, g13, k13_31, g0, hia, hld, g10, hiaD, hldD, g7, g12, hiaR, hldR, hiaB, hldB, w1, -Int.natCast_add]
          exact next _ _ true (fun _ _ h => by have := (hbm k).2 h; rw [hq] at this; cases this) (fun h => by cases h) (by simp [g0]) (by simp [g1]) (by simp [g6]) (by simp [g7]) (by simp [g8]) (by simp [g10]) (by simp [g11]) (by simp [g12]) (by simp) (by simp)
        | true =>
          simp [k13_29, g14, g6, hkn, g13, k13_31, g0, hia, hld, g10, hiaD, hldD, g7, g12, hiaR, hldR, hiaB, hldB, w1, -Int.natCast_add]
          exact next _ _ false (fun h => by cases h) (fun _ => ⟨(hbm k).1 hq, hvv, hkO⟩) (by simp [g0]) (by simp [g1]) (by simp [g6]) (by simp [g7]) (by simp [g8]) (by simp [g10]) (by simp [g11]) (by simp [g12]) (by simp) (by simp)
  · have fin : (b = true ↔ ∀ d, Rch s i d → vs[d]? = some true → d ∈ O) := by
      cases b with
      | true =>
        have hkn : k = n := by
          rcases Nat.lt_or_ge k n with h | h
          · exact absurd ⟨h, rfl⟩ hgo
          · omega
        refine ⟨fun _ d hr hvd => hb1 rfl d ?_ hr hvd, fun _ => rfl⟩
        have := (List.getElem?_eq_some_iff.1 hvd).1
        omega
      | false =>
        obtain ⟨d, h1, h2, h3⟩ := hb0 rfl
        exact ⟨fun h => (by cases h), fun h => absurd (h d h1 h2) h3⟩
    by_cases hkn : k < n
    · have hb : b = false := by
        cases b with
        | true => exact absurd ⟨hkn, rfl⟩ hgo
        | false => rfl
      subst hb
      simp [k13_29, g14, g6, hkn, g13]
      exact hQ _ _ false fin (by simp [g0]) (by simp [g1]) (by simp [g6]) (by simp [g7]) (by simp [g8]) (by simp [g10]) (by simp [g11]) (by simp [g12]) (by simp [g13])
    · simp [k13_29, g14, g6, hkn]
      exact hQ _ _ b fin (by simp [g0]) (by simp [g1]) (by simp [g6]) (by simp [g7]) (by simp [g8]) (by simp [g10]) (by simp [g11]) (by simp [g12]) (by simp [g13])
end
end Go.Proofs.Ytknoiiacnfbkaaa.AM.Io
