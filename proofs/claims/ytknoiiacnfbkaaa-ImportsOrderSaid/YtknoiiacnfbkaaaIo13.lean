/- ImportsOrder: part 13. -/
import Derived.Test.YtknoiiacnfbkaaaIo12
set_option maxRecDepth 1000000
set_option linter.unusedVariables false
set_option linter.unusedSimpArgs false
namespace Go.Proofs.Ytknoiiacnfbkaaa.AM.Io
open Go.Proofs

theorem index_ok {l : List Nat} {t : Tree} (ht : Rw (l.map nT) (.tr t)) (hl : l.length ≤ 100000) (x : Nat) (σ : Store) : ∃ k : Int, callL T 29 [.tr t, nv .i64 x] σ = some (iv k, σ) ∧ (0 ≤ k ↔ x ∈ l) := by
  suffices hh : ∃ v σ', callL T 29 [.tr t, nv .i64 x] σ = some (v, σ') ∧ ∃ k : Int, v = iv k ∧ σ' = σ ∧ (0 ≤ k ↔ x ∈ l) by
    obtain ⟨v, σ', h1, k, rfl, rfl, h2⟩ := hh
    exact ⟨k, h1, h2⟩
  refine call_shared T29 rfl rfl ?_
  have hlen : ∀ σ, opLen 1 (.tr t) σ = some (nv .i64 l.length) := fun σ => by rw [rw_len ht, List.length_map]
  simp [hlen]
  obtain ⟨I, hI⟩ : ∃ I : Nat → St → Prop, I = (fun i s => i ≤ l.length ∧ x ∉ l.take i ∧ ∃ e L, s = ⟨e, L, σ⟩ ∧ look e 0 = some (.tr t) ∧ look e 1 = some (nv .i64 x) ∧ look e 7 = some (nv .i64 l.length) ∧ look e 8 = some (nv .i64 i)) := ⟨_, rfl⟩
  refine wpc_up l.length I ?_ ?_
  · rw [hI]
    exact ⟨Nat.zero_le _, by simp, _, _, rfl, by simp, by simp, by simp, by simp⟩
  intro i s hIs
  rw [hI] at hIs
  obtain ⟨hi, hx, e, L, rfl, g0, g1, g7, g8⟩ := hIs
  by_cases hil : i < l.length
  · obtain ⟨y, hy⟩ : ∃ y, l[i]? = some y := ⟨_, List.getElem?_eq_getElem hil⟩
    have hyT : (l.map nT)[i]? = some (nT y) := by rw [List.getElem?_map, hy]; rfl
    have hia := fun σ => rw_iaddr (σ := σ) ht hyT .i64
    have hld := fun σ => rw_load (σ := σ) hyT
    have w1 : IntKind.i64.wrap ((i : Int) + 1) = ((i + 1 : Nat) : Int) := w64 (by omega) (by omega)
    by_cases hxy : x = y
    · subst hxy
      simp [k29_2, g8, g7, hil, k29_4, g0, g1, hia, hld]
      exact List.mem_of_getElem? hy
    · simp [k29_2, g8, g7, hil, k29_4, g0, g1, hia, hld, hxy, k29_8, w1, -Int.natCast_add]
      rw [hI]
      refine ⟨by omega, ?_, _, _, rfl, by simp [g0], by simp [g1], by simp [g7], by simp⟩
      rw [List.take_add_one, hy]
      simp [hx, hxy]
  · have hie : i = l.length := by omega
    subst hie
    rw [List.take_of_length_le (Nat.le_refl _)] at hx
    simp [k29_2, g8, g7, k29_9]
    exact hx
theorem contains_ok {l : List Nat} {t : Tree} (ht : Rw (l.map nT) (.tr t)) (hl : l.length ≤ 100000) (x : Nat) (σ : Store) : callL T 23 [.tr t, nv .i64 x] σ = some (bv (decide (x ∈ l)), σ) := by
  obtain ⟨k, h1, h2⟩ := index_ok ht hl x σ
  suffices hh : ∃ v σ', callL T 23 [.tr t, nv .i64 x] σ = some (v, σ') ∧ (v = bv (decide (x ∈ l)) ∧ σ' = σ) by
    obtain ⟨v, σ', h3, rfl, rfl⟩ := hh
    exact h3
  refine call_shared T23 rfl rfl ?_
  simp [h1, h2]
theorem indexF_ok {l : List Nat} {t : Tree} (ht : Rw (l.map nT) (.tr t)) (hl : l.length ≤ 100000) {f : V} {P : Nat → Bool} {σ : Store} (hP : ∀ y ∈ l, callV (callL T) f [nv .i64 y] σ = some (bv (P y), σ)) : ∃ k : Int, callL T 30 [.tr t, f] σ = some (iv k, σ) ∧ (0 ≤ k ↔ ∃ y ∈ l, P y = true) := by
  suffices hh : ∃ v σ', callL T 30 [.tr t, f] σ = some (v, σ') ∧ ∃ k : Int, v = iv k ∧ σ' = σ ∧ (0 ≤ k ↔ ∃ y ∈ l, P y = true) by
    obtain ⟨v, σ', h1, k, rfl, rfl, h2⟩ := hh
    exact ⟨k, h1, h2⟩
  refine call_shared T30 rfl rfl ?_
  have hlen : ∀ σ, opLen 1 (.tr t) σ = some (nv .i64 l.length) := fun σ => by rw [rw_len ht, List.length_map]
  simp [hlen]
  obtain ⟨I, hI⟩ : ∃ I : Nat → St → Prop, I = (fun i s => i ≤ l.length ∧ (∀ y ∈ l.take i, P y = false) ∧ ∃ e L, s = ⟨e, L, σ⟩ ∧ look e 0 = some (.tr t) ∧ look e 1 = some f ∧ look e 7 = some (nv .i64 l.length) ∧ look e 8 = some (nv .i64 i)) := ⟨_, rfl⟩
  refine wpc_up l.length I ?_ ?_
  · rw [hI]
    exact ⟨Nat.zero_le _, by simp, _, _, rfl, by simp, by simp, by simp, by simp⟩
  intro i s hIs
  rw [hI] at hIs
  obtain ⟨hi, hx, e, L, rfl, g0, g1, g7, g8⟩ := hIs
  by_cases hil : i < l.length
  · obtain ⟨y, hy⟩ : ∃ y, l[i]? = some y := ⟨_, List.getElem?_eq_getElem hil⟩
    have hyT : (l.map nT)[i]? = some (nT y) := by rw [List.getElem?_map, hy]; rfl
    have hia := fun σ => rw_iaddr (σ := σ) ht hyT .i64
    have hld := fun σ => rw_load (σ := σ) hyT
    have w1 : IntKind.i64.wrap ((i : Int) + 1) = ((i + 1 : Nat) : Int) := w64 (by omega) (by omega)
    have hc := hP y (List.mem_of_getElem? hy)
    cases hp : P y with
    | true =>
      rw [hp] at hc
      simp [k30_2, g8, g7, hil, k30_4, g0, g1, hia, hld, hc]
      exact ⟨y, List.mem_of_getElem? hy, hp⟩
    | false =>
      rw [hp] at hc
      simp [k30_2, g8, g7, hil, k30_4, g0, g1, hia, hld, hc, k30_8, w1, -Int.natCast_add]
      rw [hI]
      refine ⟨by omega, ?_, _, _, rfl, by simp [g0], by simp [g1], by simp [g7], by simp⟩
      rw [List.take_add_one, hy]
      intro z hz
      rcases List.mem_append.1 hz with h | h
      · exact hx z h
      · simp at h; subst h; exact hp
  · have hie : i = l.length := by omega
    subst hie
    rw [List.take_of_length_le (Nat.le_refl _)] at hx
    simp [k30_2, g8, g7, k30_9]
    exact hx
theorem containsF_ok {l : List Nat} {t : Tree} (ht : Rw (l.map nT) (.tr t)) (hl : l.length ≤ 100000) {f : V} {P : Nat → Bool} {σ : Store} (hP : ∀ y ∈ l, callV (callL T) f [nv .i64 y] σ = some (bv (P y), σ)) : callL T 24 [.tr t, f] σ = some (bv (l.any P), σ) := by
  obtain ⟨k, h1, h2⟩ := indexF_ok ht hl hP
  suffices hh : ∃ v σ', callL T 24 [.tr t, f] σ = some (v, σ') ∧ (v = bv (l.any P) ∧ σ' = σ) by
    obtain ⟨v, σ', h3, rfl, rfl⟩ := hh
    exact h3
  refine call_shared T24 rfl rfl ?_
  simp [h1]
  rw [Bool.eq_iff_iff, List.any_eq_true]
  simpa using h2
/-- Is one a variable that is not taken? -/
theorem open_ok {vs : List Bool} {vt : Tree} {n : Nat} {tk : List Bool} {σ : Store} {idp idt : Nat} (hv : varsT vs vt) (hvn : vs.length = n) (htn : tk.length = n) (h0 : σ[0]? = some (.row [.tr vt] 0)) (hp : σ[idp]? = some (.row [.own idt 0 0 n 1 (some n)] 0)) (ht : σ[idt]? = some (.row ((tk.map bT).map .tr) 0)) {y : Nat} (hy : y < n) :
    callL T 25 [nv .i64 y, .ptr 0 0 0, .ptr idp 0 0] σ = some (bv ((vs[y]?).getD false && !(tk[y]?).getD true), σ) := by
  suffices hh : ∃ v σ', callL T 25 [nv .i64 y, .ptr 0 0 0, .ptr idp 0 0] σ = some (v, σ') ∧ (v = bv ((vs[y]?).getD false && !(tk[y]?).getD true) ∧ σ' = σ) by
    obtain ⟨v, σ', h3, rfl, rfl⟩ := hh
    exact h3
  refine call_shared T25 rfl rfl ?_
  have l0 : opLoad 1 false (.ptr 0 0 0) σ = some (.tr vt) := by simp [opLoad, obCells, h0, slice?]
  have lp : opLoad 1 false (.ptr idp 0 0) σ = some (.own idt 0 0 n 1 (some n)) := by simp [opLoad, obCells, hp, slice?]
  obtain ⟨b, hb⟩ : ∃ b, vs[y]? = some b := ⟨_, List.getElem?_eq_getElem (by omega)⟩
  obtain ⟨c, hc⟩ : ∃ c, tk[y]? = some c := ⟨_, List.getElem?_eq_getElem (by omega)⟩
  have hbT : (vs.map bT)[y]? = some (bT b) := by rw [List.getElem?_map, hb]; rfl
  have hcT : (tk.map bT)[y]? = some (bT c) := by rw [List.getElem?_map, hc]; rfl
  have hia := fun σ => rw_iaddr (σ := σ) hv hbT .i64
  have hld := fun σ => rw_load (σ := σ) hbT
  have hia2 : opIaddr 1 (.own idt 0 0 n 1 (some n)) (.tr (.sc (.int .i64 (y : Int)))) σ = some (.ptr idt 0 (0 + y)) := own_iaddr ht hy
  rw [Nat.zero_add] at hia2
  have hld2 : opLoad 1 false (.ptr idt 0 y) σ = some (.tr (bT c)) := ownT_load ht hcT
  cases b <;> simp [l0, lp, hia, hld, hia2, hld2, hb, hc]
end Go.Proofs.Ytknoiiacnfbkaaa.AM.Io
