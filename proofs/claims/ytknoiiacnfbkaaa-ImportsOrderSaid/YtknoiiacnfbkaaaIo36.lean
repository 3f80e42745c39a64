/- ImportsOrder: part 36. -/
import Derived.Test.YtknoiiacnfbkaaaIo35
set_option maxRecDepth 1000000
set_option linter.unusedVariables false
set_option linter.unusedSimpArgs false
namespace Go.Proofs.Ytknoiiacnfbkaaa.AM.Io
open Go.Proofs

/-- A slice of texts, wherever it lies. -/
structure Rds (σ : Store) (w : V) (l : List S) : Prop where
  len : opLen 1 w σ = some (nv .i64 l.length)
  at_ : ∀ (i : Nat) (y : S), l[i]? = some y → ∃ p, opIaddr 1 w (nv .i64 i) σ = some p ∧ opLoad 1 false p σ = some (sv y)
theorem rds_rw {σ : Store} {t : Tree} {l : List S} (h : Rw (l.map sT) (.tr t)) : Rds σ (.tr t) l :=
  ⟨by rw [rw_len h, List.length_map], fun i y hy => ⟨_, rw_iaddr h (t := sT y) (by rw [List.getElem?_map, hy]; rfl) .i64, rw_load (by rw [List.getElem?_map, hy]; rfl)⟩⟩
theorem rds_stk {σ : Store} {w : V} {id : Nat} {l : List S} (h : Stk id (l.map sT) w σ) : Rds σ w l :=
  ⟨by rw [h.len, List.length_map], fun i y hy => h.load (t := sT y) (by rw [List.getElem?_map, hy]; rfl) .i64⟩
theorem rds_nil (σ : Store) : Rds σ nilSl [] := ⟨rfl, fun i y h => by simp at h⟩

theorem indexFS_ok {l : List S} {w f : V} {P : S → Bool} {σ : Store} (hw : Rds σ w l) (hl : l.length ≤ 100000) (hP : ∀ y ∈ l, callV (callL T) f [sv y] σ = some (bv (P y), σ)) :
    ∃ k : Int, callL T 20 [w, f] σ = some (iv k, σ) ∧ ((k = -1 ∧ ∀ y ∈ l, P y = false) ∨ ∃ j : Nat, ∃ y, k = j ∧ l[j]? = some y ∧ P y = true ∧ ∀ i, i < j → ∀ z, l[i]? = some z → P z = false) := by
  suffices hh : ∃ v σ', callL T 20 [w, f] σ = some (v, σ') ∧ ∃ k : Int, v = iv k ∧ σ' = σ ∧ ((k = -1 ∧ ∀ y ∈ l, P y = false) ∨ ∃ j : Nat, ∃ y, k = j ∧ l[j]? = some y ∧ P y = true ∧ ∀ i, i < j → ∀ z, l[i]? = some z → P z = false) by
    obtain ⟨v, σ', h1, k, rfl, rfl, h2⟩ := hh
    exact ⟨k, h1, h2⟩
  refine call_shared T20 rfl rfl ?_
  have hlen := hw.len
  simp [hlen]
  obtain ⟨I, hI⟩ : ∃ I : Nat → St → Prop, I = (fun i s => i ≤ l.length ∧ (∀ y ∈ l.take i, P y = false) ∧ ∃ e L, s = ⟨e, L, σ⟩ ∧ look e 0 = some w ∧ look e 1 = some f ∧ look e 7 = some (nv .i64 l.length) ∧ look e 8 = some (nv .i64 i)) := ⟨_, rfl⟩
  refine wpc_up l.length I ?_ ?_
  · rw [hI]
    exact ⟨Nat.zero_le _, by simp, _, _, rfl, by simp, by simp, by simp, by simp⟩
  intro i s hIs
  rw [hI] at hIs
  obtain ⟨hi, hx, e, L, rfl, g0, g1, g7, g8⟩ := hIs
  by_cases hil : i < l.length
  · obtain ⟨y, hy⟩ : ∃ y, l[i]? = some y := ⟨_, List.getElem?_eq_getElem hil⟩
    obtain ⟨p, hia, hld⟩ := hw.at_ i y hy
    have w1 : IntKind.i64.wrap ((i : Int) + 1) = ((i + 1 : Nat) : Int) := w64 (by omega) (by omega)
    have hc := hP y (List.mem_of_getElem? hy)
    cases hp : P y with
    | true =>
      rw [hp] at hc
      simp [k20_2, g8, g7, hil, k20_4, g0, g1, hia, hld, hc]
      have hyv : l[i] = y := (List.getElem?_eq_some_iff.1 hy).2
      refine ⟨by rw [hyv]; exact hp, fun j hj z hz => hx z ?_⟩
      exact List.mem_of_getElem? (i := j) (by rw [List.getElem?_take_of_lt hj]; exact hz)
    | false =>
      rw [hp] at hc
      simp [k20_2, g8, g7, hil, k20_4, g0, g1, hia, hld, hc, k20_8, w1, -Int.natCast_add]
      rw [hI]
      refine ⟨by omega, ?_, _, _, rfl, by simp [g0], by simp [g1], by simp [g7], by simp⟩
      rw [List.take_add_one, hy]
      intro z hz
      rcases List.mem_append.1 hz with h | h
      · exact hx z h
      · simp at h; subst h; exact hp
  · have hie : i = l.length := by omega
    subst hie
    rw [List.take_of_length_le (Nat.le_refl _)] at hx
    simp [k20_2, g8, g7, k20_9]
    exact hx
theorem containsFS_ok {l : List S} {w f : V} {P : S → Bool} {σ : Store} (hw : Rds σ w l) (hl : l.length ≤ 100000) (hP : ∀ y ∈ l, callV (callL T) f [sv y] σ = some (bv (P y), σ)) : callL T 18 [w, f] σ = some (bv (l.any P), σ) := by
  obtain ⟨k, h1, h2⟩ := indexFS_ok hw hl hP
  suffices hh : ∃ v σ', callL T 18 [w, f] σ = some (v, σ') ∧ (v = bv (l.any P) ∧ σ' = σ) by
    obtain ⟨v, σ', h3, rfl, rfl⟩ := hh
    exact h3
  refine call_shared T18 rfl rfl ?_
  simp [h1]
  rw [Bool.eq_iff_iff, List.any_eq_true, decide_eq_true_eq]
  rcases h2 with ⟨rfl, h⟩ | ⟨j, y, rfl, h3, h4, _⟩
  · constructor
    · intro h5; omega
    · rintro ⟨y, h5, h6⟩; rw [h y h5] at h6; cases h6
  · exact ⟨fun _ => ⟨y, List.mem_of_getElem? h3, h4⟩, fun _ => by omega⟩

def encS (s : S) : Value := .string ⟨⟨s⟩⟩
/-- What is taken. -/
def Tk (tk : List (S × V)) (O : List S) : Prop := ∀ d, getK d tk = if d ∈ O then some (iv 1) else none
theorem taken_ok {tk : List (S × V)} {O : List S} {σ : Store} {ip im : Nat} (hm : MapOf encS tk im σ) (hk : Tk tk O) (hp : σ[ip]? = some (.row [.mp im] 0)) (d : S) :
    callL T 19 [sv d, .ptr ip 0 0] σ = some (bv (decide (d ∉ O)), σ) := by
  suffices hh : ∃ v σ', callL T 19 [sv d, .ptr ip 0 0] σ = some (v, σ') ∧ (v = bv (decide (d ∉ O)) ∧ σ' = σ) by
    obtain ⟨v, σ', h3, rfl, rfl⟩ := hh
    exact h3
  refine call_shared T19 rfl rfl ?_
  have lp : opLoad 1 false (.ptr ip 0 0) σ = some (.mp im) := by simp [opLoad, obCells, hp, slice?]
  have hlk : opLookup .string (.sc (.int .i64 0)) false (.mp im) (sv d) σ = some ((getK d tk).getD (.tr (.sc (.int .i64 0)))) := by
    rw [map_lookup (enc := encS) keyEq_str hm (asKey_str _)]; rfl
  rw [hk d] at hlk
  by_cases hd : d ∈ O
  · simp [hd] at hlk
    simp [lp, hlk, hd]
  · simp [hd] at hlk
    simp [lp, hlk, hd]
theorem ready_ok {N : List (S × Nat)} {ds : List (List S)} {ts : List Tree} {dt : Tree} {tk : List (S × V)} {O : List S} {σ : Store} {im ip : Nat} (hd : Rw ts (.tr dt)) (hL : LsS ds ts) (hdl : ∀ l ∈ ds, l.length ≤ 1000) (hN12 : ∀ p ∈ N, p.2 ≤ 100)
    (h0 : σ[0]? = some (.row [.tr dt] 0)) (h1 : MapOf encS (N.map fun p => (p.1, nv .i64 p.2)) 1 σ) (h2 : σ[2]? = some (.row [.mp 1] 0)) (hm : MapOf encS tk im σ) (hk : Tk tk O) (hp : σ[ip]? = some (.row [.mp im] 0)) (hnd : (N.map Prod.fst).Nodup) {x : S} {q : Nat} (hx : (x, q) ∈ N) :
    ∃ b, callL T 17 [sv x, .ptr 2 0 0, .ptr 0 0 0, .ptr ip 0 0] σ = some (bv b, σ) ∧ (b = true ↔ RdyI ds O q) := by
  suffices hh : ∃ v σ', callL T 17 [sv x, .ptr 2 0 0, .ptr 0 0 0, .ptr ip 0 0] σ = some (v, σ') ∧ ∃ b, v = bv b ∧ σ' = σ ∧ (b = true ↔ RdyI ds O q) by
    obtain ⟨v, σ', h3, b, rfl, rfl, h4⟩ := hh
    exact ⟨b, h3, h4⟩
  refine call_shared T17 rfl rfl ?_
  have l2 : opLoad 1 false (.ptr 2 0 0) σ = some (.mp 1) := by simp [opLoad, obCells, h2, slice?]
  have l0 : opLoad 1 false (.ptr 0 0 0) σ = some (.tr dt) := by simp [opLoad, obCells, h0, slice?]
  have hget : getK x (N.map fun p => (p.1, nv .i64 p.2)) = some (nv .i64 q) := by
    clear h1 hN12
    induction N with
    | nil => simp at hx
    | cons a N ih =>
      rw [List.map_cons] at hnd ⊢
      obtain ⟨hn1, hn2⟩ := List.nodup_cons.1 hnd
      unfold getK
      rcases List.mem_cons.1 hx with rfl | h
      · simp
      · have hne : x ≠ a.1 := by
          rintro rfl
          exact hn1 (List.mem_map.2 ⟨_, h, rfl⟩)
        simp only [hne, if_false]
        exact ih hn2 h
  have hlk : opLookup .string (.sc (.int .i64 0)) false (.mp 1) (sv x) σ = some (nv .i64 q) := by
    rw [map_lookup (enc := encS) keyEq_str h1 (asKey_str _), hget]; rfl
  have hlen1 : ∀ σ, opLen 1 (.tr dt) σ = some (nv .i64 ds.length) := fun σ => by rw [rw_len hd, hL.1]
  by_cases hq : q < ds.length
  · have hdq : ds[q]? = some ds[q] := List.getElem?_eq_getElem hq
    obtain ⟨y, hy, hyl⟩ := hL.at hdq
    have hia := fun σ => rw_iaddr (σ := σ) hd hy .i64
    have hld := fun σ => rw_load (σ := σ) hy
    have hdep : depS ds q = ds[q] := by unfold depS; rw [hdq]; rfl
    have hcf := containsFS_ok (σ := σ) (w := .tr y) (f := .fn (.func 19) [] [.ptr ip 0 0]) (P := fun d => decide (d ∉ O)) (rds_rw hyl) (by have := hdl _ (List.mem_of_getElem? hdq); omega) (fun d _ => taken_ok hm hk hp d)
    simp [l2, hlk, l0, hlen1, hq, hia, hld, hcf]
    unfold RdyI
    rw [hdep]
    rcases Classical.em (∀ d, d ∈ ds[q] → d ∈ O) with h | h
    · exact .inr ⟨h, h⟩
    · exact .inl ⟨by simpa using h, h⟩
  · have hdep : depS ds q = [] := by unfold depS; rw [List.getElem?_eq_none (by omega)]; rfl
    simp [l2, hlk, l0, hlen1, hq, k17_4]
    unfold RdyI
    rw [hdep]
    simp
end Go.Proofs.Ytknoiiacnfbkaaa.AM.Io
