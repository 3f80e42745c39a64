/- TreeWalk: part 14. -/
import Derived.Test.YtimcmpndblajnaaDoorTr13
set_option maxRecDepth 1000000
set_option linter.unusedVariables false
set_option linter.unusedSimpArgs false
namespace Go.Proofs.YtimcmpndblajnaaDoor.AM.Tr
open Go.Proofs

theorem slice_map {α β : Type} (f : α → β) {l r : List α} {o n : Nat} (h : slice? l o n = some r) : slice? (l.map f) o n = some (r.map f) := by
  unfold slice? at h ⊢
  simp only at h ⊢
  split at h
  · rename_i hl
    cases h
    rw [← List.map_drop, ← List.map_take, List.length_map, if_pos hl]
  · cases h
theorem lv_at {σ : Store} {B : List Vq} {w : V} {k : Nat} {v : Vq} (h : LV σ B w) (hk : B[k]? = some v) :
    ∃ p p0 p1 p2, opIaddr 6 w (nv .i64 k) σ = some p ∧ opFaddr 0 p = some p0 ∧ opLoad 1 false p0 σ = some (nv .i64 v.1) ∧ opFaddr 1 p = some p1 ∧ opLoad 1 false p1 σ = some (nv .i64 v.2.1) ∧ opFaddr 2 p = some p2 ∧ opLoad 4 true p2 σ = some (.tr (ag v.2.2)) := by
  have hkl := (List.getElem?_eq_some_iff.1 hk).1
  rcases h with ⟨u, rfl, rfl⟩ | ⟨id, g, rfl, hs⟩
  · have hk0 : k = 0 := by simp at hkl; omega
    subst hk0
    simp at hk
    subst hk
    exact ⟨.tr (.rptr (e6 u) 0), .tr (.rptr (e6 u) 0), .tr (.rptr (e6 u) 1), .tr (.rptr (e6 u) 2), rfl, rfl, rfl, rfl, rfl, rfl, rfl⟩
  · have ho : obCells σ id g = some ((B.flatMap e6).map .tr) := by simp [obCells, hs]
    have hld : ∀ o s agg, o + s ≤ 6 → opLoad s agg (.ptr id g (k * 6 + o)) σ = ofCells agg ((((e6 v).drop o).take s).map .tr) := by
      intro o s agg hos
      simp only [opLoad, ho, slice_map V.tr (slice_flat e6_len hk hos)]
    refine ⟨.ptr id g (k * 6), .ptr id g (k * 6 + 0), .ptr id g (k * 6 + 1), .ptr id g (k * 6 + 2), ?_, rfl, ?_, rfl, ?_, rfl, ?_⟩
    · unfold opIaddr
      rw [asIdx_nat]
      have hgen : g = genOf (Ob.row ((B.flatMap e6).map V.tr) g) := rfl
      simp only [hs]
      rw [if_pos ⟨hkl, trivial, hgen⟩, Nat.zero_add]
    · rw [hld 0 1 false (by omega)]; rfl
    · rw [hld 1 1 false (by omega)]; rfl
    · rw [hld 2 4 true (by omega)]; rfl
section
variable {stop : List Int} {ts : Tree} {p8 p7 p9 p3 : Nat} {B : List Vq} {w : V}
structure WS (stop : List Int) (ts : Tree) (p8 p7 p9 p3 : Nat) (B : List Vq) (w : V) (k : Nat) (σ : Store) : Prop where
  h8 : σ[p8]? = some (.row [nv .i64 k] 0)
  h7 : σ[p7]? = some (.row [w] 0)
  h9 : σ[p9]? = some (.row [bv true] 0)
  h3 : σ[p3]? = some (.row [.tr ts] 0)
  lv : LV σ B w
theorem WS.next {k k' : Nat} {σ σ' : Store} (h : WS stop ts p8 p7 p9 p3 B w k σ) (n7 : p7 ≠ p8) (n9 : p9 ≠ p8) (n3 : p3 ≠ p8) (nw : ∀ id g n, w = .own id g 0 n 6 none → id ≠ p8) (h8 : σ'[p8]? = some (.row [nv .i64 k'] 0)) (hs : ∀ j, j ≠ p8 → j < σ.length → σ'[j]? = σ[j]?) : WS stop ts p8 p7 p9 p3 B w k' σ' :=
  ⟨h8, by rw [hs p7 n7 (List.getElem?_eq_some_iff.1 h.h7).1]; exact h.h7, by rw [hs p9 n9 (List.getElem?_eq_some_iff.1 h.h9).1]; exact h.h9, by rw [hs p3 n3 (List.getElem?_eq_some_iff.1 h.h3).1]; exact h.h3, lv_mono h.lv fun id g n h1 h2 => hs id (nw id g n h1) h2⟩
theorem clos_ok (hts : Rw (stop.map iT) (.tr ts)) (hsl : stop.length ≤ 1000) {k : Nat} {σ : Store} (h : WS stop ts p8 p7 p9 p3 B w k σ) (n3 : p3 ≠ p8) (hBl : B.length ≤ 2000) {i d : Nat} {x : Nd} {q qb : Q} (hk : B[k]? = some (i, d, qb)) (hs : smN x) (hq : NdQ x q) (hqb : NdQ x qb) :
    callL T 9 [nv .i64 i, nv .i64 d, .tr (ag q), .ptr p8 0 0, .ptr p7 0 0, .ptr p9 0 0, .ptr p3 0 0] σ = some (bv (!decide ((i : Int) ∈ stop)), σ.set p8 (.row [nv .i64 (k + 1 : Nat)] 0)) := by
  suffices hh : ∃ v σ', callL T 9 [nv .i64 i, nv .i64 d, .tr (ag q), .ptr p8 0 0, .ptr p7 0 0, .ptr p9 0 0, .ptr p3 0 0] σ = some (v, σ') ∧ (v = bv (!decide ((i : Int) ∈ stop)) ∧ σ' = σ.set p8 (.row [nv .i64 (k + 1 : Nat)] 0)) by
    obtain ⟨v, σ', h1, rfl, rfl⟩ := hh
    exact h1
  refine call_shared T9 rfl rfl ?_
  obtain ⟨p, a0, a1, a2, b1, b2, b3, b4, b5, b6, b7⟩ := lv_at h.lv hk
  have l8 := ld1 h.h8
  have l7 := ld1 h.h7
  have hkl := (List.getElem?_eq_some_iff.1 hk).1
  have hlen : ∀ σ', opLen 1 w σ' = some (nv .i64 B.length) := fun σ' => lv_len h.lv
  have heq := eq10 _ x x q qb (Nat.le_refl _) hs hs hq hqb
  rw [eqN_refl] at heq
  have hkl' : ¬ (B.length : Int) ≤ (k : Int) := by omega
  have w1 : IntKind.i64.wrap ((k : Int) + 1) = ((k + 1 : Nat) : Int) := w64 (by omega) (by omega)
  obtain ⟨σ1, hσ1⟩ : ∃ σ1, σ1 = σ.set p8 (.row [nv .i64 (k + 1 : Nat)] 0) := ⟨_, rfl⟩
  have s1 : opStore 1 (.ptr p8 0 0) (nv .i64 (k + 1 : Nat)) σ = some σ1 := by rw [hσ1]; exact st1 h.h8 rfl
  have l3 : opLoad 1 false (.ptr p3 0 0) σ1 = some (.tr ts) := ld1 (by rw [hσ1, List.getElem?_set_ne (Ne.symm n3)]; exact h.h3)
  have hls : ∀ σ, opLen 1 (.tr ts) σ = some (nv .i64 stop.length) := fun σ => by rw [rw_len hts, List.length_map]
  rw [← hσ1]
  simp [bx4, l8, l7, hlen, hkl, hkl', b1, b2, b3, b4, b5, b6, b7, lt4, heq, k9_2, w1, s1, -Int.natCast_add]
  obtain ⟨I, hI⟩ : ∃ I : Nat → St → Prop, I = (fun j st => j ≤ stop.length ∧ (i : Int) ∉ stop.take j ∧ ∃ e L, st = ⟨e, L, σ1⟩ ∧ look e 0 = some (nv .i64 i) ∧ look e 6 = some (.ptr p3 0 0) ∧ look e 11 = some (nv .i64 j)) := ⟨_, rfl⟩
  refine wpc_up stop.length I ?_ ?_
  · rw [hI]
    exact ⟨Nat.zero_le _, by simp, _, _, rfl, by simp, by simp, by simp⟩
  intro j st hIs
  rw [hI] at hIs
  obtain ⟨hj, hni, e, Lc, rfl, g0, g6, g11⟩ := hIs
  by_cases hjl : j < stop.length
  · obtain ⟨z, hz⟩ : ∃ z, stop[j]? = some z := ⟨_, List.getElem?_eq_getElem hjl⟩
    have hzT : (stop.map iT)[j]? = some (iT z) := by rw [List.getElem?_map, hz]; rfl
    have hia := fun σ => rw_iaddr (σ := σ) hts hzT .i64
    have hld := fun σ => rw_load (σ := σ) hzT
    have w2 : IntKind.i64.wrap ((j : Int) + 1) = ((j + 1 : Nat) : Int) := w64 (by omega) (by omega)
    have htk : stop.take (j + 1) = stop.take j ++ [z] := by rw [List.take_add_one, hz]; rfl
    by_cases hzi : z = (i : Int)
    · have hin : (i : Int) ∈ stop := by rw [← hzi]; exact List.mem_of_getElem? hz
      simp [k9_5, g11, g6, l3, hls, hjl, k9_7, hia, hld, g0, hzi, hin]
    · simp [k9_5, g11, g6, l3, hls, hjl, k9_7, hia, hld, g0, hzi, k9_10, w2, -Int.natCast_add]
      rw [hI]
      refine ⟨by omega, ?_, _, _, rfl, by simp [g0], by simp [g6], by simp⟩
      rw [htk, List.mem_append, List.mem_singleton]
      rintro (h1 | h1)
      · exact hni h1
      · exact hzi h1.symm
  · have hje : j = stop.length := by omega
    subst hje
    rw [List.take_length] at hni
    simp [k9_5, g11, g6, l3, hls, k9_11, hni]
end
end Go.Proofs.YtimcmpndblajnaaDoor.AM.Tr
