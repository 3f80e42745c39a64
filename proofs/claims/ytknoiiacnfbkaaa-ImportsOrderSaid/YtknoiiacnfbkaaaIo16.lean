/- ImportsOrder: part 16. -/
import Derived.Test.YtknoiiacnfbkaaaIo15
set_option maxRecDepth 1000000
set_option linter.unusedVariables false
set_option linter.unusedSimpArgs false
namespace Go.Proofs.Ytknoiiacnfbkaaa.AM.Io
open Go.Proofs

theorem gx_keep {bad : List Nat} {td : List Tree} {w : V} {σ σ' : Store} (h : Gx bad td w σ) (hs : ∀ i, i ∉ bad → σ'[i]? = σ[i]?) : Gx bad td w σ' := by
  rcases h with h | ⟨id, h1, h2, h3⟩
  · exact .inl h
  · exact .inr ⟨id, h1, h2, h3.mono (hs id h1)⟩
theorem gx_loads {bad : List Nat} {td : List Tree} {w : V} {σ : Store} (h : Gx bad td w σ) {i : Nat} {t : Tree} (hi : td[i]? = some t) : ∃ p, ∀ σ' : Store, (∀ i, i < σ.length → σ'[i]? = σ[i]?) → opIaddr 1 w (nv .i64 i) σ' = some p ∧ opLoad 1 false p σ' = some (.tr t) := by
  rcases h with ⟨rfl, rfl⟩ | ⟨id, _, _, g, cap, pre, post, rfl, hs, _⟩
  · simp at hi
  · have hlt := (List.getElem?_eq_some_iff.1 hi).1
    have hid := (List.getElem?_eq_some_iff.1 hs).1
    refine ⟨.ptr id g (pre.length + i), fun σ' hσ => ?_⟩
    have hs' := hs
    rw [← hσ id hid] at hs'
    refine ⟨own_iaddr hs' hlt, ownT_load hs' ?_⟩
    rw [List.getElem?_append_left (by simp; omega), List.getElem?_append_right (by omega), Nat.add_sub_cancel_left]
    exact hi

theorem order_ok {deps : List (List Int)} {ts : List Tree} {td vt : Tree} {vs : List Bool} {n : Nat} (hv : varsT vs vt) (hvn : vs.length = n) (hn : n ≤ 20) (htd : Rw ts (.tr td)) (hLs : Ls deps ts) (hl : ∀ l ∈ deps, l.length ≤ 1000) :
    ∃ t, (∀ σ, callL T 12 [.tr vt, .tr td] σ = some (.tr t, σ)) ∧ OrdR vs (sc n deps) t := by
  refine call_iso (ts := [vt, td]) T12 rfl rfl ?_
  have hvl : ∀ σ, opLen 1 (.tr vt) σ = some (nv .i64 n) := fun σ => by rw [rw_len hv, List.length_map, hvn]
  have hov := rw_one hv
  have hil : ∀ l ∈ insL n deps, l.length ≤ 1000 := by
    intro l hm
    unfold insL at hm
    obtain ⟨j, _, rfl⟩ := List.mem_map.1 hm
    refine Nat.le_trans inF_len ?_
    unfold dep
    cases hd : deps[j]? with
    | none => simp
    | some m => exact hl m (List.mem_of_getElem? hd)
  have hbx : opBoxB false (.tr vt) ([] : Store) = some (.ptr 0 0 0, [.row [.tr vt] 0]) := by simp [opBoxB, opBox, cells_one hov]
  have l0 : opLoad 1 false (.ptr 0 0 0) [.row [.tr vt] 0] = some (.tr vt) := rfl
  simp [hbx, l0, hvl]
  refine ord_inside (n := n) (vt := vt) (td := td) hvl hn htd hLs hl (by simp) (by simp) (by simp [nilSl]) (by simp) (by simp) ?_
  intro e' L' σ r ids cs w6 hins h0 g2 g6
  have l0 : opLoad 1 false (.ptr 0 0 0) σ = some (.tr vt) := by simp [opLoad, obCells, h0, slice?]
  simp [k12_19, g2, l0, hvl]
  obtain ⟨I, hI⟩ : ∃ I : Nat → St → Prop, I = (fun i st => i ≤ n ∧ ∃ e L σ rts w11, st = ⟨e, L, σ⟩ ∧ InS n deps r ids w6 σ ∧ σ[0]? = some (.row [.tr vt] 0) ∧ (∀ j ∈ r ++ ids, j ≠ 0 ∧ j < σ.length) ∧ Gx (0 :: (r ++ ids)) rts w11 σ ∧ ones rts ∧ rts.length = i ∧ (∀ (j : Nat) (t : Tree), rts[j]? = some t → RL n (sc n deps) j t) ∧ (∀ j, j < i → vs[j]? = some true → ¬ Rch (sc n deps) j j)
    ∧ look e 2 = some (.ptr 0 0 0) ∧ look e 6 = some w6 ∧ look e 11 = some w11 ∧ look e 54 = some (nv .i64 n) ∧ look e 55 = some (nv .i64 i)) := ⟨_, rfl⟩
  refine wpc_up n I ?_ ?_
  · rw [hI]
    exact ⟨Nat.zero_le _, _, _, σ, [], nilSl, rfl, .inl ⟨cs, hins⟩, h0, hins.lt, .inl ⟨rfl, rfl⟩, ones_nil, rfl, fun j t h => by simp at h, fun j h => by omega, by simp [g2], by simp [g6], by simp [nilSl], by simp, by simp⟩
  clear hins h0 g2 g6 l0
  intro i st hIs
  rw [hI] at hIs
  obtain ⟨hi, e, L, σ, rts, w11, rfl, hins, h0, hlt, h11, hon, hrl, hrr, hnc, g2, g6, g11, g54, g55⟩ := hIs
  have h0l : 0 < σ.length := (List.getElem?_eq_some_iff.1 h0).1
  by_cases hin : i < n
  · have hin' : (i : Int) < n := by omega
    obtain ⟨t, σ1, c1, c2, c3, c4, c5⟩ := inside_call hins hn hil hin
    obtain ⟨l, hl1, hl2, hl3⟩ := c2
    have hmem : ∀ x, x ∈ l ↔ Rch (sc n deps) i x := fun x => by
      rw [hl3 x]
      constructor
      · rintro ⟨_, _, h⟩
        exact (rch_insL hin).1 (by simpa using h)
      · intro h
        exact ⟨by omega, hin', by simpa using (rch_insL hin).2 h⟩
    have hln : ∀ x ∈ l, x < n := fun x hx => rch_lt ((hmem x).1 hx)
    have hll : l.length ≤ n := nodup_len n l (hl2.imp (fun h => by omega)) hln
    have hRL : RL n (sc n deps) i t := ⟨l, hl1, hll, hmem, hln⟩
    have h01 : σ1[0]? = some (.row [.tr vt] 0) := by
      rw [c4 0 (fun hm => (hlt 0 hm).1 rfl)]; exact h0
    have h11' : Gx (0 :: (r ++ ids)) rts w11 σ1 := gx_keep h11 (fun j hj => c4 j (fun hm => hj (by simp only [List.mem_cons]; exact .inr hm)))
    obtain ⟨w11', σ2, a1, a2, a3, a4⟩ := gx_app (t := t) (b := 24) h11' (rw_one hl1) hon (by omega) (by omega) (some 1) (fun j hj => by
      rcases List.mem_cons.1 hj with rfl | h
      · omega
      · have := (hlt j h).2; omega)
    have hbs := fun σ => bs1 (σ := σ) (t := t) (.sc (.slice none 0 0)) (rw_one hl1)
    have h02 : σ2[0]? = some (.row [.tr vt] 0) := by rw [a3 0 (by simp)]; exact h01
    have l02 : opLoad 1 false (.ptr 0 0 0) σ2 = some (.tr vt) := by simp [opLoad, obCells, h02, slice?]
    obtain ⟨b, hb⟩ : ∃ b, vs[i]? = some b := ⟨_, List.getElem?_eq_getElem (by omega)⟩
    have hbT : (vs.map bT)[i]? = some (bT b) := by rw [List.getElem?_map, hb]; rfl
    have hia := fun σ => rw_iaddr (σ := σ) hv hbT .i64
    have hld := fun σ => rw_load (σ := σ) hbT
    obtain ⟨p, hp1, hp2⟩ := a2.load (i := i) (t := t) (by rw [List.getElem?_append_right (by omega)]; simp [hrl]) .i64
    have hco := contains_ok hl1 (by omega) i σ2
    have w1 : IntKind.i64.wrap ((i : Int) + 1) = ((i + 1 : Nat) : Int) := w64 (by omega) (by omega)
    have hins2 : InS n deps r ids w6 σ2 := by
      rcases c3 with ⟨cs', h⟩ | ⟨id, g, us, cap, h1, h2, h3, h4⟩
      · exact .inl ⟨cs', h.same (fun j hj => a3 j (by simp only [List.mem_cons]; exact .inr hj)) a4⟩
      · exact .inr ⟨id, g, us, cap, h1, h2, by rw [a3 id (by rw [h1]; simp)]; exact h3, h4⟩
    have next : ∀ e' L', ¬ (b = true ∧ i ∈ l) → look e' 2 = some (.ptr 0 0 0) → look e' 6 = some w6 → look e' 11 = some w11' → look e' 54 = some (nv .i64 n) → look e' 55 = some (nv .i64 (i + 1)) → I (i + 1) ⟨e', L', σ2⟩ := by
      intro e' L' hno f2 f6 f11 f54 f55
      rw [hI]
      refine ⟨by omega, e', L', σ2, rts ++ [t], w11', rfl, hins2, h02, fun j hj => ⟨(hlt j hj).1, by have := (hlt j hj).2; omega⟩, a2, ones_app.2 ⟨hon, ones_one.2 (rw_one hl1)⟩, by simp [hrl], fun j t' ht => ?_, fun j hj hvj hr => ?_, f2, f6, f11, f54, f55⟩
      · by_cases hjl : j < rts.length
        · rw [List.getElem?_append_left hjl] at ht
          exact hrr j t' ht
        · have hj2 : j = rts.length := by
            have := (List.getElem?_eq_some_iff.1 ht).1
            simp at this; omega
          subst hj2
          simp at ht
          subst ht
          rw [hrl]; exact hRL
      · by_cases hji : j = i
        · subst hji
          rw [hb] at hvj
          cases hvj
          exact hno ⟨rfl, (hmem _).2 hr⟩
        · exact hnc j (by omega) hvj hr
    cases b with
    | false =>
      simp [k12_22, g55, g54, hin, k12_24, g11, g6, c1, hbs, a1, g2, l02, hia, hld, k12_29, w1, -Int.natCast_add]
      exact next _ _ (by simp) (by simp [g2]) (by simp [g6]) (by simp) (by simp [g54]) (by simp)
    | true =>
      by_cases hil2 : i ∈ l
      · rw [decide_eq_true hil2] at hco
        simp [k12_22, g55, g54, hin, k12_24, g11, g6, c1, hbs, a1, g2, l02, hia, hld, hp1, hp2, hco, mkTup]
        exact .inl ⟨⟨i, hb, (hmem i).1 hil2⟩, rfl⟩
      · rw [decide_eq_false hil2] at hco
        simp [k12_22, g55, g54, hin, k12_24, g11, g6, c1, hbs, a1, g2, l02, hia, hld, hp1, hp2, hco, k12_29, w1, -Int.natCast_add]
        exact next _ _ (by simp [hil2]) (by simp [g2]) (by simp [g6]) (by simp) (by simp [g54]) (by simp)
  · have hie : i = n := by omega
    subst hie
    simp [k12_22, g55, g54]
    refine ord_take (w11 := w11) hv hvn hn ?_ h0 (fun j hj => ?_) (by simp [g2]) (by simp [g11])
    · rintro ⟨j, h1, h2⟩
      have := (List.getElem?_eq_some_iff.1 h1).1
      exact hnc j (by omega) h1 h2
    · have ht : rts[j]? = some rts[j] := List.getElem?_eq_getElem (by omega)
      obtain ⟨p, hp⟩ := gx_loads h11 ht
      exact ⟨p, _, hp, hrr j _ ht⟩
end Go.Proofs.Ytknoiiacnfbkaaa.AM.Io
