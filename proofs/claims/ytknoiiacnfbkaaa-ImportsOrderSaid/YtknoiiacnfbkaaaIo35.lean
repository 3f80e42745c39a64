/- ImportsOrder: part 35. -/
import Derived.Test.YtknoiiacnfbkaaaIo34
set_option maxRecDepth 1000000
set_option linter.unusedVariables false
set_option linter.unusedSimpArgs false
namespace Go.Proofs.Ytknoiiacnfbkaaa.AM.Io
open Go.Proofs

theorem bst_some {N : List (S × Nat)} {ds : List (List S)} {O : List S} {b : Int} (h : Bst N ds O N.length b) : (b = -1 ∧ ∀ p, ¬ StpI N ds O p) ∨ ∃ k : Nat, ∃ y q, b = k ∧ N[k]? = some (y, q) ∧ StpI N ds O y := by
  rcases h with ⟨h1, h2⟩ | ⟨k, y, q, h1, h2, h3, h4, h5, h6⟩
  · refine .inl ⟨h1, fun p hp => ?_⟩
    obtain ⟨⟨i, hi, hr⟩, hpO, _⟩ := hp
    obtain ⟨j, hj⟩ := List.getElem?_of_mem hi
    exact h2 j p i (List.getElem?_eq_some_iff.1 hj).1 hj hpO hr
  · refine .inr ⟨k, y, q, h1, h3, ⟨q, List.mem_of_getElem? h3, h5⟩, h4, fun z j hz hzO hr => ?_⟩
    obtain ⟨m, hm⟩ := List.getElem?_of_mem hz
    exact h6 m z j (List.getElem?_eq_some_iff.1 hm).1 hm hzO hr

section
variable {N : List (S × Nat)} {ds : List (List S)} {σ : Store} {w6 w7 w10 : V} {r6 r7 : List Nat} {nts : List Tree}

/-- What is left, in order. -/
theorem rest_loop {O : List S} {r10 : List Nat} {e L : List (Nat × V)} (hNl : N.length ≤ 12) (hnd : (N.map Prod.fst).Nodup) (h6 : Root r6 (N.map fun p => sT p.1) w6 σ) (h10 : Root r10 (O.map sT) w10 σ) (hO : O.length ≤ N.length) (hd : DoneOk (StpI N ds) O)
    (g6 : look e 6 = some w6) (g10 : look e 10 = some w10) :
    wpc T k8_35 ⟨e, L, σ⟩ (giv [.tmp 4, .tmp 5] fun v σ => ∃ t, snap σ deepN v = some t ∧ ImpR N ds t) := by
  have hl6 := fun σ' => h6.len (σ' := σ')
  rw [List.length_map] at hl6
  simp [k8_35]
  obtain ⟨I, hI⟩ : ∃ I : Nat → St → Prop, I = (fun i st => i ≤ N.length ∧ ∃ e L σ', ∃ R : List S, ∃ r15 w15, st = ⟨e, L, σ'⟩ ∧ Root r6 (N.map fun p => sT p.1) w6 σ' ∧ Root r10 (O.map sT) w10 σ' ∧ Root r15 (R.map sT) w15 σ' ∧ (∀ j ∈ r15, j ∉ r6 ∧ j ∉ r10) ∧ R.Pairwise lt ∧ R.length ≤ i ∧ (∀ x, x ∈ R ↔ x ∈ (N.take i).map Prod.fst ∧ x ∉ O)
    ∧ look e 6 = some w6 ∧ look e 10 = some w10 ∧ look e 15 = some w15 ∧ look e 16 = some (nv .i64 i)) := ⟨_, rfl⟩
  refine wpc_up N.length I ?_ ?_
  · rw [hI]
    exact ⟨Nat.zero_le _, _, _, σ, [], [], nilSl, rfl, h6, h10, Root.nil _, by simp, List.Pairwise.nil, by simp, by simp, by simp [g6], by simp [g10], by simp [nilSl], by simp⟩
  clear h6 h10 g6 g10
  intro i st hIs
  rw [hI] at hIs
  obtain ⟨hi, e, L, σ, R, r15, w15, rfl, h6, h10, h15, hdis, hsrt, hRl, hRm, g6, g10, g15, g16⟩ := hIs
  by_cases hil : i < N.length
  · have w1 : IntKind.i64.wrap ((i : Int) + 1) = ((i + 1 : Nat) : Int) := w64 (by omega) (by omega)
    obtain ⟨⟨y, q⟩, hy⟩ : ∃ p, N[i]? = some p := ⟨_, List.getElem?_eq_getElem hil⟩
    have hyT : (N.map fun p => sT p.1)[i]? = some (sT y) := by rw [List.getElem?_map, hy]; rfl
    obtain ⟨p6, hp1, hp2⟩ := h6.load hyT .i64
    obtain ⟨k, hk, hkm⟩ := among_gx (gx_of_root h10) (by omega) y
    have htk : (N.take (i + 1)).map Prod.fst = (N.take i).map Prod.fst ++ [y] := by rw [List.take_add_one, hy]; simp
    by_cases hyO : y ∈ O
    · have hk0 : ¬ k < 0 := by have := hkm.2 hyO; omega
      simp [k8_38, g16, g6, hl6, hil, k8_40, g10, hp1, hp2, hk, hk0, k8_49, w1, -Int.natCast_add]
      rw [hI]
      refine ⟨by omega, _, _, σ, R, r15, w15, rfl, h6, h10, h15, hdis, hsrt, by omega, fun x => ?_, by simp [g6], by simp [g10], by simp [g15], by simp⟩
      rw [hRm x, htk, List.mem_append, List.mem_singleton]
      constructor
      · rintro ⟨h1, h2⟩; exact ⟨.inl h1, h2⟩
      · rintro ⟨h1 | rfl, h2⟩
        · exact ⟨h1, h2⟩
        · exact absurd hyO h2
    · have hk0 : k < 0 := by
        by_cases h : k < 0
        · exact h
        · exact absurd (hkm.1 (by omega)) hyO
      have hyR : y ∉ R := by
        intro h
        have := ((hRm y).1 h).1
        have h1 : ((N.take (i + 1)).map Prod.fst).Nodup := by
          rw [List.map_take]
          exact hnd.sublist (List.take_sublist _ _)
        rw [htk, List.nodup_append] at h1
        exact h1.2.2 y this y (by simp) rfl
      obtain ⟨r15', w15', σ1, a1, a2, a3, a4, a5⟩ := root_app (t := sT y) (b := 16) h15 rfl (ones_sT _) (by omega) (by simp; omega) (some 1)
      have hbs := fun σ => bs1 (σ := σ) (t := sT y) (.sc (.string ⟨⟨[]⟩⟩)) rfl
      have hl15 : opLen 1 w15' σ1 = some (nv .i64 (R.length + 1)) := by rw [a2.len]; simp
      have w2 : IntKind.i64.wrap (((R.length + 1 : Nat) : Int) - 1) = (R.length : Int) := by rw [w64 (by omega) (by omega)]; omega
      have h6' : Root r6 (N.map fun p => sT p.1) w6 σ1 := h6.keep (fun j hj => a4 j (fun h => (hdis j h).1 hj) (h6.lt j hj))
      have h10' : Root r10 (O.map sT) w10 σ1 := h10.keep (fun j hj => a4 j (fun h => (hdis j h).2 hj) (h10.lt j hj))
      have hdis' : ∀ j ∈ r15', j ∉ r6 ∧ j ∉ r10 := by
        intro j hj
        rcases a3 with rfl | rfl
        · exact hdis j hj
        · simp at hj
          subst hj
          exact ⟨fun h => by have := h6.lt _ h; omega, fun h => by have := h10.lt _ h; omega⟩
      rw [← List.map_singleton (f := sT), ← List.map_append] at a2
      simp [k8_38, g16, g6, hl6, hil, k8_40, g10, hp1, hp2, hk, hk0, g15, hbs, a1, hl15, w2, -Int.natCast_add]
      refine ins_loop (l := R) (x := y) (w6 := w6) (w10 := w10) (w15 := w15') (r15 := r15') (i := i) a2 hsrt hyR (by omega) (by simp [g6]) (by simp [g10]) (by simp) (by simp [g16]) (by simp) ?_
      intro e' L' σ2 m c1 c2 c3 c4 c5 c6 f6 f10 f15 f16
      simp [k8_49, f16, w1, -Int.natCast_add]
      rw [hI]
      refine ⟨by omega, _, _, σ2, m, r15', w15', rfl, h6'.keep (fun j hj => c5 j (fun h => (hdis' j h).1 hj)), h10'.keep (fun j hj => c5 j (fun h => (hdis' j h).2 hj)), c1, hdis', c2, by omega, fun x => ?_, by simp [f6], by simp [f10], by simp [f15], by simp⟩
      rw [c3 x, hRm x, htk, List.mem_append, List.mem_singleton]
      constructor
      · rintro (⟨h1, h2⟩ | rfl)
        · exact ⟨.inl h1, h2⟩
        · exact ⟨.inr rfl, hyO⟩
      · rintro ⟨h1 | rfl, h2⟩
        · exact .inl ⟨h1, h2⟩
        · exact .inr rfl
  · have hie : i = N.length := by omega
    subst hie
    rw [List.take_of_length_le (Nat.le_refl _)] at hRm
    obtain ⟨tO, o1, o2⟩ := h10.snap 398
    obtain ⟨tR, p1, p2⟩ := h15.snap 398
    have hsn := snap_tup2 o1 p1
    simp [k8_38, g16, g6, hl6, k8_50, g10, g15, hsn]
    exact ⟨O, R, tO, tR, hd, hO, hRl, o2, hsrt, hRm, p2, rfl⟩

theorem rimp_main {e L : List (Nat × V)} (hNl : N.length ≤ 12) (hnd : (N.map Prod.fst).Nodup) (h6 : Root r6 (N.map fun p => sT p.1) w6 σ) (h7 : Root r7 nts w7 σ) (hN : Needs ds N nts) (hdl : ∀ i, (depS ds i).length ≤ 1000) (hdis : ∀ i ∈ r6, i ∉ r7)
    (g6 : look e 6 = some w6) (g7 : look e 7 = some w7) :
    wpc T k8_14 ⟨e, L, σ⟩ (giv [.tmp 4, .tmp 5] fun v σ => ∃ t, snap σ deepN v = some t ∧ ImpR N ds t) := by
  simp [k8_14]
  obtain ⟨I, hI⟩ : ∃ I : Nat → St → Prop, I = (fun m st => ∃ e L σ, ∃ O : List S, ∃ r10 w10, st = ⟨e, L, σ⟩ ∧ N.length = m + O.length ∧ ChainOk (StpI N ds) O ∧ Root r6 (N.map fun p => sT p.1) w6 σ ∧ Root r7 nts w7 σ ∧ Root r10 (O.map sT) w10 σ ∧ (∀ j ∈ r10, j ∉ r6 ∧ j ∉ r7)
    ∧ look e 6 = some w6 ∧ look e 7 = some w7 ∧ look e 10 = some w10) := ⟨_, rfl⟩
  refine wpc_loop I N.length _ ?_ ?_
  · rw [hI]
    exact ⟨_, _, σ, [], [], nilSl, rfl, by simp, ChainOk.nil, h6, h7, Root.nil _, by simp, by simp [g6], by simp [g7], by simp [nilSl]⟩
  clear h6 h7 g6 g7
  intro m st hIs
  rw [hI] at hIs
  obtain ⟨e, L, σ, O, r10, w10, rfl, hm, hch, h6, h7, h10, hd10, g6, g7, g10⟩ := hIs
  simp [k8_16]
  refine best_loop (w6 := w6) (w7 := w7) (w10 := w10) (O := O) (ds := ds) (N := N) (nts := nts) hNl h6 h7 hN h10 (by omega) hdl (by simp [g6]) (by simp [g7]) (by simp [g10]) (by simp) (by simp) ?_
  intro e' L' b hb f6 f7 f10 f11
  rcases bst_some hb with ⟨rfl, hno⟩ | ⟨k, y, q, rfl, hy, hst⟩
  · have hlt : (-1 : Int) < 0 := by omega
    simp [k8_32, f11]
    exact rest_loop (w6 := w6) (w10 := w10) hNl hnd h6 h10 (by omega) ⟨hch, hno⟩ (by simp [f6]) (by simp [f10])
  · have hk0 : ¬ (k : Int) < 0 := by omega
    have hyT : (N.map fun p => sT p.1)[k]? = some (sT y) := by rw [List.getElem?_map, hy]; rfl
    obtain ⟨p6, hp1, hp2⟩ := h6.load hyT .i64
    obtain ⟨r10', w10', σ1, a1, a2, a3, a4, a5⟩ := root_app (t := sT y) (b := 16) h10 rfl (ones_sT _) (by omega) (by simp; omega) (some 1)
    have hbs := fun σ => bs1 (σ := σ) (t := sT y) (.sc (.string ⟨⟨[]⟩⟩)) rfl
    have hlen := chainI_len (hch.snoc hst)
    simp at hlen
    simp [k8_32, f11, hk0, k8_34, f10, f6, hp1, hp2, hbs, a1]
    refine ⟨m - 1, by omega, ?_⟩
    rw [hI]
    refine ⟨_, _, σ1, O ++ [y], r10', w10', rfl, by simp; omega, hch.snoc hst, h6.keep (fun j hj => a4 j (fun h => (hd10 j h).1 hj) (h6.lt j hj)), h7.keep (fun j hj => a4 j (fun h => (hd10 j h).2 hj) (h7.lt j hj)), by rw [List.map_append]; exact a2, fun j hj => ?_, by simp [f6], by simp [f7], by simp⟩
    rcases a3 with rfl | rfl
    · exact hd10 j hj
    · simp at hj
      subst hj
      exact ⟨fun h => by have := h6.lt _ h; omega, fun h => by have := h7.lt _ h; omega⟩
end

theorem rimports_ok {paths : List S} {pt dt : Tree} {ds : List (List S)} {ts : List Tree} (hp : Rw (paths.map sT) (.tr pt)) (hpl : paths.length ≤ 12) (hd : Rw ts (.tr dt)) (hL : LsS ds ts) (hdl : ∀ l ∈ ds, l.length ≤ 1000) :
    ∃ t, (∀ σ, callL T 8 [.tr pt, .tr dt] σ = some (.tr t, σ)) ∧ ImpR (prs paths paths.length) ds t := by
  refine call_iso (ts := [pt, dt]) T8 rfl rfl ?_
  simp
  refine rimp_names hp hpl hd hL (by simp) (by simp) (by simp [nilSl]) (by simp [nilSl]) (by simp) ?_
  intro e' L' σ r6 r7 w6 w7 nts h6 h7 hN hdis g6 g7
  simp
  refine rimp_main (w6 := w6) (w7 := w7) (nts := nts) (Nat.le_trans (prs_len _ _) hpl) (prs_nd _ _) h6 h7 hN (fun i => ?_) hdis (by simp [g6]) (by simp [g7])
  unfold depS
  cases h : ds[i]? with
  | none => simp
  | some l => exact hdl l (List.mem_of_getElem? h)
end Go.Proofs.Ytknoiiacnfbkaaa.AM.Io
