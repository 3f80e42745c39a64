/- ImportsOrder: part 7. -/
import Derived.Test.YtknoiiacnfbkaaaIo6
set_option maxRecDepth 1000000
set_option linter.unusedVariables false
set_option linter.unusedSimpArgs false
namespace Go.Proofs.Ytknoiiacnfbkaaa.AM.Io
open Go.Proofs

theorem cut_len {deps : List (List Int)} {n : Nat} : ∀ l ∈ (deps.take n).map (List.take 8), l.length ≤ 1000 := by
  intro l hl
  obtain ⟨m, _, rfl⟩ := List.mem_map.1 hl
  rw [List.length_take]; omega

theorem law_reach {deps : List (List Int)} {ts : List Tree} {td : Tree} (htd : Rw ts (.tr td)) (hLs : Ls deps ts) (frm : Int) : ∃ v σ', callL T 5 [.tr td, iv frm] [] = some (v, σ') ∧ v = bv true := by
  refine call_shared T5 rfl rfl ?_
  obtain ⟨d, hd, us, hus, hLd⟩ := cut_ok (n := 16) htd hLs (by omega)
  have hdl : ∀ l ∈ (deps.take 16).map (List.take 8), l.length ≤ 1000 := cut_len
  have hn16 : ((deps.take 16).map (List.take 8)).length ≤ 16 := by simp; omega
  generalize (deps.take 16).map (List.take 8) = ds at *
  obtain ⟨n, hn⟩ : ∃ n, n = ds.length := ⟨_, rfl⟩
  have hlen : ∀ σ, opLen 1 (.tr d) σ = some (nv .i64 n) := fun σ => by rw [rw_len hus, hLd.1, hn]
  have e10 := begun20
  have hd' : ∀ σ, callL T 11 [.tr td, .tr (.sc (.int .i64 16))] σ = some (.tr d, σ) := hd
  by_cases hin : 0 ≤ frm ∧ frm < n
  · have h0 : ¬ frm < 0 := by omega
    have h1 : ¬ (n : Int) ≤ frm := by omega
    obtain ⟨t1, c1, l, hl, hsrt, hmem⟩ := reach_ok (n := n) frm hn.symm (by omega) hus hLd hdl
    obtain ⟨t2, c2, bs, hbl, ⟨c, rfl⟩, hbm⟩ := rreach_ok (n := n) frm (by omega) (by omega) hus hLd hdl
    have hll : ∀ σ, opLen 1 (.tr t1) σ = some (nv .i64 l.length) := fun σ => by rw [rw_len hl, List.length_map]
    have hlln : l.length ≤ n := nodup_len n l (hsrt.imp (fun h => by omega)) (fun y hy => rch_lt ((hmem y).1 hy).2.2)
    have c1' : ∀ σ, callL T 14 [.tr d, iv frm] σ = some (.tr t1, σ) := c1
    simp [e10, hd', hlen, h0, h1, k5_6, c2, c1']
    obtain ⟨I, hI⟩ : ∃ I : Nat → St → Prop, I = (fun i s => i ≤ n ∧ ∃ e L k, s = ⟨e, L, []⟩ ∧ k ≤ l.length ∧ (∀ j x, l[j]? = some x → (j < k → x < i) ∧ (k ≤ j → i ≤ x)) ∧ look e 5 = some (bv true) ∧ look e 7 = some (nv .i64 n) ∧ look e 8 = some (.tr (.row (bs.map bT) n c)) ∧ look e 9 = some (.tr t1) ∧ look e 10 = some (nv .i64 k) ∧ look e 11 = some (nv .i64 i)) := ⟨_, rfl⟩
    refine wpc_up n I ?_ ?_
    · rw [hI]
      exact ⟨Nat.zero_le _, _, _, 0, rfl, Nat.zero_le _, fun j x _ => ⟨fun h => by omega, fun _ => Nat.zero_le _⟩, by simp, by simp, by simp, by simp, by simp, by simp⟩
    intro i s hIs
    rw [hI] at hIs
    obtain ⟨hi, e, L, k, rfl, hk, hlk, g5, g7, g8, g9, g10, g11⟩ := hIs
    by_cases hil : i < n
    · have hil' : (i : Int) < n := by omega
      obtain ⟨b, hb⟩ : ∃ b, bs[i]? = some b := ⟨_, List.getElem?_eq_getElem (by omega)⟩
      have hbT : (bs.map bT)[i]? = some (bT b) := by rw [List.getElem?_map, hb]; rfl
      have hRw : Rw (bs.map bT) (.tr (.row (bs.map bT) n c)) := .inr ⟨c, by rw [List.length_map, hbl]⟩
      have hia := fun σ => rw_iaddr (σ := σ) hRw hbT .i64
      have hld := fun σ => rw_load (σ := σ) hbT
      have w1 : IntKind.i64.wrap ((i : Int) + 1) = ((i + 1 : Nat) : Int) := w64 (by omega) (by omega)
      have w2 : IntKind.i64.wrap ((k : Int) + 1) = ((k + 1 : Nat) : Int) := w64 (by omega) (by omega)
      have himem : i ∈ l ↔ b = true := by
        rw [hmem, ← hbm, hb]
        simp
      cases b with
      | true =>
        have hil2 := himem.2 rfl
        obtain ⟨j, hj⟩ := List.getElem?_of_mem hil2
        have hjk : k ≤ j := by
          rcases Nat.lt_or_ge j k with h | h
          · have := (hlk j i hj).1 h; omega
          · exact h
        have hjl := (List.getElem?_eq_some_iff.1 hj).1
        have hk1 : l[k]? = some l[k] := List.getElem?_eq_getElem (by omega)
        have hjeq : j = k := by
          rcases Nat.lt_or_ge k j with h | h
          · have h2 := (hlk k _ hk1).2 (Nat.le_refl _)
            have h3 : l[k] < l[j] := List.pairwise_iff_getElem.1 hsrt k j (by omega) hjl h
            have h4 : l[j] = i := (List.getElem?_eq_some_iff.1 hj).2
            omega
          · omega
        subst hjeq
        have hjT : (l.map nT)[j]? = some (nT i) := by rw [List.getElem?_map, hj]; rfl
        have hia2 := fun σ => rw_iaddr (σ := σ) hl hjT .i64
        have hld2 := fun σ => rw_load (σ := σ) hjT
        have hjl2 : ¬ l.length ≤ j := by omega
        simp [k5_11, g11, g7, hil, hil', k5_13, g8, hia, hld, g10, g9, hll, hjl2, hia2, hld2, k5_18, w2, k5_19, w1, -Int.natCast_add]
        rw [hI]
        refine ⟨by omega, _, _, j + 1, rfl, by omega, fun q x hq => ⟨fun h => ?_, fun h => ?_⟩, by simp [g5], by simp [g7], by simp [g8], by simp [g9], by simp, by simp⟩
        · rcases Nat.lt_or_ge q j with h2 | h2
          · have := (hlk q x hq).1 h2; omega
          · have : q = j := by omega
            subst this
            rw [hj] at hq
            cases hq
            omega
        · have hql := (List.getElem?_eq_some_iff.1 hq).1
          have h3 : l[j] < l[q] := List.pairwise_iff_getElem.1 hsrt j q (by omega) hql (by omega)
          have h4 : l[j] = i := (List.getElem?_eq_some_iff.1 hj).2
          have h5 : l[q] = x := (List.getElem?_eq_some_iff.1 hq).2
          omega
      | false =>
        have hil2 : i ∉ l := fun h => by have := himem.1 h; cases this
        simp [k5_11, g11, g7, hil, hil', k5_13, g8, hia, hld, k5_19, w1, -Int.natCast_add]
        rw [hI]
        refine ⟨by omega, _, _, k, rfl, hk, fun q x hq => ⟨fun h => ?_, fun h => ?_⟩, by simp [g5], by simp [g7], by simp [g8], by simp [g9], by simp [g10], by simp⟩
        · have := (hlk q x hq).1 h; omega
        · have h2 := (hlk q x hq).2 h
          have : x ≠ i := fun e => hil2 (e ▸ List.mem_of_getElem? hq)
          omega
    · have hie : i = n := by omega
      subst hie
      have hkl : k = l.length := by
        rcases Nat.lt_or_ge k l.length with h | h
        · have hk1 : l[k]? = some l[k] := List.getElem?_eq_getElem h
          have h2 := (hlk k _ hk1).2 (Nat.le_refl _)
          have h3 := rch_lt ((hmem _).1 (List.mem_of_getElem? hk1)).2.2
          omega
        · omega
      simp [k5_11, g11, g7, k5_20, g5, g10, g9, hll, hkl]
  · obtain ⟨t1, c1, l, hl, hsrt, hmem⟩ := reach_ok (n := n) (-1) hn.symm (by omega) hus hLd hdl
    have hl0 : l = [] := by
      cases l with
      | nil => rfl
      | cons a b => have := ((hmem a).1 (by simp)).1; omega
    subst hl0
    have hll : ∀ σ, opLen 1 (.tr t1) σ = some (.tr (.sc (.int .i64 0))) := fun σ => by rw [rw_len hl]; rfl
    by_cases h0 : frm < 0
    · simp [e10, hd', hlen, h0, c1, hll]
    · have h1 : (n : Int) ≤ frm := by omega
      simp [e10, hd', hlen, h0, h1, c1, hll]
end Go.Proofs.Ytknoiiacnfbkaaa.AM.Io
