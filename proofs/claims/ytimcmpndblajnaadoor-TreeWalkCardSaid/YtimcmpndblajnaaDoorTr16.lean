/- TreeWalk: part 16. -/
import Derived.Test.YtimcmpndblajnaaDoorTr15
set_option maxRecDepth 1000000
set_option linter.unusedVariables false
set_option linter.unusedSimpArgs false
namespace Go.Proofs.YtimcmpndblajnaaDoor.AM.Tr
open Go.Proofs

theorem allocS {σ : Store} {z : Tree} {v : V} (hz : oneV (.tr z) = true) (hv : oneV v = true) : ∃ σa σ', opAlloc [z] σ = some (.ptr σ.length 0 0, σa) ∧ opStore 1 (.ptr σ.length 0 0) v σa = some σ' ∧ σ'[σ.length]? = some (.row [v] 0) ∧ (∀ j, j < σ.length → σ'[j]? = σ[j]?) ∧ σ'.length = σ.length + 1 := by
  refine ⟨σ ++ [Ob.row [.tr z] 0], (σ ++ [Ob.row [.tr z] 0]).set σ.length (Ob.row [v] 0), rfl, st1 (u := .tr z) (by rw [List.getElem?_append_right (Nat.le_refl _)]; simp) hv, by rw [List.getElem?_set_self (by simp)], fun j hj => by rw [List.getElem?_set_ne (by omega), List.getElem?_append_left hj], by simp⟩
theorem walk8 {q : Q} {F : V} {σ σ' : Store} {v : V} (hF : opBin .func .neq F (.tr (.sc .nilFunc)) = some (bv true)) (h : callL T 19 [.tr (ag q), nv .i64 0, nv .i64 0, F] σ = some (v, σ')) : callL T 8 [.tr (ag q), F] σ = some (.tr (.tup []), σ') := by
  have h' : callL T 19 [.tr (ag q), .tr (.sc (.int .i64 0)), .tr (.sc (.int .i64 0)), F] σ = some (v, σ') := h
  suffices hh : ∃ v1 σ1, callL T 8 [.tr (ag q), F] σ = some (v1, σ1) ∧ (v1 = .tr (.tup []) ∧ σ1 = σ') by
    obtain ⟨v, σ', h1, rfl, rfl⟩ := hh
    exact h1
  refine call_shared T8 rfl rfl ?_
  simp [bx4, ld4, hF, h']
  rfl
theorem walk8n {q : Q} {σ : Store} : callL T 8 [.tr (ag q), .tr (.sc .nilFunc)] σ = some (.tr (.tup []), σ) := by
  suffices hh : ∃ v1 σ1, callL T 8 [.tr (ag q), .tr (.sc .nilFunc)] σ = some (v1, σ1) ∧ (v1 = .tr (.tup []) ∧ σ1 = σ) by
    obtain ⟨v, σ', h1, rfl, rfl⟩ := hh
    exact h1
  have hF : opBin .func .neq (.tr (.sc .nilFunc)) (.tr (.sc .nilFunc)) = some (bv false) := rfl
  refine call_shared T8 rfl rfl ?_
  simp [bx4, ld4, hF]
  rfl
theorem lv_one {σ : Store} {B : List Vq} {w : V} (h : LV σ B w) : oneV w = true := by
  rcases h with ⟨v, _, rfl⟩ | ⟨id, g, rfl, _⟩ <;> rfl
theorem law_walk {x : Nd} {qa : Q} (ha : NdQ x qa) {stop : List Int} {ts : Tree} (hts : Rw (stop.map iT) (.tr ts)) : ∃ v σ', callL T 3 [.tr (ag qa), .tr ts] [] = some (v, σ') ∧ v = bv true := by
  refine call_shared T3 rfl rfl ?_
  obtain ⟨qa', xa, ca, na, sa, hca⟩ := cut_ok ha
  have e5 := begun6
  obtain ⟨σ1, hσ1⟩ : ∃ σ1 : Store, σ1 = [.row ((e4 qa).map .tr) 0] := ⟨_, rfl⟩
  obtain ⟨σ2, hσ2⟩ : ∃ σ2 : Store, σ2 = [.row ((e4 qa).map .tr) 0, .row [.tr ts] 0] := ⟨_, rfl⟩
  obtain ⟨σ3, hσ3⟩ : ∃ σ3 : Store, σ3 = [.row ((e4 qa').map .tr) 0, .row [.tr ts] 0] := ⟨_, rfl⟩
  have b1 : opBoxB false (.tr (ag qa)) [] = some (.ptr 0 0 0, σ1) := by rw [hσ1]; rfl
  have b2 : opBoxB false (.tr ts) σ1 = some (.ptr 1 0 0, σ2) := by
    rw [hσ1, hσ2]
    unfold opBoxB opBox
    rw [cells_one (rw_one hts)]; rfl
  have l1 : opLoad 4 true (.ptr 0 0 0) σ2 = some (.tr (ag qa)) := by rw [hσ2]; rfl
  have s1 : opStore 4 (.ptr 0 0 0) (.tr (ag qa')) σ2 = some σ3 := by
    rw [hσ2, hσ3]
    rw [st4T (C := (e4 qa).map .tr) rfl rfl na]; rfl
  have l2 : opLoad 1 false (.ptr 1 0 0) σ3 = some (.tr ts) := by rw [hσ3]; rfl
  have hls : ∀ σ, opLen 1 (.tr ts) σ = some (nv .i64 stop.length) := fun σ => by rw [rw_len hts, List.length_map]
  have tail : ∀ e L σ4 (stop' : List Int) (ts' : Tree), Rw (stop'.map iT) (.tr ts') → stop'.length ≤ 6 → σ4[0]? = some (.row ((e4 qa').map .tr) 0) → σ4[1]? = some (.row [.tr ts'] 0) → look e 2 = some (.ptr 0 0 0) → look e 3 = some (.ptr 1 0 0) → look e 5 = some (bv true) → wpc T k3_4 ⟨e, L, σ4⟩ (giv [.tmp 4] fun v σ' => v = bv true) := by
    intro e L σ4 stop' ts' hts' hsl u0 u1 g2 g3 g5
    have i0 := (List.getElem?_eq_some_iff.1 u1).1
    have hda := dp_cn xa
    have m1 : opLoad 4 true (.ptr 0 0 0) σ4 = some (.tr (ag qa')) := (ld_4 (c := (qa'.1, qa'.2.1, qa'.2.2.1, .tr qa'.2.2.2)) u0).trans rfl
    have m2 := ld1 u1
    obtain ⟨σ5, σ6, al6, st6, v6, k6, n6⟩ := allocS (σ := σ4) (z := .sc (.int .i64 0)) (v := nv .i64 0) rfl rfl
    have m3 : opLoad 4 true (.ptr 0 0 0) σ6 = some (.tr (ag qa')) := (ld_4 (c := (qa'.1, qa'.2.1, qa'.2.2.1, .tr qa'.2.2.2)) (by rw [k6 0 (by omega)]; exact u0)).trans rfl
    have m4 : opLoad 1 false (.ptr 1 0 0) σ6 = some (.tr ts') := ld1 (by rw [k6 1 i0]; exact u1)
    obtain ⟨w, σ7, hov, B, o1, o2, o3, o4, o5, o6⟩ := over_ok hts' (by omega) _ xa qa' (Nat.le_refl _) (by omega) na σ6 0 0 σ4.length v6 (by omega) (by omega)
    have hBl : B.length ≤ 80 := by
      have h1 := vsR_len o2
      have h2 := visN_le (st := stop') xa 0 0
      omega
    obtain ⟨σa, σ8, al8, st8, v8, k8, n8⟩ := allocS (σ := σ7) (z := .sc (.slice none 0 0)) (v := w) rfl (lv_one o1)
    obtain ⟨σb, σ9, al9, st9, v9, k9, n9⟩ := allocS (σ := σ8) (z := .sc (.int .i64 0)) (v := nv .i64 0) rfl rfl
    obtain ⟨σc, σ10, al10, st10, v10, k10, n10⟩ := allocS (σ := σ9) (z := .sc (.bool false)) (v := bv true) rfl rfl
    have keep : ∀ j, j < σ4.length → σ10[j]? = σ4[j]? := by
      intro j hj
      rw [k10 j (by omega), k9 j (by omega), k8 j (by omega), o4 j (by omega) (by omega), k6 j hj]
    have hwid : ∀ id g n, w = .own id g 0 n 6 none → id ≠ σ8.length := by
      intro id g n h
      rcases o1 with ⟨v, _, h2⟩ | ⟨id', g', h2, h3⟩
      · rw [h2] at h; cases h
      · rw [h2] at h; cases h
        have := (List.getElem?_eq_some_iff.1 h3).1
        omega
    have hws : WS stop' ts' σ8.length σ7.length σ9.length 1 B w 0 σ10 := ⟨by rw [k10 _ (by omega)]; exact v9, by rw [k10 _ (by omega), k9 _ (by omega)]; exact v8, v10, by rw [keep 1 i0]; exact u1, lv_mono o1 fun id g n _ h => by rw [k10 id (by omega), k9 id (by omega), k8 id h]⟩
    have hat : At B 0 (visN stop' xa 0 0) := fun j a h => by rw [Nat.zero_add]; exact vsR_at o2 h
    obtain ⟨v, σ11, hwk, rfl, p2, p3, p4⟩ := walk_ok hts' (by omega) (p8 := σ8.length) (p7 := σ7.length) (p9 := σ9.length) (p3 := 1) (by omega) (by omega) (by omega) hwid (by omega) _ xa qa' (Nat.le_refl _) (by omega) sa na σ10 0 0 0 hws hat (by omega) (by omega)
    obtain ⟨F, hF⟩ : ∃ F : V, F = .fn (.func 9) [] [.ptr σ8.length 0 0, .ptr σ7.length 0 0, .ptr σ9.length 0 0, .ptr 1 0 0] := ⟨_, rfl⟩
    have hFn : opBin .func .neq F (.tr (.sc .nilFunc)) = some (bv true) := by rw [hF]; rfl
    rw [← hF] at hwk
    have c1 := walk8 hFn hwk
    have c2 := walk8n (q := qa') (σ := σ11)
    have m5 : ∀ σ', (∀ j, j < 1 → σ'[j]? = σ4[j]?) → opLoad 4 true (.ptr 0 0 0) σ' = some (.tr (ag qa')) := fun σ' h => (ld_4 (c := (qa'.1, qa'.2.1, qa'.2.2.1, .tr qa'.2.2.2)) (by rw [h 0 (by omega)]; exact u0)).trans rfl
    have m6 := m5 σ10 (fun j hj => keep j (by omega))
    have m7 := m5 σ11 (fun j hj => by rw [p3 j (by omega) (by omega), keep j (by omega)])
    have hws2 := hws.next (by omega) (by omega) (by omega) hwid p2 p3
    have m8 := ld1 hws2.h8
    have m9 := ld1 hws2.h7
    have m10 := ld1 hws2.h9
    have hlB : ∀ σ', opLen 1 w σ' = some (nv .i64 B.length) := fun σ' => lv_len o1
    have hBv := vsR_len o2
    rw [Nat.zero_add, ← hBv] at m8
    have q11 : ∀ σ, quietCall (callL T) 11 [.tr (ag qa')] σ = some (nv .i64 (cnN xa), σ) := fun σ => quiet_tr (ts := [ag qa']) (t := .sc (.int .i64 (cnN xa))) (cnt11 _ xa qa' (Nat.le_refl _) (by omega) na)
    have q13 : ∀ σ, quietCall (callL T) 13 [.tr (ag qa')] σ = some (nv .i64 (dpN xa), σ) := fun σ => quiet_tr (ts := [ag qa']) (t := .sc (.int .i64 (dpN xa))) (dep13 _ xa qa' (Nat.le_refl _) (by omega) na)
    have c12 := cnt12 _ xa qa' (Nat.le_refl _) (by omega) na
    have c14 := dep14 _ xa qa' (Nat.le_refl _) (by omega) na
    have hov' : callL T 7 [.tr (ag qa'), .tr (.sc (.int .i64 0)), .ptr σ4.length 0 0, .tr ts'] σ6 = some (w, σ7) := hov
    have hnb : allTr [V.ptr σ8.length 0 0, V.ptr σ7.length 0 0, V.ptr σ9.length 0 0, V.ptr 1 0 0] = none := rfl
    have hna : allTr [] = some [] := rfl
    have st6' : opStore 1 (.ptr σ4.length 0 0) (.tr (.sc (.int .i64 0))) σ5 = some σ6 := st6
    have st9' : opStore 1 (.ptr σ8.length 0 0) (.tr (.sc (.int .i64 0))) σb = some σ9 := st9
    simp [-opAlloc, k3_4, al6, st6', g2, g3, m3, m4, hov', al8, st8, al9, st9', al10, st10, m6, hna, hnb, ← hF, c1, c2, m7, g5, m8, m9, m10, hlB, q11, q13, c12, c14]
  obtain ⟨k0, hk0⟩ : ∃ k, k = stop.length := ⟨_, rfl⟩
  rw [← hk0] at hls
  by_cases h6 : 6 < k0
  · have h6' : (6 : Int) < k0 := by omega
    obtain ⟨t', hc, hr⟩ := rw_cut_hi hts (n := 6) (by simp; omega) .i64
    have hc' : ∀ σ, opSlice 1 (.tr ts) none (some (.tr (.sc (.int .i64 6)))) none σ = some (.tr t') := hc
    rw [← List.map_take] at hr
    obtain ⟨σ4, hσ4⟩ : ∃ σ4 : Store, σ4 = [.row ((e4 qa').map .tr) 0, .row [.tr t'] 0] := ⟨_, rfl⟩
    have s2 : opStore 1 (.ptr 1 0 0) (.tr t') σ3 = some σ4 := by
      rw [hσ3, hσ4, st1 (u := .tr ts) rfl (rw_one hr)]; rfl
    simp [b1, b2, e5, l1, ca, s1, l2, hls, h6, h6', hc', s2]
    exact tail _ _ σ4 (stop.take 6) t' hr (by rw [List.length_take]; omega) (by rw [hσ4]; rfl) (by rw [hσ4]; rfl) (by simp) (by simp) (by simp)
  · have h6' : ¬ (6 : Int) < k0 := by omega
    simp [b1, b2, e5, l1, ca, s1, l2, hls, h6, h6']
    exact tail _ _ σ3 stop ts hts (by omega) (by rw [hσ3]; rfl) (by rw [hσ3]; rfl) (by simp) (by simp) (by simp)
end Go.Proofs.YtimcmpndblajnaaDoor.AM.Tr
