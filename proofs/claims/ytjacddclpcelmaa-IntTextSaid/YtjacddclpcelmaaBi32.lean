/- IntText: part 32. -/
import Derived.Test.YtjacddclpcelmaaBi31
set_option maxRecDepth 1000000
set_option linter.unusedVariables false
set_option linter.unusedSimpArgs false
namespace Go.Proofs.Ytjacddclpcelmaa.AM.Bi
open Go.Proofs

/-- One digit of the quotient: guessed, and brought down till it fits. -/
theorem rdiv_digit {R d Q Wl : List Nat} {j n nr nq : Nat} {X1 : Ob} {td : Tree} {e L : List (Nat × V)} (hR : dig 65536 R) (hRl : R.length = nr) (hdI : IsSl iE d (.tr td)) (hd : dig 65536 d) (hdn : d.length = n) (hn : 0 < n) (hlast : d[n - 1]? ≠ some 0) (hj : j + n + 1 ≤ nr) (hl : nr ≤ 10001)
    (hlt : val 65536 R < val 65536 d * 65536 ^ (j + 1)) (hQ : dig 65536 Q) (hQl : Q.length = nq) (hjq : j < nq) (dW : dig 65536 Wl) (hWl : Wl.length = n + 1)
    (X8 : V) (h8 : look e 8 = some X8) (h9 : look e 9 = some (.own 0 0 0 nr 1 (some nr))) (h10 : look e 10 = some (.tr td)) (h11 : look e 11 = some (nv .i64 n)) (h12 : look e 12 = some (.own 2 0 0 nq 1 (some nq))) (h13 : look e 13 = some (.own 3 0 0 (n + 1) 1 (some (n + 1)))) (h14 : look e 14 = some (nv .i64 j)) {QQ : Out → St → Prop}
    (hQQ : ∀ e' L' R' Wl' g, dig 65536 R' → R'.length = nr → g < 65536 → dig 65536 Wl' → Wl'.length = n + 1 → val 65536 R' + val 65536 d * (65536 ^ j * g) = val 65536 R → val 65536 R' < val 65536 d * 65536 ^ j →
      look e' 8 = some X8 → look e' 9 = some (.own 0 0 0 nr 1 (some nr)) → look e' 10 = some (.tr td) → look e' 11 = some (nv .i64 n) → look e' 12 = some (.own 2 0 0 nq 1 (some nq)) → look e' 13 = some (.own 3 0 0 (n + 1) 1 (some (n + 1))) → look e' 14 = some (iv ((j : Int) - 1)) →
      QQ .normal ⟨e', L', [.row (cK .i64 R') 0, X1, .row (cK .i64 (Q.set j g)) 0, .row (cK .i64 Wl') 0]⟩) :
    wpc T k56_17 ⟨e, L, [.row (cK .i64 R) 0, X1, .row (cK .i64 Q) 0, .row (cK .i64 Wl) 0]⟩ QQ := by
  have hk0 : 0 < nr - (j + n) := by omega
  obtain ⟨P, hP⟩ : ∃ P, P = R.drop j := ⟨_, rfl⟩
  obtain ⟨pre, hpre⟩ : ∃ pre, pre = R.take j := ⟨_, rfl⟩
  have hRp : R = pre ++ P := by rw [hP, hpre, List.take_append_drop]
  have hprel : pre.length = j := by rw [hpre, List.length_take]; omega
  have hPl : P.length = nr - j := by rw [hP, List.length_drop, hRl]
  have dP : dig 65536 P := by rw [hP]; exact dig_drop hR
  have dpre : dig 65536 pre := by rw [hpre]; exact dig_take hR
  have hprev := val_lt dpre
  rw [hprel] at hprev
  have hRv : val 65536 R = val 65536 pre + 65536 ^ j * val 65536 P := by rw [hRp, val_append, hprel]
  obtain ⟨D, hD⟩ : ∃ D, D = val 65536 d := ⟨_, rfl⟩
  rw [← hD] at hlt hQQ
  have hDlt : D < 65536 ^ n := by rw [hD, ← hdn]; exact val_lt hd
  have hpj : 0 < 65536 ^ j := Nat.pow_pos (by decide)
  have hPW : val 65536 P < D * 65536 := by
    rcases Nat.lt_or_ge (val 65536 P) (D * 65536) with h | h
    · exact h
    · exfalso
      have h1 : 65536 ^ j * (D * 65536) ≤ 65536 ^ j * val 65536 P := Nat.mul_le_mul_left _ h
      have h2 : D * 65536 ^ (j + 1) = 65536 ^ j * (D * 65536) := by rw [Nat.pow_succ, Nat.mul_left_comm]
      omega
  have hPn : val 65536 P < 65536 ^ (n + 1) := by
    rw [Nat.pow_succ]
    exact Nat.lt_of_lt_of_le hPW (Nat.mul_le_mul_right _ (Nat.le_of_lt hDlt))
  have hWP : val 65536 (P.take (n + 1)) = val 65536 P := val_tail (by decide) (by omega) hPn
  obtain ⟨W, hW⟩ : ∃ W, W = val 65536 P := ⟨_, rfl⟩
  rw [← hW] at hPW hPn hWP hRv
  -- the first digits
  have hx1 : R[j + n]? = some R[j + n] := List.getElem?_eq_getElem (by omega)
  have hx0 : R[j + n - 1]? = some R[j + n - 1] := List.getElem?_eq_getElem (by omega)
  have b1 : R[j + n] < 65536 := dig_at hR (by omega)
  have b0 : R[j + n - 1] < 65536 := dig_at hR (by omega)
  obtain ⟨u1, hu1⟩ : ∃ u, u = R[j + n] := ⟨_, rfl⟩
  obtain ⟨u0, hu0⟩ : ∃ u, u = R[j + n - 1] := ⟨_, rfl⟩
  rw [← hu1] at hx1 b1
  rw [← hu0] at hx0 b0
  have p1 : at0 P n = u1 := by unfold at0; rw [hP, List.getElem?_drop, hx1]; rfl
  have p0 : at0 P (n - 1) = u0 := by unfold at0; rw [hP, List.getElem?_drop, show j + (n - 1) = j + n - 1 by omega, hx0]; rfl
  obtain ⟨top, htop⟩ : ∃ top, top = u1 * 65536 + u0 := ⟨_, rfl⟩
  have hdb : at0 d (n - 1) < 65536 := at0_dig (by decide) hd _
  obtain ⟨dt, hdt⟩ : ∃ dt, dt = at0 d (n - 1) := ⟨_, rfl⟩
  have hdx : d[n - 1]? = some dt := by rw [hdt, at0_lt (by omega)]; exact List.getElem?_eq_getElem (by omega)
  rw [← hdt] at hdb
  have hdt0 : dt ≠ 0 := by intro h; rw [h] at hdx; exact hlast hdx
  have hWtop : W < 65536 ^ (n - 1) * (top + 1) := by
    have e1 := val_take_at0 65536 n P
    have e0 := val_take_at0 65536 (n - 1) P
    rw [show n - 1 + 1 = n by omega] at e0
    rw [hWP, e0, p1, p0] at e1
    have hlo := val_lt (dig_take (n := n - 1) dP)
    rw [List.length_take, Nat.min_eq_left (by omega)] at hlo
    have e2 : (65536 : Nat) ^ n = 65536 ^ (n - 1) * 65536 := by rw [← Nat.pow_succ]; congr 1; omega
    rw [e1, e2, htop, Nat.mul_add, Nat.mul_add, Nat.mul_one, Nat.mul_comm u1, ← Nat.mul_assoc]
    omega
  have hDge : 65536 ^ (n - 1) * dt ≤ D := by
    have e0 := val_take_at0 65536 (n - 1) d
    rw [show n - 1 + 1 = n by omega, List.take_of_length_le (by omega), ← hdt] at e0
    rw [hD, e0]
    omega
  -- reading
  have hia1 : opIaddr 1 (.own 0 0 0 nr 1 (some nr)) (nv .i64 (j + n)) [.row (cK .i64 R) 0, X1, .row (cK .i64 Q) 0, .row (cK .i64 Wl) 0] = some (.ptr 0 0 (0 + (j + n))) := own_iaddr rfl (by omega)
  have hia0 : opIaddr 1 (.own 0 0 0 nr 1 (some nr)) (nv .i64 (j + n - 1 : Nat)) [.row (cK .i64 R) 0, X1, .row (cK .i64 Q) 0, .row (cK .i64 Wl) 0] = some (.ptr 0 0 (0 + (j + n - 1))) := own_iaddr rfl (by omega)
  rw [Nat.zero_add] at hia1 hia0
  have hld1 : opLoad 1 false (.ptr 0 0 (j + n)) [.row (cK .i64 R) 0, X1, .row (cK .i64 Q) 0, .row (cK .i64 Wl) 0] = some (nv .i64 u1) := own_load rfl hx1
  have hld0 : opLoad 1 false (.ptr 0 0 (j + n - 1)) [.row (cK .i64 R) 0, X1, .row (cK .i64 Q) 0, .row (cK .i64 Wl) 0] = some (nv .i64 u0) := own_load rfl hx0
  have w1 : IntKind.i64.wrap ((j : Int) + n) = ((j + n : Nat) : Int) := by rw [w64 (by omega) (by omega)]; omega
  have w2 : IntKind.i64.wrap (((j + n : Nat) : Int) - 1) = ((j + n - 1 : Nat) : Int) := by rw [w64 (by omega) (by omega)]; omega
  have w3 : IntKind.i64.wrap ((n : Int) - 1) = ((n - 1 : Nat) : Int) := by rw [w64 (by omega) (by omega)]; omega
  have w4 : IntKind.i64.wrap ((u1 : Int) * 65536) = ((u1 * 65536 : Nat) : Int) := by rw [w64 (by omega) (by omega)]; omega
  have w5 : IntKind.i64.wrap (((u1 * 65536 : Nat) : Int) + u0) = (top : Int) := by rw [w64 (by omega) (by omega)]; omega
  have hqu := quo_nn top dt hdt0 (by omega)
  obtain ⟨q, hq⟩ : ∃ q, q = top / dt := ⟨_, rfl⟩
  rw [← hq] at hqu
  have hgW := guess_ge (Nat.pos_of_ne_zero hdt0) hWtop hDge hq
  suffices loop : ∀ e' L' g0, g0 < 65536 → W < (g0 + 1) * D → look e' 8 = some X8 → look e' 9 = some (.own 0 0 0 nr 1 (some nr)) → look e' 10 = some (.tr td) → look e' 11 = some (nv .i64 n) → look e' 12 = some (.own 2 0 0 nq 1 (some nq)) → look e' 13 = some (.own 3 0 0 (n + 1) 1 (some (n + 1))) → look e' 14 = some (nv .i64 j) → look e' 15 = some (nv .i64 g0) →
      wpc T k56_20 ⟨e', L', [.row (cK .i64 R) 0, X1, .row (cK .i64 Q) 0, .row (cK .i64 Wl) 0]⟩ (blk 1 (AM.sq T k56_25 QQ)) by
    by_cases hbig : 65536 ≤ q
    · have hbig2 : (65536 : Int) ≤ q := by omega
      simp [k56_17, h9, h14, h11, w1, hia1, hld1, w4, w2, hia0, hld0, w5, h10, w3, sl_iaddr hdI hdx, sl_load hdx, hqu, hbig2, -Int.natCast_add, -Int.natCast_mul]
      refine loop _ _ 65535 (by omega) ?_ (by simp [h8]) (by simp [h9]) (by simp [h10]) (by simp [h11]) (by simp [h12]) (by simp [h13]) (by simp [h14]) (by simp)
      rw [Nat.mul_comm]; exact hPW
    · have hbig2 : ¬ (65536 : Int) ≤ q := by omega
      simp [k56_17, h9, h14, h11, w1, hia1, hld1, w4, w2, hia0, hld0, w5, h10, w3, sl_iaddr hdI hdx, sl_load hdx, hqu, hbig2, -Int.natCast_add, -Int.natCast_mul]
      exact loop _ _ q (by omega) hgW (by simp [h8]) (by simp [h9]) (by simp [h10]) (by simp [h11]) (by simp [h12]) (by simp [h13]) (by simp [h14]) (by simp)
  clear h8 h9 h10 h11 h12 h13 h14
  intro e L g0 hg0 hg0W h8 h9 h10 h11 h12 h13 h14 h15
  obtain ⟨I, hI⟩ : ∃ I : Nat → St → Prop, I = (fun g s => ∃ e L Wl, s = ⟨e, L, [.row (cK .i64 R) 0, X1, .row (cK .i64 Q) 0, .row (cK .i64 Wl) 0]⟩ ∧ look e 8 = some X8 ∧ look e 9 = some (.own 0 0 0 nr 1 (some nr)) ∧ look e 10 = some (.tr td) ∧ look e 11 = some (nv .i64 n) ∧ look e 12 = some (.own 2 0 0 nq 1 (some nq)) ∧ look e 13 = some (.own 3 0 0 (n + 1) 1 (some (n + 1))) ∧ look e 14 = some (nv .i64 j) ∧ look e 15 = some (nv .i64 g)
    ∧ dig 65536 Wl ∧ Wl.length = n + 1 ∧ g < 65536 ∧ W < (g + 1) * D) := ⟨_, rfl⟩
  simp [k56_20]
  refine wpc_loop I g0 _ ?_ ?_
  · rw [hI]
    exact ⟨_, _, Wl, rfl, h8, h9, h10, h11, h12, h13, h14, h15, dW, hWl, hg0, hg0W⟩
  clear h8 h9 h10 h11 h12 h13 h14 h15
  intro g s hIs
  rw [hI] at hIs
  obtain ⟨e, L, Wl, rfl, h8, h9, h10, h11, h12, h13, h14, h15, dW, hWl, hg, hgW⟩ := hIs
  obtain ⟨W', dW', hW'l, ⟨hc, hlow⟩ | ⟨hc, hsub⟩⟩ := less_ok (pre := pre) (P := P) (v := d) (Wl := Wl) (X1 := X1) (X2 := .row (cK .i64 Q) 0) (k := j) (g := g) (nu := nr) (nw := 0) hdI hd hdn hprel (by omega) (by omega) dP dW hWl hg hl
  · rw [← hRp] at hc
    rw [hWP, ← hD] at hlow
    have hgp : 0 < g := by
      rcases Nat.eq_zero_or_pos g with h | h
      · rw [h] at hlow; omega
      · exact h
    obtain ⟨g, rfl⟩ : ∃ k, g = k + 1 := ⟨g - 1, by omega⟩
    have w6 : IntKind.i64.wrap (((g + 1 : Nat) : Int) - 1) = g := by rw [w64 (by omega) (by omega)]; omega
    simp [k56_21, h9, h10, h13, h14, h15, hc, k56_23, w6, -Int.natCast_add]
    refine ⟨g, by omega, ?_⟩
    rw [hI]
    exact ⟨_, _, W', rfl, by simp [h8], by simp [h9], by simp [h10], by simp [h11], by simp [h12], by simp [h13], by simp [h14], by simp, dW', hW'l, by omega, hlow⟩
  · rw [← hRp] at hc
    rw [hWP, ← hD] at hsub
    have w10 : IntKind.i64.wrap ((j : Int) - 1) = (j : Int) - 1 := w64 (by omega) (by omega)
    obtain ⟨R', hR'⟩ : ∃ R', R' = pre ++ (W' ++ P.drop (n + 1)) := ⟨_, rfl⟩
    rw [← hR'] at hc
    have hiaq : opIaddr 1 (.own 2 0 0 nq 1 (some nq)) (nv .i64 j) [.row (cK .i64 R') 0, X1, .row (cK .i64 Q) 0, .row (cK .i64 W') 0] = some (.ptr 2 0 (0 + j)) := own_iaddr rfl hjq
    rw [Nat.zero_add] at hiaq
    have hstq : opStore 1 (.ptr 2 0 j) (nv .i64 g) [.row (cK .i64 R') 0, X1, .row (cK .i64 Q) 0, .row (cK .i64 W') 0] = some [.row (cK .i64 R') 0, X1, .row (cK .i64 (Q.set j g)) 0, .row (cK .i64 W') 0] := own_store rfl (by omega)
    simp [k56_21, h9, h10, h13, h14, h15, hc, k56_24, h12, hiaq, hstq, k56_25, w10]
    have hP0 : val 65536 (P.drop (n + 1)) = 0 := by
      have h2 := val_take_drop 65536 (n + 1) P (by omega)
      rw [hWP, ← hW] at h2
      rcases Nat.eq_zero_or_pos (val 65536 (P.drop (n + 1))) with h | h
      · exact h
      · have h3 : 65536 ^ (n + 1) * 1 ≤ 65536 ^ (n + 1) * val 65536 (P.drop (n + 1)) := Nat.mul_le_mul_left _ h
        have h4 : 0 < 65536 ^ (n + 1) := Nat.pow_pos (by decide)
        omega
    have hR'v : val 65536 R' = val 65536 pre + 65536 ^ j * val 65536 W' := by rw [hR', val_append, val_append, hprel, hP0, Nat.mul_zero, Nat.add_zero]
    have hvD : val 65536 W' < D := by
      rw [Nat.add_mul, Nat.one_mul] at hgW
      omega
    refine hQQ _ _ R' W' g (by rw [hR']; exact dig_append.2 ⟨dpre, dig_append.2 ⟨dW', dig_drop dP⟩⟩) (by rw [hR', List.length_append, List.length_append, List.length_drop]; omega) hg dW' hW'l ?_ ?_ (by simp [h8]) (by simp [h9]) (by simp [h10]) (by simp [h11]) (by simp [h12]) (by simp [h13]) (by simp)
    · rw [hR'v, hRv, ← hsub, Nat.mul_add, Nat.mul_left_comm D, Nat.mul_comm D g]
      omega
    · rw [hR'v]
      have : 65536 ^ j * (val 65536 W' + 1) ≤ 65536 ^ j * D := Nat.mul_le_mul_left _ hvD
      rw [Nat.mul_add, Nat.mul_one] at this
      rw [Nat.mul_comm D]
      omega
end Go.Proofs.Ytjacddclpcelmaa.AM.Bi
