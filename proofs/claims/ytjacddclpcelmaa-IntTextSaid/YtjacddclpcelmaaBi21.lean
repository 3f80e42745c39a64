/- IntText: part 21. -/
import Derived.Test.YtjacddclpcelmaaBi20
set_option maxRecDepth 1000000
set_option linter.unusedVariables false
set_option linter.unusedSimpArgs false
namespace Go.Proofs.Ytjacddclpcelmaa.AM.Bi
open Go.Proofs

theorem min_u64 (a b : Nat) : minmaxAll false (nv .u64 a) [nv .u64 b] = some (nv .u64 (if b < a then b else a)) := by
  simp only [minmaxAll, opMinMax, int]
  congr 4
  by_cases h : b < a
  · have : (b : Int) < (a : Int) := by omega
    simp [this, h]
  · have : ¬ (b : Int) < (a : Int) := by omega
    simp [this, h]
/-- One digit of the quotient: guessed, and brought down till it fits. -/
theorem div_digit {R d Q : List Nat} {j n nr nq : Nat} {S1 : Ob} {dv : V} {e L : List (Nat × V)} (hR : dig 4294967296 R) (hRl : R.length = nr) (hd : dig 4294967296 d) (hdn : d.length = n) (hn : 0 < n) (hlast : d[n - 1]? ≠ some 0) (hj : j + n + 1 ≤ nr) (hl : nr ≤ 100000)
    (hB : ∀ X S2, Beside [.row (cK .u32 X) 0, S1, S2] 0 d dv) (hlt : val 4294967296 R < val 4294967296 d * 4294967296 ^ (j + 1)) (hQ : dig 4294967296 Q) (hQl : Q.length = nq) (hjq : j < nq)
    (h7 : look e 7 = some (.own 0 0 0 nr 1 (some nr))) (h8 : look e 8 = some dv) (h9 : look e 9 = some (nv .i64 n)) (h10 : look e 10 = some (.own 2 0 0 nq 1 (some nq))) (h11 : look e 11 = some (nv .i64 j)) (X6 : V) (h6 : look e 6 = some X6) {QQ : Out → St → Prop}
    (hQQ : ∀ e' L' R' g, dig 4294967296 R' → R'.length = nr → g < 4294967296 → val 4294967296 R' + val 4294967296 d * (4294967296 ^ j * g) = val 4294967296 R → val 4294967296 R' < val 4294967296 d * 4294967296 ^ j →
      look e' 6 = some X6 → look e' 7 = some (.own 0 0 0 nr 1 (some nr)) → look e' 8 = some dv → look e' 9 = some (nv .i64 n) → look e' 10 = some (.own 2 0 0 nq 1 (some nq)) → look e' 11 = some (iv ((j : Int) - 1)) →
      QQ .normal ⟨e', L', [.row (cK .u32 R') 0, S1, .row (cK .u32 (Q.set j g)) 0]⟩) :
    wpc T k55_8 ⟨e, L, [.row (cK .u32 R) 0, S1, .row (cK .u32 Q) 0]⟩ QQ := by
  have hk0 : 0 < nr - (j + n) := by omega
  obtain ⟨P, hP⟩ : ∃ P, P = R.drop j := ⟨_, rfl⟩
  obtain ⟨pre, hpre⟩ : ∃ pre, pre = R.take j := ⟨_, rfl⟩
  have hRp : R = pre ++ P := by rw [hP, hpre, List.take_append_drop]
  have hprel : pre.length = j := by rw [hpre, List.length_take]; omega
  have hPl : P.length = nr - j := by rw [hP, List.length_drop, hRl]
  have dP : dig 4294967296 P := by rw [hP]; exact dig_drop hR
  have dpre : dig 4294967296 pre := by rw [hpre]; exact dig_take hR
  have hprev := val_lt dpre
  rw [hprel] at hprev
  have hRv : val 4294967296 R = val 4294967296 pre + 4294967296 ^ j * val 4294967296 P := by rw [hRp, val_append, hprel]
  obtain ⟨D, hD⟩ : ∃ D, D = val 4294967296 d := ⟨_, rfl⟩
  rw [← hD] at hlt hQQ
  have hDlt : D < 4294967296 ^ n := by rw [hD, ← hdn]; exact val_lt hd
  have hpj : 0 < 4294967296 ^ j := Nat.pow_pos (by decide)
  have hPW : val 4294967296 P < D * 4294967296 := by
    rcases Nat.lt_or_ge (val 4294967296 P) (D * 4294967296) with h | h
    · exact h
    · exfalso
      have h1 : 4294967296 ^ j * (D * 4294967296) ≤ 4294967296 ^ j * val 4294967296 P := Nat.mul_le_mul_left _ h
      have h2 : D * 4294967296 ^ (j + 1) = 4294967296 ^ j * (D * 4294967296) := by rw [Nat.pow_succ, Nat.mul_left_comm]
      omega
  have hPn : val 4294967296 P < 4294967296 ^ (n + 1) := by
    rw [Nat.pow_succ]
    exact Nat.lt_of_lt_of_le hPW (Nat.mul_le_mul_right _ (Nat.le_of_lt hDlt))
  have hWP : val 4294967296 (P.take (n + 1)) = val 4294967296 P := val_tail (by decide) (by omega) hPn
  obtain ⟨W, hW⟩ : ∃ W, W = val 4294967296 P := ⟨_, rfl⟩
  rw [← hW] at hPW hPn hWP hRv
  -- the first digits
  have hx1 : R[j + n]? = some R[j + n] := List.getElem?_eq_getElem (by omega)
  have hx0 : R[j + n - 1]? = some R[j + n - 1] := List.getElem?_eq_getElem (by omega)
  have b1 : R[j + n] < 4294967296 := dig_at hR (by omega)
  have b0 : R[j + n - 1] < 4294967296 := dig_at hR (by omega)
  obtain ⟨u1, hu1⟩ : ∃ u, u = R[j + n] := ⟨_, rfl⟩
  obtain ⟨u0, hu0⟩ : ∃ u, u = R[j + n - 1] := ⟨_, rfl⟩
  rw [← hu1] at hx1 b1
  rw [← hu0] at hx0 b0
  have p1 : at0 P n = u1 := by unfold at0; rw [hP, List.getElem?_drop, hx1]; rfl
  have p0 : at0 P (n - 1) = u0 := by unfold at0; rw [hP, List.getElem?_drop, show j + (n - 1) = j + n - 1 by omega, hx0]; rfl
  obtain ⟨top, htop⟩ : ∃ top, top = u1 * 4294967296 + u0 := ⟨_, rfl⟩
  have hdb : at0 d (n - 1) < 4294967296 := at0_dig (by decide) hd _
  obtain ⟨dt, hdt⟩ : ∃ dt, dt = at0 d (n - 1) := ⟨_, rfl⟩
  have hdx : d[n - 1]? = some dt := by rw [hdt, at0_lt (by omega)]; exact List.getElem?_eq_getElem (by omega)
  rw [← hdt] at hdb
  have hdt0 : dt ≠ 0 := by intro h; rw [h] at hdx; exact hlast hdx
  have hWtop : W < 4294967296 ^ (n - 1) * (top + 1) := by
    have e1 := val_take_at0 4294967296 n P
    have e0 := val_take_at0 4294967296 (n - 1) P
    rw [show n - 1 + 1 = n by omega] at e0
    rw [hWP, e0, p1, p0] at e1
    have hlo := val_lt (dig_take (n := n - 1) dP)
    rw [List.length_take, Nat.min_eq_left (by omega)] at hlo
    have e2 : (4294967296 : Nat) ^ n = 4294967296 ^ (n - 1) * 4294967296 := by rw [← Nat.pow_succ]; congr 1; omega
    rw [e1, e2, htop, Nat.mul_add, Nat.mul_add, Nat.mul_one, Nat.mul_comm u1, ← Nat.mul_assoc]
    omega
  have hDge : 4294967296 ^ (n - 1) * dt ≤ D := by
    have e0 := val_take_at0 4294967296 (n - 1) d
    rw [show n - 1 + 1 = n by omega, List.take_of_length_le (by omega), ← hdt] at e0
    rw [hD, e0]
    omega
  obtain ⟨g0, hg0⟩ : ∃ g0, g0 = if 4294967295 < top / dt then 4294967295 else top / dt := ⟨_, rfl⟩
  have hg0b : g0 < 4294967296 := by rw [hg0]; split <;> omega
  have hg0W : W < (g0 + 1) * D := by
    rw [hg0]
    split
    · rw [Nat.mul_comm]; exact hPW
    · exact guess_ge (Nat.pos_of_ne_zero hdt0) hWtop hDge rfl
  -- reading
  have hia1 : opIaddr 1 (.own 0 0 0 nr 1 (some nr)) (nv .i64 (j + n)) [.row (cK .u32 R) 0, S1, .row (cK .u32 Q) 0] = some (.ptr 0 0 (0 + (j + n))) := own_iaddr rfl (by omega)
  have hia0 : opIaddr 1 (.own 0 0 0 nr 1 (some nr)) (nv .i64 (j + n - 1 : Nat)) [.row (cK .u32 R) 0, S1, .row (cK .u32 Q) 0] = some (.ptr 0 0 (0 + (j + n - 1))) := own_iaddr rfl (by omega)
  rw [Nat.zero_add] at hia1 hia0
  have hld1 : opLoad 1 false (.ptr 0 0 (j + n)) [.row (cK .u32 R) 0, S1, .row (cK .u32 Q) 0] = some (nv .u32 u1) := own_load rfl hx1
  have hld0 : opLoad 1 false (.ptr 0 0 (j + n - 1)) [.row (cK .u32 R) 0, S1, .row (cK .u32 Q) 0] = some (nv .u32 u0) := own_load rfl hx0
  obtain ⟨pd, hpd1, hpd2⟩ := (hB R (.row (cK .u32 Q) 0)).rd (n - 1) dt hdx (.row (cK .u32 R) 0)
  simp only [List.set_cons_zero] at hpd1 hpd2
  have w1 : IntKind.i64.wrap ((j : Int) + n) = ((j + n : Nat) : Int) := by rw [w64 (by omega) (by omega)]; omega
  have w2 : IntKind.i64.wrap (((j + n : Nat) : Int) - 1) = ((j + n - 1 : Nat) : Int) := by rw [w64 (by omega) (by omega)]; omega
  have w3 : IntKind.i64.wrap ((n : Int) - 1) = ((n - 1 : Nat) : Int) := by rw [w64 (by omega) (by omega)]; omega
  have w4 : IntKind.i64.wrap (((j + n : Nat) : Int) + 1) = ((j + n + 1 : Nat) : Int) := by rw [w64 (by omega) (by omega)]; omega
  have w5 : IntKind.u64.wrap (u1 : Int) = u1 := wu64 (by omega) (by omega)
  have w6 : IntKind.u64.wrap (u0 : Int) = u0 := wu64 (by omega) (by omega)
  have w7 : IntKind.u64.wrap (dt : Int) = dt := wu64 (by omega) (by omega)
  have hsh := shl_u64_32 u1 b1
  have hjo := join_u64 u1 u0 b1 b0
  rw [← htop] at hjo
  have hqu := quo_u64 top dt hdt0 (by omega)
  have hmm : minmaxAll false (nv .u64 (top / dt)) [.tr (.sc (.int .u64 4294967295))] = some (nv .u64 g0) := by
    rw [hg0]
    exact min_u64 (top / dt) 4294967295
  have hsl := slice_own (σ := [.row (cK .u32 R) 0, S1, .row (cK .u32 Q) 0]) (id := 0) (m := nr) (cap := some nr) (l := R) rfl (show j ≤ j + n + 1 by omega) (by omega)
  rw [show j + n + 1 - j = n + 1 by omega] at hsl
  obtain ⟨C, hC⟩ : ∃ C, C = cutCap (some nr) none j := ⟨_, rfl⟩
  rw [← hC] at hsl
  obtain ⟨P1, bb, htk, hP1l, hP1d, dP1, hbb, hP1v⟩ := takes_ok (pre := pre) (P := P) (d := d) (σ := [.row (cK .u32 (pre ++ P)) 0, S1, .row (cK .u32 Q) 0]) (id := 0) (n1 := n + 1) (dv := dv) (cap := C) rfl (by omega) dP hd (hB _ _) (by omega) (by omega) g0 hg0b
  rw [← hRp, hprel] at htk
  simp only [List.set_cons_zero] at htk
  rw [hWP, ← hD] at hP1v
  simp [k55_8, h7, h11, h9, w1, hia1, hld1, w5, hsh, w2, hia0, hld0, w6, hjo, h8, w3, hpd1, hpd2, w7, hqu, hmm, w4, hsl, htk, -Int.natCast_add, -Int.natCast_ediv, -Int.natCast_mul]
  -- brought down
  obtain ⟨I, hI⟩ : ∃ I : Nat → St → Prop, I = (fun g s => ∃ e L P' t, s = ⟨e, L, [.row (cK .u32 (pre ++ P')) 0, S1, .row (cK .u32 Q) 0]⟩ ∧ look e 6 = some X6 ∧ look e 7 = some (.own 0 0 0 nr 1 (some nr)) ∧ look e 8 = some dv ∧ look e 9 = some (nv .i64 n) ∧ look e 10 = some (.own 2 0 0 nq 1 (some nq)) ∧ look e 11 = some (nv .i64 j)
    ∧ look e 13 = some (nv .u64 g) ∧ look e 14 = some (.own 0 0 j (n + 1) 1 C) ∧ look e 15 = some (bv (decide (t = 1))) ∧ t ≤ 1 ∧ g < 4294967296 ∧ W < (g + 1) * D ∧ P'.length = P.length ∧ P'.drop (n + 1) = P.drop (n + 1) ∧ dig 4294967296 P' ∧ W + 4294967296 ^ (n + 1) * t = val 4294967296 (P'.take (n + 1)) + g * D) := ⟨_, rfl⟩
  refine wpc_loop I g0 _ ?_ ?_
  · rw [hI]
    exact ⟨_, _, P1, bb, rfl, by simp [h6], by simp [h7], by simp [h8], by simp [h9], by simp [h10], by simp [h11], by simp, by simp, by simp, hbb, hg0b, hg0W, hP1l, hP1d, dP1, hP1v⟩
  intro g s hIs
  rw [hI] at hIs
  obtain ⟨e, L, P', t, rfl, h6, h7, h8, h9, h10, h11, h13, h14, h15, ht, hg, hgW, hPl', hPd', dP', hPv'⟩ := hIs
  have hv' := val_lt (dig_take (n := n + 1) dP')
  rw [List.length_take, Nat.min_eq_left (by omega)] at hv'
  by_cases ht1 : t = 1
  · subst ht1
    have hgp : 0 < g := by
      rcases Nat.eq_zero_or_pos g with h | h
      · rw [h] at hPv'; omega
      · exact h
    obtain ⟨g, rfl⟩ : ∃ k, g = k + 1 := ⟨g - 1, by omega⟩
    obtain ⟨P2, b2, hgv, hP2l, hP2d, dP2, hb2, hP2v⟩ := gives_ok (pre := pre) (P := P') (d := d) (σ := [.row (cK .u32 (pre ++ P')) 0, S1, .row (cK .u32 Q) 0]) (id := 0) (n1 := n + 1) (dv := dv) (cap := C) rfl (by omega) dP' hd (hB _ _) (by omega) (by omega)
    rw [hprel] at hgv
    simp only [List.set_cons_zero] at hgv
    have w8 : IntKind.u64.wrap (((g + 1 : Nat) : Int) - 1) = g := by rw [wu64 (by omega) (by omega)]; omega
    have hnb : (!decide (b2 = 1)) = decide (1 - b2 = 1) := by
      rcases (show b2 = 0 ∨ b2 = 1 by omega) with h | h <;> rw [h] <;> rfl
    simp [k55_13, h15, k55_15, h13, w8, h14, h8, hgv, -Int.natCast_add]
    refine ⟨g, by omega, ?_⟩
    rw [hI]
    refine ⟨_, _, P2, 1 - b2, rfl, by simp [h6], by simp [h7], by simp [h8], by simp [h9], by simp [h10], by simp [h11], by simp, by simp [h14], by simp [← hnb], by omega, by omega, ?_, by omega, by rw [hP2d, hPd'], dP2, ?_⟩
    · clear hQQ
      generalize (g + 1) * D = Y at hPv' ⊢
      omega
    · rw [← hD] at hP2v
      rw [Nat.add_mul, Nat.one_mul] at hPv'
      rcases (show b2 = 0 ∨ b2 = 1 by omega) with h | h
      · subst h
        omega
      · subst h
        omega
  · have ht0 : t = 0 := by omega
    subst ht0
    rw [Nat.mul_zero, Nat.add_zero] at hPv'
    have w9 : IntKind.u32.wrap (g : Int) = g := wu32 (by omega) (by omega)
    have w10 : IntKind.i64.wrap ((j : Int) - 1) = (j : Int) - 1 := w64 (by omega) (by omega)
    have hiaq : opIaddr 1 (.own 2 0 0 nq 1 (some nq)) (nv .i64 j) [.row (cK .u32 (pre ++ P')) 0, S1, .row (cK .u32 Q) 0] = some (.ptr 2 0 (0 + j)) := own_iaddr rfl hjq
    rw [Nat.zero_add] at hiaq
    have hstq : opStore 1 (.ptr 2 0 j) (nv .u32 g) [.row (cK .u32 (pre ++ P')) 0, S1, .row (cK .u32 Q) 0] = some [.row (cK .u32 (pre ++ P')) 0, S1, .row (cK .u32 (Q.set j g)) 0] := own_store rfl (by omega)
    simp [k55_13, h15, k55_16, h10, h11, h13, w9, hiaq, hstq, k55_17, w10]
    have hrest : val 4294967296 P' = val 4294967296 (P'.take (n + 1)) := by
      have h1 := val_take_drop 4294967296 (n + 1) P' (by omega)
      have h2 := val_take_drop 4294967296 (n + 1) P (by omega)
      rw [hPd'] at h1
      rw [hWP, ← hW] at h2
      omega
    have hvD : val 4294967296 P' < D := by
      rw [hrest]
      rw [Nat.add_mul, Nat.one_mul] at hgW
      omega
    have hR'v : val 4294967296 (pre ++ P') = val 4294967296 pre + 4294967296 ^ j * val 4294967296 P' := by rw [val_append, hprel]
    refine hQQ _ _ (pre ++ P') g (dig_append.2 ⟨dpre, dP'⟩) (by rw [List.length_append]; omega) hg ?_ ?_ (by simp [h6]) (by simp [h7]) (by simp [h8]) (by simp [h9]) (by simp [h10]) (by simp)
    · rw [hR'v, hRv, hPv', ← hrest, Nat.mul_add, Nat.mul_left_comm D, Nat.mul_comm D g]
      omega
    · rw [hR'v]
      have : 4294967296 ^ j * (val 4294967296 P' + 1) ≤ 4294967296 ^ j * D := Nat.mul_le_mul_left _ hvD
      rw [Nat.mul_add, Nat.mul_one] at this
      rw [Nat.mul_comm D]
      omega
end Go.Proofs.Ytjacddclpcelmaa.AM.Bi
