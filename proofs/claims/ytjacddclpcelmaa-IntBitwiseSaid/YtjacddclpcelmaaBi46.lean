/- IntBitwise: part 46. -/
import Derived.Test.YtjacddclpcelmaaBi45
set_option maxRecDepth 1000000
set_option linter.unusedVariables false
set_option linter.unusedSimpArgs false
namespace Go.Proofs.Ytjacddclpcelmaa.AM.Bi
open Go.Proofs

/-- What Bitwise gives. -/
def BwR (N m : Nat) (op : ByteArray) (u w : Int) (t : Tree) : Prop := match bwCode op with
  | none => t = .tup [.agg [.sc (.bool false), .sc (.slice none 0 0)], .sc (.bool false)]
  | some o => ∃ r, t = .tup [r, .sc (.bool true)] ∧ IsNum N (sgnd m (G o (tc (m + 1) u) (tc (m + 1) w))) r

theorem zip_take {o i : Nat} {X Y : List Nat} (h : X.length = Y.length) (hi : i < X.length) : ((List.zipWith (G o) X Y).take i ++ X.drop i).set i (G o X[i] (Y[i]'(by omega))) = (List.zipWith (G o) X Y).take (i + 1) ++ X.drop (i + 1) := by
  have hl : (List.zipWith (G o) X Y).length = X.length := by simp; omega
  have h1 : ((List.zipWith (G o) X Y).take i).length = i := by rw [List.length_take]; omega
  rw [List.set_append_right _ _ (by omega), h1, Nat.sub_self, List.drop_eq_getElem_cons hi, List.set_cons_zero, List.take_succ_eq_append_getElem (by omega)]
  simp
theorem zip_at {o i : Nat} {X Y : List Nat} (h : X.length = Y.length) (hi : i < X.length) : ((List.zipWith (G o) X Y).take i ++ X.drop i)[i]? = some X[i] := by
  have hl : (List.zipWith (G o) X Y).length = X.length := by simp; omega
  have h1 : ((List.zipWith (G o) X Y).take i).length = i := by rw [List.length_take]; omega
  rw [List.getElem?_append_right (by omega), h1, Nat.sub_self, List.drop_eq_getElem_cons hi]
  rfl

/-- The answer out of its digits. -/
theorem bw_end {Z Y : List Nat} {n m : Nat} {e L : List (Nat × V)} (dZ : dig 4294967296 Z) (lZ : Z.length = n) (h0 : 0 < n) (hn : n ≤ 100000) (hm : m + 1 = 32 * n)
    (h6 : look e 6 = some (.ptr 0 0 0)) (h8 : look e 8 = some (nv .i64 n)) (h9 : look e 9 = some (.own 1 0 0 n 1 (some n))) :
    wpc T k28_18 ⟨e, L, [.row [.tr (.sc (.bool false)), .tr (.sc (.slice none 0 0))] 0, .row (cK .u32 Z) 0, .row (cK .u32 Y) 0]⟩ (giv [.cell 6 2 true, .tmp 7] fun v σ' => ∃ r, v = .tr (.tup [r, .sc (.bool true)]) ∧ IsNum n (sgnd m (val 4294967296 Z)) r) := by
  obtain ⟨S, hS⟩ : ∃ S : Store, S = [.row [.tr (.sc (.bool false)), .tr (.sc (.slice none 0 0))] 0, .row (cK .u32 Z) 0, .row (cK .u32 Y) 0] := ⟨_, rfl⟩
  have hz : Z[n - 1]? = some Z[n - 1] := List.getElem?_eq_getElem (by omega)
  have bz : Z[n - 1] < 4294967296 := dig_at dZ (by omega)
  have hvl : val 4294967296 Z = val 4294967296 (Z.take (n - 1)) + 4294967296 ^ (n - 1) * Z[n - 1] := by
    have := val_take_succ (B := 4294967296) (l := Z) (i := n - 1) (by omega)
    rw [show n - 1 + 1 = n by omega, List.take_of_length_le (by omega)] at this
    exact this
  obtain ⟨top, htop⟩ : ∃ top, top = Z[n - 1] := ⟨_, rfl⟩
  rw [← htop] at hz bz hvl
  have hlo := val_lt (dig_take (n := n - 1) dZ)
  rw [List.length_take, Nat.min_eq_left (by omega)] at hlo
  have hZ := val_lt dZ
  rw [lZ, pow32, ← hm] at hZ
  have hbit : (val 4294967296 Z).testBit m = decide (top / 2147483648 ≠ 0) := by
    rw [hvl, Nat.add_comm, pow32, Nat.testBit_two_pow_mul_add _ (by rw [← pow32]; exact hlo), if_neg (by omega), show m - 32 * (n - 1) = 31 by omega, Nat.testBit_eq_decide_div_mod_eq]
    have : top / 2 ^ 31 < 2 := by omega
    by_cases h : top / 2147483648 = 0
    · simp [h]
    · have h1 : top / 2147483648 = 1 := by omega
      simp [h1]
  have w1 : IntKind.i64.wrap ((n : Int) - 1) = ((n - 1 : Nat) : Int) := by rw [w64 (by omega) (by omega)]; omega
  have hia : opIaddr 1 (.own 1 0 0 n 1 (some n)) (nv .i64 (n - 1 : Nat)) S = some (.ptr 1 0 (0 + (n - 1))) := by rw [hS]; exact own_iaddr rfl (by omega)
  rw [Nat.zero_add] at hia
  have hld : opLoad 1 false (.ptr 1 0 (n - 1)) S = some (nv .u32 top) := by rw [hS]; exact own_load rfl hz
  have hsh : opBin .other .shr (nv .u32 top) (.tr (.sc (.int .u64 31))) = some (nv .u32 (top / 2147483648)) := shr_u32 top 31 (by omega)
  have hS0 : S[0]? = some (.row [.tr (.sc (.bool false)), .tr (.sc (.slice none 0 0))] 0) := by rw [hS]; rfl
  have hS1 : S[1]? = some (.row (cK .u32 Z) 0) := by rw [hS]; rfl
  have hSl : S.length = 3 := by rw [hS]; rfl
  have fin : ∀ (σ1 : Store) (r : Tree), σ1[0]? = some (.row [.tr (.sc (.bool false)), .tr (.sc (.slice none 0 0))] 0) → IsNum n (sgnd m (val 4294967296 Z)) r → ∃ q s, r = .agg [.sc (.bool q), s] ∧ opStore 2 (.ptr 0 0 0) (.tr r) σ1 = some (σ1.set 0 (.row [bv q, .tr s] 0)) ∧ opLoad 2 true (.ptr 0 0 0) (σ1.set 0 (.row [bv q, .tr s] 0)) = some (.tr r) := by
    intro σ1 r h1 hr
    obtain ⟨q, s, rfl, os⟩ := num_place hr
    exact ⟨q, s, rfl, st_row h1 os, ld_row (set_same h1)⟩
  rw [← hS]
  by_cases ht : top / 2147483648 = 0
  · have hval : sgnd m (val 4294967296 Z) = ival false Z := by unfold sgnd; rw [hbit]; simp [ht, ival]
    obtain ⟨r, σ', hmade, hr, hσ⟩ := made_own (neg := false) (n := n) (cap := some n) hS1 lZ.symm dZ (by omega)
    rw [← hval, lZ] at hr
    have h1 : σ'[0]? = some (.row [.tr (.sc (.bool false)), .tr (.sc (.slice none 0 0))] 0) := by
      rcases hσ with rfl | rfl
      · exact hS0
      · exact set_at hS0 (by omega)
    obtain ⟨q, s, rfl, st, ld⟩ := fin σ' _ h1 hr
    simp [k28_18, h9, h8, w1, hia, hld, hsh, ht, hmade, h6, st, ld, mkTup]
    exact hr
  · have htz : ¬ (top : Int) / 2147483648 = 0 := by omega
    have hcan : can Z := by
      intro h
      rw [List.getLast?_eq_getElem?, lZ, hz] at h
      simp at h
      rw [h] at ht; exact ht rfl
    obtain ⟨W, σ', hdg, dW, hW, hWv, hWs, hWj⟩ := digits_own hS1 lZ dZ hcan h0 hn
    rw [hSl] at hdg hWs
    have hval : sgnd m (val 4294967296 Z) = ival true W := by
      have e1 : ival true W = -((val 4294967296 W : Nat) : Int) := rfl
      unfold sgnd; rw [hbit, if_pos (by simp [ht]), e1]
      rw [pow32, ← hm] at hWv
      clear hZ
      generalize 2 ^ (m + 1) = p at hWv ⊢
      omega
    obtain ⟨r, σ2, hmade, hr, hσ⟩ := made_own (neg := true) (n := n) (cap := some n) hWs hW.symm dW (by omega)
    rw [← hval, hW] at hr
    have h1 : σ2[0]? = some (.row [.tr (.sc (.bool false)), .tr (.sc (.slice none 0 0))] 0) := by
      have h2 : σ'[0]? = S[0]? := hWj 0 (by omega) (by omega)
      rcases hσ with rfl | rfl
      · rw [h2, hS0]
      · exact set_at (by rw [h2, hS0]) (by omega)
    obtain ⟨q, s, rfl, st, ld⟩ := fin σ2 _ h1 hr
    simp [k28_18, h9, h8, w1, hia, hld, hsh, ht, htz, k28_21, hdg, hmade, h6, st, ld, mkTup]
    exact hr
end Go.Proofs.Ytjacddclpcelmaa.AM.Bi
