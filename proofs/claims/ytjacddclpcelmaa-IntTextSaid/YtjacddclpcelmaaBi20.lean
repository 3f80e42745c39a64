/- IntText: part 20. -/
import Derived.Test.YtjacddclpcelmaaBi19
set_option maxRecDepth 1000000
set_option linter.unusedVariables false
set_option linter.unusedSimpArgs false
namespace Go.Proofs.Ytjacddclpcelmaa.AM.Bi
open Go.Proofs

theorem val_tail {B n : Nat} {P : List Nat} (hB : 0 < B) (hn : n ≤ P.length) (h : val B P < B ^ n) : val B (P.take n) = val B P := by
  have h1 := val_take_drop B n P hn
  rcases Nat.eq_zero_or_pos (val B (P.drop n)) with h2 | h2
  · rw [h2] at h1; omega
  · have : B ^ n * 1 ≤ B ^ n * val B (P.drop n) := Nat.mul_le_mul_left _ h2
    omega

/-- The rest, moved down. -/
theorem div_end {R : List Nat} {n by_ nr : Nat} {e L : List (Nat × V)} {S1 S2 : Ob} {W2 : V} (hR : dig 4294967296 R) (hn : n + 1 ≤ R.length) (hRl : R.length = nr) (hl : R.length ≤ 100001) (hk : by_ < 32) (hv : val 4294967296 R < 4294967296 ^ n)
    (h6 : look e 6 = some (nv .i64 by_)) (h7 : look e 7 = some (.own 0 0 0 nr 1 (some nr))) (h9 : look e 9 = some (nv .i64 n)) (h10 : look e 10 = some W2) :
    wpc T k55_18 ⟨e, L, [.row (cK .u32 R) 0, S1, S2]⟩ (giv [.tmp 4, .tmp 5] fun v σ => ∃ out, v = mkTup [W2, .own 3 0 0 n 1 (some n)] ∧ σ = [.row (cK .u32 R) 0, S1, S2, .row (cK .u32 out) 0] ∧ dig 4294967296 out ∧ out.length = n ∧ val 4294967296 out = val 4294967296 R / 2 ^ by_) := by
  have hmk := mk_own (σ := [.row (cK .u32 R) 0, S1, S2]) (room_ok (n := n) (b := 4) (by omega) (by omega))
  simp only [List.length_cons, List.length_nil, Nat.zero_add, List.cons_append, List.nil_append, Nat.reduceAdd] at hmk
  simp [k55_18, h9, hmk]
  obtain ⟨K, hK⟩ : ∃ K, K = 2 ^ by_ := ⟨_, rfl⟩
  have hKp : 0 < K := by rw [hK]; exact Nat.pow_pos (by decide)
  obtain ⟨J, hJ⟩ : ∃ J, 4294967296 = K * J := ⟨2 ^ (32 - by_), by rw [hK, ← Nat.pow_add, show by_ + (32 - by_) = 32 by omega]⟩
  obtain ⟨I, hI⟩ : ∃ I : Nat → St → Prop, I = (fun i s => i ≤ n ∧ ∃ e L out, s = ⟨e, L, [.row (cK .u32 R) 0, S1, S2, .row (cK .u32 out) 0]⟩ ∧ look e 6 = some (nv .i64 by_) ∧ look e 7 = some (.own 0 0 0 nr 1 (some nr)) ∧ look e 10 = some W2 ∧ look e 16 = some (.own 3 0 0 n 1 (some n))
    ∧ look e 97 = some (nv .i64 n) ∧ look e 98 = some (nv .i64 i) ∧ dig 4294967296 out ∧ out.length = n ∧ val 4294967296 (out.take i) = (val 4294967296 (R.take (i + 1)) / K) % 4294967296 ^ i) := ⟨_, rfl⟩
  refine wpc_up n I ?_ ?_
  · rw [hI]
    exact ⟨Nat.zero_le _, _, _, List.replicate n 0, rfl, by simp [h6], by simp [h7], by simp [h10], by simp, by simp, by simp, dig_rep (by decide), by simp, by simp [val, Nat.mod_one]⟩
  intro i s hIs
  rw [hI] at hIs
  obtain ⟨hi, e, L, out, rfl, h6, h7, h10, h16, h97, h98, hd, ho, hvo⟩ := hIs
  by_cases hlt : i < n
  · have hx0 : R[i]? = some R[i] := List.getElem?_eq_getElem (by omega)
    have hx1 : R[i + 1]? = some R[i + 1] := List.getElem?_eq_getElem (by omega)
    have b0 : R[i] < 4294967296 := dig_at hR (by omega)
    have b1 : R[i + 1] < 4294967296 := dig_at hR (by omega)
    obtain ⟨u, hu⟩ : ∃ u, u = R[i] := ⟨_, rfl⟩
    obtain ⟨w, hw⟩ : ∃ w, w = R[i + 1] := ⟨_, rfl⟩
    rw [← hu] at hx0 b0
    rw [← hw] at hx1 b1
    have hia0 : opIaddr 1 (.own 0 0 0 nr 1 (some nr)) (nv .i64 i) [.row (cK .u32 R) 0, S1, S2, .row (cK .u32 out) 0] = some (.ptr 0 0 (0 + i)) := own_iaddr rfl (by omega)
    have hia1 : opIaddr 1 (.own 0 0 0 nr 1 (some nr)) (nv .i64 (i + 1)) [.row (cK .u32 R) 0, S1, S2, .row (cK .u32 out) 0] = some (.ptr 0 0 (0 + (i + 1))) := own_iaddr rfl (by omega)
    rw [Nat.zero_add] at hia0 hia1
    have hld0 : opLoad 1 false (.ptr 0 0 i) [.row (cK .u32 R) 0, S1, S2, .row (cK .u32 out) 0] = some (nv .u32 u) := own_load rfl hx0
    have hld1 : opLoad 1 false (.ptr 0 0 (i + 1)) [.row (cK .u32 R) 0, S1, S2, .row (cK .u32 out) 0] = some (nv .u32 w) := own_load rfl hx1
    have hia3 : opIaddr 1 (.own 3 0 0 n 1 (some n)) (nv .i64 i) [.row (cK .u32 R) 0, S1, S2, .row (cK .u32 out) 0] = some (.ptr 3 0 (0 + i)) := own_iaddr rfl hlt
    rw [Nat.zero_add] at hia3
    have hst : ∀ y : Nat, opStore 1 (.ptr 3 0 i) (nv .u32 y) [.row (cK .u32 R) 0, S1, S2, .row (cK .u32 out) 0] = some [.row (cK .u32 R) 0, S1, S2, .row (cK .u32 (out.set i y)) 0] := fun y => own_store rfl (by omega)
    have w1 : IntKind.i64.wrap ((i : Int) + 1) = ((i + 1 : Nat) : Int) := w64 (by omega) (by omega)
    have w2 : IntKind.u64.wrap (u : Int) = u := wu64 (by omega) (by omega)
    have w3 : IntKind.u64.wrap (w : Int) = w := wu64 (by omega) (by omega)
    have hsh := shl_u64_32 w b1
    have hj := join_u64 w u b1 b0
    obtain ⟨t, ht⟩ : ∃ t, t = w * 4294967296 + u := ⟨_, rfl⟩
    rw [← ht] at hj
    have hsr := shr_u64_i64 t by_ (by omega)
    rw [← hK] at hsr
    obtain ⟨tk, htk⟩ : ∃ tk, tk = t / K := ⟨_, rfl⟩
    rw [← htk] at hsr
    have w4 : IntKind.u32.wrap (tk : Int) = ((tk % 4294967296 : Nat) : Int) := by rw [wu32m]; omega
    simp [k55_21, h97, h98, hlt, k55_23, h16, h7, w1, hia1, hld1, w3, hsh, hia0, hld0, w2, hj, h6, hsr, w4, hia3, hst, -Int.natCast_add, -Int.natCast_emod, -Int.natCast_mul]
    rw [hI]
    refine ⟨by omega, _, _, out.set i (tk % 4294967296), rfl, by simp [h6], by simp [h7], by simp [h10], by simp [h16], by simp [h97], by simp, dig_set_mod (by decide) hd, by simpa using ho, ?_⟩
    rw [val_take_set (by omega), val_take_succ (show i + 1 < R.length by omega), ← hw, val_take_succ (show i < R.length by omega), ← hu, htk, ht]
    have hL := val_lt (dig_take (n := i) hR)
    rw [List.length_take, Nat.min_eq_left (by omega)] at hL
    rw [val_take_succ (show i < R.length by omega), ← hu] at hvo
    exact down_step hJ hKp (by decide) hL hvo
  · have hie : i = n := by omega
    subst hie
    have hfull : val 4294967296 (R.take (i + 1)) = val 4294967296 R := by
      refine val_tail (by decide) hn ?_
      have : 4294967296 ^ i ≤ 4294967296 ^ (i + 1) := Nat.pow_le_pow_right (by decide) (by omega)
      omega
    rw [List.take_of_length_le (by omega), hfull, Nat.mod_eq_of_lt (Nat.lt_of_le_of_lt (Nat.div_le_self _ _) hv)] at hvo
    simp [k55_21, h97, h98, k55_24, h10, h16, -mkAgg, -allTr]
    exact ⟨out, rfl, hd, ho, by rw [hvo, hK]⟩
end Go.Proofs.Ytjacddclpcelmaa.AM.Bi
