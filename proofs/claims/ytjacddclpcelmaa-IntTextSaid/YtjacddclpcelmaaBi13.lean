/- IntText: part 13. -/
import Derived.Test.YtjacddclpcelmaaBi12
import Derived.Test.YtjacddclpcelmaaBiB
set_option maxRecDepth 1000000
set_option linter.unusedVariables false
set_option linter.unusedSimpArgs false
namespace Go.Proofs.Ytjacddclpcelmaa.AM.Bi
open Go.Proofs

theorem bit_at {a : List Nat} {q r : Nat} (hd : dig 65536 a) (hq : q < a.length) (hr : r < 16) : val 65536 a / 2 ^ (16 * q + r) % 2 = a[q] / 2 ^ r % 2 := by
  have h1 := val_take_drop 65536 q a (by omega)
  rw [List.drop_eq_getElem_cons hq, val] at h1
  have h2 := val_lt (dig_take (n := q) hd)
  rw [List.length_take, Nat.min_eq_left (by omega)] at h2
  have hp : (65536 : Nat) ^ q = 2 ^ (16 * q) := by rw [Nat.pow_mul]
  have e1 : val 65536 a / 2 ^ (16 * q) = a[q] + 65536 * val 65536 (a.drop (q + 1)) := by
    rw [← hp, h1, Nat.add_mul_div_left _ _ (Nat.pow_pos (by decide)), Nat.div_eq_of_lt h2, Nat.zero_add]
  rw [Nat.pow_add, ← Nat.div_div_eq_div_mul, e1]
  have hs : (65536 : Nat) = 2 ^ r * (2 * 2 ^ (15 - r)) := by
    rw [← Nat.mul_assoc, ← Nat.pow_succ, ← Nat.pow_add, show r + 1 + (15 - r) = 16 by omega]
  generalize val 65536 (a.drop (q + 1)) = R
  rw [hs, Nat.mul_assoc, Nat.add_mul_div_left _ _ (Nat.pow_pos (by decide)), Nat.mul_assoc, Nat.add_mul_mod_self_left]
theorem shr_i64 (n k : Nat) (hk : k ≤ 64) : opBin .other .shr (.tr (.sc (.int .i64 (n : Int)))) (.tr (.sc (.int .i64 (k : Int)))) = some (nv .i64 (n / 2 ^ k)) := by
  rw [bin_shr _ _ _ (by omega)]
  congr 4
  have h1 : min (k : Int).toNat IntKind.i64.bits = k := by
    show min (k : Int).toNat 64 = k
    rw [Int.toNat_natCast]
    exact Nat.min_eq_left hk
  rw [h1, Int.fdiv_eq_ediv_of_nonneg _ (Int.pow_nonneg (by decide))]
  simp

theorem bit_ok {N n : Nat} {ta : Tree} (ha : NatSl N n ta) (la : N ≤ 100000) (i : Nat) (hi : i ≤ 10000000) (σ : Store) : callL T 52 [.tr ta, nv .i64 i] σ = some (nv .i64 (n / 2 ^ i % 2), σ) := by
  suffices hh : ∃ t, (∀ σ, callL T 52 ([ta, .sc (.int .i64 (i : Int))].map .tr) σ = some (.tr t, σ)) ∧ (t = .sc (.int .i64 ((n / 2 ^ i % 2 : Nat) : Int))) by
    obtain ⟨t, h, rfl⟩ := hh
    exact h σ
  refine call_iso T52 rfl rfl ?_
  obtain ⟨a, ia, da, ca, rfl, hN⟩ := ha
  have hla : ∀ σ, opLen 1 (.tr ta) σ = some (nv .i64 a.length) := fun σ => isSl_len ia
  have hqu : opBin .other .quo (nv .i64 i) (.tr (.sc (.int .i64 16))) = some (nv .i64 (i / 16)) := quo_nn i 16 (by omega) (by omega)
  have hrm : opBin .other .rem (nv .i64 i) (.tr (.sc (.int .i64 16))) = some (nv .i64 (i % 16)) := rem_nn i 16 (by omega)
  by_cases h : a.length ≤ i / 16
  · have h' : (a.length : Int) ≤ ((i / 16 : Nat) : Int) := by omega
    simp [hqu, hla, h', -Int.natCast_ediv]
    have h1 := val_lt da
    have hp : (65536 : Nat) ^ a.length = 2 ^ (16 * a.length) := by rw [Nat.pow_mul]
    have h2 : 2 ^ (16 * a.length) ≤ 2 ^ i := Nat.pow_le_pow_right (by decide) (by omega)
    have h3 : val 65536 a / 2 ^ i = 0 := Nat.div_eq_of_lt (by omega)
    rw [h3]
    rfl
  · have h' : ¬ (a.length : Int) ≤ ((i / 16 : Nat) : Int) := by omega
    have hx : a[i / 16]? = some (a[i / 16]'(by omega)) := List.getElem?_eq_getElem (by omega)
    have hb := bit_at (q := i / 16) (r := i % 16) da (by omega) (Nat.mod_lt _ (by decide))
    rw [Nat.div_add_mod] at hb
    have hsh := shr_i64 (a[i / 16]'(by omega)) (i % 16) (by omega)
    have hrm2 : ∀ x : Nat, opBin .other .rem (nv .i64 x) (.tr (.sc (.int .i64 2))) = some (nv .i64 (x % 2)) := fun x => rem_nn x 2 (by omega)
    have hia := fun σ => sl_iaddr (σ := σ) ia hx .i64
    have hld := fun σ => sl_load (k := .i64) (σ := σ) hx
    simp [hqu, hla, h', k52_3, hia, hld, hrm, hsh, hrm2, -Int.natCast_ediv, -Int.natCast_emod, -Int.natCast_pow]
    rw [hb]

theorem rBits_ok {N : Nat} {z : Int} {ta : Tree} (ha : RInt N z ta) (la : N ≤ 10000) : ∃ L : Nat, IsLen z.natAbs L ∧ ∀ σ, callL T 25 [.tr ta] σ = some (nv .i64 L, σ) := by
  suffices hh : ∃ t, (∀ σ, callL T 25 ([ta].map .tr) σ = some (.tr t, σ)) ∧ (∃ L : Nat, IsLen z.natAbs L ∧ t = .sc (.int .i64 (L : Int))) by
    obtain ⟨t, h, L, h1, rfl⟩ := hh
    exact ⟨L, h1, h⟩
  refine call_iso T25 rfl rfl ?_
  obtain ⟨sa, rfl, na⟩ := ha
  have hbit := bit_ok na (by omega)
  obtain ⟨a, ia, da, ca, hz, hN⟩ := na
  have hla : ∀ σ, opLen 1 (.tr sa) σ = some (nv .i64 a.length) := fun σ => isSl_len ia
  have w1 : IntKind.i64.wrap (16 * (a.length : Int)) = ((16 * a.length : Nat) : Int) := by rw [w64 (by omega) (by omega)]; omega
  rw [← hz] at hbit ⊢
  simp [hla, w1, -Int.natCast_mul]
  refine wpc_loop (fun n s => n ≤ 16 * a.length ∧ val 65536 a < 2 ^ n ∧ ∃ e L, s = ⟨e, L, []⟩ ∧ look e 1 = some (.tr (.rptr [.sc (.bool (decide (z < 0))), sa] 0)) ∧ look e 3 = some (nv .i64 n)) (16 * a.length) _ ⟨Nat.le_refl _, ?_, _, _, rfl, by simp, by simp⟩ ?_
  · have h1 := val_lt da
    have hp : (65536 : Nat) ^ a.length = 2 ^ (16 * a.length) := by rw [Nat.pow_mul]
    omega
  rintro n s ⟨hn, hlt, e, L, rfl, h1, h3⟩
  by_cases hp : 0 < n
  · obtain ⟨n, rfl⟩ : ∃ m, n = m + 1 := ⟨n - 1, by omega⟩
    have w2 : IntKind.i64.wrap (((n + 1 : Nat) : Int) - 1) = (n : Int) := by rw [w64 (by omega) (by omega)]; omega
    have hb := hbit n (by omega)
    obtain ⟨u, hu⟩ : ∃ u, u = val 65536 a / 2 ^ n % 2 := ⟨_, rfl⟩
    rw [← hu] at hb
    by_cases h0 : u = 0
    · subst h0
      simp [k25_2, h1, h3, w2, hb, k25_4, -Int.natCast_add]
      refine ⟨n, by omega, by omega, ?_, rfl⟩
      have hq : val 65536 a / 2 ^ n < 2 := by
        rw [Nat.div_lt_iff_lt_mul (Nat.pow_pos (by decide))]
        rw [Nat.pow_succ] at hlt
        omega
      have hq0 : val 65536 a / 2 ^ n = 0 := by
        generalize val 65536 a / 2 ^ n = Q at hu hq
        omega
      rcases Nat.div_eq_zero_iff.1 hq0 with h | h
      · have := Nat.pow_pos (n := n) (show 0 < 2 by decide); omega
      · exact h
    · simp [k25_2, h1, h3, w2, hb, h0, k25_5, -Int.natCast_add]
      refine ⟨hlt, .inr ?_⟩
      simp only [Nat.add_sub_cancel]
      rcases Nat.lt_or_ge (val 65536 a) (2 ^ n) with h | h
      · rw [Nat.div_eq_of_lt h] at hu
        omega
      · exact h
  · obtain rfl : n = 0 := by omega
    simp [k25_2, h1, h3, k25_5]
    exact ⟨0, ⟨hlt, .inl rfl⟩, rfl⟩

theorem cut_ok {x : Bool} {a : List Nat} {ta : Tree} (ha : IsBig x a ta) (n : Nat) (hn : n ≤ 1000) : ∃ r, (∀ σ, callL T 11 [.tr ta, nv .i64 n] σ = some (.tr r, σ)) ∧ IsBig x (a.take n) r := by
  refine call_iso (ts := [ta, .sc (.int .i64 (n : Int))]) T11 rfl rfl ?_
  have dg := ha.dg
  obtain ⟨sa, rfl, ia⟩ := ha.ex
  have hla : ∀ σ, opLen 1 (.tr sa) σ = some (nv .i64 a.length) := fun σ => isSl_len ia
  have h1 := one_sl ia
  have hbx : ∀ σ, opBoxB false (.tr (.agg [.sc (.bool x), sa])) σ = some (.ptr σ.length 0 0, σ ++ [.row [bv x, .tr sa] 0]) := fun σ => rfl
  have l1 : ∀ t r, opLoad 1 false (.ptr 0 0 1) (.row [bv x, .tr t] 0 :: r) = some (.tr t) := fun t r => rfl
  by_cases h : n < a.length
  · obtain ⟨t', hc, ht'⟩ := cut_all ia (n := n) (by omega)
    have h2 := one_sl ht'
    simp [hbx, l1, hla, h, hc, opStore, obPut, h2, cells_one h2, k11_2, opLoad, obCells, slice?, splice_all]
    exact ⟨⟨_, rfl, ht'⟩, dig_take dg⟩
  · simp [hbx, l1, hla, h, k11_2, opStore, obPut, opLoad, obCells, slice?, splice_all, h1]
    exact ⟨⟨_, rfl, by rw [List.take_of_length_le (by omega)]; exact ia⟩, dig_take dg⟩
end Go.Proofs.Ytjacddclpcelmaa.AM.Bi
