/- IntText: part 19. -/
import Derived.Test.YtjacddclpcelmaaBi18
set_option maxRecDepth 1000000
set_option linter.unusedVariables false
set_option linter.unusedSimpArgs false
namespace Go.Proofs.Ytjacddclpcelmaa.AM.Bi
open Go.Proofs

/-- The trim of a slice, wherever it lies. -/
theorem norm_gen {l : List Nat} {v v' : V} {σ : Store} (hlen : opLen 1 v σ = some (nv .i64 l.length)) (hl : l.length ≤ 1000000) (hld : ∀ i x, l[i]? = some x → ∃ p, opIaddr 1 v (nv .i64 i) σ = some p ∧ opLoad 1 false p σ = some (nv .u32 x))
    (hcut : opSlice 1 v none (some (nv .i64 (tlen l l.length))) none σ = some v') : callL T 48 [v] σ = some (v', σ) := by
  suffices hh : ∃ r σ', callL T 48 [v] σ = some (r, σ') ∧ (r = v' ∧ σ' = σ) by
    obtain ⟨r, σ', h1, rfl, rfl⟩ := hh
    exact h1
  refine call_shared T48 rfl rfl ?_
  simp [hlen]
  obtain ⟨I, hI⟩ : ∃ I : Nat → St → Prop, I = (fun n s => n ≤ l.length ∧ tlen l n = tlen l l.length ∧ ∃ e L, s = ⟨e, L, σ⟩ ∧ look e 0 = some v ∧ look e 3 = some (nv .i64 n)) := ⟨_, rfl⟩
  refine wpc_loop I l.length _ (by rw [hI]; exact ⟨Nat.le_refl _, rfl, _, _, rfl, by simp, by simp⟩) ?_
  intro n s hIs
  rw [hI] at hIs
  obtain ⟨hn, ht, e, L, rfl, h0, h3⟩ := hIs
  have hw : IntKind.i64.wrap ((n : Int) - 1) = (n : Int) - 1 := w64 (by omega) (by omega)
  by_cases hp : 0 < n
  · obtain ⟨n, rfl⟩ : ∃ m, n = m + 1 := ⟨n - 1, by omega⟩
    have hx : l[n]? = some l[n] := List.getElem?_eq_getElem (by omega)
    obtain ⟨p, hp1, hp2⟩ := hld n _ hx
    have e1 : ((n + 1 : Nat) : Int) - 1 = (n : Int) := by omega
    rw [e1] at hw
    by_cases hz : l[n] = 0
    · simp [k48_2, h0, h3, e1, hw, hp1, hp2, hz, k48_4]
      refine ⟨n, by omega, ?_⟩
      rw [hI]
      refine ⟨by omega, ?_, _, _, rfl, by simp [h0], by simp⟩
      rw [← ht]
      simp [tlen, hx, hz]
    · have ht' : tlen l l.length = n + 1 := by rw [← ht]; simp [tlen, hx, hz]
      rw [ht'] at hcut
      simp [k48_2, h0, h3, e1, hw, hp1, hp2, hz, k48_5, hcut]
  · obtain rfl : n = 0 := by omega
    have ht' : tlen l l.length = 0 := by rw [← ht]; rfl
    rw [ht'] at hcut
    simp [k48_2, h0, h3, hp, k48_5, hcut]
theorem slice_own {l : List Nat} {σ : Store} {id m lo hi : Nat} {cap : Option Nat} (hs : σ[id]? = some (.row (cK .u32 l) 0)) (h1 : lo ≤ hi) (h2 : hi ≤ m) : opSlice 1 (.own id 0 0 m 1 cap) (some (nv .i64 lo)) (some (nv .i64 hi)) none σ = some (.own id 0 lo (hi - lo) 1 (cutCap cap none lo)) := by
  have h3 : obCells σ id 0 = some (cK .u32 l) := by simp [obCells, hs]
  unfold opSlice
  simp only [optIdx, asIdx_nat, Option.isSome_none, Bool.false_and, Bool.false_eq_true, if_false, Option.getD_some, Option.getD_none, h3, ne_eq, not_true_eq_false]
  rw [if_pos ⟨h1, Nat.le_refl _, .inl h2⟩]
  simp
theorem cut_own {l : List Nat} {σ : Store} {id m n : Nat} {cap : Option Nat} (hs : σ[id]? = some (.row (cK .u32 l) 0)) (hn : n ≤ m) : opSlice 1 (.own id 0 0 m 1 cap) none (some (nv .i64 n)) none σ = some (.own id 0 0 n 1 (cutCap cap none 0)) := by
  have h1 : obCells σ id 0 = some (cK .u32 l) := by simp [obCells, hs]
  unfold opSlice
  simp only [optIdx, asIdx_nat, Option.isSome_none, Bool.false_and, Bool.false_eq_true, if_false, Option.getD_some, Option.getD_none, h1, ne_eq, not_true_eq_false]
  rw [if_pos ⟨Nat.zero_le _, Nat.le_refl _, .inl hn⟩]
  simp
theorem lz_ok {x : Nat} (hx : x < 4294967296) : ∃ L : Nat, L ≤ 32 ∧ IsLen x L ∧ ∀ σ, callL T 65 [nv .u32 x] σ = some (nv .i64 (32 - L), σ) := by
  obtain ⟨L, h1, h2, hc⟩ := len32_ok hx
  refine ⟨L, h1, h2, ?_⟩
  suffices hh : ∃ t, (∀ σ, callL T 65 ([.sc (.int .u32 (x : Int))].map .tr) σ = some (.tr t, σ)) ∧ (t = .sc (.int .i64 ((32 - L : Nat) : Int))) by
    obtain ⟨t, h, rfl⟩ := hh
    exact h
  refine call_iso T65 rfl rfl ?_
  have w1 : IntKind.i64.wrap (32 - (L : Int)) = ((32 - L : Nat) : Int) := by rw [w64 (by omega) (by omega)]; omega
  simp [hc, w1]
theorem shr_u64_i64 (n k : Nat) (hk : k ≤ 64) : opBin .other .shr (.tr (.sc (.int .u64 (n : Int)))) (.tr (.sc (.int .i64 (k : Int)))) = some (nv .u64 (n / 2 ^ k)) := by
  rw [bin_shr _ _ _ (by omega)]
  congr 4
  have h1 : min (k : Int).toNat IntKind.u64.bits = k := by
    show min (k : Int).toNat 64 = k
    rw [Int.toNat_natCast]
    exact Nat.min_eq_left hk
  rw [h1, Int.fdiv_eq_ediv_of_nonneg _ (Int.pow_nonneg (by decide))]
  simp

/-- A guess by the first digits is not too small. -/
theorem guess_ge {B n top dt W D g : Nat} (hd : 0 < dt) (hW : W < B ^ n * (top + 1)) (hD : B ^ n * dt ≤ D) (hg : g = top / dt) : W < (g + 1) * D := by
  have h1 : top + 1 ≤ (g + 1) * dt := by
    have := Nat.div_add_mod top dt
    have h2 := Nat.mod_lt top hd
    rw [hg, Nat.add_mul, Nat.one_mul, Nat.mul_comm]
    omega
  have h2 : B ^ n * (top + 1) ≤ B ^ n * ((g + 1) * dt) := Nat.mul_le_mul_left _ h1
  have h3 : B ^ n * ((g + 1) * dt) = (g + 1) * (B ^ n * dt) := Nat.mul_left_comm _ _ _
  have h4 : (g + 1) * (B ^ n * dt) ≤ (g + 1) * D := Nat.mul_le_mul_left _ hD
  omega
/-- The digits moved down. -/
theorem down_step {B K J i L R0 R1 o : Nat} (hJ : B = K * J) (hK : 0 < K) (hB : 0 < B) (hL : L < B ^ i) (ho : o = ((L + B ^ i * R0) / K) % B ^ i) :
    o + B ^ i * ((R1 * B + R0) / K % B) = ((L + B ^ i * R0 + B ^ (i + 1) * R1) / K) % B ^ (i + 1) := by
  have hp : 0 < B ^ i := Nat.pow_pos hB
  have e1 : L + B ^ i * R0 + B ^ (i + 1) * R1 = L + B ^ i * (R1 * B + R0) := by
    rw [Nat.pow_succ, Nat.mul_add, Nat.mul_comm R1 B, Nat.mul_assoc]; omega
  have e2 : (L + B ^ i * (R1 * B + R0)) / K / B ^ i = (R1 * B + R0) / K := by
    rw [Nat.div_div_eq_div_mul, Nat.mul_comm K, ← Nat.div_div_eq_div_mul, Nat.add_mul_div_left _ _ hp, Nat.div_eq_of_lt hL, Nat.zero_add]
  have e3 : (L + B ^ i * R0 + B ^ (i + 1) * R1) / K % B ^ i = (L + B ^ i * R0) / K % B ^ i := by
    have : B ^ (i + 1) * R1 = K * (B ^ i * (J * R1)) := by
      have h1 : B ^ (i + 1) = B ^ i * (K * J) := by rw [Nat.pow_succ, ← hJ]
      rw [h1, Nat.mul_assoc, Nat.mul_assoc, Nat.mul_left_comm]
    rw [this, Nat.add_mul_div_left _ _ hK, Nat.add_mul_mod_self_left]
  rw [Nat.pow_succ, Nat.mod_mul]
  rw [← Nat.pow_succ, e3, ← ho, e1, e2]
end Go.Proofs.Ytjacddclpcelmaa.AM.Bi
