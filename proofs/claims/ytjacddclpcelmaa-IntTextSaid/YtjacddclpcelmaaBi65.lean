/- IntText: part 65. -/
import Derived.Test.YtjacddclpcelmaaBi64
set_option maxRecDepth 1000000
set_option linter.unusedVariables false
set_option linter.unusedSimpArgs false
namespace Go.Proofs.Ytjacddclpcelmaa.AM.Bi
open Go.Proofs

theorem wu64m (n : Int) : IntKind.u64.wrap n = n % 18446744073709551616 := by simp [IntKind.wrap, IntKind.bits, IntKind.signed]
theorem of_ok {z : Int} (h1 : -9223372036854775808 ≤ z) (h2 : z ≤ 9223372036854775807) : ∃ r, (∀ σ, callL T 30 [iv z] σ = some (.tr r, σ)) ∧ IsNum 2 z r := by
  refine call_iso (ts := [.sc (.int .i64 z)]) T30 rfl rfl ?_
  obtain ⟨a, ha⟩ : ∃ a : Nat, a = z.natAbs := ⟨_, rfl⟩
  have hab : a ≤ 9223372036854775808 := by omega
  obtain ⟨lo, hlo⟩ : ∃ lo, lo = a % 4294967296 := ⟨_, rfl⟩
  obtain ⟨hi, hhi⟩ : ∃ hi, hi = a / 4294967296 := ⟨_, rfl⟩
  have w3 : IntKind.u32.wrap (a : Int) = lo := by rw [wu32m]; omega
  have w4 : IntKind.u32.wrap (hi : Int) = hi := wu32 (by omega) (by omega)
  have hsh : opBin .other .shr (nv .u64 a) (.tr (.sc (.int .u64 32))) = some (nv .u64 hi) := by rw [hhi]; exact shr_u64_32 a
  have hbs : ∀ σ, opBslice false 2 1 [.sc (.int .u32 0)] [(0, 1, nv .u32 lo), (1, 1, nv .u32 hi)] σ = some (.tr (.row [.sc (.int .u32 (lo : Int)), .sc (.int .u32 (hi : Int))] 2 (some 2)), σ) := fun σ => rfl
  have dd : dig 4294967296 [lo, hi] := by
    intro x hx
    simp at hx
    rcases hx with rfl | rfl <;> omega
  obtain ⟨r, hmd, hn⟩ := made_ok (neg := decide (z < 0)) (l := [lo, hi]) (t := .row [.sc (.int .u32 (lo : Int)), .sc (.int .u32 (hi : Int))] 2 (some 2)) (.inr ⟨some 2, rfl⟩) dd (by simp)
  have hv : val 4294967296 [lo, hi] = a := by simp [val]; omega
  have hz : ival (decide (z < 0)) [lo, hi] = z := by
    unfold ival
    rw [hv]
    by_cases h : z < 0 <;> simp [h] <;> omega
  rw [hz] at hn
  obtain ⟨q, s, rfl, o1⟩ := num_place hn
  by_cases hneg : z < 0
  · have hd : decide (z < 0) = true := by simp [hneg]
    rw [hd] at hmd
    obtain ⟨u, hu⟩ : ∃ u : Nat, IntKind.u64.wrap z = u := ⟨(z + 18446744073709551616).toNat, by rw [wu64m]; omega⟩
    have hun : opUn .neg (nv .u64 u) = some (nv .u64 a) := by
      show some (V.tr (Tree.sc (Value.int .u64 (IntKind.u64.wrap (0 - (u : Int)))))) = _
      rw [← hu, wu64m, wu64m]
      congr 4
      omega
    simp [hu, hneg, hun, k30_3, w3, hsh, w4, hbs, hmd, opStore, obPut, opLoad, obCells, slice?, splice_all, o1]
    exact hn
  · have hd : decide (z < 0) = false := by simp [hneg]
    rw [hd] at hmd
    have hu : IntKind.u64.wrap z = a := by rw [wu64m]; omega
    simp [hu, hneg, k30_3, w3, hsh, w4, hbs, hmd, opStore, obPut, opLoad, obCells, slice?, splice_all, o1]
    exact hn
end Go.Proofs.Ytjacddclpcelmaa.AM.Bi
