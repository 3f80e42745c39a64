/- IntText: part 61. -/
import Derived.Test.YtjacddclpcelmaaBi35
set_option maxRecDepth 1000000
set_option linter.unusedVariables false
set_option linter.unusedSimpArgs false
namespace Go.Proofs.Ytjacddclpcelmaa.AM.Bi
open Go.Proofs

/-- The digit that a byte is. -/
def digitV (b : Nat) : Option Nat := if 48 ≤ b ∧ b ≤ 57 then some (b - 48) else if 97 ≤ b ∧ b ≤ 102 then some (b - 87) else if 65 ≤ b ∧ b ≤ 70 then some (b - 55) else none
theorem digitV_lt {b d : Nat} (h : digitV b = some d) : d < 16 := by
  unfold digitV at h
  split at h
  · cases h; omega
  split at h
  · cases h; omega
  split at h
  · cases h; omega
  · cases h
theorem wu8 {n : Int} (h : 0 ≤ n) (h2 : n < 256) : IntKind.u8.wrap n = n := IntWalk.u8_in n ⟨h, by omega⟩
theorem digit_ok {b : Nat} (hb : b < 256) (σ : Store) : callL T 61 [nv .u8 b] σ = some (nv .i64 ((digitV b).getD 99), σ) := by
  suffices hh : ∃ t, (∀ σ, callL T 61 ([.sc (.int .u8 (b : Int))].map .tr) σ = some (.tr t, σ)) ∧ t = .sc (.int .i64 (((digitV b).getD 99 : Nat) : Int)) by
    obtain ⟨t, h, rfl⟩ := hh
    exact h σ
  refine call_iso T61 rfl rfl ?_
  by_cases h1 : 48 ≤ b ∧ b ≤ 57
  · obtain ⟨h1, h2⟩ := h1
    have a1 : (48 : Int) ≤ b := by omega
    have a2 : (b : Int) ≤ 57 := by omega
    have e : digitV b = some (b - 48) := by unfold digitV; rw [if_pos ⟨h1, h2⟩]
    have w1 : IntKind.u8.wrap ((b : Int) - 48) = ((b - 48 : Nat) : Int) := by rw [wu8 (by omega) (by omega)]; omega
    have w2 : IntKind.i64.wrap (((b - 48 : Nat) : Int)) = ((b - 48 : Nat) : Int) := w64 (by omega) (by omega)
    simp [a1, a2, e, w1, w2]
  by_cases h2 : 97 ≤ b ∧ b ≤ 102
  · have e : digitV b = some (b - 87) := by unfold digitV; rw [if_neg h1, if_pos h2]
    have a1 : (48 : Int) ≤ b := by omega
    have a2 : ¬ (b : Int) ≤ 57 := by omega
    have a3 : (97 : Int) ≤ b := by omega
    have a4 : (b : Int) ≤ 102 := by omega
    have w1 : IntKind.u8.wrap ((b : Int) - 97) = ((b - 97 : Nat) : Int) := by rw [wu8 (by omega) (by omega)]; omega
    have w2 : IntKind.i64.wrap (((b - 97 : Nat) : Int)) = ((b - 97 : Nat) : Int) := w64 (by omega) (by omega)
    have w3 : IntKind.i64.wrap (((b - 97 : Nat) : Int) + 10) = ((b - 87 : Nat) : Int) := by rw [w64 (by omega) (by omega)]; omega
    simp [a1, a2, a3, a4, e, w1, w2, w3]
  by_cases h3 : 65 ≤ b ∧ b ≤ 70
  · have e : digitV b = some (b - 55) := by unfold digitV; rw [if_neg h1, if_neg h2, if_pos h3]
    have a1 : (48 : Int) ≤ b := by omega
    have a2 : ¬ (b : Int) ≤ 57 := by omega
    have a3 : ¬ (97 : Int) ≤ b := by omega
    have a5 : (65 : Int) ≤ b := by omega
    have a6 : (b : Int) ≤ 70 := by omega
    have w1 : IntKind.u8.wrap ((b : Int) - 65) = ((b - 65 : Nat) : Int) := by rw [wu8 (by omega) (by omega)]; omega
    have w2 : IntKind.i64.wrap (((b - 65 : Nat) : Int)) = ((b - 65 : Nat) : Int) := w64 (by omega) (by omega)
    have w3 : IntKind.i64.wrap (((b - 65 : Nat) : Int) + 10) = ((b - 55 : Nat) : Int) := by rw [w64 (by omega) (by omega)]; omega
    simp [a1, a2, a3, a5, a6, e, w1, w2, w3]
  · have e : digitV b = none := by unfold digitV; rw [if_neg h1, if_neg h2, if_neg h3]
    have c1 : ((decide ((48 : Int) ≤ b)) && decide ((b : Int) ≤ 57)) = false := by
      rw [Bool.and_eq_false_iff]; simp; omega
    by_cases b1 : (48 : Int) ≤ b
    · have b2 : ¬ (b : Int) ≤ 57 := by omega
      by_cases b3 : (97 : Int) ≤ b
      · have b4 : ¬ (b : Int) ≤ 102 := by omega
        have b5 : (65 : Int) ≤ b := by omega
        have b6 : ¬ (b : Int) ≤ 70 := by omega
        simp [b1, b2, b3, b4, b5, b6, e, k61_9]
      · by_cases b5 : (65 : Int) ≤ b
        · have b6 : ¬ (b : Int) ≤ 70 := by omega
          simp [b1, b2, b3, b5, b6, e, k61_9]
        · simp [b1, b2, b3, b5, e, k61_9]
    · have b3 : ¬ (97 : Int) ≤ b := by omega
      have b5 : ¬ (65 : Int) ≤ b := by omega
      simp [b1, b3, b5, e, k61_9]
theorem rdigit_ok {b : Nat} (hb : b < 256) (σ : Store) : callL T 63 [nv .u8 b] σ = some (match digitV b with | some d => nv .i64 d | none => iv (-1), σ) := by
  suffices hh : ∃ t, (∀ σ, callL T 63 ([.sc (.int .u8 (b : Int))].map .tr) σ = some (.tr t, σ)) ∧ .tr t = (match digitV b with | some d => nv .i64 d | none => iv (-1)) by
    obtain ⟨t, h, h2⟩ := hh
    rw [← h2]
    exact h σ
  refine call_iso T63 rfl rfl ?_
  by_cases h1 : 48 ≤ b ∧ b ≤ 57
  · obtain ⟨h1, h2⟩ := h1
    have a1 : (48 : Int) ≤ b := by omega
    have a2 : (b : Int) ≤ 57 := by omega
    have e : digitV b = some (b - 48) := by unfold digitV; rw [if_pos ⟨h1, h2⟩]
    have w1 : IntKind.u8.wrap ((b : Int) - 48) = ((b - 48 : Nat) : Int) := by rw [wu8 (by omega) (by omega)]; omega
    have w2 : IntKind.i64.wrap (((b - 48 : Nat) : Int)) = ((b - 48 : Nat) : Int) := w64 (by omega) (by omega)
    simp [a1, a2, e, w1, w2]
  by_cases h2 : 97 ≤ b ∧ b ≤ 102
  · have e : digitV b = some (b - 87) := by unfold digitV; rw [if_neg h1, if_pos h2]
    have a1 : (48 : Int) ≤ b := by omega
    have a2 : ¬ (b : Int) ≤ 57 := by omega
    have a3 : (97 : Int) ≤ b := by omega
    have a4 : (b : Int) ≤ 102 := by omega
    have w1 : IntKind.u8.wrap ((b : Int) - 97) = ((b - 97 : Nat) : Int) := by rw [wu8 (by omega) (by omega)]; omega
    have w2 : IntKind.i64.wrap (((b - 97 : Nat) : Int)) = ((b - 97 : Nat) : Int) := w64 (by omega) (by omega)
    have w3 : IntKind.i64.wrap (((b - 97 : Nat) : Int) + 10) = ((b - 87 : Nat) : Int) := by rw [w64 (by omega) (by omega)]; omega
    simp [a1, a2, a3, a4, e, w1, w2, w3]
  by_cases h3 : 65 ≤ b ∧ b ≤ 70
  · have e : digitV b = some (b - 55) := by unfold digitV; rw [if_neg h1, if_neg h2, if_pos h3]
    have a1 : (48 : Int) ≤ b := by omega
    have a2 : ¬ (b : Int) ≤ 57 := by omega
    have a3 : ¬ (97 : Int) ≤ b := by omega
    have a5 : (65 : Int) ≤ b := by omega
    have a6 : (b : Int) ≤ 70 := by omega
    have w1 : IntKind.u8.wrap ((b : Int) - 65) = ((b - 65 : Nat) : Int) := by rw [wu8 (by omega) (by omega)]; omega
    have w2 : IntKind.i64.wrap (((b - 65 : Nat) : Int)) = ((b - 65 : Nat) : Int) := w64 (by omega) (by omega)
    have w3 : IntKind.i64.wrap (((b - 65 : Nat) : Int) + 10) = ((b - 55 : Nat) : Int) := by rw [w64 (by omega) (by omega)]; omega
    simp [a1, a2, a3, a5, a6, e, w1, w2, w3]
  · have e : digitV b = none := by unfold digitV; rw [if_neg h1, if_neg h2, if_neg h3]
    by_cases b1 : (48 : Int) ≤ b
    · have b2 : ¬ (b : Int) ≤ 57 := by omega
      by_cases b3 : (97 : Int) ≤ b
      · have b4 : ¬ (b : Int) ≤ 102 := by omega
        have b5 : (65 : Int) ≤ b := by omega
        have b6 : ¬ (b : Int) ≤ 70 := by omega
        simp [b1, b2, b3, b4, b5, b6, e, k63_9]
      · by_cases b5 : (65 : Int) ≤ b
        · have b6 : ¬ (b : Int) ≤ 70 := by omega
          simp [b1, b2, b3, b5, b6, e, k63_9]
        · simp [b1, b2, b3, b5, e, k63_9]
    · have b3 : ¬ (97 : Int) ≤ b := by omega
      have b5 : ¬ (65 : Int) ≤ b := by omega
      simp [b1, b3, b5, e, k63_9]
end Go.Proofs.Ytjacddclpcelmaa.AM.Bi
