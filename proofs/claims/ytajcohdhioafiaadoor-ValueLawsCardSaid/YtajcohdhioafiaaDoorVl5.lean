/- ValueLaws: part 5. -/
import Derived.Test.YtajcohdhioafiaaDoorVl4
set_option maxRecDepth 1000000
set_option linter.unusedVariables false
set_option linter.unusedSimpArgs false
namespace Go.Proofs.YtajcohdhioafiaaDoor.AM.Vl
open Go.Proofs
theorem i64W (n : Int) : W n = (n + 9223372036854775808) % 18446744073709551616 - 9223372036854775808 := IntKind.wrap_i64 n
theorem u64U (n : Int) : U n = n % 18446744073709551616 := by simp [U, IntKind.wrap, IntKind.bits, IntKind.signed]
theorem i8w (n : Int) : IntKind.i8.wrap n = (n + 128) % 256 - 128 := by
  simp only [IntKind.wrap, IntKind.bits, IntKind.signed]
  simp
  omega
theorem u8w (n : Int) : IntKind.u8.wrap n = n % 256 := IntKind.wrap_u8 n
theorem wr_i8 (n : Int) : wr nI8 n = (n + 128) % 256 - 128 := by rw [← i8w]; rfl
theorem wr_u8 (n : Int) : wr nU8 n = n % 256 := by rw [← u8w]; rfl
theorem wr_int (n : Int) : wr nInt n = n := rfl
theorem wr_uint (n : Int) : wr nUint n = n := rfl
def i64in (n : Int) : Prop := -9223372036854775808 ≤ n ∧ n ≤ 9223372036854775807
/-- A sum less what was added. -/
theorem law_sum {l : List UInt8} (h : isName l = true) {a b : Int} (ha : i64in a) (hb : i64in b) : wr l (W (wr l (wr l (W (wr l a + wr l b))) - wr l b)) = wr l a := by
  unfold i64in at ha hb
  simp only [isName, Bool.or_eq_true, decide_eq_true_eq] at h
  rcases h with ((rfl | rfl) | rfl) | rfl
  · simp only [wr_int, i64W]; omega
  · simp only [wr_i8, i64W]; omega
  · simp only [wr_u8, i64W]; omega
  · simp only [wr_uint, i64W]; omega
theorem wr_wr {l : List UInt8} (n : Int) : wr l (wr l n) = wr l n := by
  unfold wr
  split
  · simp only [i8w]; omega
  · split
    · simp only [u8w]; omega
    · rfl
theorem wr_in {l : List UInt8} {n : Int} (h : i64in n) : i64in (wr l n) := by
  unfold wr i64in at *
  split
  · simp only [i8w]; omega
  · split
    · simp only [u8w]; omega
    · exact h
theorem wr_btw {l : List UInt8} {x z : Int} (hx : wr l x = x) (h : (0 ≤ z ∧ z ≤ x) ∨ (x ≤ z ∧ z ≤ 0)) : wr l z = z := by
  unfold wr at *
  split at hx
  · rename_i h1; rw [if_pos h1]; rw [i8w] at hx ⊢; omega
  · rename_i h1
    split at hx
    · rename_i h2; rw [if_neg h1, if_pos h2]; rw [u8w] at hx ⊢; omega
    · rename_i h2; simp only [h1, h2, if_false]
theorem wr_half {l : List UInt8} {x z : Int} (hx : wr l x = x) (h : 2 * z.natAbs ≤ x.natAbs) (h0 : l = nU8 → 0 ≤ z) : wr l z = z := by
  unfold wr at *
  split at hx
  · rename_i h1; rw [if_pos h1]; rw [i8w] at hx ⊢; omega
  · rename_i h1
    split at hx
    · rename_i h2
      have := h0 h2
      rw [if_neg h1, if_pos h2]; rw [u8w] at hx ⊢; omega
    · rename_i h2; simp only [h1, h2, if_false]
theorem nat_half (x y : Nat) (h : 2 ≤ y) : 2 * (x / y) ≤ x := by
  have := Nat.div_mul_le_self x y
  have := Nat.mul_le_mul_left (x / y) h
  omega
/-- A quotient and its rest. -/
theorem law_quo {l : List UInt8} (h : isName l = true) {a b : Int} (ha : i64in a) (hb : i64in b) (h0 : wr l b ≠ 0) :
    wr l (W (wr l (wr l (W (wr l (wr l (quoV true (decide (l = nUint)) (wr l a) (wr l b))) * wr l b))) + wr l (wr l (quoV false (decide (l = nUint)) (wr l a) (wr l b))))) = wr l a := by
  have ha' := wr_in (l := l) ha
  have hb' := wr_in (l := l) hb
  have hxx := wr_wr (l := l) a
  have hyy := wr_wr (l := l) b
  generalize wr l a = x at *
  generalize wr l b = y at *
  clear ha hb a b
  simp only [wr_wr]
  unfold i64in at ha' hb'
  by_cases hu : l = nUint
  · subst hu
    simp only [wr_uint, quoV, decide_true, if_true, u64U, Bool.false_eq_true, if_false]
    have hy0 : 0 < y % 18446744073709551616 := by omega
    have hx0 : 0 ≤ x % 18446744073709551616 := by omega
    have hd := Int.mul_tdiv_add_tmod (x % 18446744073709551616) (y % 18446744073709551616)
    generalize hQ : (x % 18446744073709551616).tdiv (y % 18446744073709551616) = Q at *
    generalize hR : (x % 18446744073709551616).tmod (y % 18446744073709551616) = R at *
    have hR0 : 0 ≤ R := by rw [← hR]; exact Int.tmod_nonneg _ hx0
    have hR1 : R < y % 18446744073709551616 := by rw [← hR]; exact Int.tmod_lt_of_pos _ hy0
    have m : ∀ z : Int, z % 18446744073709551616 = Q % 18446744073709551616 → (z * y) % 18446744073709551616 = (y % 18446744073709551616 * Q) % 18446744073709551616 := by
      intro z hz
      rw [Int.mul_emod, hz, ← Int.mul_emod, Int.mul_comm, Int.mul_emod y Q, Int.mul_emod (y % 18446744073709551616) Q, Int.emod_emod_of_dvd _ (Int.dvd_refl _)]
    have m1 := m (W (Q % 18446744073709551616)) (by simp only [i64W]; omega)
    generalize W (Q % 18446744073709551616) * y = p at *
    simp only [i64W]
    omega
  · simp only [hu, quoV, decide_false, Bool.false_eq_true, if_false, if_true]
    by_cases hm : y = -1
    · subst hm
      simp only [if_true]
      have e0 : wr l 0 = 0 := by unfold wr; split <;> (try split) <;> rfl
      rw [e0]
      simp only [isName, Bool.or_eq_true, decide_eq_true_eq] at h
      rcases h with ((rfl | rfl) | rfl) | rfl
      · simp only [wr_int, i64W]; omega
      · simp only [wr_i8, i64W] at *; omega
      · simp only [wr_u8] at hyy; omega
      · exact absurd rfl hu
    · simp only [hm, if_false]
      have hd := Int.mul_tdiv_add_tmod x y
      have hq : (x.tdiv y).natAbs = x.natAbs / y.natAbs := Int.natAbs_tdiv x y
      have hr : (x.tmod y).natAbs = x.natAbs % y.natAbs := Int.natAbs_tmod x y
      have hrs : (0 ≤ x → 0 ≤ x.tmod y) := fun h => Int.tmod_nonneg _ h
      have hrs2 : (x ≤ 0 → x.tmod y ≤ 0) := fun h => by
        have := Int.tmod_nonneg y (a := -x) (by omega)
        rw [Int.neg_tmod] at this
        omega
      have hrl : x.natAbs % y.natAbs ≤ x.natAbs := Nat.mod_le _ _
      have hu8 : l = nU8 → 0 ≤ x ∧ 0 ≤ y := by
        rintro rfl
        simp only [wr_u8] at hxx hyy
        omega
      have hqn : l = nU8 → 0 ≤ x.tdiv y := fun e => Int.tdiv_nonneg (hu8 e).1 (hu8 e).2
      have hQ : wr l (x.tdiv y) = x.tdiv y ∧ W (x.tdiv y) = x.tdiv y := by
        by_cases h1 : y = 1
        · subst h1
          rw [Int.tdiv_one]
          exact ⟨hxx, by rw [i64W]; omega⟩
        · have := nat_half x.natAbs y.natAbs (by omega)
          exact ⟨wr_half hxx (by omega) hqn, by rw [i64W]; omega⟩
      have hR : wr l (x.tmod y) = x.tmod y := wr_btw hxx (by omega)
      rw [hQ.2, hQ.1, hR]
      rw [Int.mul_comm] at hd
      generalize x.tdiv y * y = p at *
      have hp : wr l p = p := wr_btw hxx (by omega)
      have e1 : W p = p := by rw [i64W]; omega
      rw [e1, hp, hd]
      have e2 : W x = x := by rw [i64W]; omega
      rw [e2, hxx]
/-- A divisor is no zero as a word of 64 bits either. -/
theorem u_ne {y : Int} (h : i64in y) (h0 : y ≠ 0) : U y ≠ 0 := by
  unfold i64in at h
  rw [u64U]
  omega
end Go.Proofs.YtajcohdhioafiaaDoor.AM.Vl
