/- IntText: part 41. -/
import Derived.Test.YtjacddclpcelmaaBi35
set_option maxRecDepth 1000000
set_option linter.unusedVariables false
set_option linter.unusedSimpArgs false
namespace Go.Proofs.Ytjacddclpcelmaa.AM.Bi

/-- The four operations on bits. -/
def fb (o : Nat) (p q : Bool) : Bool := match o with | 0 => p && q | 1 => p || q | 2 => p ^^ q | _ => p ^^ (p && q)
/-- And on numbers. -/
def G (o x y : Nat) : Nat := match o with | 0 => x &&& y | 1 => x ||| y | 2 => x ^^^ y | _ => x ^^^ (x &&& y)
theorem G_bit {o x y i : Nat} : (G o x y).testBit i = fb o (x.testBit i) (y.testBit i) := by
  unfold G fb
  split <;> simp [Nat.testBit_and, Nat.testBit_or, Nat.testBit_xor]
theorem fb_no (o : Nat) : fb o false false = false := by unfold fb; split <;> rfl
theorem bit_hi {x n i : Nat} (hx : x < 2 ^ n) (hi : n ≤ i) : x.testBit i = false := Nat.testBit_lt_two_pow (Nat.lt_of_lt_of_le hx (Nat.pow_le_pow_right (by decide) hi))
theorem G_lt {o x y n : Nat} (hx : x < 2 ^ n) (hy : y < 2 ^ n) : G o x y < 2 ^ n := by
  refine Nat.lt_pow_two_of_testBit _ fun i hi => ?_
  rw [G_bit, bit_hi hx hi, bit_hi hy hi, fb_no]
theorem G_join {o a b x y k : Nat} (hx : x < 2 ^ k) (hy : y < 2 ^ k) : G o (2 ^ k * a + x) (2 ^ k * b + y) = 2 ^ k * G o a b + G o x y := by
  refine Nat.eq_of_testBit_eq fun i => ?_
  rw [G_bit, Nat.testBit_two_pow_mul_add _ hx, Nat.testBit_two_pow_mul_add _ hy, Nat.testBit_two_pow_mul_add _ (G_lt hx hy)]
  by_cases h : i < k
  · simp only [h, if_true, G_bit]
  · simp only [h, if_false, G_bit]
theorem G_zero (o : Nat) : G o 0 0 = 0 := by
  refine Nat.eq_of_testBit_eq fun i => ?_
  rw [G_bit]; simp [fb_no]
theorem G_val {o : Nat} : ∀ {a b : List Nat}, dig 4294967296 a → dig 4294967296 b → a.length = b.length → val 4294967296 (List.zipWith (G o) a b) = G o (val 4294967296 a) (val 4294967296 b)
  | [], [], _, _, _ => by simp [val, G_zero]
  | x :: a, y :: b, ha, hb, h => by
    have hx : x < 2 ^ 32 := ha x (by simp)
    have hy : y < 2 ^ 32 := hb y (by simp)
    have ih := G_val (o := o) (a := a) (b := b) (fun z hz => ha z (by simp [hz])) (fun z hz => hb z (by simp [hz])) (by simpa using h)
    simp only [List.zipWith_cons_cons, val]
    rw [ih]
    have := G_join (o := o) (a := val 4294967296 a) (b := val 4294967296 b) hx hy
    rw [Nat.add_comm x, Nat.add_comm y, Nat.add_comm (G o x y)]
    exact this.symm
theorem G_dig {o : Nat} : ∀ {a b : List Nat}, dig 4294967296 a → dig 4294967296 b → dig 4294967296 (List.zipWith (G o) a b)
  | [], _, _, _ => by simp [dig]
  | _ :: _, [], _, _ => by simp [dig]
  | x :: a, y :: b, ha, hb => by
    have hx : x < 2 ^ 32 := ha x (by simp)
    have hy : y < 2 ^ 32 := hb y (by simp)
    have ih := G_dig (o := o) (a := a) (b := b) (fun z hz => ha z (by simp [hz])) (fun z hz => hb z (by simp [hz]))
    intro z hz
    simp only [List.zipWith_cons_cons, List.mem_cons] at hz
    rcases hz with rfl | hz
    · exact G_lt hx hy
    · exact ih z hz

/-- A number's two's complement in so many bits. -/
def tc (n : Nat) (z : Int) : Nat := if z < 0 then 2 ^ n - z.natAbs else z.natAbs
/-- The number that so many bits are. -/
def sgnd (m D : Nat) : Int := if D.testBit m then (D : Int) - ((2 ^ (m + 1) : Nat) : Int) else D
/-- A number that so many bits and a sign hold. -/
def fits (m : Nat) (z : Int) : Prop := z.natAbs < 2 ^ m
theorem fits_le {m n : Nat} {z : Int} (h : fits m z) (hl : m ≤ n) : fits n z := Nat.lt_of_lt_of_le h (Nat.pow_le_pow_right (by decide) hl)
theorem tc_lt {m : Nat} {z : Int} (h : fits m z) : tc (m + 1) z < 2 ^ (m + 1) := by
  unfold fits at h
  unfold tc
  rw [Nat.pow_succ] at *
  split <;> omega
theorem tc_top {m : Nat} {z : Int} (h : fits m z) : (tc (m + 1) z).testBit m = decide (z < 0) := by
  unfold fits at h
  unfold tc
  by_cases hz : z < 0
  · rw [if_pos hz]
    have e : 2 ^ (m + 1) - z.natAbs = 2 ^ m * 1 + (2 ^ m - z.natAbs) := by rw [Nat.pow_succ]; omega
    rw [e, Nat.testBit_two_pow_mul_add _ (by omega)]
    simp [hz]
  · rw [if_neg hz, Nat.testBit_lt_two_pow h]
    simp [hz]
theorem tc_succ {m : Nat} {z : Int} (h : fits m z) : tc (m + 2) z = 2 ^ (m + 1) * (decide (z < 0)).toNat + tc (m + 1) z := by
  unfold fits at h
  unfold tc
  have e : (2 : Nat) ^ (m + 2) = 2 ^ (m + 1) * 2 := Nat.pow_succ ..
  have e2 : (2 : Nat) ^ (m + 1) = 2 ^ m * 2 := Nat.pow_succ ..
  by_cases hz : z < 0
  · simp only [hz, if_true, decide_true, Bool.toNat_true]
    omega
  · simp [hz]
theorem bool_G (o : Nat) (p q : Bool) : G o p.toNat q.toNat = (fb o p q).toNat := by
  unfold G fb
  split <;> cases p <;> cases q <;> rfl
theorem sgnd_step {o m : Nat} {a b : Int} (ha : fits m a) (hb : fits m b) : sgnd (m + 1) (G o (tc (m + 2) a) (tc (m + 2) b)) = sgnd m (G o (tc (m + 1) a) (tc (m + 1) b)) := by
  rw [tc_succ ha, tc_succ hb, G_join (tc_lt ha) (tc_lt hb), bool_G]
  have hD := G_lt (o := o) (tc_lt ha) (tc_lt hb)
  have ht : (G o (tc (m + 1) a) (tc (m + 1) b)).testBit m = fb o (decide (a < 0)) (decide (b < 0)) := by rw [G_bit, tc_top ha, tc_top hb]
  generalize G o (tc (m + 1) a) (tc (m + 1) b) = D at *
  generalize fb o (decide (a < 0)) (decide (b < 0)) = t at *
  unfold sgnd
  rw [ht, Nat.testBit_two_pow_mul_add _ hD]
  have e : (2 : Nat) ^ (m + 2) = 2 ^ (m + 1) * 2 := Nat.pow_succ ..
  cases t with
  | false => simp
  | true =>
    simp only [Nat.lt_irrefl, if_false, Nat.sub_self, Bool.toNat_true, Nat.mul_one]
    have e' : (2 : Nat) ^ (m + 1 + 1) = 2 ^ (m + 1) * 2 := e
    rw [if_pos (by rfl), if_pos trivial, e']
    generalize 2 ^ (m + 1) = w at *
    omega
theorem sgnd_up {o m : Nat} {a b : Int} (ha : fits m a) (hb : fits m b) : ∀ k, sgnd (m + k) (G o (tc (m + k + 1) a) (tc (m + k + 1) b)) = sgnd m (G o (tc (m + 1) a) (tc (m + 1) b))
  | 0 => rfl
  | k + 1 => by
    have := sgnd_step (o := o) (m := m + k) (fits_le ha (by omega)) (fits_le hb (by omega))
    rw [← sgnd_up ha hb k, ← this]
    rfl
theorem sgnd_any {o m n : Nat} {a b : Int} (ha : fits m a) (hb : fits m b) (ha' : fits n a) (hb' : fits n b) : sgnd m (G o (tc (m + 1) a) (tc (m + 1) b)) = sgnd n (G o (tc (n + 1) a) (tc (n + 1) b)) := by
  rcases Nat.le_total m n with h | h
  · obtain ⟨k, rfl⟩ : ∃ k, n = m + k := ⟨n - m, by omega⟩
    exact (sgnd_up ha hb k).symm
  · obtain ⟨k, rfl⟩ : ∃ k, m = n + k := ⟨m - n, by omega⟩
    exact sgnd_up ha' hb' k

theorem bit_div (D m : Nat) : (D.testBit m).toNat = D / 2 ^ m % 2 := Nat.toNat_testBit D m
/-- One more bit. -/
theorem mod_bit (D i : Nat) : D % 2 ^ (i + 1) = D % 2 ^ i + 2 ^ i * (D.testBit i).toNat := by
  rw [bit_div, Nat.pow_succ, Nat.mod_mul]
end Go.Proofs.Ytjacddclpcelmaa.AM.Bi
