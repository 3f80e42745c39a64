/- IntText: part 11. -/
import Derived.Test.YtjacddclpcelmaaBi10
set_option maxRecDepth 1000000
set_option linter.unusedVariables false
set_option linter.unusedSimpArgs false
namespace Go.Proofs.Ytjacddclpcelmaa.AM.Bi
open Go.Proofs

/-- A whole number of the reference. -/
def RInt (N : Nat) (z : Int) (t : Tree) : Prop := ∃ s, t = .agg [.sc (.bool (decide (z < 0))), s] ∧ NatSl N z.natAbs s
theorem nat_one {N n : Nat} {t : Tree} (h : NatSl N n t) : oneV (.tr t) = true := by
  obtain ⟨l, hl, _⟩ := h
  exact one_sl hl
theorem nat_len {N n : Nat} {t : Tree} (h : NatSl N n t) : ∃ k : Nat, (∀ σ, opLen 1 (.tr t) σ = some (nv .i64 k)) ∧ (0 < k ↔ 0 < n) ∧ k ≤ N := by
  obtain ⟨l, hl, hd, hc, rfl, hN⟩ := h
  refine ⟨l.length, fun σ => isSl_len hl, ?_, hN⟩
  have := trim_len_iff (B := 65536) (by decide) (a := l)
  rwa [trim_of_can hc] at this
theorem nat_le {N M n : Nat} {t : Tree} (h : NatSl N n t) (hle : N ≤ M) : NatSl M n t := by
  obtain ⟨l, h1, h2, h3, h4, h5⟩ := h
  exact ⟨l, h1, h2, h3, h4, by omega⟩
theorem rint_le {N M : Nat} {z : Int} {t : Tree} (h : RInt N z t) (hle : N ≤ M) : RInt M z t := by
  obtain ⟨s, h1, h2⟩ := h
  exact ⟨s, h1, nat_le h2 hle⟩
theorem rint_mk {N n : Nat} {z : Int} {neg : Bool} {s : Tree} (h : NatSl N n s) (hz : z = if neg then -(n : Int) else n) (hn : neg = true → 0 < n) : RInt N z (.agg [.sc (.bool neg), s]) := by
  refine ⟨s, ?_, ?_⟩
  · congr 3
    cases neg with
    | true => have := hn rfl; simp at hz; simp; omega
    | false => simp at hz; simp; omega
  · have : z.natAbs = n := by
      cases neg <;> simp at hz <;> omega
    rw [this]
    exact h

theorem rAdd_ok {N M : Nat} {x y : Int} {ta tb : Tree} (ha : RInt N x ta) (hb : RInt M y tb) (la : N ≤ 100000) (lb : M ≤ 100000) :
    ∃ r, (∀ σ, callL T 15 [.tr ta, .tr tb] σ = some (.tr r, σ)) ∧ RInt (max N M + 1) (x + y) r := by
  obtain ⟨sa, rfl, na⟩ := ha
  obtain ⟨sb, rfl, nb⟩ := hb
  refine call_iso (ts := [.agg [.sc (.bool (decide (x < 0))), sa], .agg [.sc (.bool (decide (y < 0))), sb]]) T15 rfl rfl ?_
  obtain ⟨p, hp⟩ : ∃ p, p = decide (x < 0) := ⟨_, rfl⟩
  obtain ⟨q, hq⟩ : ∃ q, q = decide (y < 0) := ⟨_, rfl⟩
  rw [← hp, ← hq]
  have hx : x = if p then -(x.natAbs : Int) else x.natAbs := by rw [hp]; by_cases h : x < 0 <;> simp [h] <;> omega
  have hy : y = if q then -(y.natAbs : Int) else y.natAbs := by rw [hq]; by_cases h : y < 0 <;> simp [h] <;> omega
  have hpn : p = true → 0 < x.natAbs := by rw [hp]; simp; omega
  have hqn : q = true → 0 < y.natAbs := by rw [hq]; simp; omega
  generalize x.natAbs = m at *
  generalize y.natAbs = n at *
  clear hp hq
  by_cases hs : p = q
  · subst hs
    obtain ⟨t, hc, ht⟩ := radd_ok na nb la lb
    have h1 := nat_one ht
    simp [hc, h1, cells_one h1]
    refine rint_mk ht ?_ ?_
    · rw [hx, hy]; cases p <;> simp <;> omega
    · intro h; have := hpn h; omega
  · have hs2 : (p == q) = false := by simpa using hs
    have hcmp := rcmp_ok na nb la lb
    rcases Nat.lt_trichotomy m n with hlt | heq | hgt
    · obtain ⟨t, hc, ht⟩ := rsub_ok nb na lb la (Nat.le_of_lt hlt)
      have h1 := nat_one ht
      have hsg : sgn m n = -1 := by simp [sgn, hlt]
      simp [hs2, k15_3, hcmp, hsg, k15_10, hc, h1, cells_one h1]
      refine rint_mk (nat_le ht (by omega)) ?_ (fun _ => by omega)
      rw [hx, hy]; cases p <;> cases q <;> simp at hs ⊢ <;> omega
    · have hsg : sgn m n = 0 := by simp [sgn, heq]
      simp [hs2, k15_3, hcmp, hsg]
      refine rint_mk (n := 0) ⟨[], .inl ⟨rfl, rfl⟩, dig_nil _, can_nil, rfl, by simp⟩ ?_ (by simp)
      rw [hx, hy, heq]; cases p <;> cases q <;> simp at hs ⊢ <;> omega
    · obtain ⟨t, hc, ht⟩ := rsub_ok na nb la lb (Nat.le_of_lt hgt)
      have h1 := nat_one ht
      have hsg : sgn m n = 1 := by simp [sgn, show ¬ m < n by omega, show ¬ m = n by omega]
      simp [hs2, k15_3, hcmp, hsg, hc, h1, cells_one h1]
      refine rint_mk (nat_le ht (by omega)) ?_ (fun _ => by omega)
      rw [hx, hy]; cases p <;> cases q <;> simp at hs ⊢ <;> omega

theorem rNeg_ok {N : Nat} {x : Int} {ta : Tree} (ha : RInt N x ta) (la : N ≤ 100000) :
    ∃ r, (∀ σ, callL T 21 [.tr ta] σ = some (.tr r, σ)) ∧ RInt N (-x) r := by
  obtain ⟨sa, rfl, na⟩ := ha
  refine call_iso (ts := [.agg [.sc (.bool (decide (x < 0))), sa]]) T21 rfl rfl ?_
  obtain ⟨k, hl, hk, hkN⟩ := nat_len na
  have h1 := nat_one na
  have e1 : (-x).natAbs = x.natAbs := by omega
  by_cases hx : x < 0
  · simp [hx, h1, cells_one h1]
    refine ⟨sa, ?_, by rw [e1]; exact na⟩
    have : ¬ -x < 0 := by omega
    simp; omega
  · by_cases hz : 0 < x
    · have hk0 : 0 < k := by rw [hk]; omega
      simp [hx, hl, hk0, h1, cells_one h1]
      refine ⟨sa, ?_, by rw [e1]; exact na⟩
      have : -x < 0 := by omega
      simp; omega
    · have hk0 : ¬ 0 < k := by rw [hk]; omega
      simp [hx, hl, hk0, h1, cells_one h1]
      refine ⟨sa, ?_, by rw [e1]; exact na⟩
      have : ¬ -x < 0 := by omega
      simp; omega

@[simp] theorem fad_p {i g k o : Nat} : opFaddr o (.ptr i g k) = some (.ptr i g (k + o)) := rfl
@[simp] theorem ldt2_2 {a b : Tree} : opLdt 2 true (.tr (.rptr [a, b] 0)) = some (.tr (.agg [a, b])) := rfl
theorem rint_place {N : Nat} {z : Int} {r : Tree} (h : RInt N z r) : ∃ ng s, r = .agg [.sc (.bool ng), s] ∧ oneV (.tr s) = true := by
  obtain ⟨s, rfl, hn⟩ := h
  exact ⟨_, s, rfl, nat_one hn⟩
theorem rSub_ok {N M : Nat} {x y : Int} {ta tb : Tree} (ha : RInt N x ta) (hb : RInt M y tb) (la : N ≤ 100000) (lb : M ≤ 100000) :
    ∃ r, (∀ σ, callL T 17 [.tr ta, .tr tb] σ = some (.tr r, σ)) ∧ RInt (max N M + 1) (x - y) r := by
  obtain ⟨nb, hc1, hnb⟩ := rNeg_ok hb lb
  obtain ⟨r, hc2, hr⟩ := rAdd_ok ha hnb la lb
  obtain ⟨_, s, rfl, hs⟩ := rint_place hr
  obtain ⟨_, sa, rfl, _⟩ := rint_place ha
  obtain ⟨_, sb, rfl, _⟩ := rint_place hb
  refine call_iso (ts := [_, _]) T17 rfl rfl ?_
  simp [hc1, hc2, hs]
  rw [Int.sub_eq_add_neg]
  exact hr

theorem rMul_ok {N M : Nat} {x y : Int} {ta tb : Tree} (ha : RInt N x ta) (hb : RInt M y tb) (la : N ≤ 100000) (lb : M ≤ 100000) :
    ∃ r, (∀ σ, callL T 19 [.tr ta, .tr tb] σ = some (.tr r, σ)) ∧ RInt (N + M + 1) (x * y) r := by
  obtain ⟨sa, rfl, na⟩ := ha
  obtain ⟨sb, rfl, nb⟩ := hb
  refine call_iso (ts := [.agg [.sc (.bool (decide (x < 0))), sa], .agg [.sc (.bool (decide (y < 0))), sb]]) T19 rfl rfl ?_
  obtain ⟨t, hc, ht⟩ := rmul_ok na nb la lb
  have h1 := nat_one ht
  obtain ⟨k, hl, hk, hkN⟩ := nat_len ht
  have e1 : (x * y).natAbs = x.natAbs * y.natAbs := Int.natAbs_mul x y
  rw [← e1] at ht hk
  by_cases hs : decide (x < 0) = decide (y < 0)
  · have hnn : ¬ x * y < 0 := by
      have : (x < 0) = (y < 0) := by simpa using hs
      by_cases hx : x < 0
      · have hy : y < 0 := this ▸ hx
        have := Int.mul_pos_of_neg_of_neg hx hy
        omega
      · have hy : ¬ y < 0 := this ▸ hx
        have := Int.mul_nonneg (show 0 ≤ x by omega) (show 0 ≤ y by omega)
        omega
    simp [hc, hs, h1, cells_one h1]
    exact ⟨t, by simp [hnn], ht⟩
  · have hs2 : (decide (x < 0) == decide (y < 0)) = false := by simpa using hs
    have hkz : decide (0 < k) = decide (x * y < 0) := by
      have hle : x * y ≤ 0 := by
        by_cases hx : x < 0
        · have hy : ¬ y < 0 := by simpa [hx] using hs
          exact Int.mul_nonpos_of_nonpos_of_nonneg (by omega) (by omega)
        · have hy : y < 0 := by simpa [hx] using hs
          exact Int.mul_nonpos_of_nonneg_of_nonpos (by omega) (by omega)
      rw [Bool.eq_iff_iff]
      simp only [decide_eq_true_eq, hk]
      omega
    simp [hc, hs2, hl, h1, cells_one h1, hkz]
    exact ⟨t, rfl, ht⟩

theorem rCmp_ok {N M : Nat} {x y : Int} {ta tb : Tree} (ha : RInt N x ta) (hb : RInt M y tb) (la : N ≤ 100000) (lb : M ≤ 100000) (σ : Store) :
    callL T 23 [.tr ta, .tr tb] σ = some (iv (sgnI x y), σ) := by
  obtain ⟨r, hc, s, rfl, hr⟩ := rSub_ok ha hb la lb
  obtain ⟨_, sa, rfl, _⟩ := rint_place ha
  obtain ⟨_, sb, rfl, _⟩ := rint_place hb
  suffices hh : ∃ t, (∀ σ, callL T 23 ([_, _].map .tr) σ = some (.tr t, σ)) ∧ (t = .sc (.int .i64 (sgnI x y))) by
    obtain ⟨t, h, rfl⟩ := hh
    exact h σ
  refine call_iso T23 rfl rfl ?_
  have h1 := nat_one hr
  obtain ⟨k, hl, hk, hkN⟩ := nat_len hr
  by_cases hz : x - y = 0
  · have hk0 : k = 0 := by
      rcases Nat.eq_zero_or_pos k with h | h
      · exact h
      · have := hk.1 h; omega
    have hsg : sgnI x y = 0 := by unfold sgnI; rw [if_neg (by omega), if_pos (by omega)]
    simp [hc, h1, opLoad, obCells, slice?, hl, hk0, hsg]
  · have hk0 : ¬ k = 0 := by
      intro h
      have := hk.2 (by omega)
      omega
    by_cases hn : x - y < 0
    · have hsg : sgnI x y = -1 := by unfold sgnI; rw [if_pos (by omega)]
      simp [hc, h1, opLoad, obCells, slice?, hl, hk0, k23_4, hn, hsg]
    · have hsg : sgnI x y = 1 := by unfold sgnI; rw [if_neg (by omega), if_neg (by omega)]
      simp [hc, h1, opLoad, obCells, slice?, hl, hk0, k23_4, hn, k23_7, hsg]
end Go.Proofs.Ytjacddclpcelmaa.AM.Bi
