/- IntRing: part 6. -/
import Derived.Test.YtjacddclpcelmaaBr5
set_option maxRecDepth 1000000
set_option linter.unusedVariables false
set_option linter.unusedSimpArgs false
namespace Go.Proofs.Ytjacddclpcelmaa.AM.Br
open Go.Proofs

theorem num_place {N : Nat} {z : Int} {r : Tree} (h : IsNum N z r) : ∃ ng s, r = .agg [.sc (.bool ng), s] ∧ oneV (.tr s) = true := by
  obtain ⟨ng, l', hbig, _⟩ := h
  obtain ⟨s, rfl, is⟩ := hbig.ex
  exact ⟨ng, s, rfl, one_sl is⟩
theorem ival_not {x : Bool} {a : List Nat} : ival (!x) a = - ival x a := by
  unfold ival
  cases x <;> simp

theorem sub_ok {x y : Bool} {a b : List Nat} {ta tb : Tree} (ha : IsBig x a ta) (hb : IsBig y b tb) (la : a.length ≤ 100000) (lb : b.length ≤ 100000) :
    ∃ r, (∀ σ, callL T 16 [.tr ta, .tr tb] σ = some (.tr r, σ)) ∧ IsNum (max a.length b.length + 1) (ival x a - ival y b) r := by
  refine call_iso (ts := [ta, tb]) T16 rfl rfl ?_
  obtain ⟨sb, rfl, ib⟩ := hb.ex
  have hb' : IsBig (!y) b (.agg [.sc (.bool (!y)), sb]) := ⟨⟨_, rfl, ib⟩, hb.dg⟩
  obtain ⟨r, hc, hr⟩ := add_ok ha hb' la lb
  obtain ⟨sa, rfl, ia⟩ := ha.ex
  obtain ⟨ng, s, rfl, is⟩ := num_place hr
  simp [hc, is, one_sl ib, cells_one (one_sl ib)]
  rw [ival_not] at hr
  exact hr
theorem ival_neg_iff {x : Bool} {a : List Nat} : ival x a < 0 ↔ x = true ∧ 0 < val 4294967296 a := by
  unfold ival
  cases x <;> simp <;> omega
theorem trim_len_iff {B : Nat} (hB : 0 < B) {a : List Nat} : 0 < (trim a).length ↔ 0 < val B a := by
  rw [← val_trim B a]
  constructor
  · intro h
    have := can_ge hB (can_trim a) (List.length_pos_iff.1 h)
    have : 0 < B ^ ((trim a).length - 1) := Nat.pow_pos hB
    omega
  · intro h
    rw [List.length_pos_iff]
    intro h0
    rw [h0] at h
    simp [val] at h
theorem below_ok {x : Bool} {a : List Nat} {ta : Tree} (ha : IsBig x a ta) (la : a.length ≤ 100000) (σ : Store) :
    callL T 50 [.tr ta] σ = some (bv (decide (ival x a < 0)), σ) := by
  suffices hh : ∃ t, (∀ σ, callL T 50 ([ta].map .tr) σ = some (.tr t, σ)) ∧ (t = .sc (.bool (decide (ival x a < 0)))) by
    obtain ⟨t, h, rfl⟩ := hh
    exact h σ
  refine call_iso T50 rfl rfl ?_
  obtain ⟨sa, rfl, ia⟩ := ha.ex
  obtain ⟨t', hn, hv'⟩ := norm_tr ia (by omega)
  have hl : ∀ σ, opLen 1 (.tr t') σ = some (nv .i64 (trim a).length) := fun σ => isSl_len hv'
  have h2 := trim_len_iff (B := 4294967296) (by decide) (a := a)
  cases x with
  | false => simp [ival_neg_iff]
  | true =>
    simp [ival_neg_iff, hn, hl, ← h2]
def sgnI (x y : Int) : Int := if x < y then -1 else if x = y then 0 else 1
theorem cmp_ok {x y : Bool} {a b : List Nat} {ta tb : Tree} (ha : IsBig x a ta) (hb : IsBig y b tb) (la : a.length ≤ 100000) (lb : b.length ≤ 100000) (σ : Store) :
    callL T 22 [.tr ta, .tr tb] σ = some (iv (sgnI (ival x a) (ival y b)), σ) := by
  suffices hh : ∃ t, (∀ σ, callL T 22 ([ta, tb].map .tr) σ = some (.tr t, σ)) ∧ (t = .sc (.int .i64 (sgnI (ival x a) (ival y b)))) by
    obtain ⟨t, h, rfl⟩ := hh
    exact h σ
  refine call_iso T22 rfl rfl ?_
  have ba := below_ok ha la
  have bb := below_ok hb lb
  obtain ⟨sa, rfl, ia⟩ := ha.ex
  obtain ⟨sb, rfl, ib⟩ := hb.ex
  have o1 := order_ok ia ib ha.dg hb.dg la lb
  have o2 := order_ok ib ia hb.dg ha.dg lb la
  by_cases h1 : ival x a < 0
  · by_cases h2 : ival y b < 0
    · simp [ba, bb, h1, h2, o1, o2]
      rw [ival_neg_iff] at h1 h2
      simp only [ival, h1.1, h2.1, if_true]
      unfold sgn sgnI
      split <;> split <;> (try split) <;> (try split) <;> omega
    · simp [ba, bb, h1, h2, o1, o2]
      unfold sgnI
      rw [if_pos (by omega)]
  · by_cases h2 : ival y b < 0
    · simp [ba, bb, h1, h2, o1, o2]
      unfold sgnI
      rw [if_neg (by omega), if_neg (by omega)]
    · simp [ba, bb, h1, h2, o1, o2, k22_9]
      rw [ival_neg_iff] at h1 h2
      have e1 : ival x a = val 4294967296 a := by
        unfold ival; split
        · rename_i hx; have : ¬ 0 < val 4294967296 a := fun h => h1 ⟨hx, h⟩; omega
        · rfl
      have e2 : ival y b = val 4294967296 b := by
        unfold ival; split
        · rename_i hx; have : ¬ 0 < val 4294967296 b := fun h => h2 ⟨hx, h⟩; omega
        · rfl
      rw [e1, e2]
      unfold sgn sgnI
      split <;> split <;> (try split) <;> (try split) <;> omega

end Go.Proofs.Ytjacddclpcelmaa.AM.Br
