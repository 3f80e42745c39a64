/- IntText: part 6. -/
import Derived.Test.YtjacddclpcelmaaBi5
set_option maxRecDepth 1000000
set_option linter.unusedVariables false
set_option linter.unusedSimpArgs false
namespace Go.Proofs.Ytjacddclpcelmaa.AM.Bi
open Go.Proofs

theorem num_place {N : Nat} {z : Int} {r : Tree} (h : IsNum N z r) : ∃ ng s, r = .agg [.sc (.bool ng), s] ∧ oneV (.tr s) = true := by
  obtain ⟨ng, l', hbig, _⟩ := h
  obtain ⟨s, rfl, is⟩ := hbig.ex
  exact ⟨ng, s, rfl, one_sl is⟩
theorem ival_not {x : Bool} {a : List Nat} : ival (!x) a = - ival x a := by
  unfold ival
  cases x <;> simp

theorem sub_ok {x y : Bool} {a b : List Nat} {ta tb : Tree} (ha : IsBig x a ta) (hb : IsBig y b tb) (la : a.length ≤ 100000) (lb : b.length ≤ 100000) :
    ∃ r, (∀ σ, callL T 16 [.tr ta, .tr tb] σ = some (.tr r, σ)) ∧ IsNum (max a.length b.length + 1) (ival x a - ival y b) r := by
  refine call_iso (ts := [ta, tb]) T16 rfl rfl ?_
  obtain ⟨sb, rfl, ib⟩ := hb.ex
  have hb' : IsBig (!y) b (.agg [.sc (.bool (!y)), sb]) := ⟨⟨_, rfl, ib⟩, hb.dg⟩
  obtain ⟨r, hc, hr⟩ := add_ok ha hb' la lb
  obtain ⟨sa, rfl, ia⟩ := ha.ex
  obtain ⟨ng, s, rfl, is⟩ := num_place hr
  simp [hc, is, one_sl ib, cells_one (one_sl ib)]
  rw [ival_not] at hr
  exact hr
theorem neg_ok {x : Bool} {a : List Nat} {ta : Tree} (ha : IsBig x a ta) (la : a.length ≤ 100000) :
    ∃ r, (∀ σ, callL T 20 [.tr ta] σ = some (.tr r, σ)) ∧ IsNum a.length (- ival x a) r := by
  refine call_iso (ts := [ta]) T20 rfl rfl ?_
  obtain ⟨sa, rfl, ia⟩ := ha.ex
  obtain ⟨r, hc, hr⟩ := made_ok (neg := !x) ia ha.dg (by omega)
  obtain ⟨ng, s, rfl, is⟩ := num_place hr
  simp [hc, is]
  rw [ival_not] at hr
  exact hr
theorem ival_neg_iff {x : Bool} {a : List Nat} : ival x a < 0 ↔ x = true ∧ 0 < val 4294967296 a := by
  unfold ival
  cases x <;> simp <;> omega
theorem trim_len_iff {B : Nat} (hB : 0 < B) {a : List Nat} : 0 < (trim a).length ↔ 0 < val B a := by
  rw [← val_trim B a]
  constructor
  · intro h
    have := can_ge hB (can_trim a) (List.length_pos_iff.1 h)
    have : 0 < B ^ ((trim a).length - 1) := Nat.pow_pos hB
    omega
  · intro h
    rw [List.length_pos_iff]
    intro h0
    rw [h0] at h
    simp [val] at h
theorem below_ok {x : Bool} {a : List Nat} {ta : Tree} (ha : IsBig x a ta) (la : a.length ≤ 100000) (σ : Store) :
    callL T 50 [.tr ta] σ = some (bv (decide (ival x a < 0)), σ) := by
  suffices hh : ∃ t, (∀ σ, callL T 50 ([ta].map .tr) σ = some (.tr t, σ)) ∧ (t = .sc (.bool (decide (ival x a < 0)))) by
    obtain ⟨t, h, rfl⟩ := hh
    exact h σ
  refine call_iso T50 rfl rfl ?_
  obtain ⟨sa, rfl, ia⟩ := ha.ex
  obtain ⟨t', hn, hv'⟩ := norm_tr ia (by omega)
  have hl : ∀ σ, opLen 1 (.tr t') σ = some (nv .i64 (trim a).length) := fun σ => isSl_len hv'
  have h2 := trim_len_iff (B := 4294967296) (by decide) (a := a)
  cases x with
  | false => simp [ival_neg_iff]
  | true =>
    simp [ival_neg_iff, hn, hl, ← h2]
def sgnI (x y : Int) : Int := if x < y then -1 else if x = y then 0 else 1
theorem cmp_ok {x y : Bool} {a b : List Nat} {ta tb : Tree} (ha : IsBig x a ta) (hb : IsBig y b tb) (la : a.length ≤ 100000) (lb : b.length ≤ 100000) (σ : Store) :
    callL T 22 [.tr ta, .tr tb] σ = some (iv (sgnI (ival x a) (ival y b)), σ) := by
  suffices hh : ∃ t, (∀ σ, callL T 22 ([ta, tb].map .tr) σ = some (.tr t, σ)) ∧ (t = .sc (.int .i64 (sgnI (ival x a) (ival y b)))) by
    obtain ⟨t, h, rfl⟩ := hh
    exact h σ
  refine call_iso T22 rfl rfl ?_
  have ba := below_ok ha la
  have bb := below_ok hb lb
  obtain ⟨sa, rfl, ia⟩ := ha.ex
  obtain ⟨sb, rfl, ib⟩ := hb.ex
  have o1 := order_ok ia ib ha.dg hb.dg la lb
  have o2 := order_ok ib ia hb.dg ha.dg lb la
  by_cases h1 : ival x a < 0
  · by_cases h2 : ival y b < 0
    · simp [ba, bb, h1, h2, o1, o2]
      rw [ival_neg_iff] at h1 h2
      simp only [ival, h1.1, h2.1, if_true]
      unfold sgn sgnI
      split <;> split <;> (try split) <;> (try split) <;> omega
    · simp [ba, bb, h1, h2, o1, o2]
      unfold sgnI
      rw [if_pos (by omega)]
  · by_cases h2 : ival y b < 0
    · simp [ba, bb, h1, h2, o1, o2]
      unfold sgnI
      rw [if_neg (by omega), if_neg (by omega)]
    · simp [ba, bb, h1, h2, o1, o2, k22_9]
      rw [ival_neg_iff] at h1 h2
      have e1 : ival x a = val 4294967296 a := by
        unfold ival; split
        · rename_i hx; have : ¬ 0 < val 4294967296 a := fun h => h1 ⟨hx, h⟩; omega
        · rfl
      have e2 : ival y b = val 4294967296 b := by
        unfold ival; split
        · rename_i hx; have : ¬ 0 < val 4294967296 b := fun h => h2 ⟨hx, h⟩; omega
        · rfl
      rw [e1, e2]
      unfold sgn sgnI
      split <;> split <;> (try split) <;> (try split) <;> omega

/-- How many binary digits. -/
def IsLen (n L : Nat) : Prop := n < 2 ^ L ∧ (L = 0 ∨ 2 ^ (L - 1) ≤ n)
theorem isLen_uniq {n L M : Nat} (h1 : IsLen n L) (h2 : IsLen n M) : L = M := by
  have key : ∀ {L M : Nat}, IsLen n L → IsLen n M → ¬ L < M := by
    intro L M h1 h2 hlt
    rcases h2.2 with h | h
    · omega
    · have := Nat.pow_le_pow_right (show 0 < 2 by decide) (show L ≤ M - 1 by omega)
      have := h1.1
      omega
  have a := key h1 h2
  have b := key h2 h1
  omega
theorem isLen_add {n L k : Nat} (h : IsLen (n / 2 ^ k) L) (hL : L ≠ 0) : IsLen n (L + k) := by
  obtain ⟨h1, h2⟩ := h
  have h3 := Nat.div_add_mod n (2 ^ k)
  have h4 := Nat.mod_lt n (show 0 < 2 ^ k from Nat.pow_pos (by decide))
  refine ⟨?_, .inr ?_⟩
  · rw [Nat.pow_add, Nat.mul_comm]
    have : 2 ^ k * (n / 2 ^ k + 1) ≤ 2 ^ k * 2 ^ L := Nat.mul_le_mul_left _ h1
    rw [Nat.mul_add] at this
    omega
  · rcases h2 with h | h
    · exact absurd h hL
    · rw [show L + k - 1 = (L - 1) + k by omega, Nat.pow_add, Nat.mul_comm]
      have : 2 ^ k * 2 ^ (L - 1) ≤ 2 ^ k * (n / 2 ^ k) := Nat.mul_le_mul_left _ h
      omega
def tabL : List Nat := [0, 1, 2, 2, 3, 3, 3, 3, 4, 4, 4, 4, 4, 4, 4, 4, 5, 5, 5, 5, 5, 5, 5, 5, 5, 5, 5, 5, 5, 5, 5, 5, 6, 6, 6, 6, 6, 6, 6, 6, 6, 6, 6, 6, 6, 6, 6, 6, 6, 6, 6, 6, 6, 6, 6, 6, 6, 6, 6, 6, 6, 6, 6, 6, 7, 7, 7, 7, 7, 7, 7, 7, 7, 7, 7, 7, 7, 7, 7, 7, 7, 7, 7, 7, 7, 7, 7, 7, 7, 7, 7, 7, 7, 7, 7, 7, 7, 7, 7, 7, 7, 7, 7, 7, 7, 7, 7, 7, 7, 7, 7, 7, 7, 7, 7, 7, 7, 7, 7, 7, 7, 7, 7, 7, 7, 7, 7, 7, 8, 8, 8, 8, 8, 8, 8, 8, 8, 8, 8, 8, 8, 8, 8, 8, 8, 8, 8, 8, 8, 8, 8, 8, 8, 8, 8, 8, 8, 8, 8, 8, 8, 8, 8, 8, 8, 8, 8, 8, 8, 8, 8, 8, 8, 8, 8, 8, 8, 8, 8, 8, 8, 8, 8, 8, 8, 8, 8, 8, 8, 8, 8, 8, 8, 8, 8, 8, 8, 8, 8, 8, 8, 8, 8, 8, 8, 8, 8, 8, 8, 8, 8, 8, 8, 8, 8, 8, 8, 8, 8, 8, 8, 8, 8, 8, 8, 8, 8, 8, 8, 8, 8, 8, 8, 8, 8, 8, 8, 8, 8, 8, 8, 8, 8, 8, 8, 8, 8, 8, 8, 8, 8, 8, 8, 8, 8, 8]
theorem tab_len : ∀ i, i < 256 → ∃ L, tabL[i]? = some L ∧ IsLen i L ∧ L ≤ 8 := by
  have key : ∀ i : Fin 256, (match tabL[i.val]? with | some L => decide (i.val < 2 ^ L) && (decide (L = 0) || decide (2 ^ (L - 1) ≤ i.val)) && decide (L ≤ 8) | none => false) = true := by decide +kernel
  intro i hi
  have := key ⟨i, hi⟩
  simp only at this
  split at this
  · rename_i L hL
    simp only [Bool.and_eq_true, Bool.or_eq_true, decide_eq_true_eq] at this
    exact ⟨L, hL, ⟨this.1.1, this.1.2⟩, this.2⟩
  · cases this
theorem tab_at {i L : Nat} (h : tabL[i]? = some L) (hL : L ≤ 8) : opIndexStr (.tr (.sc (.string ⟨⟨[0, 1, 2, 2, 3, 3, 3, 3, 4, 4, 4, 4, 4, 4, 4, 4, 5, 5, 5, 5, 5, 5, 5, 5, 5, 5, 5, 5, 5, 5, 5, 5, 6, 6, 6, 6, 6, 6, 6, 6, 6, 6, 6, 6, 6, 6, 6, 6, 6, 6, 6, 6, 6, 6, 6, 6, 6, 6, 6, 6, 6, 6, 6, 6, 7, 7, 7, 7, 7, 7, 7, 7, 7, 7, 7, 7, 7, 7, 7, 7, 7, 7, 7, 7, 7, 7, 7, 7, 7, 7, 7, 7, 7, 7, 7, 7, 7, 7, 7, 7, 7, 7, 7, 7, 7, 7, 7, 7, 7, 7, 7, 7, 7, 7, 7, 7, 7, 7, 7, 7, 7, 7, 7, 7, 7, 7, 7, 7, 8, 8, 8, 8, 8, 8, 8, 8, 8, 8, 8, 8, 8, 8, 8, 8, 8, 8, 8, 8, 8, 8, 8, 8, 8, 8, 8, 8, 8, 8, 8, 8, 8, 8, 8, 8, 8, 8, 8, 8, 8, 8, 8, 8, 8, 8, 8, 8, 8, 8, 8, 8, 8, 8, 8, 8, 8, 8, 8, 8, 8, 8, 8, 8, 8, 8, 8, 8, 8, 8, 8, 8, 8, 8, 8, 8, 8, 8, 8, 8, 8, 8, 8, 8, 8, 8, 8, 8, 8, 8, 8, 8, 8, 8, 8, 8, 8, 8, 8, 8, 8, 8, 8, 8, 8, 8, 8, 8, 8, 8, 8, 8, 8, 8, 8, 8, 8, 8, 8, 8, 8, 8, 8, 8, 8, 8, 8, 8]⟩⟩))) (.tr (.sc (.int .u8 (i : Int)))) = some (.tr (.sc (.int .u8 (L : Int)))) := by
  have key : ([0, 1, 2, 2, 3, 3, 3, 3, 4, 4, 4, 4, 4, 4, 4, 4, 5, 5, 5, 5, 5, 5, 5, 5, 5, 5, 5, 5, 5, 5, 5, 5, 6, 6, 6, 6, 6, 6, 6, 6, 6, 6, 6, 6, 6, 6, 6, 6, 6, 6, 6, 6, 6, 6, 6, 6, 6, 6, 6, 6, 6, 6, 6, 6, 7, 7, 7, 7, 7, 7, 7, 7, 7, 7, 7, 7, 7, 7, 7, 7, 7, 7, 7, 7, 7, 7, 7, 7, 7, 7, 7, 7, 7, 7, 7, 7, 7, 7, 7, 7, 7, 7, 7, 7, 7, 7, 7, 7, 7, 7, 7, 7, 7, 7, 7, 7, 7, 7, 7, 7, 7, 7, 7, 7, 7, 7, 7, 7, 8, 8, 8, 8, 8, 8, 8, 8, 8, 8, 8, 8, 8, 8, 8, 8, 8, 8, 8, 8, 8, 8, 8, 8, 8, 8, 8, 8, 8, 8, 8, 8, 8, 8, 8, 8, 8, 8, 8, 8, 8, 8, 8, 8, 8, 8, 8, 8, 8, 8, 8, 8, 8, 8, 8, 8, 8, 8, 8, 8, 8, 8, 8, 8, 8, 8, 8, 8, 8, 8, 8, 8, 8, 8, 8, 8, 8, 8, 8, 8, 8, 8, 8, 8, 8, 8, 8, 8, 8, 8, 8, 8, 8, 8, 8, 8, 8, 8, 8, 8, 8, 8, 8, 8, 8, 8, 8, 8, 8, 8, 8, 8, 8, 8, 8, 8, 8, 8, 8, 8, 8, 8, 8, 8, 8, 8, 8, 8] : List UInt8) = tabL.map UInt8.ofNat := by decide +kernel
  have h2 : (tabL.map UInt8.ofNat)[i]? = some (UInt8.ofNat L) := by simp [h]
  rw [← key] at h2
  rw [istr_at (b := UInt8.ofNat L) h2]
  congr 4
  rw [UInt8.toNat_ofNat']
  omega
theorem shr_u32 (n k : Nat) (hk : k ≤ 32) : opBin .other .shr (.tr (.sc (.int .u32 (n : Int)))) (.tr (.sc (.int .u64 (k : Int)))) = some (nv .u32 (n / 2 ^ k)) := by
  rw [bin_shr _ _ _ (by omega)]
  congr 4
  have h1 : min (k : Int).toNat IntKind.u32.bits = k := by
    show min (k : Int).toNat 32 = k
    rw [Int.toNat_natCast]
    exact Nat.min_eq_left hk
  rw [h1, Int.fdiv_eq_ediv_of_nonneg _ (Int.pow_nonneg (by decide))]
  simp
theorem len_tail {e L : List (Nat × V)} {y a n : Nat} (h0 : look e 0 = some (nv .u32 y)) (h2 : look e 2 = some (nv .i64 a)) (hy : y < 256) (ha : a ≤ 24) (k : Nat) (hk : a = k) (hn : y = n / 2 ^ k) (hp : k = 0 ∨ 0 < y) :
    wpc T k51_6 ⟨e, L, []⟩ (giv [.tmp 2] fun v σ => ∃ t, snap σ deepN v = some t ∧ ∃ M : Nat, M ≤ 32 ∧ IsLen n M ∧ t = .sc (.int .i64 (M : Int))) := by
  obtain ⟨M, hL, hi, h8⟩ := tab_len y hy
  have hc : IntKind.u8.wrap (y : Int) = y := IntWalk.u8_in _ (by omega)
  have hc2 : IntKind.i64.wrap (M : Int) = M := w64 (by omega) (by omega)
  have hf : IntKind.i64.wrap ((a : Int) + M) = ((a + M : Nat) : Int) := by rw [w64 (by omega) (by omega)]; omega
  simp [k51_6, h0, h2, hc, tab_at hL h8, hc2, hf, -Int.natCast_add]
  refine ⟨by omega, ?_⟩
  rw [hn] at hi
  rcases hp with h | h
  · subst hk
    subst h
    simpa using hi
  · rw [hk, Nat.add_comm]
    refine isLen_add hi ?_
    intro h0
    have := hi.1
    rw [h0] at this
    omega
theorem len32_ok {x : Nat} (hx : x < 4294967296) : ∃ L : Nat, L ≤ 32 ∧ IsLen x L ∧ ∀ σ, callL T 51 [nv .u32 x] σ = some (nv .i64 L, σ) := by
  suffices hh : ∃ t, (∀ σ, callL T 51 ([.sc (.int .u32 (x : Int))].map .tr) σ = some (.tr t, σ)) ∧ (∃ L : Nat, L ≤ 32 ∧ IsLen x L ∧ t = .sc (.int .i64 (L : Int))) by
    obtain ⟨t, h, L, h1, h2, rfl⟩ := hh
    exact ⟨L, h1, h2, h⟩
  refine call_iso T51 rfl rfl ?_
  have s16 : opBin .other .shr (nv .u32 x) (.tr (.sc (.int .u64 16))) = some (nv .u32 (x / 65536)) := shr_u32 x 16 (by omega)
  have s8 : ∀ y : Nat, opBin .other .shr (nv .u32 y) (.tr (.sc (.int .u64 8))) = some (nv .u32 (y / 256)) := fun y => shr_u32 y 8 (by omega)
  have w16 : IntKind.i64.wrap 24 = 24 := by decide
  have w0 : IntKind.i64.wrap 8 = 8 := by decide
  by_cases h1 : 65536 ≤ x
  · have h1' : (65536 : Int) ≤ x := by omega
    by_cases h2 : 256 ≤ x / 65536
    · have h2' : (256 : Int) ≤ ((x / 65536 : Nat) : Int) := by omega
      simp [h1', s16, k51_3, h2', s8, w16, -Int.natCast_ediv]
      exact len_tail (y := x / 65536 / 256) (a := 24) (by simp) (by simp) (by omega) (by omega) 24 rfl (by omega) (by omega)
    · have h2' : ¬ (256 : Int) ≤ ((x / 65536 : Nat) : Int) := by omega
      simp [h1', s16, k51_3, h2', -Int.natCast_ediv]
      exact len_tail (y := x / 65536) (a := 16) (by simp) (by simp) (by omega) (by omega) 16 rfl (by omega) (by omega)
  · have h1' : ¬ (65536 : Int) ≤ x := by omega
    by_cases h2 : 256 ≤ x
    · have h2' : (256 : Int) ≤ (x : Int) := by omega
      simp [h1', k51_3, h2', s8, w0, -Int.natCast_ediv]
      exact len_tail (y := x / 256) (a := 8) (by simp) (by simp) (by omega) (by omega) 8 rfl (by omega) (by omega)
    · have h2' : ¬ (256 : Int) ≤ (x : Int) := by omega
      simp [h1', k51_3, h2', -Int.natCast_ediv]
      exact len_tail (y := x) (a := 0) (by simp) (by simp) (by omega) (by omega) 0 rfl (by simp) (by omega)

theorem bits_ok {x : Bool} {a : List Nat} {ta : Tree} (ha : IsBig x a ta) (la : a.length ≤ 100000) :
    ∃ L : Nat, IsLen (val 4294967296 a) L ∧ ∀ σ, callL T 24 [.tr ta] σ = some (nv .i64 L, σ) := by
  suffices hh : ∃ t, (∀ σ, callL T 24 ([ta].map .tr) σ = some (.tr t, σ)) ∧ (∃ L : Nat, IsLen (val 4294967296 a) L ∧ t = .sc (.int .i64 (L : Int))) by
    obtain ⟨t, h, L, h1, rfl⟩ := hh
    exact ⟨L, h1, h⟩
  refine call_iso T24 rfl rfl ?_
  obtain ⟨sa, rfl, ia⟩ := ha.ex
  obtain ⟨t', hn, hv'⟩ := norm_tr ia (by omega)
  have hle := trim_le a
  have dt := dig_trim ha.dg
  have ct := can_trim a
  rw [← val_trim _ a]
  generalize trim a = a' at *
  have hl : ∀ σ, opLen 1 (.tr t') σ = some (nv .i64 a'.length) := fun σ => isSl_len hv'
  by_cases h0 : a' = []
  · subst h0
    simp [hn, hl]
    exact ⟨0, ⟨by simp [val], .inl rfl⟩, rfl⟩
  · obtain ⟨n, hlen⟩ : ∃ n, a'.length = n + 1 := ⟨a'.length - 1, by have := List.length_pos_iff.2 h0; omega⟩
    have hx : a'[n]? = some a'[n] := List.getElem?_eq_getElem (by omega)
    have hxd : a'[n] < 4294967296 := dig_at dt (by omega)
    obtain ⟨M, h1, h2, hc⟩ := len32_ok hxd
    have w1 : IntKind.i64.wrap ((((n + 1 : Nat)) : Int) - 1) = n := by rw [w64 (by omega) (by omega)]; omega
    have w2 : IntKind.i64.wrap (32 * (n : Int)) = ((32 * n : Nat) : Int) := by rw [w64 (by omega) (by omega)]; omega
    have w3 : IntKind.i64.wrap (((32 * n : Nat) : Int) + M) = ((32 * n + M : Nat) : Int) := by rw [w64 (by omega) (by omega)]; omega
    have hne : ¬ ((n + 1 : Nat) : Int) = 0 := by omega
    simp [hn, hl, hlen, hne, k24_4, w1, w2, sl_iaddr hv' hx, sl_load hx, hc, w3, -Int.natCast_add, -Int.natCast_mul]
    have hd : a'.drop n = [a'[n]] := by rw [List.drop_eq_getElem_cons (by omega), List.drop_of_length_le (by omega)]
    have hv := val_take_drop 4294967296 n a' (by omega)
    have hlt := val_lt (dig_take (n := n) dt)
    rw [List.length_take, Nat.min_eq_left (by omega)] at hlt
    rw [hd] at hv
    simp only [val, Nat.mul_zero, Nat.add_zero] at hv
    have hpw : (4294967296 : Nat) ^ n = 2 ^ (32 * n) := by rw [Nat.pow_mul]
    have hdiv : val 4294967296 a' / 2 ^ (32 * n) = a'[n] := by
      rw [hv, ← hpw, Nat.add_mul_div_left _ _ (Nat.pow_pos (by decide)), Nat.div_eq_of_lt hlt, Nat.zero_add]
    have hnz : a'[n] ≠ 0 := by
      intro h
      apply ct
      rw [List.getLast?_eq_getElem?, hlen]
      simp [hx, h]
    rw [Nat.add_comm]
    refine isLen_add (by rw [hdiv]; exact h2) ?_
    intro hM
    have := h2.1
    rw [hM] at this
    omega
end Go.Proofs.Ytjacddclpcelmaa.AM.Bi
