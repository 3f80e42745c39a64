/- IntText: part 67. -/
import Derived.Test.YtjacddclpcelmaaBi66
import Derived.Test.YtjacddclpcelmaaBi43
set_option maxRecDepth 1000000
set_option linter.unusedVariables false
set_option linter.unusedSimpArgs false
namespace Go.Proofs.Ytjacddclpcelmaa.AM.Bi
open Go.Proofs

/-- A number in 64 bits, if it fits. -/
def I64R (z : Int) (t : Tree) : Prop := t = if -9223372036854775808 ≤ z ∧ z ≤ 9223372036854775807 then .tup [.sc (.int .i64 z), .sc (.bool true)] else .tup [.sc (.int .i64 0), .sc (.bool false)]

theorem int64_end {x : Bool} {sa : Tree} {u : Nat} {e L : List (Nat × V)} {σ : Store} (hu : u < 18446744073709551616) (h1 : look e 1 = some (.tr (.rptr [.sc (.bool x), sa] 0))) (h5 : look e 5 = some (nv .u64 u)) :
    wpc T k36_10 ⟨e, L, σ⟩ (giv [.tmp 2, .tmp 3] fun v σ' => ∃ t, v = .tr t ∧ I64R (sg x u) t) := by
  have l1 : opLoad 1 false (.tr (.rptr [.sc (.bool x), sa] 0)) σ = some (bv x) := rfl
  cases x with
  | true =>
    have hs : sg true u = -(u : Int) := rfl
    by_cases hle : u ≤ 9223372036854775808
    · have hle' : (u : Int) ≤ 9223372036854775808 := by omega
      obtain ⟨y, hy⟩ : ∃ y : Nat, IntKind.u64.wrap (0 - (u : Int)) = y := ⟨((0 - (u : Int)) % 18446744073709551616).toNat, by rw [wu64m]; omega⟩
      have hun : opUn .neg (nv .u64 u) = some (nv .u64 y) := by
        show some (V.tr (Tree.sc (Value.int .u64 (IntKind.u64.wrap (0 - (u : Int)))))) = _
        rw [hy]
      have hw : IntKind.i64.wrap (y : Int) = -(u : Int) := by rw [← hy, wu64m, IntKind.wrap_i64]; omega
      simp [k36_10, h1, l1, h5, hle', hun, hw, mkTup]
      unfold I64R
      rw [hs, if_pos ⟨by omega, by omega⟩]
    · have hle' : ¬ (u : Int) ≤ 9223372036854775808 := by omega
      simp [k36_10, h1, l1, h5, hle', k36_16, mkTup]
      unfold I64R
      rw [hs, if_neg (by omega)]
  | false =>
    have hs : sg false u = (u : Int) := rfl
    by_cases hle : u < 9223372036854775808
    · have hle' : (u : Int) < 9223372036854775808 := by omega
      have hw : IntKind.i64.wrap (u : Int) = (u : Int) := w64 (by omega) (by omega)
      simp [k36_10, h1, l1, h5, hle', hw, mkTup]
      unfold I64R
      rw [hs, if_pos ⟨by omega, by omega⟩]
    · have hle' : ¬ (u : Int) < 9223372036854775808 := by omega
      simp [k36_10, h1, l1, h5, hle', k36_16, mkTup]
      unfold I64R
      rw [hs, if_neg (by omega)]

theorem int64_ok {x : Bool} {a : List Nat} {ta : Tree} (ha : IsBig x a ta) (la : a.length ≤ 10000) : ∃ t, (∀ σ, callL T 36 [.tr ta] σ = some (.tr t, σ)) ∧ I64R (ival x a) t := by
  refine call_iso (ts := [ta]) T36 rfl rfl ?_
  have dg := ha.dg
  obtain ⟨sa, rfl, ia⟩ := ha.ex
  obtain ⟨t', hnr, it⟩ := norm_tr ia (by omega)
  have ez : ival x a = sg x (val 4294967296 (trim a)) := by rw [val_trim]; rfl
  rw [ez]
  have dl := dig_trim dg
  have cl := can_trim a
  have ll := trim_le a
  generalize trim a = l at *
  have hln : ∀ σ, opLen 1 (.tr t') σ = some (nv .i64 l.length) := fun σ => isSl_len it
  by_cases h2 : 2 < l.length
  · have h2' : (2 : Int) < l.length := by omega
    have hbig : 18446744073709551616 ≤ val 4294967296 l := by
      have h3 := can_ge (B := 4294967296) (by decide) cl (by intro h; rw [h] at h2; simp at h2)
      have h4 : 4294967296 ^ 2 ≤ 4294967296 ^ (l.length - 1) := Nat.pow_le_pow_right (by decide) (by omega)
      omega
    simp [hnr, hln, h2, h2', mkTup]
    unfold I64R
    rw [if_neg]
    unfold sg
    cases x <;> simp <;> omega
  · have h2' : ¬ (2 : Int) < l.length := by omega
    have hlt : val 4294967296 l < 18446744073709551616 := by
      have h3 := val_lt dl
      have h4 : 4294967296 ^ l.length ≤ 4294967296 ^ 2 := Nat.pow_le_pow_right (by decide) (by omega)
      omega
    simp [hnr, hln, h2, h2', k36_4]
    obtain ⟨I, hI⟩ : ∃ I : Nat → St → Prop, I = (fun i s => i ≤ l.length ∧ ∃ e L, s = ⟨e, L, []⟩ ∧ look e 1 = some (.tr (.rptr [.sc (.bool x), sa] 0)) ∧ look e 5 = some (nv .u64 (val 4294967296 (l.take i))) ∧ look e 14 = some (.tr t') ∧ look e 15 = some (nv .i64 l.length) ∧ look e 16 = some (nv .i64 i)) := ⟨_, rfl⟩
    refine wpc_up l.length I ?_ ?_
    · rw [hI]
      exact ⟨Nat.zero_le _, _, _, rfl, by simp, by simp [val], by simp, by simp, by simp⟩
    intro i s hIs
    rw [hI] at hIs
    obtain ⟨hi, e, L, rfl, h1, h5, h14, h15, h16⟩ := hIs
    by_cases hil : i < l.length
    · have hx : l[i]? = some l[i] := List.getElem?_eq_getElem hil
      have bx : l[i] < 4294967296 := dig_at dl hil
      have hts := val_take_succ (B := 4294967296) hil
      obtain ⟨y, hy⟩ : ∃ y, y = l[i] := ⟨_, rfl⟩
      rw [← hy] at hx bx hts
      have hv1 := val_lt (dig_take (n := i) dl)
      rw [List.length_take, Nat.min_eq_left hi] at hv1
      obtain ⟨q, hq⟩ : ∃ q, q = 4294967296 ^ i * y := ⟨_, rfl⟩
      have hqb : q < 18446744073709551616 := by
        rw [hq]
        rcases (show i = 0 ∨ i = 1 by omega) with rfl | rfl <;> omega
      have w1 : IntKind.u64.wrap (y : Int) = y := wu64 (by omega) (by omega)
      have w2 : IntKind.i64.wrap (32 * (i : Int)) = ((32 * i : Nat) : Int) := by rw [w64 (by omega) (by omega)]; omega
      have w5 : IntKind.i64.wrap ((i : Int) + 1) = ((i + 1 : Nat) : Int) := w64 (by omega) (by omega)
      have hsh : opBin .other .shl (nv .u64 y) (nv .i64 (32 * i)) = some (nv .u64 q) := by
        rw [bin_shl _ _ _ (by omega)]
        congr 4
        have e1 : min ((32 * i : Nat) : Int).toNat IntKind.u64.bits = 32 * i := by
          show min ((32 * i : Nat) : Int).toNat 64 = 32 * i
          rw [Int.toNat_natCast]
          exact Nat.min_eq_left (by omega)
        rw [e1]
        have e2 : (y : Int) * 2 ^ (32 * i) = (q : Int) := by
          rw [hq, pow32]; simp [Int.mul_comm]
        rw [e2, wu64 (by omega) (by omega)]
      obtain ⟨v, hv⟩ : ∃ v, v = val 4294967296 (l.take i) := ⟨_, rfl⟩
      rw [← hv] at hv1 hts h5
      have hvb : v < 18446744073709551616 := by
        rcases (show i = 0 ∨ i = 1 by omega) with rfl | rfl <;> omega
      have hor : opBin .other .or (nv .u64 v) (nv .u64 q) = some (nv .u64 (val 4294967296 (l.take (i + 1)))) := by
        rw [or_u64 _ _ hvb hqb, hts, ← hq, Nat.or_comm]
        have := or_add (32 * i) y v (by rw [← pow32]; exact hv1)
        rw [← pow32, ← hq] at this
        rw [this, Nat.add_comm]
      simp [k36_7, h16, h15, hil, k36_9, h14, sl_iaddr it hx, sl_load hx, h5, w1, w2, hsh, hor, w5, -Int.natCast_add, -Int.natCast_mul]
      rw [hI]
      exact ⟨by omega, _, _, rfl, by simp [h1], by simp, by simp [h14], by simp [h15], by simp⟩
    · have hie : i = l.length := by omega
      subst hie
      rw [List.take_of_length_le (Nat.le_refl _)] at h5
      simp [k36_7, h16, h15]
      refine wpc_mono _ _ _ _ (giv_mono ?_) (int64_end (x := x) (sa := sa) hlt (by simp [h1]) (by simp [h5]))
      rintro v σ ⟨t, rfl, h⟩
      exact ⟨t, by simp, h⟩
end Go.Proofs.Ytjacddclpcelmaa.AM.Bi
