/- IntText: part 42. -/
import Derived.Test.YtjacddclpcelmaaBi41
import Derived.Test.YtjacddclpcelmaaBi25
set_option maxRecDepth 1000000
set_option linter.unusedVariables false
set_option linter.unusedSimpArgs false
namespace Go.Proofs.Ytjacddclpcelmaa.AM.Bi
open Go.Proofs

theorem and_u32 (a b : Nat) (ha : a < 4294967296) (hb : b < 4294967296) : opBin .other .and (nv .u32 a) (nv .u32 b) = some (nv .u32 (a &&& b)) := by
  simp only [opBin, isNil, notNil, binSc, binInt]
  have h1 : (BitVec.ofInt IntKind.u32.bits (a : Int) &&& BitVec.ofInt IntKind.u32.bits (b : Int)).toNat = a &&& b := by
    show (BitVec.ofInt 32 (a : Int) &&& BitVec.ofInt 32 (b : Int)).toNat = a &&& b
    rw [BitVec.toNat_and, BitVec.ofInt_natCast, BitVec.ofInt_natCast, BitVec.toNat_ofNat, BitVec.toNat_ofNat, Nat.mod_eq_of_lt ha, Nat.mod_eq_of_lt hb]
  have h2 : a &&& b < 2 ^ 32 := Nat.and_lt_two_pow _ hb
  simp only [h1, if_true, wu32 (show 0 ≤ ((a &&& b : Nat) : Int) by omega) (by omega)]
  rfl
theorem xor_u32 (a b : Nat) (ha : a < 4294967296) (hb : b < 4294967296) : opBin .other .xor (nv .u32 a) (nv .u32 b) = some (nv .u32 (a ^^^ b)) := by
  simp only [opBin, isNil, notNil, binSc, binInt]
  have h1 : (BitVec.ofInt IntKind.u32.bits (a : Int) ^^^ BitVec.ofInt IntKind.u32.bits (b : Int)).toNat = a ^^^ b := by
    show (BitVec.ofInt 32 (a : Int) ^^^ BitVec.ofInt 32 (b : Int)).toNat = a ^^^ b
    rw [BitVec.toNat_xor, BitVec.ofInt_natCast, BitVec.ofInt_natCast, BitVec.toNat_ofNat, BitVec.toNat_ofNat, Nat.mod_eq_of_lt ha, Nat.mod_eq_of_lt hb]
  have h2 : a ^^^ b < 2 ^ 32 := Nat.xor_lt_two_pow ha hb
  simp only [h1, if_true, wu32 (show 0 ≤ ((a ^^^ b : Nat) : Int) by omega) (by omega)]
  rfl
theorem andNot_bv (x y : BitVec 32) : x &&& ~~~y = x ^^^ (x &&& y) := by
  ext i
  simp
  cases x[i] <;> cases y[i] <;> rfl
theorem andNot_u32 (a b : Nat) (ha : a < 4294967296) (hb : b < 4294967296) : opBin .other .andNot (nv .u32 a) (nv .u32 b) = some (nv .u32 (a ^^^ (a &&& b))) := by
  simp only [opBin, isNil, notNil, binSc, binInt]
  have h1 : (BitVec.ofInt IntKind.u32.bits (a : Int) &&& ~~~BitVec.ofInt IntKind.u32.bits (b : Int)).toNat = a ^^^ (a &&& b) := by
    show (BitVec.ofInt 32 (a : Int) &&& ~~~BitVec.ofInt 32 (b : Int)).toNat = a ^^^ (a &&& b)
    rw [andNot_bv, BitVec.toNat_xor, BitVec.toNat_and, BitVec.ofInt_natCast, BitVec.ofInt_natCast, BitVec.toNat_ofNat, BitVec.toNat_ofNat, Nat.mod_eq_of_lt ha, Nat.mod_eq_of_lt hb]
  have h3 : a &&& b < 2 ^ 32 := Nat.and_lt_two_pow _ hb
  have h2 : a ^^^ (a &&& b) < 2 ^ 32 := Nat.xor_lt_two_pow ha h3
  simp only [h1, if_true, wu32 (show 0 ≤ ((a ^^^ (a &&& b) : Nat) : Int) by omega) (by omega)]
  rfl
theorem not_u32 (a : Nat) (ha : a < 4294967296) : opUn .xor (nv .u32 a) = some (nv .u32 (4294967295 - a)) := by
  simp only [opUn, binInt]
  have h1 : (BitVec.ofInt IntKind.u32.bits IntKind.u32.max ^^^ BitVec.ofInt IntKind.u32.bits (a : Int)).toNat = 4294967295 - a := by
    show (BitVec.ofInt 32 4294967295 ^^^ BitVec.ofInt 32 (a : Int)).toNat = _
    have e : BitVec.ofInt 32 4294967295 = BitVec.allOnes 32 := by decide
    rw [e, BitVec.allOnes_xor, BitVec.toNat_not, BitVec.ofInt_natCast, BitVec.toNat_ofNat, Nat.mod_eq_of_lt ha]
  have hs : IntKind.u32.signed = false := rfl
  simp only [hs, Bool.false_eq_true, if_false]
  simp only [h1, Option.map_some, wu32 (show 0 ≤ ((4294967295 - a : Nat) : Int) by omega) (by omega)]

theorem shr_u64_32 (n : Nat) : opBin .other .shr (nv .u64 n) (.tr (.sc (.int .u64 32))) = some (nv .u64 (n / 4294967296)) := by
  rw [bin_shr _ _ _ (by omega)]
  congr 4
  have h1 : min (32 : Int).toNat IntKind.u64.bits = 32 := rfl
  rw [h1, Int.fdiv_eq_ediv_of_nonneg _ (by decide)]
  rfl
theorem neg_step {B i c c' o x V W : Nat} (h : W + B ^ i * c + V = B ^ i) (hx : o + B * c' = c + (B - 1 - x)) (hb : x < B) : (W + B ^ i * o) + B ^ (i + 1) * c' + (V + B ^ i * x) = B ^ (i + 1) := by
  have e1 : B ^ i * (o + B * c') = B ^ i * o + B ^ (i + 1) * c' := by rw [Nat.mul_add, Nat.pow_succ, Nat.mul_assoc]
  have e2 : B ^ i * (c + (B - 1 - x)) + B ^ i * x + B ^ i = B ^ i * c + B ^ (i + 1) := by
    rw [Nat.pow_succ, ← Nat.mul_add, ← Nat.mul_succ, ← Nat.mul_add]
    congr 1
    omega
  rw [hx] at e1
  omega

/-- The complement, and one more. -/
theorem digits_neg {l : List Nat} {n id : Nat} {σ : Store} {e L : List (Nat × V)} (hd : dig 4294967296 l) (hl : l.length = n) (hn : n ≤ 100000) (hs : σ[id]? = some (.row (cK .u32 l) 0)) (h5 : look e 5 = some (.own id 0 0 n 1 (some n))) (hv : 0 < val 4294967296 l) :
    wpc T k57_5 ⟨e, L, σ⟩ (giv [.tmp 4] fun v σ' => ∃ W, v = .own id 0 0 n 1 (some n) ∧ σ' = σ.set id (.row (cK .u32 W) 0) ∧ dig 4294967296 W ∧ W.length = n ∧ val 4294967296 W + val 4294967296 l = 4294967296 ^ n) := by
  have hln : ∀ σ, opLen 1 (.own id 0 0 n 1 (some n)) σ = some (nv .i64 n) := fun σ => own_len
  simp [k57_5, h5, hln]
  obtain ⟨I, hI⟩ : ∃ I : Nat → St → Prop, I = (fun i s => i ≤ n ∧ ∃ e L W c, s = ⟨e, L, σ.set id (.row (cK .u32 W) 0)⟩ ∧ look e 5 = some (.own id 0 0 n 1 (some n)) ∧ look e 6 = some (nv .u64 c) ∧ look e 20 = some (.own id 0 0 n 1 (some n)) ∧ look e 21 = some (nv .i64 n) ∧ look e 22 = some (nv .i64 i)
    ∧ c ≤ 1 ∧ dig 4294967296 W ∧ W.length = n ∧ W.drop i = l.drop i ∧ val 4294967296 (W.take i) + 4294967296 ^ i * c + val 4294967296 (l.take i) = 4294967296 ^ i) := ⟨_, rfl⟩
  refine wpc_up n I ?_ ?_
  · rw [hI]
    exact ⟨Nat.zero_le _, _, _, l, 1, by rw [set_id hs], by simp [h5], by simp, by simp, by simp, by simp, by omega, hd, hl, rfl, by simp [val]⟩
  intro i s hIs
  rw [hI] at hIs
  obtain ⟨hi, e, L, W, c, rfl, h5, h6, h20, h21, h22, hc, dW, hWl, hdr, hvi⟩ := hIs
  have hs' : (σ.set id (.row (cK .u32 W) 0))[id]? = some (.row (cK .u32 W) 0) := set_same hs
  by_cases hlt : i < n
  · have hxl : l[i]? = some l[i] := List.getElem?_eq_getElem (by omega)
    have ax : l[i] < 4294967296 := dig_at hd (by omega)
    obtain ⟨x, hx⟩ : ∃ x, x = l[i] := ⟨_, rfl⟩
    rw [← hx] at hxl ax
    have hxW : W[i]? = some x := by
      have h1 : (W.drop i)[0]? = (l.drop i)[0]? := by rw [hdr]
      rw [List.getElem?_drop, List.getElem?_drop, Nat.add_zero] at h1
      rw [h1]; exact hxl
    obtain ⟨s, hs3⟩ : ∃ s, s = c + (4294967295 - x) := ⟨_, rfl⟩
    have hnot := not_u32 x ax
    obtain ⟨y, hy⟩ : ∃ y, y = 4294967295 - x := ⟨_, rfl⟩
    rw [← hy] at hnot hs3
    have w1 : IntKind.u64.wrap (y : Int) = y := wu64 (by omega) (by omega)
    have w2 : IntKind.u64.wrap ((c : Int) + y) = s := by rw [wu64 (by omega) (by omega)]; omega
    have w3 : IntKind.u32.wrap (s : Int) = ((s % 4294967296 : Nat) : Int) := by rw [wu32m]; omega
    have w5 : IntKind.i64.wrap ((i : Int) + 1) = ((i + 1 : Nat) : Int) := w64 (by omega) (by omega)
    have hsh : opBin .other .shr (nv .u64 s) (.tr (.sc (.int .u64 32))) = some (nv .u64 (s / 4294967296)) := shr_u64_32 s
    have hia : opIaddr 1 (.own id 0 0 n 1 (some n)) (nv .i64 i) (σ.set id (.row (cK .u32 W) 0)) = some (.ptr id 0 (0 + i)) := own_iaddr hs' hlt
    rw [Nat.zero_add] at hia
    have hld : opLoad 1 false (.ptr id 0 i) (σ.set id (.row (cK .u32 W) 0)) = some (nv .u32 x) := own_load hs' hxW
    have hst : ∀ y : Nat, opStore 1 (.ptr id 0 i) (nv .u32 y) (σ.set id (.row (cK .u32 W) 0)) = some (σ.set id (.row (cK .u32 (W.set i y)) 0)) := fun y => by
      rw [own_store hs' (by omega), List.set_set]
    have goal := neg_step (B := 4294967296) (c' := s / 4294967296) (o := s % 4294967296) (x := x) hvi (by omega) ax
    clear hvi
    simp [k57_8, h22, h21, hlt, k57_10, h20, hia, hld, h6, hnot, w1, w2, h5, w3, hst, hsh, w5, -Int.natCast_add, -Int.natCast_ediv, -Int.natCast_emod]
    rw [hI]
    refine ⟨by omega, _, _, _, s / 4294967296, rfl, by simp [h5], by simp, by simp [h20], by simp [h21], by simp, by omega, dig_set_mod (by decide) dW, by simpa using hWl, ?_, ?_⟩
    · rw [List.drop_set_of_lt (by omega)]
      have := congrArg (List.drop 1) hdr
      rwa [List.drop_drop, List.drop_drop] at this
    · rw [val_take_set (by omega), val_take_succ (show i < l.length by omega), ← hx]
      exact goal
  · have hie : i = n := by omega
    subst hie
    rw [List.take_of_length_le (show W.length ≤ i by omega), List.take_of_length_le (show l.length ≤ i by omega)] at hvi
    have hc0 : c = 0 := by
      rcases (show c = 0 ∨ c = 1 by omega) with h | h
      · exact h
      · subst h; omega
    subst hc0
    simp [k57_8, h22, h21, k57_13, h5]
    exact ⟨W, rfl, dW, hWl, by omega⟩
end Go.Proofs.Ytjacddclpcelmaa.AM.Bi
