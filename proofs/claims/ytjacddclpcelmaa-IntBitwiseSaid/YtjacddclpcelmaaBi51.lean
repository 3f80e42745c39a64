/- IntBitwise: part 51. -/
import Derived.Test.YtjacddclpcelmaaBi47
set_option maxRecDepth 1000000
set_option linter.unusedVariables false
set_option linter.unusedSimpArgs false
namespace Go.Proofs.Ytjacddclpcelmaa.AM.Bi
open Go.Proofs

theorem shl_i64 (a k : Nat) (hk : k ≤ 64) (hb : a * 2 ^ k < 9223372036854775808) : opBin .other .shl (nv .i64 a) (nv .i64 k) = some (nv .i64 (a * 2 ^ k)) := by
  rw [bin_shl _ _ _ (by omega)]
  congr 4
  have h1 : min (k : Int).toNat IntKind.i64.bits = k := by
    show min (k : Int).toNat 64 = k
    rw [Int.toNat_natCast]
    exact Nat.min_eq_left hk
  have h2 : (a : Int) * 2 ^ k = ((a * 2 ^ k : Nat) : Int) := by simp
  rw [h1, h2, w64 (by omega) (by omega)]
theorem pow_parts (n : Nat) : (65536 : Nat) ^ (n / 16) * 2 ^ (n % 16) = 2 ^ n := by
  have h : (65536 : Nat) = 2 ^ 16 := rfl
  rw [h, ← Nat.pow_mul, ← Nat.pow_add, Nat.div_add_mod]
theorem bit16 (n : Nat) : 2 ^ (n % 16) < 65536 := by
  have h : n % 16 < 16 := Nat.mod_lt _ (by decide)
  have h2 : (2 : Nat) ^ (n % 16) < 2 ^ 16 := Nat.pow_lt_pow_right (by decide) h
  exact h2
theorem zeros_set (q z : Nat) : (List.replicate (q + 1) 0).set q z = List.replicate q 0 ++ [z] := by
  rw [List.replicate_succ', List.set_append_right _ _ (by simp)]
  simp

/-- A power of two. -/
theorem power2_ok (n : Nat) (hn : n ≤ 100000) : ∃ r, (∀ σ, callL T 59 [nv .i64 n] σ = some (.tr r, σ)) ∧ RInt (n / 16 + 1) ((2 ^ n : Nat) : Int) r := by
  refine call_iso (ts := [.sc (.int .i64 (n : Int))]) T59 rfl rfl ?_
  obtain ⟨q, hq⟩ : ∃ q, q = n / 16 := ⟨_, rfl⟩
  obtain ⟨z, hz⟩ : ∃ z, z = 2 ^ (n % 16) := ⟨_, rfl⟩
  have hzb : z < 65536 := by rw [hz]; exact bit16 n
  have hz0 : 0 < z := by rw [hz]; exact Nat.pow_pos (by decide)
  obtain ⟨S0, hS0⟩ : ∃ S0 : Ob, S0 = .row [.tr (.sc (.bool false)), .tr (.sc (.slice none 0 0))] 0 := ⟨_, rfl⟩
  have hmk := mk_own8 (σ := [S0]) (room_ok (n := q + 1) (b := 8) (by omega) (by omega))
  simp only [List.length_singleton, List.singleton_append] at hmk
  have hqu : opBin .other .quo (nv .i64 n) (.tr (.sc (.int .i64 16))) = some (nv .i64 q) := by rw [hq]; exact quo_nn n 16 (by omega) (by omega)
  have hre : opBin .other .rem (nv .i64 n) (.tr (.sc (.int .i64 16))) = some (nv .i64 (n % 16)) := rem_nn n 16 (by omega)
  have hsh : opBin .other .shl (.tr (.sc (.int .i64 1))) (nv .i64 (n % 16)) = some (nv .i64 z) := by
    have := shl_i64 1 (n % 16) (by omega) (by rw [Nat.one_mul, ← hz]; omega)
    rw [Nat.one_mul, ← hz] at this
    exact this
  have w1 : IntKind.i64.wrap ((q : Int) + 1) = ((q + 1 : Nat) : Int) := w64 (by omega) (by omega)
  have hia : opIaddr 1 (.own 1 0 0 (q + 1) 1 (some (q + 1))) (nv .i64 q) [S0, .row (cK .i64 (List.replicate (q + 1) 0)) 0] = some (.ptr 1 0 (0 + q)) := own_iaddr rfl (by omega)
  rw [Nat.zero_add] at hia
  have hst : opStore 1 (.ptr 1 0 q) (nv .i64 z) [S0, .row (cK .i64 (List.replicate (q + 1) 0)) 0] = some [S0, .row (cK .i64 (List.replicate q 0 ++ [z])) 0] := by
    rw [own_store rfl (by simp), zeros_set]
    rfl
  obtain ⟨d, hd⟩ : ∃ d, d = List.replicate q 0 ++ [z] := ⟨_, rfl⟩
  rw [← hd] at hst
  have dl : d.length = q + 1 := by rw [hd]; simp
  have dd : dig 65536 d := by
    rw [hd]
    exact dig_append.2 ⟨dig_rep (by decide), fun x hx => by simp at hx; omega⟩
  have dc : can d := by
    rw [hd]
    intro h
    simp at h
    omega
  have dv : val 65536 d = 2 ^ n := by
    rw [hd, val_append, List.length_replicate]
    have h0 : val 65536 (List.replicate q 0) = 0 := by
      have := val_pad (B := 65536) (l := []) q
      simpa [val] using this
    rw [h0, ← pow_parts n, ← hq, ← hz]
    simp [val]
  have hst2 : opStore 2 (.ptr 0 0 0) (.agg [bv false, .own 1 0 0 (q + 1) 1 (some (q + 1))]) [S0, .row (cK .i64 d) 0] = some [.row [bv false, .own 1 0 0 (q + 1) 1 (some (q + 1))] 0, .row (cK .i64 d) 0] := by
    rw [hS0]; rfl
  have hld2 : opLoad 2 true (.ptr 0 0 0) [.row [bv false, .own 1 0 0 (q + 1) 1 (some (q + 1))] 0, .row (cK .i64 d) 0] = some (.agg [bv false, .own 1 0 0 (q + 1) 1 (some (q + 1))]) := rfl
  have hsn := fun k => snap_own (d := k) (σ := [.row [bv false, .own 1 0 0 (q + 1) 1 (some (q + 1))] 0, .row (cK .i64 d) 0]) (id := 1) (n := q + 1) (cap := some (q + 1)) rfl dl.symm
  have hbd : mkAgg [bv false, .own 1 0 0 (q + 1) 1 (some (q + 1))] = .agg [bv false, .own 1 0 0 (q + 1) 1 (some (q + 1))] := rfl
  have hbu : opBuild [.sc (.bool false), .sc (.slice none 0 0)] [(0, 1, bv false), (1, 1, .own 1 0 0 (q + 1) 1 (some (q + 1)))] = some (.agg [bv false, .own 1 0 0 (q + 1) 1 (some (q + 1))]) := rfl
  rw [hS0] at hmk hia hst hst2
  simp [hqu, hre, w1, hmk, hsh, hia, hst, hbu, hst2, hld2, -Int.natCast_add, -Int.natCast_ediv, -Int.natCast_emod]
  have hpc : (2 : Int) ^ n = ((2 ^ n : Nat) : Int) := by simp
  rw [hpc]
  refine ⟨.agg [.sc (.bool false), .row (d.flatMap iE) d.length (some (q + 1))], ?_, ?_⟩
  · rw [snap_deep]
    rw [snap_agg]
    simp only [snapL, hsn, snap_tr]
  · exact rint_mk (neg := false) (n := 2 ^ n) ⟨d, .inr ⟨_, rfl⟩, dd, dc, dv, by omega⟩ (by simp) (by intro h; cases h)

/-- A number modulo a power of two. -/
theorem low_ok {N m : Nat} {x : Int} {ta : Tree} (ha : RInt N x ta) (hf : fits m x) (hN : N ≤ 5000) (hm : m ≤ 80000) :
    ∃ r, (∀ σ, callL T 58 [.tr ta, nv .i64 (m + 1)] σ = some (.tr r, σ)) ∧ RInt (max (N + 1) ((m + 1) / 16 + 1) + 1) (tc (m + 1) x : Int) r := by
  refine call_iso (ts := [ta, .sc (.int .i64 ((m + 1 : Nat) : Int))]) T58 rfl rfl ?_
  obtain ⟨p, hp, hpr⟩ := power2_ok (m + 1) (by omega)
  have hpz : ((2 ^ (m + 1) : Nat) : Int) ≠ 0 := by
    have : 0 < 2 ^ (m + 1) := Nat.pow_pos (by decide)
    omega
  obtain ⟨t, hq, tq, tr, rfl, nq, nr⟩ := rQuo_ok ha hpr hpz (by omega) (by omega)
  have hlt : x.natAbs < 2 ^ (m + 1) := by
    have h1 : x.natAbs < 2 ^ m := hf
    rw [Nat.pow_succ]; omega
  have hmod : x.tmod ((2 ^ (m + 1) : Nat) : Int) = x := by
    have e : x = sg (decide (x < 0)) x.natAbs := by unfold sg; by_cases h : x < 0 <;> simp [h] <;> omega
    have e2 : ((2 ^ (m + 1) : Nat) : Int) = sg false (2 ^ (m + 1)) := rfl
    have := sg_mod (x := decide (x < 0)) (y := false) (m := x.natAbs) (n := 2 ^ (m + 1))
    rw [Nat.mod_eq_of_lt hlt, ← e, ← e2] at this
    exact this.symm
  rw [hmod] at nr
  obtain ⟨r2, hadd, nr2⟩ := rAdd_ok nr hpr (by omega) (by omega)
  obtain ⟨_, sa, rfl, _⟩ := rint_place ha
  obtain ⟨_, sp, rfl, op⟩ := rint_place hpr
  obtain ⟨_, sq, rfl, oq⟩ := rint_place nq
  obtain ⟨sr, rfl, hsr⟩ := nr
  have or := nat_one hsr
  obtain ⟨_, s2, rfl, o2⟩ := rint_place nr2
  by_cases hneg : x < 0
  · have htc : ((tc (m + 1) x : Nat) : Int) = x + ((2 ^ (m + 1) : Nat) : Int) := by unfold tc; rw [if_pos hneg]; omega
    have hd : decide (x < 0) = true := by simp [hneg]
    rw [hd] at hq hadd
    rw [htc]
    simp [hp, opStore, obPut, opLoad, obCells, slice?, splice_all, op, cells_one op, hq, opExtract, oq, or, cells_one oq, cells_one or, hneg, hadd, o2, cells_one o2, k58_4, -Int.natCast_add]
    simpa using nr2
  · have htc : ((tc (m + 1) x : Nat) : Int) = x := by unfold tc; rw [if_neg hneg]; omega
    have hd : decide (x < 0) = false := by simp [hneg]
    rw [hd] at hq hadd
    rw [htc]
    simp [hp, opStore, obPut, opLoad, obCells, slice?, splice_all, op, cells_one op, hq, opExtract, oq, or, cells_one oq, cells_one or, hneg, k58_4, -Int.natCast_add]
    exact rint_le ⟨sr, by simp [hd], hsr⟩ (by omega)
end Go.Proofs.Ytjacddclpcelmaa.AM.Bi
