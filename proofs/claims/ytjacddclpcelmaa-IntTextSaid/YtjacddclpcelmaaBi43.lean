/- IntText: part 43. -/
import Derived.Test.YtjacddclpcelmaaBi42
set_option maxRecDepth 1000000
set_option linter.unusedVariables false
set_option linter.unusedSimpArgs false
namespace Go.Proofs.Ytjacddclpcelmaa.AM.Bi
open Go.Proofs

theorem flat_cells {k : IntKind} : ∀ (l : List Nat), (l.flatMap (nE k)).map V.tr = cK k l
  | [] => rfl
  | x :: l => by
    have := flat_cells (k := k) l
    show V.tr _ :: (l.flatMap (nE k)).map V.tr = _
    rw [this]; rfl
/-- A given row, copied into zeros. -/
theorem copy_tr {σ : Store} {id n : Nat} {c : Option Nat} {l : List Nat} {t : Tree} (h : IsSl uE l (.tr t)) (hs : σ[id]? = some (.row (cK .u32 (List.replicate n 0)) 0)) (hl : l.length ≤ n) :
    opCopy 1 (.own id 0 0 n 1 c) (.tr t) σ = some (int .i64 (l.length : Int), σ.set id (.row (cK .u32 (l ++ List.replicate (n - l.length) 0)) 0)) := by
  have hel : elems σ 1 (.tr t) = some (cK .u32 l, l.length) := by
    rcases h with ⟨rfl, h⟩ | ⟨cp, h⟩ <;> cases h
    · rfl
    · show (if (l.flatMap uE).length = l.length * 1 then some ((l.flatMap uE).map V.tr, l.length) else none) = _
      have e : (l.flatMap uE).map V.tr = cK .u32 l := flat_cells l
      have e2 : (l.flatMap uE).length = l.length := by
        have := congrArg List.length e
        simpa [cK] using this
      rw [if_pos (by omega), e]
  have hmin : Nat.min l.length n = l.length := Nat.min_eq_left hl
  unfold opCopy
  rw [hel]
  simp only [ne_eq, not_true_eq_false, if_false, hmin, Nat.mul_one]
  by_cases h0 : l.length = 0
  · have hl0 : l = [] := List.length_eq_zero_iff.1 h0
    subst hl0
    simp only [List.length_nil, if_true, List.nil_append, Nat.sub_zero]
    rw [set_id hs]
    rfl
  · rw [if_neg h0]
    have hcl : (cK .u32 l).length = l.length := by simp [cK]
    have hp2 : obPut σ id 0 0 ((cK .u32 l).take l.length) = some (σ.set id (.row (cK .u32 (l ++ List.replicate (n - l.length) 0)) 0)) := by
      unfold obPut
      rw [hs]
      simp only []
      rw [List.take_of_length_le (by omega), if_pos ⟨trivial, by simp [cK]; omega, by simp [cK, oneV]⟩]
      congr 3
      unfold splice
      rw [hcl]
      simp [cK]
    rw [hp2]
theorem val_pad {B : Nat} {l : List Nat} : ∀ k, val B (l ++ List.replicate k 0) = val B l := by
  intro k
  rw [val_append]
  have : val B (List.replicate k 0) = 0 := by
    induction k with
    | zero => rfl
    | succ k ih => simp [List.replicate_succ, val, ih]
  rw [this, Nat.mul_zero, Nat.add_zero]
theorem pow32 (n : Nat) : (4294967296 : Nat) ^ n = 2 ^ (32 * n) := by
  rw [Nat.pow_mul]

/-- Two's complement of a given number. -/
theorem digits_tr {x : Bool} {a : List Nat} {ta : Tree} {n : Nat} (ha : IsBig x a ta) (la : a.length ≤ n) (hn : n ≤ 100000) (σ : Store) :
    ∃ W, callL T 57 [.tr ta, nv .i64 n] σ = some (.own σ.length 0 0 n 1 (some n), σ ++ [.row (cK .u32 W) 0]) ∧ dig 4294967296 W ∧ W.length = n ∧ val 4294967296 W = tc (32 * n) (ival x a) := by
  suffices hh : ∃ v σ', callL T 57 [.tr ta, nv .i64 n] σ = some (v, σ') ∧ ∃ W, v = .own σ.length 0 0 n 1 (some n) ∧ σ' = σ ++ [.row (cK .u32 W) 0] ∧ dig 4294967296 W ∧ W.length = n ∧ val 4294967296 W = tc (32 * n) (ival x a) by
    obtain ⟨v, σ', h1, W, rfl, rfl, h2⟩ := hh
    exact ⟨W, h1, h2⟩
  refine call_shared T57 rfl rfl ?_
  have hbel := below_ok ha (by omega)
  have hdg := ha.dg
  obtain ⟨sa, rfl, ia⟩ := ha.ex
  obtain ⟨t', hnr, hv'⟩ := norm_tr ia (by omega)
  have hmk := mk_own (σ := σ) (room_ok (n := n) (b := 4) (by omega) (by omega))
  have htl := trim_le a
  have hcp := copy_tr (σ := σ ++ [.row (cK .u32 (List.replicate n 0)) 0]) (id := σ.length) (n := n) (c := some n) hv' (by simp) (by omega)
  obtain ⟨l, hl⟩ : ∃ l, l = trim a ++ List.replicate (n - (trim a).length) 0 := ⟨_, rfl⟩
  rw [← hl] at hcp
  have hset : (σ ++ [Ob.row (cK .u32 (List.replicate n 0)) 0]).set σ.length (.row (cK .u32 l) 0) = σ ++ [.row (cK .u32 l) 0] := by simp
  rw [hset] at hcp
  have hll : l.length = n := by rw [hl, List.length_append, List.length_replicate]; omega
  have dl : dig 4294967296 l := by rw [hl]; exact dig_append.2 ⟨dig_trim hdg, dig_rep (by decide)⟩
  have vl : val 4294967296 l = val 4294967296 a := by rw [hl, val_pad, val_trim]
  have hlt := val_lt hdg
  have hpw : 4294967296 ^ a.length ≤ 4294967296 ^ n := Nat.pow_le_pow_right (by decide) la
  by_cases hneg : ival x a < 0
  · obtain ⟨hx, hpos⟩ := ival_neg_iff.1 hneg
    have habs : (ival x a).natAbs = val 4294967296 a := by rw [hx]; unfold ival; simp
    simp [hmk, hnr, hcp, opLoad, slice?, ofCells, hbel, hneg]
    refine wpc_mono _ _ _ _ (giv_mono ?_) (digits_neg dl hll hn (σ := σ ++ [.row (cK .u32 l) 0]) (id := σ.length) (by simp) (by simp) (by omega))
    rintro v σ' ⟨W, rfl, rfl, dW, hW, hv⟩
    refine ⟨rfl, W, by simp, dW, hW, ?_⟩
    unfold tc
    rw [if_pos hneg, habs, ← pow32]
    omega
  · have habs : (ival x a).natAbs = val 4294967296 a := by unfold ival; cases x <;> simp
    simp [hmk, hnr, hcp, opLoad, slice?, ofCells, hbel, hneg]
    refine ⟨l, rfl, dl, hll, ?_⟩
    unfold tc
    rw [if_neg hneg, habs, vl]
end Go.Proofs.Ytjacddclpcelmaa.AM.Bi
