/- IntText: part 35. -/
import Derived.Test.YtjacddclpcelmaaBi34
import Derived.Test.YtjacddclpcelmaaBi15
set_option maxRecDepth 1000000
set_option linter.unusedVariables false
set_option linter.unusedSimpArgs false
namespace Go.Proofs.Ytjacddclpcelmaa.AM.Bi
open Go.Proofs

theorem law_quo {x y : Bool} {a b : List Nat} {ta tb : Tree} (ha : IsBig x a ta) (hb : IsBig y b tb) : ∃ v σ', callL T 4 [.tr ta, .tr tb] [] = some (v, σ') ∧ v = bv true := by
  refine call_shared T4 rfl rfl ?_
  obtain ⟨ra, c1, ca⟩ := cut_ok ha 12 (by omega)
  obtain ⟨rb, c2, cb⟩ := cut_ok hb 12 (by omega)
  obtain ⟨sa, rfl, ia⟩ := ha.ex
  obtain ⟨sb, rfl, ib⟩ := hb.ex
  have la : (a.take 12).length ≤ 12 := by rw [List.length_take]; omega
  have lb : (b.take 12).length ≤ 12 := by rw [List.length_take]; omega
  generalize a.take 12 = a' at *
  generalize b.take 12 = b' at *
  obtain ⟨fa, f1, hfa⟩ := from_ok ca (by omega)
  obtain ⟨fb, f2, hfb⟩ := from_ok cb (by omega)
  obtain ⟨t, h1, hQ⟩ := quo_ok ca cb (by omega) (by omega)
  obtain ⟨sa', rfl, ia'⟩ := ca.ex
  obtain ⟨sb', rfl, ib'⟩ := cb.ex
  obtain ⟨_, fa', rfl, ofa⟩ := rint_place hfa
  obtain ⟨nfb, fb', hfbe, ofb⟩ := rint_place hfb
  obtain ⟨k, hk, hk0, _⟩ : ∃ k : Nat, (∀ σ, opLen 1 (.tr fb') σ = some (nv .i64 k)) ∧ (0 < k ↔ 0 < (ival y b').natAbs) ∧ k ≤ 2 * b'.length := by
    obtain ⟨s, rfl, hn⟩ := hfb
    cases hfbe
    exact nat_len hn
  subst hfbe
  have oa := one_sl ia'
  have ob := one_sl ib'
  have e10 : ∀ σ, callL T 10 [] σ = some (bv true, σ) := begun
  have qc1 := fun σ => quiet_tr (σ := σ) (ts := [_, .sc (.int .i64 12)]) c1
  have qf1 := fun σ => quiet_tr (σ := σ) (ts := [_]) f1
  have qf2 := fun σ => quiet_tr (σ := σ) (ts := [_]) f2
  simp only [List.map_cons, List.map_nil] at qc1 qf1 qf2
  have c1' : ∀ σ, callL T 11 [.tr (.agg [.sc (.bool x), sa]), .tr (.sc (.int .i64 12))] σ = some (.tr (.agg [.sc (.bool x), sa']), σ) := c1
  have c2' : ∀ σ, callL T 11 [.tr (.agg [.sc (.bool y), sb]), .tr (.sc (.int .i64 12))] σ = some (.tr (.agg [.sc (.bool y), sb']), σ) := c2
  rcases hQ with ⟨hz, rfl⟩ | ⟨hz, q, r, rfl, nq, nr⟩
  · have hk00 : k = 0 := by
      rcases Nat.eq_zero_or_pos k with h | h
      · exact h
      · have := hk0.1 h; omega
    subst hk00
    have hnl : ∀ σ, opLen 1 (.tr (.sc (.slice none 0 0))) σ = some (.tr (.sc (.int .i64 0))) := fun _ => rfl
    simp [opBoxB, opBox, e10, opLoad, obCells, slice?, qc1, c2', opStore, obPut, splice_all, oa, ob, cells_one oa, cells_one ob, qf1, qf2, f1, f2, okF, freshOk, obVs, dirs.dirsL, dirs, ofa, ofb, cells_one ofa, cells_one ofb, h1, opExtract, hk, hnl]
  · have hk1 : ¬ k = 0 := by omega
    obtain ⟨t2, h2, q', r', rfl, mq, mr⟩ := rQuo_ok hfa hfb hz (by omega) (by omega)
    have i1 := is_ok nq mq (by omega) (by omega)
    have i2 := is_ok nr mr (by omega) (by omega)
    obtain ⟨gq, lq, bq, _, _, vq, llq⟩ := id nq
    obtain ⟨gr, lr, br, _, _, vr, llr⟩ := id nr
    obtain ⟨pr, h3, np⟩ := mul_ok bq cb (by omega) (by omega)
    obtain ⟨gp, lp, bp, _, _, vp, llp⟩ := id np
    obtain ⟨sm, h4, ns⟩ := add_ok bp br (by omega) (by omega)
    rw [vp, vq, vr, Int.mul_comm, Int.mul_tdiv_add_tmod] at ns
    have i3 := is_ok ns hfa (by omega) (by omega)
    obtain ⟨_, sq, rfl, oq⟩ := num_place nq
    obtain ⟨_, sr, rfl, or⟩ := num_place nr
    obtain ⟨_, sp, rfl, op⟩ := num_place np
    obtain ⟨_, ss, rfl, os⟩ := num_place ns
    obtain ⟨_, q', rfl, oq'⟩ := rint_place mq
    obtain ⟨_, r', rfl, or'⟩ := rint_place mr
    have q3' := fun σ => quiet_tr (σ := σ) (ts := [_, _]) h3
    have q4' := fun σ => quiet_tr (σ := σ) (ts := [_, _]) h4
    simp only [List.map_cons, List.map_nil] at q3' q4'
    simp [opBoxB, opBox, e10, opLoad, obCells, slice?, qc1, c2', opStore, obPut, splice_all, oa, ob, cells_one oa, cells_one ob, qf1, qf2, f1, f2, okF, freshOk, obVs, dirs.dirsL, dirs, ofa, ofb, cells_one ofa, cells_one ofb, h1, opExtract, hk, hk1, k4_7,
      oq, or, cells_one oq, cells_one or, h2, oq', or', cells_one oq', cells_one or', q3', q4', os, cells_one os, i1, i2, i3]
end Go.Proofs.Ytjacddclpcelmaa.AM.Bi
