/- IntText: part 14. -/
import Derived.Test.YtjacddclpcelmaaBi13
set_option maxRecDepth 1000000
set_option linter.unusedVariables false
set_option linter.unusedSimpArgs false
namespace Go.Proofs.Ytjacddclpcelmaa.AM.Bi
open Go.Proofs

theorem big_cut {x : Bool} {a : List Nat} {t : Tree} (h : IsBig x a t) : ∃ s, t = .agg [.sc (.bool x), s] ∧ IsSl uE a (.tr s) := h.ex
theorem law_sums {x y : Bool} {a b : List Nat} {ta tb : Tree} (ha : IsBig x a ta) (hb : IsBig y b tb) : ∃ v σ', callL T 3 [.tr ta, .tr tb] [] = some (v, σ') ∧ v = bv true := by
  refine call_shared T3 rfl rfl ?_
  obtain ⟨ra, c1, ca⟩ := cut_ok ha 12 (by omega)
  obtain ⟨rb, c2, cb⟩ := cut_ok hb 12 (by omega)
  obtain ⟨sa, rfl, ia⟩ := ha.ex
  obtain ⟨sb, rfl, ib⟩ := hb.ex
  have la : (a.take 12).length ≤ 12 := by rw [List.length_take]; omega
  have lb : (b.take 12).length ≤ 12 := by rw [List.length_take]; omega
  generalize a.take 12 = a' at *
  generalize b.take 12 = b' at *
  obtain ⟨fa, f1, hfa⟩ := from_ok ca (by omega)
  obtain ⟨fb, f2, hfb⟩ := from_ok cb (by omega)
  obtain ⟨r1, h1, n1⟩ := add_ok ca cb (by omega) (by omega)
  obtain ⟨r2, h2, n2⟩ := sub_ok ca cb (by omega) (by omega)
  obtain ⟨r3, h3, n3⟩ := mul_ok ca cb (by omega) (by omega)
  obtain ⟨r4, h4, n4⟩ := neg_ok ca (by omega)
  have h5 := cmp_ok ca cb (by omega) (by omega)
  obtain ⟨L, hL, h6⟩ := bits_ok ca (by omega)
  obtain ⟨q1, g1, m1⟩ := rAdd_ok hfa hfb (by omega) (by omega)
  obtain ⟨q2, g2, m2⟩ := rSub_ok hfa hfb (by omega) (by omega)
  obtain ⟨q3, g3, m3⟩ := rMul_ok hfa hfb (by omega) (by omega)
  obtain ⟨q4, g4, m4⟩ := rNeg_ok hfa (by omega)
  have g5 := rCmp_ok hfa hfb (by omega) (by omega)
  obtain ⟨M, hM, g6⟩ := rBits_ok hfa (by omega)
  have i1 := is_ok n1 m1 (by omega) (by omega)
  have i2 := is_ok n2 m2 (by omega) (by omega)
  have i3 := is_ok n3 m3 (by omega) (by omega)
  have i4 := is_ok n4 m4 (by omega) (by omega)
  have eLM : L = M := by
    have : (ival x a').natAbs = val 4294967296 a' := by unfold ival; cases x <;> simp
    rw [this] at hM
    exact isLen_uniq hL hM
  subst eLM
  obtain ⟨sa', rfl, ia'⟩ := ca.ex
  obtain ⟨sb', rfl, ib'⟩ := cb.ex
  obtain ⟨_, fa', rfl, ofa⟩ := rint_place hfa
  obtain ⟨_, fb', rfl, ofb⟩ := rint_place hfb
  have oa := one_sl ia'
  have ob := one_sl ib'
  have e10 : ∀ σ, callL T 10 [] σ = some (bv true, σ) := begun
  have q1' := fun σ => quiet_tr (σ := σ) (ts := [_, _]) h1
  have q2' := fun σ => quiet_tr (σ := σ) (ts := [_, _]) h2
  have q3' := fun σ => quiet_tr (σ := σ) (ts := [_, _]) h3
  have q4' := fun σ => quiet_tr (σ := σ) (ts := [_]) h4
  have q5' := fun σ => quiet_tr (σ := σ) (ts := [_, _]) h5
  have q6' := fun σ => quiet_tr (σ := σ) (ts := [_]) h6
  have qc1 := fun σ => quiet_tr (σ := σ) (ts := [_, .sc (.int .i64 12)]) c1
  have qf1 := fun σ => quiet_tr (σ := σ) (ts := [_]) f1
  have qf2 := fun σ => quiet_tr (σ := σ) (ts := [_]) f2
  simp only [List.map_cons, List.map_nil] at q1' q2' q3' q4' q5' q6' qc1 qf1 qf2
  have c1' : ∀ σ, callL T 11 [.tr (.agg [.sc (.bool x), sa]), .tr (.sc (.int .i64 12))] σ = some (.tr (.agg [.sc (.bool x), sa']), σ) := c1
  have c2' : ∀ σ, callL T 11 [.tr (.agg [.sc (.bool y), sb]), .tr (.sc (.int .i64 12))] σ = some (.tr (.agg [.sc (.bool y), sb']), σ) := c2
  simp [opBoxB, opBox, e10, opLoad, obCells, slice?, qc1, c2', opStore, obPut, splice_all, oa, ob, cells_one oa, cells_one ob, qf1, qf2, f1, f2, okF, freshOk, obVs, dirs.dirsL, dirs, ofa, ofb, cells_one ofa, cells_one ofb,
    q1', q2', q3', q4', q5', q6', g1, g2, g3, g4, g5, g6, i1, i2, i3, i4]
end Go.Proofs.Ytjacddclpcelmaa.AM.Bi
