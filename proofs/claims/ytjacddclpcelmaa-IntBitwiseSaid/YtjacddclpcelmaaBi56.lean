/- IntBitwise: part 56. -/
import Derived.Test.YtjacddclpcelmaaBi55
import Derived.Test.YtjacddclpcelmaaBi13
set_option maxRecDepth 1000000
set_option linter.unusedVariables false
set_option linter.unusedSimpArgs false
namespace Go.Proofs.Ytjacddclpcelmaa.AM.Bi
open Go.Proofs

theorem rbitwise_ok {N : Nat} {u w : Int} {ta tb : Tree} (ha : RInt N u ta) (hb : RInt N w tb) (hN : N ≤ 100) (op : ByteArray) : ∃ t, (∀ σ, callL T 29 [.tr (.sc (.string op)), .tr ta, .tr tb] σ = some (.tr t, σ)) ∧ RBwR op u w t := by
  refine call_iso (ts := [.sc (.string op), ta, tb]) T29 rfl rfl ?_
  obtain ⟨L1, i1, b1⟩ := rBits_ok ha (by omega)
  obtain ⟨L2, i2, b2⟩ := rBits_ok hb (by omega)
  have j1 := len_le ha i1
  have j2 := len_le hb i2
  obtain ⟨sa, rfl, na⟩ := id ha
  obtain ⟨sb, rfl, nb⟩ := id hb
  have f1 : fits (max L1 L2 + 1) u := Nat.lt_of_lt_of_le i1.1 (Nat.pow_le_pow_right (by decide) (by omega))
  have f2 : fits (max L1 L2 + 1) w := Nat.lt_of_lt_of_le i2.1 (Nat.pow_le_pow_right (by decide) (by omega))
  have hpost : ∀ (v : V) (σ : Store), (∃ t, v = .tr t ∧ RBwR op u w t) → ∃ t, snap σ deepN v = some t ∧ RBwR op u w t := by
    rintro v σ ⟨t, rfl, h⟩
    exact ⟨t, by simp, h⟩
  by_cases hlt : L1 < L2
  · have hm : max L1 L2 + 1 - 1 = L2 := by omega
    have hlt' : (L1 : Int) < L2 := by omega
    simp [opLoad, slice?, ofCells, b1, b2, hlt]
    refine wpc_mono _ _ _ _ (giv_mono hpost) (rbw_main (m := max L1 L2 + 1) ha hb hN f1 f2 (by omega) (by omega) rfl rfl (fun σ => rfl) (fun σ => rfl) rfl rfl (by simp) (by simp) (by simp) (by simp) (by simp [hm]))
  · have hm : max L1 L2 + 1 - 1 = L1 := by omega
    have hlt' : ¬ (L1 : Int) < L2 := by omega
    simp [opLoad, slice?, ofCells, b1, b2, hlt]
    refine wpc_mono _ _ _ _ (giv_mono hpost) (rbw_main (m := max L1 L2 + 1) ha hb hN f1 f2 (by omega) (by omega) rfl rfl (fun σ => rfl) (fun σ => rfl) rfl rfl (by simp) (by simp) (by simp) (by simp) (by simp [hm]))

theorem law_bitwise {x y : Bool} {a b : List Nat} {ta tb : Tree} (op : ByteArray) (ha : IsBig x a ta) (hb : IsBig y b tb) : ∃ v σ', callL T 5 [.tr (.sc (.string op)), .tr ta, .tr tb] [] = some (v, σ') ∧ v = bv true := by
  refine call_shared T5 rfl rfl ?_
  obtain ⟨ra, c1, ca⟩ := cut_ok ha 8 (by omega)
  obtain ⟨rb, c2, cb⟩ := cut_ok hb 8 (by omega)
  obtain ⟨sa, rfl, ia⟩ := ha.ex
  obtain ⟨sb, rfl, ib⟩ := hb.ex
  have la : (a.take 8).length ≤ 8 := by rw [List.length_take]; omega
  have lb : (b.take 8).length ≤ 8 := by rw [List.length_take]; omega
  generalize a.take 8 = a' at *
  generalize b.take 8 = b' at *
  obtain ⟨fa, f1, hfa⟩ := from_ok ca (by omega)
  obtain ⟨fb, f2, hfb⟩ := from_ok cb (by omega)
  obtain ⟨t1, h1, hB⟩ := bitwise_ok ca cb (by omega) (by omega) op
  obtain ⟨t2, h2, hR⟩ := rbitwise_ok (N := 100) (rint_le hfa (by omega)) (rint_le hfb (by omega)) (by omega) op
  have fx : fits (32 * max a'.length b'.length + 31) (ival x a') := by
    have e : (ival x a').natAbs = val 4294967296 a' := by unfold ival; cases x <;> simp
    have := val_lt ca.dg
    unfold fits
    rw [e]
    rw [pow32] at this
    exact Nat.lt_of_lt_of_le this (Nat.pow_le_pow_right (by decide) (by omega))
  have fy : fits (32 * max a'.length b'.length + 31) (ival y b') := by
    have e : (ival y b').natAbs = val 4294967296 b' := by unfold ival; cases y <;> simp
    have := val_lt cb.dg
    unfold fits
    rw [e]
    rw [pow32] at this
    exact Nat.lt_of_lt_of_le this (Nat.pow_le_pow_right (by decide) (by omega))
  obtain ⟨r1, r2, fl, M1, M2, z, rfl, rfl, n1, n2, hM1, hM2⟩ : ∃ r1 r2 fl M1 M2 z, t1 = .tup [r1, .sc (.bool fl)] ∧ t2 = .tup [r2, .sc (.bool fl)] ∧ IsNum M1 z r1 ∧ RInt M2 z r2 ∧ M1 ≤ 10000 ∧ M2 ≤ 10000 := by
    unfold BwR at hB
    unfold RBwR at hR
    cases hc : bwCode op with
    | none =>
      rw [hc] at hB hR
      refine ⟨_, _, false, 0, 0, 0, hB, hR, ⟨false, [], ⟨⟨_, rfl, .inl ⟨rfl, rfl⟩⟩, dig_nil _⟩, can_nil, by simp, rfl, by simp⟩, ?_, by omega, by omega⟩
      exact rint_mk (neg := false) (n := 0) ⟨[], .inl ⟨rfl, rfl⟩, dig_nil _, can_nil, rfl, by simp⟩ (by simp) (by intro h; cases h)
    | some o =>
      rw [hc] at hB hR
      obtain ⟨r1, rfl, n1⟩ := hB
      obtain ⟨r2, m, M, rfl, fu, fw, hM, n2⟩ := hR
      rw [sgnd_any fu fw fx fy] at n2
      exact ⟨r1, r2, true, _, M, _, rfl, rfl, n1, n2, by omega, by omega⟩
  have i1 := is_ok n1 n2 hM1 hM2
  obtain ⟨sa', rfl, ia'⟩ := ca.ex
  obtain ⟨sb', rfl, ib'⟩ := cb.ex
  have oa := one_sl ia'
  have ob := one_sl ib'
  have e10 : ∀ σ, callL T 10 [] σ = some (bv true, σ) := begun
  have qc1 := fun σ => quiet_tr (σ := σ) (ts := [_, .sc (.int .i64 8)]) c1
  have qf1 := fun σ => quiet_tr (σ := σ) (ts := [_]) f1
  have qf2 := fun σ => quiet_tr (σ := σ) (ts := [_]) f2
  have q2 := fun σ => quiet_tr (σ := σ) (ts := [_, _, _]) h2
  simp only [List.map_cons, List.map_nil] at qc1 qf1 qf2 q2
  have c2' : ∀ σ, callL T 11 [.tr (.agg [.sc (.bool y), sb]), .tr (.sc (.int .i64 8))] σ = some (.tr (.agg [.sc (.bool y), sb']), σ) := c2
  obtain ⟨_, s1, rfl, o1⟩ := num_place n1
  obtain ⟨_, s2, rfl, o2⟩ := rint_place n2
  simp [opBoxB, opBox, e10, opLoad, obCells, slice?, qc1, c2', opStore, obPut, splice_all, oa, ob, cells_one oa, cells_one ob, qf1, qf2, q2, okF, freshOk, obVs, dirs.dirsL, dirs, h1, opExtract, o1, o2, cells_one o1, cells_one o2, i1]
theorem law_bw (op : ByteArray) {p : Prop} (_ : p) {x y : Bool} {a b : List Nat} {ta tb : Tree} (ha : IsBig x a ta) (hb : IsBig y b tb) : ∃ v σ', callL T 5 [.tr (.sc (.string op)), .tr ta, .tr tb] [] = some (v, σ') ∧ v = bv true := law_bitwise op ha hb
end Go.Proofs.Ytjacddclpcelmaa.AM.Bi
