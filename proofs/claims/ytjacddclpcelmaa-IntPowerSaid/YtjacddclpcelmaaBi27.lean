/- IntPower: part 27. -/
import Derived.Test.YtjacddclpcelmaaBi26
set_option maxRecDepth 1000000
set_option linter.unusedVariables false
set_option linter.unusedSimpArgs false
namespace Go.Proofs.Ytjacddclpcelmaa.AM.Bi
open Go.Proofs

theorem law_power {x : Bool} {a : List Nat} {ta : Tree} (ha : IsBig x a ta) (k : Int) : ∃ v σ', callL T 7 [.tr ta, iv k] [] = some (v, σ') ∧ v = bv true := by
  refine call_shared T7 rfl rfl ?_
  obtain ⟨ra, c1, ca⟩ := cut_ok ha 3 (by omega)
  obtain ⟨sa, rfl, ia⟩ := ha.ex
  have la : (a.take 3).length ≤ 3 := by rw [List.length_take]; omega
  generalize a.take 3 = a' at *
  obtain ⟨sa', rfl, ia'⟩ := ca.ex
  have oa := one_sl ia'
  have e10 : ∀ σ, callL T 10 [] σ = some (bv true, σ) := begun
  have c1' : ∀ σ, callL T 11 [.tr (.agg [.sc (.bool x), sa]), .tr (.sc (.int .i64 3))] σ = some (.tr (.agg [.sc (.bool x), sa']), σ) := c1
  by_cases h1 : k < 0
  · simp [opBoxB, opBox, e10, opLoad, obCells, slice?, c1', opStore, obPut, splice_all, oa, h1]
  by_cases h2 : 20 < k
  · simp [opBoxB, opBox, e10, opLoad, obCells, slice?, c1', opStore, obPut, splice_all, oa, h1, h2]
  obtain ⟨n, rfl⟩ : ∃ n : Nat, k = n := ⟨k.toNat, by omega⟩
  have hn : n ≤ 20 := by omega
  have h1' : ¬ (n : Int) < 0 := h1
  have h2' : ¬ (20 : Int) < n := h2
  clear h1 h2
  obtain ⟨z, hz⟩ : ∃ z, z = ival x a' := ⟨_, rfl⟩
  obtain ⟨t1, ho, hn1⟩ := of1
  obtain ⟨q1, s1, rfl, o1⟩ := num_place hn1
  simp [opBoxB, opBox, e10, opLoad, obCells, slice?, c1', opStore, obPut, splice_all, oa, h1', h2', k7_5, ho, o1]
  have l0 : ∀ (a b : Tree) (o1 : Ob), opLoad 2 true (.ptr 0 0 0) [.row [.tr a, .tr b] 0, o1] = some (.tr (.agg [a, b])) := fun a b o1 => rfl
  have l1 : ∀ (a b : Tree) (o1 : Ob), opLoad 2 true (.ptr 1 0 0) [o1, .row [.tr a, .tr b] 0] = some (.tr (.agg [a, b])) := fun a b o1 => rfl
  obtain ⟨I, hI⟩ : ∃ I : Nat → St → Prop, I = (fun i s => i ≤ n ∧ ∃ e L q sq, s = ⟨e, L, [.row [bv x, .tr sa'] 0, .row [bv q, .tr sq] 0]⟩ ∧ look e 1 = some (nv .i64 n) ∧ look e 2 = some (.ptr 0 0 0) ∧ look e 5 = some (bv true) ∧ look e 6 = some (.ptr 1 0 0) ∧ look e 7 = some (nv .i64 i)
    ∧ IsNum (1 + 3 * i) (z ^ i) (.agg [.sc (.bool q), sq])) := ⟨_, rfl⟩
  refine wpc_up n I ?_ ?_
  · rw [hI]
    exact ⟨Nat.zero_le _, _, _, q1, s1, rfl, by simp, by simp, by simp, by simp, by simp, by rw [Int.pow_zero]; exact hn1⟩
  intro i s hIs
  rw [hI] at hIs
  obtain ⟨hi, e, L, q, sq, rfl, h1, h2, h5, h6, h7, hnum⟩ := hIs
  obtain ⟨ng, l, hb, hcan, hne, hv, hl⟩ := id hnum
  by_cases hlt : i < n
  · obtain ⟨r, hc, hr⟩ := mul_ok hb ca (by omega) (by omega)
    obtain ⟨q2, s2, rfl, o2⟩ := num_place hr
    have st1 : ∀ (a b : V) (o1 : Ob), opStore 2 (.ptr 1 0 0) (.tr (.agg [.sc (.bool q2), s2])) [o1, .row [a, b] 0] = some [o1, .row [bv q2, .tr s2] 0] := fun a b o1 => by simp [opStore, obPut, splice_all, o2]
    have w5 : IntKind.i64.wrap ((i : Int) + 1) = ((i + 1 : Nat) : Int) := w64 (by omega) (by omega)
    simp [k7_8, h7, h1, hlt, k7_10, h6, h2, l1, l0, hc, st1, w5, -Int.natCast_add]
    rw [hI]
    refine ⟨by omega, _, _, q2, s2, rfl, by simp [h1], by simp [h2], by simp [h5], by simp [h6], by simp, ?_⟩
    rw [hv, ← hz, ← Int.pow_succ] at hr
    exact num_le hr (by omega)
  · have hie : i = n := by omega
    subst hie
    obtain ⟨rf, hf, hfr⟩ := from_ok ca (by omega)
    rw [← hz] at hfr
    obtain ⟨rp, hpw, hpr⟩ := power_ok hfr (by omega) hn
    have his := is_ok hnum hpr (by omega) (by omega)
    have hpd : ∀ j, pendAll (callL T) j [.row [bv x, .tr sa'] 0, .row [bv q, .tr sq] 0] [⟨5, .load 2 true (.env 6), St.only ⟨e, [], [.row [bv x, .tr sa'] 0, .row [bv q, .tr sq] 0]⟩ [6], .tr (.agg [.sc (.bool q), sq])⟩] = true := by
      intro j
      refine pend_one ⟨⟨[.row [bv x, .tr sa'] 0, .row [bv q, .tr sq] 0], ?_⟩, eqV_num hnum⟩
      simp [St.only, St.get, lookOnly, h6, l1]
    simp [k7_8, h7, h1, k7_11]
    refine (ops_hold (h := 5)).2 ?_
    simp [okB, h6, l1, h2, l0, hpd, hf, h1, hpw, his]
    exact power_end (σ := [.row [bv x, .tr sa'] 0, .row [bv q, .tr sq] 0]) ca la hz hn rfl h1 h2 h5 h6 hnum (by omega) ⟨q, sq, rfl, rfl⟩
end Go.Proofs.Ytjacddclpcelmaa.AM.Bi
