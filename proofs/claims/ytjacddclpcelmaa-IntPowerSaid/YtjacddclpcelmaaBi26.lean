/- IntPower: part 26. -/
import Derived.Test.YtjacddclpcelmaaBi25
set_option maxRecDepth 1000000
set_option linter.unusedVariables false
set_option linter.unusedSimpArgs false
namespace Go.Proofs.Ytjacddclpcelmaa.AM.Bi
open Go.Proofs

/-- The roots. -/
theorem power_end {x : Bool} {a : List Nat} {sa : Tree} {n N : Nat} {e L : List (Nat × V)} {σ : Store} {z : Int} {t : Tree} (ha : IsBig x a (.agg [.sc (.bool x), sa])) (la : a.length ≤ 3) (hz : z = ival x a) (hn : n ≤ 20)
    (hs0 : σ[0]? = some (.row [bv x, .tr sa] 0)) (h1 : look e 1 = some (nv .i64 n)) (h2 : look e 2 = some (.ptr 0 0 0)) (h5 : look e 5 = some (bv true)) (h6 : look e 6 = some (.ptr 1 0 0))
    (hp : IsNum N (z ^ n) t) (hN : N ≤ 64) (hs1 : ∃ q sq, t = .agg [.sc (.bool q), sq] ∧ σ[1]? = some (.row [bv q, .tr sq] 0)) : wpc T k7_14 ⟨e, L, σ⟩ (giv [.tmp 4] fun v σ => v = bv true) := by
  obtain ⟨S0, hS0⟩ : ∃ S0 : Ob, S0 = .row [.tr (.sc (.bool false)), .tr (.sc (.slice none 0 0))] 0 := ⟨_, rfl⟩
  simp [k7_14]
  obtain ⟨I, hI⟩ : ∃ I : Nat → St → Prop, I = (fun i s => i ≤ n ∧ ∃ e L σ q sq, s = ⟨e, L, σ⟩ ∧ σ[0]? = some (.row [bv x, .tr sa] 0) ∧ σ[1]? = some (.row [bv q, .tr sq] 0) ∧ look e 1 = some (nv .i64 n) ∧ look e 2 = some (.ptr 0 0 0) ∧ look e 5 = some (bv true) ∧ look e 6 = some (.ptr 1 0 0) ∧ look e 8 = some (nv .i64 i)
    ∧ IsNum 64 (z ^ (n - i)) (.agg [.sc (.bool q), sq])) := ⟨_, rfl⟩
  refine wpc_up n I ?_ ?_
  · rw [hI]
    obtain ⟨q, sq, rfl, hs1⟩ := hs1
    exact ⟨Nat.zero_le _, _, _, σ, q, sq, rfl, hs0, hs1, by simp [h1], by simp [h2], by simp [h5], by simp [h6], by simp, num_le hp hN⟩
  clear hs0 h1 h2 h5 h6 hs1 hp
  intro i s hIs
  rw [hI] at hIs
  obtain ⟨hi, e, L, σ, q, sq, rfl, hs0, hs1, h1, h2, h5, h6, h8, hnum⟩ := hIs
  have oa : oneV (.tr sa) = true := by
    obtain ⟨s, h, is⟩ := ha.ex
    cases h
    exact one_sl is
  have oq : oneV (.tr sq) = true := by
    obtain ⟨_, s, h, is⟩ := num_place hnum
    cases h
    exact is
  have l0 : ∀ s, opLoad 2 true (.ptr 0 0 0) (σ ++ s) = some (.tr (.agg [.sc (.bool x), sa])) := fun s => ld_row (push_at hs0)
  have l0' := l0 []
  have l1 : opLoad 2 true (.ptr 1 0 0) σ = some (.tr (.agg [.sc (.bool q), sq])) := ld_row hs1
  rw [List.append_nil] at l0'
  by_cases hlt : i < n
  · have hlt' : (i : Int) < n := by omega
    obtain ⟨k, hk⟩ : ∃ k, n - i = k + 1 := ⟨n - i - 1, by omega⟩
    rw [hk] at hnum
    obtain ⟨ng, l, hb, hcan, hne, hv, hl⟩ := id hnum
    obtain ⟨t, hc, hQ⟩ := quo_ok hb ha (by omega) (by omega)
    rw [hv, ← hz] at hQ
    obtain ⟨rf, hf, hfr⟩ := from_ok ha (by omega)
    rw [← hz] at hfr
    obtain ⟨sf, rfl, hnat⟩ := hfr
    obtain ⟨kl, hkl, hk0, _⟩ := nat_len hnat
    have hfld : opField 1 1 false (.tr (.agg [.sc (.bool (decide (z < 0))), sf])) = some (.tr sf) := rfl
    rcases hQ with ⟨hz0, rfl⟩ | ⟨hz0, qt, rt, rfl, hqn, hrn⟩
    · have hkl0 : kl = 0 := by
        rcases Nat.eq_zero_or_pos kl with h | h
        · exact h
        · have := hk0.1 h; omega
      have st1 : opStore 2 (.ptr σ.length 0 0) (.tr (.agg [.sc (.bool false), .sc (.slice none 0 0)])) (σ ++ [S0, S0]) = some (σ ++ [S0, S0]) := by
        rw [st_row (a := bv false) (b := .tr (.sc (.slice none 0 0))) (by rw [at_len, hS0]) rfl, ← hS0]
        congr 1
        exact set_id at_len
      have st2 : opStore 2 (.ptr (σ.length + 1) 0 0) (.tr (.agg [.sc (.bool false), .sc (.slice none 0 0)])) (σ ++ [S0, S0]) = some (σ ++ [S0, S0]) := by
        have h : (σ ++ [S0, S0])[σ.length + 1]? = some S0 := by simp
        rw [st_row (a := bv false) (b := .tr (.sc (.slice none 0 0))) (by rw [h, hS0]) rfl, ← hS0]
        congr 1
        exact set_id h
      rw [hS0] at st1 st2
      simp [k7_16, h8, h1, hlt, k7_18, h6, h2, l1, l0', hc, opExtract, st1, st2, l0, hf, hfld, hkl, hkl0, h5]
    · have hq1 : (z ^ (k + 1)).tdiv z = z ^ k := by rw [Int.pow_succ, Int.mul_tdiv_cancel _ hz0]
      have hr1 : (z ^ (k + 1)).tmod z = 0 := by rw [Int.pow_succ, Int.mul_tmod_left]
      rw [hq1] at hqn
      rw [hr1] at hrn
      obtain ⟨sr, rfl, ir⟩ := num_zero hrn
      obtain ⟨qn, sq2, rfl, oq2⟩ := num_place hqn
      have or2 := one_sl ir
      have hkl0 : ¬ kl = 0 := by
        intro h
        have := hk0.2 (by omega)
        omega
      have hlr : ∀ σ, opLen 1 (.tr sr) σ = some (nv .i64 0) := fun σ => isSl_len ir
      obtain ⟨X, hX⟩ : ∃ X : Ob, X = .row [bv qn, .tr sq2] 0 := ⟨_, rfl⟩
      obtain ⟨Y, hY⟩ : ∃ Y : Ob, Y = .row [bv false, .tr sr] 0 := ⟨_, rfl⟩
      have st1 : opStore 2 (.ptr σ.length 0 0) (.tr (.agg [.sc (.bool qn), sq2])) (σ ++ [.row [.tr (.sc (.bool false)), .tr (.sc (.slice none 0 0))] 0, .row [.tr (.sc (.bool false)), .tr (.sc (.slice none 0 0))] 0]) = some (σ ++ [X, .row [.tr (.sc (.bool false)), .tr (.sc (.slice none 0 0))] 0]) := by
        rw [st_row (a := bv false) (b := .tr (.sc (.slice none 0 0))) at_len oq2, hX]; simp
      have st2 : opStore 2 (.ptr (σ.length + 1) 0 0) (.tr (.agg [.sc (.bool false), sr])) (σ ++ [X, .row [.tr (.sc (.bool false)), .tr (.sc (.slice none 0 0))] 0]) = some (σ ++ [X, Y]) := by
        have h : (σ ++ [X, Ob.row [.tr (.sc (.bool false)), .tr (.sc (.slice none 0 0))] 0])[σ.length + 1]? = some (.row [.tr (.sc (.bool false)), .tr (.sc (.slice none 0 0))] 0) := by simp
        rw [st_row (a := bv false) (b := .tr (.sc (.slice none 0 0))) h or2, hY]; simp
      have la2 : opLoad 2 true (.ptr σ.length 0 0) (σ ++ [X, Y]) = some (.tr (.agg [.sc (.bool qn), sq2])) := ld_row (by rw [at_len, hX])
      have la3 : opLoad 1 false (.ptr (σ.length + 1) 0 1) (σ ++ [X, Y]) = some (.tr sr) := ld_row1 (a := bv false) (by rw [← hY]; simp)
      have st3 : opStore 2 (.ptr 1 0 0) (.tr (.agg [.sc (.bool qn), sq2])) (σ ++ [X, Y]) = some ((σ ++ [X, Y]).set 1 (.row [bv qn, .tr sq2] 0)) := st_row (push_at hs1) oq2
      obtain ⟨σ2, hσ2⟩ : ∃ σ2, σ2 = (σ ++ [X, Y]).set 1 (.row [bv qn, .tr sq2] 0) := ⟨_, rfl⟩
      rw [← hσ2] at st3
      have w5 : IntKind.i64.wrap ((i : Int) + 1) = ((i + 1 : Nat) : Int) := w64 (by omega) (by omega)
      simp [k7_16, h8, h1, hlt, k7_18, h6, h2, l1, l0', hc, opExtract, st1, st2, l0, hf, hfld, hkl, hkl0, k7_22, la3, hlr, k7_25, la2, st3, k7_26, w5, -Int.natCast_add]
      rw [hI]
      refine ⟨by omega, _, _, σ2, qn, sq2, rfl, ?_, ?_, by simp [h1], by simp [h2], by simp [h5], by simp [h6], by simp, ?_⟩
      · rw [hσ2]; exact set_at (push_at hs0) (by omega)
      · rw [hσ2]; exact set_same (push_at hs1)
      · rw [show n - (i + 1) = k by omega]
        exact num_le hqn (by omega)
  · have hie : i = n := by omega
    subst hie
    rw [Nat.sub_self, Int.pow_zero] at hnum
    obtain ⟨t1, ho, hr1⟩ := rof1
    have his := is_ok hnum hr1 (by omega) (by omega)
    have hpd : ∀ j, pendAll (callL T) j σ [⟨4, .load 2 true (.env 6), St.only ⟨e, [(70, bv true), (69, bv true)], σ⟩ [6, 70], .tr (.agg [.sc (.bool q), sq])⟩] = true := by
      intro j
      refine pend_one ⟨⟨σ, ?_⟩, eqV_num hnum⟩
      simp [St.only, St.get, lookOnly, h6, l1]
    simp [k7_16, h8, h1, k7_27, h5]
    refine (ops_holdG (h := 4) (by simp)).2 ?_
    simp [okB, h6, l1]
    refine (opsH_2G (by simp)).2 ⟨hpd _, ?_⟩
    simp [ho]
    refine (opsH_2G (by simp)).2 ⟨hpd _, ?_⟩
    simp [his]
    exact hpd _
end Go.Proofs.Ytjacddclpcelmaa.AM.Bi
