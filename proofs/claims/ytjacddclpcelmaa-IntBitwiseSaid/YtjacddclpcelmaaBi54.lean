/- IntBitwise: part 54. -/
import Derived.Test.YtjacddclpcelmaaBi53
set_option maxRecDepth 1000000
set_option linter.unusedVariables false
set_option linter.unusedSimpArgs false
namespace Go.Proofs.Ytjacddclpcelmaa.AM.Bi
open Go.Proofs

theorem eqV_nat {N n : Nat} {b : Bool} {s : Tree} (h : NatSl N n s) : eqV (.tr (.agg [.sc (.bool b), s])) (.tr (.agg [.sc (.bool b), s])) = true := by
  obtain ⟨l, is, _⟩ := h
  have h1 : eqT s s = true := by
    rcases is with ⟨_, h⟩ | ⟨c, h⟩ <;> cases h
    · rfl
    · show (Nat.beq l.length l.length && eqO c c && eqTL (l.flatMap iE) (l.flatMap iE)) = true
      rw [eqTL_flat, Nat.beq_refl]
      cases c with
      | none => rfl
      | some c => show (true && Nat.beq c c && true) = true; rw [Nat.beq_refl]; rfl
  show (eqT (.sc (.bool b)) (.sc (.bool b)) && (eqT s s && true)) = true
  rw [h1]
  cases b <;> rfl

/-- The answer out of its bits. -/
theorem rbw_end {d : List Nat} {D m g : Nat} {P Q : Ob} {e L : List (Nat × V)} (dd : dig 65536 d) (dv : val 65536 d = D) (dl : d.length ≤ 6000) (hm : m ≤ 80000) (hD : D < 2 ^ (m + 1))
    (h6 : look e 6 = some (.ptr 0 0 0)) (h8 : look e 8 = some (nv .i64 (m + 1))) (h11 : look e 11 = some (.own 3 g 0 d.length 1 none)) :
    wpc T k29_26 ⟨e, L, [.row [.tr (.sc (.bool false)), .tr (.sc (.slice none 0 0))] 0, P, Q, .row (cK .i64 d) g]⟩ (giv [.cell 6 2 true, .tmp 7] fun v σ' => ∃ r M, v = .tr (.tup [r, .sc (.bool true)]) ∧ M ≤ 9000 ∧ RInt M (sgnd m D) r) := by
  obtain ⟨S0, hS0⟩ : ∃ S0 : Ob, S0 = .row [.tr (.sc (.bool false)), .tr (.sc (.slice none 0 0))] 0 := ⟨_, rfl⟩
  rw [← hS0]
  obtain ⟨r, σ', htr, hn, hσ⟩ := rtrim_own (σ := [S0, P, Q, .row (cK .i64 d) g]) (id := 3) (g := g) (n := d.length) (cap := none) rfl rfl dd (by omega)
  obtain ⟨Z, hZ⟩ : ∃ Z, σ' = [S0, P, Q, Z] := by rcases hσ with rfl | rfl <;> exact ⟨_, rfl⟩
  subst hZ
  rw [dv] at hn
  have or := nat_one hn
  have hR : RInt d.length (D : Int) (.agg [.sc (.bool false), r]) := rint_mk (neg := false) hn (by simp) (by intro h; cases h)
  have hbit := bit_ok hn (by omega) m (by omega)
  rw [← bit_div] at hbit
  have w1 : IntKind.i64.wrap (((m + 1 : Nat) : Int) - 1) = (m : Int) := by rw [w64 (by omega) (by omega)]; omega
  obtain ⟨p, hp, hpr⟩ := power2_ok (m + 1) (by omega)
  obtain ⟨r2, hsub, nr2⟩ := rSub_ok hR hpr (by omega) (by omega)
  obtain ⟨S, hS⟩ : ∃ S : Store, S = [S0, P, Q, Z, .row [bv false, .tr r] 0] := ⟨_, rfl⟩
  have hS4 : S[4]? = some (.row [bv false, .tr r] 0) := by rw [hS]; rfl
  have hSz : S[0]? = some S0 := by rw [hS]; rfl
  have hal : opStore 2 (.ptr 4 0 0) (.tr (.agg [.sc (.bool false), r])) [S0, P, Q, Z, .row [.tr (.sc (.bool false)), .tr (.sc (.slice none 0 0))] 0] = some S := by
    rw [st_row (a := .tr (.sc (.bool false))) (b := .tr (.sc (.slice none 0 0))) rfl or, hS]; rfl
  have hld1 : opLoad 1 false (.ptr 4 0 1) S = some (.tr r) := ld_row1 hS4
  have hld : opLoad 2 true (.ptr 4 0 0) S = some (.tr (.agg [.sc (.bool false), r])) := ld_row hS4
  by_cases hb : D.testBit m = true
  · have hsg : sgnd m D = (D : Int) - ((2 ^ (m + 1) : Nat) : Int) := by unfold sgnd; rw [if_pos hb]
    rw [← hsg] at nr2
    obtain ⟨ng, s2, rfl, o2⟩ := rint_place nr2
    rw [hb] at hbit
    have hst2 : opStore 2 (.ptr 4 0 0) (.tr (.agg [.sc (.bool ng), s2])) S = some (S.set 4 (.row [bv ng, .tr s2] 0)) := st_row hS4 o2
    obtain ⟨S2, hS2⟩ : ∃ S2, S2 = S.set 4 (.row [bv ng, .tr s2] 0) := ⟨_, rfl⟩
    rw [← hS2] at hst2
    have hld2 : opLoad 2 true (.ptr 4 0 0) S2 = some (.tr (.agg [.sc (.bool ng), s2])) := ld_row (by rw [hS2]; exact set_same hS4)
    have hz2 : S2[0]? = some (.row [.tr (.sc (.bool false)), .tr (.sc (.slice none 0 0))] 0) := by rw [hS2, set_at hSz (by omega), hS0]
    have hst3 : opStore 2 (.ptr 0 0 0) (.tr (.agg [.sc (.bool ng), s2])) S2 = some (S2.set 0 (.row [bv ng, .tr s2] 0)) := st_row hz2 o2
    have hld3 : opLoad 2 true (.ptr 0 0 0) (S2.set 0 (.row [bv ng, .tr s2] 0)) = some (.tr (.agg [.sc (.bool ng), s2])) := ld_row (set_same hz2)
    simp [k29_26, h11, htr, or, cells_one or, hal, hld1, h8, w1, hbit, -Int.natCast_add]
    have hpd : ∀ j, pendAll (callL T) j S [⟨3, .load 2 true (.env 16), St.only ⟨put e 16 (.ptr 4 0 0), [], S⟩ [16], .tr (.agg [.sc (.bool false), r])⟩] = true := by
      intro j
      refine pend_one ⟨⟨S, ?_⟩, eqV_nat hn⟩
      simp [St.only, St.get, lookOnly, hld]
    refine (ops_hold (h := 3)).2 ?_
    simp [okB, hld, hpd, h8, hp, hsub, hst2, k29_29, hld2, h6, hst3, hld3, mkTup, -Int.natCast_add]
    exact ⟨rfl, _, by omega, nr2⟩
  · have hb' : D.testBit m = false := by simpa using hb
    have hsg : sgnd m D = (D : Int) := by unfold sgnd; rw [if_neg hb]
    rw [hb'] at hbit
    have hz2 : S[0]? = some (.row [.tr (.sc (.bool false)), .tr (.sc (.slice none 0 0))] 0) := by rw [hSz, hS0]
    have hst3 : opStore 2 (.ptr 0 0 0) (.tr (.agg [.sc (.bool false), r])) S = some (S.set 0 (.row [bv false, .tr r] 0)) := st_row hz2 or
    have hld3 : opLoad 2 true (.ptr 0 0 0) (S.set 0 (.row [bv false, .tr r] 0)) = some (.tr (.agg [.sc (.bool false), r])) := ld_row (set_same hz2)
    simp [k29_26, h11, htr, or, cells_one or, hal, hld1, h8, w1, hbit, k29_29, hld, h6, hst3, hld3, mkTup, -Int.natCast_add]
    rw [hsg]
    exact ⟨d.length, by omega, hR⟩
end Go.Proofs.Ytjacddclpcelmaa.AM.Bi
