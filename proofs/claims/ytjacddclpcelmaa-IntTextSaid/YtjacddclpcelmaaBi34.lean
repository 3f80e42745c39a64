/- IntText: part 34. -/
import Derived.Test.YtjacddclpcelmaaBi33
import Derived.Test.YtjacddclpcelmaaBi23
set_option maxRecDepth 1000000
set_option linter.unusedVariables false
set_option linter.unusedSimpArgs false
namespace Go.Proofs.Ytjacddclpcelmaa.AM.Bi
open Go.Proofs

theorem rint_flag {N n k : Nat} {z : Int} {f b : Bool} {s : Tree} (h : NatSl N n s) (hk : 0 < k ↔ 0 < n) (hz : z = sg f n) (hb : b = (f && decide (0 < k))) : RInt N z (.agg [.sc (.bool b), s]) := by
  subst hb
  cases f with
  | false => exact rint_mk (neg := false) h (by rw [hz]; rfl) (by intro h; cases h)
  | true =>
    by_cases h0 : 0 < n
    · have hk' := hk.2 h0
      have e : (true && decide (0 < k)) = true := by simp [hk']
      rw [e]
      exact rint_mk (neg := true) h (by rw [hz]; rfl) (fun _ => h0)
    · have hn : n = 0 := by omega
      subst hn
      have e : (true && decide (0 < k)) = false := by simp; omega
      rw [e]
      exact rint_mk (neg := false) h (by rw [hz]; rfl) (by intro h; cases h)

/-- What the reference's Quo gives. -/
def RQuoR (N : Nat) (x y : Int) (t : Tree) : Prop := ∃ q r, t = .tup [q, r] ∧ RInt (N + 1) (x.tdiv y) q ∧ RInt (N + 1) (x.tmod y) r
theorem rQuo_ok {N M : Nat} {x y : Int} {ta tb : Tree} (ha : RInt N x ta) (hb : RInt M y tb) (hy : y ≠ 0) (la : N ≤ 9000) (lb : M ≤ 9000) :
    ∃ t, (∀ σ, callL T 27 [.tr ta, .tr tb] σ = some (.tr t, σ)) ∧ RQuoR N x y t := by
  obtain ⟨sa, rfl, na⟩ := ha
  obtain ⟨sb, rfl, nb⟩ := hb
  refine call_iso (ts := [.agg [.sc (.bool (decide (x < 0))), sa], .agg [.sc (.bool (decide (y < 0))), sb]]) T27 rfl rfl ?_
  obtain ⟨p, hp⟩ : ∃ p, p = decide (x < 0) := ⟨_, rfl⟩
  obtain ⟨q, hq⟩ : ∃ q, q = decide (y < 0) := ⟨_, rfl⟩
  rw [← hp, ← hq]
  have hx : x = sg p x.natAbs := by unfold sg; rw [hp]; by_cases h : x < 0 <;> simp [h] <;> omega
  have hyy : y = sg q y.natAbs := by unfold sg; rw [hq]; by_cases h : y < 0 <;> simp [h] <;> omega
  have hy0 : y.natAbs ≠ 0 := by omega
  obtain ⟨t, hc, tq, tr, rfl, nq, nr⟩ := rquo_ok na nb hy0 la lb
  have hd : x.tdiv y = sg (!(p == q)) (x.natAbs / y.natAbs) := by rw [sg_div, ← hx, ← hyy]
  have hr : x.tmod y = sg p (x.natAbs % y.natAbs) := by rw [sg_mod (y := q) (n := y.natAbs), ← hx, ← hyy]
  obtain ⟨k1, hl1, hk1, _⟩ := nat_len nq
  obtain ⟨k2, hl2, hk2, _⟩ := nat_len nr
  have o1 := nat_one nq
  have o2 := nat_one nr
  have fin : ∀ b1 b2, b1 = (!(p == q) && decide (0 < k1)) → b2 = (p && decide (0 < k2)) → RQuoR N x y (.tup [.agg [.sc (.bool b1), tq], .agg [.sc (.bool b2), tr]]) := by
    intro b1 b2 h1 h2
    exact ⟨_, _, rfl, rint_flag nq hk1 hd h1, rint_flag nr hk2 hr h2⟩
  clear hp hq hx hyy hd hr
  cases p <;> cases q <;> simp [hc, opExtract, hl1, hl2, cells_one o1, cells_one o2, o1, o2, opStore, obPut, opLoad, obCells, slice?, splice_all, mkTup] <;> exact fin _ _ (by simp) (by simp)
end Go.Proofs.Ytjacddclpcelmaa.AM.Bi
