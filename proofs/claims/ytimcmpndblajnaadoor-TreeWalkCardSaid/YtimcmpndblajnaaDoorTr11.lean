/- TreeWalk: part 11. -/
import Derived.Test.YtimcmpndblajnaaDoorTr10
set_option maxRecDepth 1000000
set_option linter.unusedVariables false
set_option linter.unusedSimpArgs false
namespace Go.Proofs.YtimcmpndblajnaaDoor.AM.Tr
open Go.Proofs

theorem dep14 : ∀ (n : Nat) (x : Nd) (q : Q), SizeOf.sizeOf x ≤ n → cnN x ≤ 1000 → NdQ x q → ∀ σ, callL T 14 [.tr (ag q)] σ = some (nv .i64 (dpN x), σ) := by
  intro n
  induction n with
  | zero => intro x q h; cases x; simp at h
  | succ n ih =>
    intro x q hn hx hq
    obtain ⟨k, a, s, ks⟩ := x
    obtain ⟨k, a, s, t⟩ := q
    simp only [NdQ] at hq
    obtain ⟨rfl, rfl, rfl, L, hL, hks⟩ := hq
    simp only [cnN] at hx
    suffices hh : ∃ r, (∀ σ, callL T 14 ([ag (k, a, s, t)].map .tr) σ = some (.tr r, σ)) ∧ (r = .sc (.int .i64 (dpL ks + 1 : Nat))) by
      obtain ⟨r, h1, rfl⟩ := hh
      exact h1
    refine call_iso T14 rfl rfl ?_
    have hlk := len_cnL ks
    have hl : ∀ σ, opLen 1 (.tr t) σ = some (nv .i64 ks.length) := fun σ => by rw [isSl_len hL, ndL_len hks]
    simp [bx4]
    obtain ⟨I, hI⟩ : ∃ I : Nat → St → Prop, I = (fun i st => i ≤ ks.length ∧ ∃ e L, st = ⟨e, L, []⟩ ∧ look e 1 = some (rp (k, a, s, t) 0) ∧ look e 3 = some (nv .i64 (dpL (ks.take i))) ∧ look e 4 = some (nv .i64 i)) := ⟨_, rfl⟩
    refine wpc_up ks.length I ?_ ?_
    · rw [hI]
      exact ⟨Nat.zero_le _, _, _, rfl, by simp, by simp [dpL], by simp⟩
    intro i st hIs
    rw [hI] at hIs
    obtain ⟨hi, e, Lc, rfl, g1, g3, g4⟩ := hIs
    by_cases hil : i < ks.length
    · obtain ⟨x, hx1⟩ : ∃ x, ks[i]? = some x := ⟨_, List.getElem?_eq_getElem hil⟩
      obtain ⟨qx, hqx, hqx2⟩ := ndL_at hks hx1
      have w1 : IntKind.i64.wrap ((i : Int) + 1) = ((i + 1 : Nat) : Int) := w64 (by omega) (by omega)
      have hia := fun σ => isSl_iaddr (σ := σ) (k := .i64) hL e4_len (by omega) hqx
      have hld := kid_at hqx
      have hcx := cnN_le hx1
      have hsz : SizeOf.sizeOf x ≤ n := by
        have := List.sizeOf_lt_of_mem (List.mem_of_getElem? hx1)
        simp at hn
        omega
      have hc := ih x qx hsz (by omega) hqx2
      have htk := dpL_take hx1
      have hle := cnL_le (ks := ks) (i := i + 1)
      by_cases hgt : dpL (ks.take i) < dpN x
      · have hgt' : ((dpL (ks.take i) : Nat) : Int) < ((dpN x : Nat) : Int) := by omega
        have htk2 : dpL (ks.take (i + 1)) = dpN x := by rw [htk]; exact Nat.max_eq_right (by omega)
        simp [k14_3, g4, g1, g3, fa43, ld43, hl, hil, k14_5, hia, hld, hc, hgt, hgt', k14_8, w1, -Int.natCast_add]
        rw [hI]
        exact ⟨by omega, _, _, rfl, by simp [g1], by rw [htk2]; simp, by simp⟩
      · have hgt' : ¬ ((dpL (ks.take i) : Nat) : Int) < ((dpN x : Nat) : Int) := by omega
        have htk2 : dpL (ks.take (i + 1)) = dpL (ks.take i) := by rw [htk]; exact Nat.max_eq_left (by omega)
        simp [k14_3, g4, g1, g3, fa43, ld43, hl, hil, k14_5, hia, hld, hc, hgt, hgt', k14_8, w1, -Int.natCast_add]
        rw [hI]
        exact ⟨by omega, _, _, rfl, by simp [g1], by rw [htk2]; simp [g3], by simp⟩
    · have hie : i = ks.length := by omega
      subst hie
      rw [List.take_length] at g3
      have hdc := dpl_cn ks
      have w3 : IntKind.i64.wrap (((dpL ks : Nat) : Int) + 1) = ((dpL ks + 1 : Nat) : Int) := by rw [w64 (by omega) (by omega)]; omega
      simp [k14_3, g4, g1, g3, fa43, ld43, hl, k14_9, w3, -Int.natCast_add]
      try omega
theorem dep13 : ∀ (n : Nat) (x : Nd) (q : Q), SizeOf.sizeOf x ≤ n → cnN x ≤ 1000 → NdQ x q → ∀ σ, callL T 13 [.tr (ag q)] σ = some (nv .i64 (dpN x), σ) := by
  intro n
  induction n with
  | zero => intro x q h; cases x; simp at h
  | succ n ih =>
    intro x q hn hx hq
    obtain ⟨k, a, s, ks⟩ := x
    obtain ⟨k, a, s, t⟩ := q
    simp only [NdQ] at hq
    obtain ⟨rfl, rfl, rfl, L, hL, hks⟩ := hq
    simp only [cnN] at hx
    suffices hh : ∃ r, (∀ σ, callL T 13 ([ag (k, a, s, t)].map .tr) σ = some (.tr r, σ)) ∧ (r = .sc (.int .i64 (dpL ks + 1 : Nat))) by
      obtain ⟨r, h1, rfl⟩ := hh
      exact h1
    refine call_iso T13 rfl rfl ?_
    have hlk := len_cnL ks
    have hl : ∀ σ, opLen 1 (.tr t) σ = some (nv .i64 ks.length) := fun σ => by rw [isSl_len hL, ndL_len hks]
    simp [bx4, fa43, ld43, hl]
    obtain ⟨I, hI⟩ : ∃ I : Nat → St → Prop, I = (fun i st => i ≤ ks.length ∧ ∃ e L σ, st = ⟨e, L, σ⟩ ∧ look e 7 = some (.tr t) ∧ look e 8 = some (nv .i64 ks.length) ∧ look e 3 = some (nv .i64 (dpL (ks.take i))) ∧ look e 9 = some (nv .i64 i)) := ⟨_, rfl⟩
    refine wpc_up ks.length I ?_ ?_
    · rw [hI]
      exact ⟨Nat.zero_le _, _, _, [], rfl, by simp, by simp, by simp [dpL], by simp⟩
    intro i st hIs
    rw [hI] at hIs
    obtain ⟨hi, e, Lc, σ, rfl, g7, g8, g3, g9⟩ := hIs
    by_cases hil : i < ks.length
    · obtain ⟨x, hx1⟩ : ∃ x, ks[i]? = some x := ⟨_, List.getElem?_eq_getElem hil⟩
      obtain ⟨qx, hqx, hqx2⟩ := ndL_at hks hx1
      have w1 : IntKind.i64.wrap ((i : Int) + 1) = ((i + 1 : Nat) : Int) := w64 (by omega) (by omega)
      have hia := fun σ => isSl_iaddr (σ := σ) (k := .i64) hL e4_len (by omega) hqx
      have hld := kid_at hqx
      have hcx := cnN_le hx1
      have hsz : SizeOf.sizeOf x ≤ n := by
        have := List.sizeOf_lt_of_mem (List.mem_of_getElem? hx1)
        simp at hn
        omega
      have hc := ih x qx hsz (by omega) hqx2
      have htk := dpL_take hx1
      have hle := cnL_le (ks := ks) (i := i + 1)
      have w2 : minmaxAll true (nv .i64 (dpL (ks.take i))) [nv .i64 (dpN x)] = some (nv .i64 (dpL (ks.take (i + 1)))) := by
        rw [htk]
        by_cases h : dpL (ks.take i) < dpN x
        · have h' : ((dpN x : Nat) : Int) > ((dpL (ks.take i) : Nat) : Int) := by omega
          rw [Nat.max_eq_right (by omega)]
          simp only [minmaxAll, opMinMax, if_true, if_pos h']; rfl
        · have h' : ¬ ((dpN x : Nat) : Int) > ((dpL (ks.take i) : Nat) : Int) := by omega
          rw [Nat.max_eq_left (by omega)]
          simp only [minmaxAll, opMinMax, if_true, if_neg h']; rfl
      obtain ⟨σ1, hσ1⟩ : ∃ σ1, σ1 = σ ++ [Ob.row (z4.map .tr) 0] := ⟨_, rfl⟩
      have al : opAlloc z4 σ = some (.ptr σ.length 0 0, σ1) := by rw [hσ1]; rfl
      have st := st4T (σ := σ1) (n := σ.length) (C := z4.map .tr) (by rw [hσ1, List.getElem?_append_right (Nat.le_refl _)]; simp) rfl hqx2
      obtain ⟨σ2, hσ2⟩ : ∃ σ2, σ2 = σ1.set σ.length (.row ((e4 qx).map .tr) 0) := ⟨_, rfl⟩
      rw [← hσ2] at st
      have lq : opLoad 4 true (.ptr σ.length 0 0) σ2 = some (.tr (ag qx)) := (ld_4 (c := (qx.1, qx.2.1, qx.2.2.1, .tr qx.2.2.2)) (by rw [hσ2, List.getElem?_set_self (by rw [hσ1]; simp)]; rfl)).trans rfl
      simp [-opAlloc, k13_3, g9, g7, g8, g3, hil, k13_5, hia, hld, al, st, lq, hc, w1, w2, -Int.natCast_add]
      rw [hI]
      exact ⟨by omega, _, _, σ2, rfl, by simp [g7], by simp [g8], by simp, by simp⟩
    · have hie : i = ks.length := by omega
      subst hie
      rw [List.take_length] at g3
      have hdc := dpl_cn ks
      have w3 : IntKind.i64.wrap (((dpL ks : Nat) : Int) + 1) = ((dpL ks + 1 : Nat) : Int) := by rw [w64 (by omega) (by omega)]; omega
      simp [k13_3, g9, g8, g3, k13_6, w3, -Int.natCast_add]
      try omega
end Go.Proofs.YtimcmpndblajnaaDoor.AM.Tr
