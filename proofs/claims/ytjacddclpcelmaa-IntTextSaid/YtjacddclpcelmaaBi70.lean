/- IntText: part 70. -/
import Derived.Test.YtjacddclpcelmaaBi69
set_option maxRecDepth 1000000
set_option linter.unusedVariables false
set_option linter.unusedSimpArgs false
namespace Go.Proofs.Ytjacddclpcelmaa.AM.Bi
open Go.Proofs

theorem rint64_ok {N : Nat} {z : Int} {ta : Tree} (ha : RInt N z ta) (la : N ≤ 10000) : ∃ t, (∀ σ, callL T 37 [.tr ta] σ = some (.tr t, σ)) ∧ I64R z t := by
  obtain ⟨lo, hlo, rlo⟩ := rof_ok (z := -9223372036854775808) (by omega) (by omega)
  obtain ⟨hi, hhi, rhi⟩ := rof_ok (z := 9223372036854775807) (by omega) (by omega)
  have c1 := fun σ => rCmp_ok ha rlo (by omega) (by omega) σ
  have c2 := fun σ => rCmp_ok ha rhi (by omega) (by omega) σ
  obtain ⟨_, slo, rfl, olo⟩ := rint_place rlo
  obtain ⟨_, shi, rfl, ohi⟩ := rint_place rhi
  obtain ⟨sa, rfl, l, hl, dl, cl, hv, hN⟩ := ha
  refine call_iso (ts := [.agg [.sc (.bool (decide (z < 0))), sa]]) T37 rfl rfl ?_
  have hln : ∀ σ, opLen 1 (.tr sa) σ = some (nv .i64 l.length) := fun σ => isSl_len hl
  obtain ⟨neg, hneg⟩ : ∃ neg, neg = decide (z < 0) := ⟨_, rfl⟩
  rw [← hneg] at c1 c2 ⊢
  have hz : z = sg neg (val 65536 l) := by
    unfold sg; rw [hneg, hv]
    by_cases h : z < 0 <;> simp [h] <;> omega
  have s1 : sgnI z (-9223372036854775808) < 0 ↔ z < -9223372036854775808 := by
    unfold sgnI; split <;> rename_i h
    · simp [h]
    · split <;> simp <;> omega
  have s2 : 0 < sgnI z 9223372036854775807 ↔ 9223372036854775807 < z := by
    unfold sgnI; split <;> rename_i h
    · simp; omega
    · split <;> simp <;> omega
  by_cases h1 : z < -9223372036854775808
  · simp [hlo, hhi, c1, c2, s1, s2, h1, opStore, obPut, opLoad, obCells, slice?, splice_all, olo, ohi, cells_one olo, cells_one ohi, mkTup]
    unfold I64R
    rw [if_neg (by omega)]
  · by_cases h2 : 9223372036854775807 < z
    · simp [hlo, hhi, c1, c2, s1, s2, h1, h2, opStore, obPut, opLoad, obCells, slice?, splice_all, olo, ohi, cells_one olo, cells_one ohi, mkTup]
      unfold I64R
      rw [if_neg (by omega)]
    · have hw : IntKind.i64.wrap ((l.length : Int) - 1) = (l.length : Int) - 1 := w64 (by omega) (by omega)
      simp [hlo, hhi, c1, c2, s1, s2, h1, h2, opStore, obPut, opLoad, obCells, slice?, splice_all, olo, ohi, cells_one olo, cells_one ohi, mkTup, k37_4, hln, hw]
      trace_state
      obtain ⟨I, hI⟩ : ∃ I : Nat → St → Prop, I = (fun r s => r ≤ l.length ∧ ∃ e L σ, s = ⟨e, L, σ⟩ ∧ look e 1 = some (.tr (.rptr [.sc (.bool neg), sa] 0)) ∧ look e 6 = some (iv (sg neg (val 65536 (l.drop r)))) ∧ look e 7 = some (iv ((r : Int) - 1))) := ⟨_, rfl⟩
      refine wpc_loop I l.length _ ?_ ?_
      · rw [hI]
        exact ⟨Nat.le_refl _, _, _, _, rfl, by simp, by simp [val, sg], by simp⟩
      intro r s hIs
      rw [hI] at hIs
      obtain ⟨hr, e, L, σ, rfl, g1, g6, g7⟩ := hIs
      by_cases hp : 0 < r
      · obtain ⟨r, rfl⟩ : ∃ m, r = m + 1 := ⟨r - 1, by omega⟩
        have hx : l[r]? = some l[r] := List.getElem?_eq_getElem (by omega)
        have bx : l[r] < 65536 := dig_at dl (by omega)
        obtain ⟨x, hxe⟩ : ∃ x, x = l[r] := ⟨_, rfl⟩
        have hdr : val 65536 (l.drop r) = x + 65536 * val 65536 (l.drop (r + 1)) := by
          rw [List.drop_eq_getElem_cons (by omega), ← hxe]; rfl
        rw [← hxe] at hx bx
        have hle : val 65536 (l.drop r) ≤ val 65536 l := by
          have h3 := val_take_drop 65536 r l (by omega)
          have h4 : 1 * val 65536 (l.drop r) ≤ 65536 ^ r * val 65536 (l.drop r) := Nat.mul_le_mul_right _ (Nat.pow_pos (by decide))
          omega
        have ee : ((r + 1 : Nat) : Int) - 1 = (r : Int) := by omega
        rw [ee] at g7
        have hr0 : (0 : Int) ≤ r := by omega
        have w5 : IntKind.i64.wrap ((r : Int) - 1) = (r : Int) - 1 := w64 (by omega) (by omega)
        obtain ⟨v, hvv⟩ : ∃ v, v = val 65536 (l.drop (r + 1)) := ⟨_, rfl⟩
        rw [← hvv] at hdr g6
        cases neg with
        | true =>
          have hz' : z = -(val 65536 l : Int) := hz
          have e1 : sg true v = -(v : Int) := rfl
          have w6 : IntKind.i64.wrap (-(v : Int) * 65536) = -(v : Int) * 65536 := w64 (by omega) (by omega)
          have w7 : IntKind.i64.wrap (-(v : Int) * 65536 - x) = sg true (val 65536 (l.drop r)) := by
            rw [w64 (by omega) (by omega), hdr]; unfold sg; simp; omega
          rw [e1] at g6
          simp [k37_7, g7, hr0, k37_9, g1, g6, sl_iaddr hl hx, sl_load hx, w6, w7, k37_11, w5]
          refine ⟨r, by omega, ?_⟩
          rw [hI]
          exact ⟨by omega, _, _, _, rfl, by simp [g1], by simp, by simp⟩
        | false =>
          have hz' : z = (val 65536 l : Int) := hz
          have e1 : sg false v = (v : Int) := rfl
          have w6 : IntKind.i64.wrap ((v : Int) * 65536) = (v : Int) * 65536 := w64 (by omega) (by omega)
          have w7 : IntKind.i64.wrap ((v : Int) * 65536 + x) = sg false (val 65536 (l.drop r)) := by
            rw [w64 (by omega) (by omega), hdr]; unfold sg; simp; omega
          rw [e1] at g6
          simp [k37_7, g7, hr0, k37_9, g1, g6, sl_iaddr hl hx, sl_load hx, w6, w7, k37_11, w5]
          refine ⟨r, by omega, ?_⟩
          rw [hI]
          exact ⟨by omega, _, _, _, rfl, by simp [g1], by simp, by simp⟩
      · have hr0 : r = 0 := by omega
        subst hr0
        rw [List.drop_zero, ← hz] at g6
        simp [k37_7, g7, k37_12, g6, mkTup]
        unfold I64R
        rw [if_pos (by omega)]
end Go.Proofs.Ytjacddclpcelmaa.AM.Bi
