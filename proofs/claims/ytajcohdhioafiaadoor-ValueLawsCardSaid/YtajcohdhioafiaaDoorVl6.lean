/- ValueLaws: part 6. -/
import Derived.Test.YtajcohdhioafiaaDoorVl5
set_option maxRecDepth 1000000
set_option linter.unusedVariables false
set_option linter.unusedSimpArgs false
namespace Go.Proofs.YtajcohdhioafiaaDoor.AM.Vl
open Go.Proofs
theorem ext0 (n : Int) (e : List UInt8) : opExtract (pr n e) 0 = some (iv n) := rfl
theorem ext1 (n : Int) (e : List UInt8) : opExtract (pr n e) 1 = some (sv e) := rfl
/-- The law answers true. -/
theorem law_values (l : List UInt8) (a b : Int) (ha : i64in a) (hb : i64in b) : ∃ v σ', callL T 4 [sv l, iv a, iv b] [] = some (v, σ') ∧ v = .tr (.sc (.bool true)) := by
  refine call_shared T4 rfl rfl ?_
  have hbeg := begun
  by_cases h : isName l = true
  · have e1 := int_add h
    have e2 := int_sub h
    have e3 := int_mul h
    have e4 := int_xor h
    have hw := wrap_ok l
    have hs := law_sum h ha hb
    have hc : l = [105, 110, 116] ∨ l = [105, 110, 116, 56] ∨ l = [117, 105, 110, 116, 56] ∨ l = [117, 105, 110, 116] := by
      simp only [isName, Bool.or_eq_true, decide_eq_true_eq] at h
      rcases h with ((rfl | rfl) | rfl) | rfl
      · exact .inl rfl
      · exact .inr (.inl rfl)
      · exact .inr (.inr (.inl rfl))
      · exact .inr (.inr (.inr rfl))
    by_cases h0 : wr l b = 0
    · have d1 := fun σ => int_div0 h a b σ true h0
      have d2 := fun σ => int_div0 h a b σ false h0
      simp only [if_true, Bool.false_eq_true, if_false] at d1 d2
      simp only [h0, Int.add_zero, Int.sub_zero] at hs
      clear h ha hb
      rcases hc with rfl | rfl | rfl | rfl <;>
      simp [hbeg, bytesEq_iff', e1, e2, e3, e4, d1, d2, ext0, ext1, k4_5, k4_13, hw, hs, h0, divide]
    · have hu := u_ne (wr_in hb) h0
      have d1 := fun σ => int_div h a b σ true h0 hu
      have d2 := fun σ => int_div h a b σ false h0 hu
      have hq := law_quo h ha hb h0
      simp only [if_true, Bool.false_eq_true, if_false] at d1 d2
      generalize quoV true (decide (l = nUint)) (wr l a) (wr l b) = Q at *
      generalize quoV false (decide (l = nUint)) (wr l a) (wr l b) = R at *
      clear h ha hb
      rcases hc with rfl | rfl | rfl | rfl <;>
      simp [hbeg, bytesEq_iff', e1, e2, e3, e4, d1, d2, ext0, ext1, k4_5, k4_13, k4_16, hw, hs, h0, hq]
  · have h' : isName l = false := by simpa using h
    have e1 := int_out h'
    simp only [isName, Bool.or_eq_false_iff, decide_eq_false_iff_not, nInt, nI8, nU8, nUint] at h'
    obtain ⟨⟨⟨h1, h2⟩, h3⟩, h4⟩ := h'
    replace h1 := of_decide_eq_false h1
    replace h2 := of_decide_eq_false h2
    replace h3 := of_decide_eq_false h3
    replace h4 := of_decide_eq_false h4
    simp [hbeg, bytesEq_iff', e1, ext0, ext1, h1, h2, h3, h4, bad]
end Go.Proofs.YtajcohdhioafiaaDoor.AM.Vl
