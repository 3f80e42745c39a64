/- TreeWalk: part 3. -/
import Derived.Test.YtimcmpndblajnaaDoorTr2
set_option maxRecDepth 1000000
set_option linter.unusedVariables false
set_option linter.unusedSimpArgs false
namespace Go.Proofs.YtimcmpndblajnaaDoor.AM.Tr
open Go.Proofs

theorem bin_streq (s t : S) : opBin .other .neq (.tr (.sc (.string ⟨⟨s⟩⟩))) (.tr (.sc (.string ⟨⟨t⟩⟩))) = some (.tr (.sc (.bool (!decide (s = t))))) := by rw [bin_strne]; simp [bytesEq_iff']
theorem eq15 : ∀ (n : Nat) (x y : Nd) (q q' : Q), SizeOf.sizeOf x ≤ n → smN x → smN y → NdQ x q → NdQ y q' → ∀ σ, callL T 15 [.tr (ag q), .tr (ag q')] σ = some (.tr (.sc (.bool (eqN x y))), σ) := by
  intro n
  induction n with
  | zero => intro x y q q' h; cases x; simp at h
  | succ n ih =>
    intro x y q q' hn hx hy hq hq'
    obtain ⟨k, a, s, ks⟩ := x
    obtain ⟨k', a', s', ks'⟩ := y
    obtain ⟨k, a, s, t⟩ := q
    obtain ⟨k', a', s', t'⟩ := q'
    simp only [NdQ] at hq hq'
    obtain ⟨rfl, rfl, rfl, L, hL, hks⟩ := hq
    obtain ⟨rfl, rfl, rfl, L', hL', hks'⟩ := hq'
    simp only [smN] at hx hy
    suffices hh : ∃ r, (∀ σ, callL T 15 ([ag (k, a, s, t), ag (k', a', s', t')].map .tr) σ = some (.tr r, σ)) ∧ (r = .sc (.bool (eqN (.mk k a s ks) (.mk k' a' s' ks')))) by
      obtain ⟨r, h1, rfl⟩ := hh
      exact h1
    refine call_iso T15 rfl rfl ?_
    have hl : ∀ σ, opLen 1 (.tr t) σ = some (nv .i64 ks.length) := fun σ => by rw [isSl_len hL, ndL_len hks]
    have hl' : ∀ σ, opLen 1 (.tr t') σ = some (nv .i64 ks'.length) := fun σ => by rw [isSl_len hL', ndL_len hks']
    by_cases hk : k = k'
    · by_cases hs : s = s'
      · by_cases hlen : ks.length = ks'.length
        · subst hk
          subst hs
          rw [← hlen] at hl'
          have hev : eqN (.mk k a s ks) (.mk k a' s ks') = eqL ks ks' := by simp [eqN, hlen]
          rw [hev]
          have hxl : ∀ x ∈ ks, SizeOf.sizeOf x ≤ n := by
            intro x hx
            have := List.sizeOf_lt_of_mem hx
            simp at hn
            omega
          simp [bx4, fa40, fa42, fa43, ld40, ld42, ld43, bin_streq, -bin_strne, hl, hl', k15_3]
          obtain ⟨I, hI⟩ : ∃ I : Nat → St → Prop, I = (fun i st => i ≤ ks.length ∧ (∀ (j : Nat) x y, j < i → ks[j]? = some x → ks'[j]? = some y → eqN x y = true) ∧ ∃ e L, st = ⟨e, L, []⟩ ∧ look e 2 = some (rp (k, a, s, t) 0) ∧ look e 3 = some (rp (k, a', s, t') 0) ∧ look e 29 = some (nv .i64 ks.length) ∧ look e 30 = some (nv .i64 i)) := ⟨_, rfl⟩
          refine wpc_up ks.length I ?_ ?_
          · rw [hI]
            exact ⟨Nat.zero_le _, fun j x y h => absurd h (Nat.not_lt_zero _), _, _, rfl, by simp, by simp, by simp, by simp⟩
          intro i st hIs
          rw [hI] at hIs
          obtain ⟨hi, hall, e, L, rfl, g2, g3, g29, g30⟩ := hIs
          by_cases hil : i < ks.length
          · obtain ⟨x, hx1⟩ : ∃ x, ks[i]? = some x := ⟨_, List.getElem?_eq_getElem hil⟩
            obtain ⟨y, hy1⟩ : ∃ y, ks'[i]? = some y := ⟨_, List.getElem?_eq_getElem (by omega)⟩
            obtain ⟨qx, hqx, hqx2⟩ := ndL_at hks hx1
            obtain ⟨qy, hqy, hqy2⟩ := ndL_at hks' hy1
            have w1 : IntKind.i64.wrap ((i : Int) + 1) = ((i + 1 : Nat) : Int) := w64 (by omega) (by omega)
            have hia := fun σ => isSl_iaddr (σ := σ) (k := .i64) hL e4_len (by omega) hqx
            have hia' := fun σ => isSl_iaddr (σ := σ) (k := .i64) hL' e4_len (by omega) hqy
            have hld : ∀ σ, opLoad 4 true (.tr (.rptr (List.flatMap e4 _) (i * 4))) σ = some (.tr (ag qx)) := fun σ => (rptr_load0 (l := _) e4_len hqx (by omega)).trans rfl
            have hld' : ∀ σ, opLoad 4 true (.tr (.rptr (List.flatMap e4 _) (i * 4))) σ = some (.tr (ag qy)) := fun σ => (rptr_load0 (l := _) e4_len hqy (by omega)).trans rfl
            have hc := ih x y qx qy (hxl x (List.mem_of_getElem? hx1)) (smL_at hx.2 (List.mem_of_getElem? hx1)) (smL_at hy.2 (List.mem_of_getElem? hy1)) hqx2 hqy2
            cases he : eqN x y with
            | true =>
              rw [he] at hc
              simp [k15_5, g29, g30, hl, fa43, ld43, lt43, hil, k15_7, g2, g3, hia, hia', hld, hld', hc, k15_11, w1, -Int.natCast_add]
              rw [hI]
              refine ⟨by omega, fun j u v hj hu hv => ?_, _, _, rfl, by simp [g2], by simp [g3], by simp [g29], by simp⟩
              by_cases hji : j = i
              · subst hji
                rw [hx1] at hu; rw [hy1] at hv
                cases hu; cases hv; exact he
              · exact hall j u v (by omega) hu hv
            | false =>
              rw [he] at hc
              have hf : eqL ks ks' = false := by
                cases h : eqL ks ks' with
                | false => rfl
                | true => rw [eqL_iff.1 h i x y hx1 hy1] at he; cases he
              simp [k15_5, g29, g30, hl, fa43, ld43, lt43, hil, k15_7, g2, g3, hia, hia', hld, hld', hc, hf]
          · have hie : i = ks.length := by omega
            subst hie
            have hf : eqL ks ks' = true := eqL_iff.2 fun j u v hu hv => hall j u v (List.getElem?_eq_some_iff.1 hu).1 hu hv
            simp [k15_5, g29, g30, hl, g2, fa43, ld43, k15_12, hf]
        · have hev : eqN (.mk k a s ks) (.mk k' a' s' ks') = false := by simp [eqN, hlen]
          rw [hev]
          simp [bx4, fa40, fa42, fa43, ld40, ld42, ld43, bin_streq, -bin_strne, hl, hl', hk, hs, hlen]
      · have hev : eqN (.mk k a s ks) (.mk k' a' s' ks') = false := by simp [eqN, hs]
        rw [hev]
        simp [bx4, fa40, fa42, fa43, ld40, ld42, ld43, bin_streq, -bin_strne, hl, hl', hk, hs]
    · have hev : eqN (.mk k a s ks) (.mk k' a' s' ks') = false := by simp [eqN, hk]
      rw [hev]
      simp [bx4, fa40, fa42, fa43, ld40, ld42, ld43, bin_streq, -bin_strne, hl, hl', hk]
theorem eq10 : ∀ (n : Nat) (x y : Nd) (q q' : Q), SizeOf.sizeOf x ≤ n → smN x → smN y → NdQ x q → NdQ y q' → ∀ σ, callL T 10 [.tr (ag q), .tr (ag q')] σ = some (.tr (.sc (.bool (eqN x y))), σ) := by
  intro n
  induction n with
  | zero => intro x y q q' h; cases x; simp at h
  | succ n ih =>
    intro x y q q' hn hx hy hq hq'
    obtain ⟨k, a, s, ks⟩ := x
    obtain ⟨k', a', s', ks'⟩ := y
    obtain ⟨k, a, s, t⟩ := q
    obtain ⟨k', a', s', t'⟩ := q'
    simp only [NdQ] at hq hq'
    obtain ⟨rfl, rfl, rfl, L, hL, hks⟩ := hq
    obtain ⟨rfl, rfl, rfl, L', hL', hks'⟩ := hq'
    simp only [smN] at hx hy
    suffices hh : ∃ r, (∀ σ, callL T 10 ([ag (k, a, s, t), ag (k', a', s', t')].map .tr) σ = some (.tr r, σ)) ∧ (r = .sc (.bool (eqN (.mk k a s ks) (.mk k' a' s' ks')))) by
      obtain ⟨r, h1, rfl⟩ := hh
      exact h1
    refine call_iso T10 rfl rfl ?_
    have hl : ∀ σ, opLen 1 (.tr t) σ = some (nv .i64 ks.length) := fun σ => by rw [isSl_len hL, ndL_len hks]
    have hl' : ∀ σ, opLen 1 (.tr t') σ = some (nv .i64 ks'.length) := fun σ => by rw [isSl_len hL', ndL_len hks']
    by_cases hk : k = k'
    · by_cases hs : s = s'
      · by_cases hlen : ks.length = ks'.length
        · subst hk
          subst hs
          rw [← hlen] at hl'
          have hev : eqN (.mk k a s ks) (.mk k a' s ks') = eqL ks ks' := by simp [eqN, hlen]
          rw [hev]
          have hxl : ∀ x ∈ ks, SizeOf.sizeOf x ≤ n := by
            intro x hx
            have := List.sizeOf_lt_of_mem hx
            simp at hn
            omega
          simp [bx4, fa40, fa42, fa43, ld40, ld42, ld43, bin_streq, -bin_strne, hl, hl', k10_3]
          obtain ⟨I, hI⟩ : ∃ I : Nat → St → Prop, I = (fun i st => i ≤ ks.length ∧ (∀ (j : Nat) x y, j < i → ks[j]? = some x → ks'[j]? = some y → eqN x y = true) ∧ ∃ e L, st = ⟨e, L, []⟩ ∧ look e 2 = some (rp (k, a, s, t) 0) ∧ look e 3 = some (rp (k, a', s, t') 0) ∧ look e 5 = some (nv .i64 i)) := ⟨_, rfl⟩
          refine wpc_up ks.length I ?_ ?_
          · rw [hI]
            exact ⟨Nat.zero_le _, fun j x y h => absurd h (Nat.not_lt_zero _), _, _, rfl, by simp, by simp, by simp⟩
          intro i st hIs
          rw [hI] at hIs
          obtain ⟨hi, hall, e, L, rfl, g2, g3, g5⟩ := hIs
          by_cases hil : i < ks.length
          · obtain ⟨x, hx1⟩ : ∃ x, ks[i]? = some x := ⟨_, List.getElem?_eq_getElem hil⟩
            obtain ⟨y, hy1⟩ : ∃ y, ks'[i]? = some y := ⟨_, List.getElem?_eq_getElem (by omega)⟩
            obtain ⟨qx, hqx, hqx2⟩ := ndL_at hks hx1
            obtain ⟨qy, hqy, hqy2⟩ := ndL_at hks' hy1
            have w1 : IntKind.i64.wrap ((i : Int) + 1) = ((i + 1 : Nat) : Int) := w64 (by omega) (by omega)
            have hia := fun σ => isSl_iaddr (σ := σ) (k := .i64) hL e4_len (by omega) hqx
            have hia' := fun σ => isSl_iaddr (σ := σ) (k := .i64) hL' e4_len (by omega) hqy
            have hld : ∀ σ, opLoad 4 true (.tr (.rptr (List.flatMap e4 _) (i * 4))) σ = some (.tr (ag qx)) := fun σ => (rptr_load0 (l := _) e4_len hqx (by omega)).trans rfl
            have hld' : ∀ σ, opLoad 4 true (.tr (.rptr (List.flatMap e4 _) (i * 4))) σ = some (.tr (ag qy)) := fun σ => (rptr_load0 (l := _) e4_len hqy (by omega)).trans rfl
            have hc := ih x y qx qy (hxl x (List.mem_of_getElem? hx1)) (smL_at hx.2 (List.mem_of_getElem? hx1)) (smL_at hy.2 (List.mem_of_getElem? hy1)) hqx2 hqy2
            cases he : eqN x y with
            | true =>
              rw [he] at hc
              simp [k10_5, g5, hl, fa43, ld43, lt43, hil, k10_7, g2, g3, hia, hia', hld, hld', hc, k10_10, w1, -Int.natCast_add]
              rw [hI]
              refine ⟨by omega, fun j u v hj hu hv => ?_, _, _, rfl, by simp [g2], by simp [g3], by simp⟩
              by_cases hji : j = i
              · subst hji
                rw [hx1] at hu; rw [hy1] at hv
                cases hu; cases hv; exact he
              · exact hall j u v (by omega) hu hv
            | false =>
              rw [he] at hc
              have hf : eqL ks ks' = false := by
                cases h : eqL ks ks' with
                | false => rfl
                | true => rw [eqL_iff.1 h i x y hx1 hy1] at he; cases he
              simp [k10_5, g5, hl, fa43, ld43, lt43, hil, k10_7, g2, g3, hia, hia', hld, hld', hc, hf]
          · have hie : i = ks.length := by omega
            subst hie
            have hf : eqL ks ks' = true := eqL_iff.2 fun j u v hu hv => hall j u v (List.getElem?_eq_some_iff.1 hu).1 hu hv
            simp [k10_5, g5, hl, g2, fa43, ld43, k10_11, hf]
        · have hev : eqN (.mk k a s ks) (.mk k' a' s' ks') = false := by simp [eqN, hlen]
          rw [hev]
          simp [bx4, fa40, fa42, fa43, ld40, ld42, ld43, bin_streq, -bin_strne, hl, hl', hk, hs, hlen]
      · have hev : eqN (.mk k a s ks) (.mk k' a' s' ks') = false := by simp [eqN, hs]
        rw [hev]
        simp [bx4, fa40, fa42, fa43, ld40, ld42, ld43, bin_streq, -bin_strne, hl, hl', hk, hs]
    · have hev : eqN (.mk k a s ks) (.mk k' a' s' ks') = false := by simp [eqN, hk]
      rw [hev]
      simp [bx4, fa40, fa42, fa43, ld40, ld42, ld43, bin_streq, -bin_strne, hl, hl', hk]
end Go.Proofs.YtimcmpndblajnaaDoor.AM.Tr
