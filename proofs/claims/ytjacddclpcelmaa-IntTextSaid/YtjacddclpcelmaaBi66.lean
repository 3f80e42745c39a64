/- IntText: part 66. -/
import Derived.Test.YtjacddclpcelmaaBi65
set_option maxRecDepth 1000000
set_option linter.unusedVariables false
set_option linter.unusedSimpArgs false
namespace Go.Proofs.Ytjacddclpcelmaa.AM.Bi
open Go.Proofs

theorem rof_ok {z : Int} (h1 : -9223372036854775808 ≤ z) (h2 : z ≤ 9223372036854775807) : ∃ r, (∀ σ, callL T 32 [iv z] σ = some (.tr r, σ)) ∧ RInt 64 z r := by
  refine call_iso (ts := [.sc (.int .i64 z)]) T32 rfl rfl ?_
  obtain ⟨neg, hneg⟩ : ∃ neg, neg = decide (z < 0) := ⟨_, rfl⟩
  obtain ⟨a0, ha0⟩ : ∃ a : Nat, a = z.natAbs := ⟨_, rfl⟩
  have hz : z = sg neg a0 := by unfold sg; rw [hneg]; by_cases h : z < 0 <;> simp [h] <;> omega
  have hab : a0 ≤ 9223372036854775808 := by omega
  obtain ⟨S0, hS0⟩ : ∃ S0 : Ob, S0 = .row [.tr (.sc (.bool false)), .tr (.sc (.slice none 0 0))] 0 := ⟨_, rfl⟩
  simp
  rw [← hneg, ← hS0]
  obtain ⟨I, hI⟩ : ∃ I : Nat → St → Prop, I = (fun a s => a ≤ a0 ∧ ∃ e L l w σ, s = ⟨e, L, σ⟩ ∧ Grown .i64 S0 l w σ ∧ dig 65536 l ∧ l.length + a ≤ a0 ∧ l.length ≤ 64 ∧ a * 2 ^ l.length ≤ a0 ∧ (a = 0 → can l) ∧ val 65536 l + 65536 ^ l.length * a = a0 ∧ look e 0 = some (iv (sg neg a)) ∧ look e 2 = some (.ptr 0 0 0) ∧ look e 3 = some (bv neg) ∧ look e 4 = some w) := ⟨_, rfl⟩
  refine wpc_loop I a0 _ ?_ ?_
  · rw [hI]
    exact ⟨Nat.le_refl _, _, _, [], _, _, rfl, .inl ⟨rfl, rfl, rfl⟩, dig_nil _, by simp, by simp, by simp, fun _ => can_nil, by simp [val], by simp [← hz], by simp, by simp, by simp⟩
  intro a s hIs
  rw [hI] at hIs
  obtain ⟨haa, e, L, l, w, σ, rfl, hg, dl, hla, hl64, hlp, hcan, hv, h0, h2', h3, h4⟩ := hIs
  by_cases hp : a = 0
  · subst hp
    have e0 : sg neg 0 = 0 := by unfold sg; cases neg <;> rfl
    rw [e0] at h0
    rw [Nat.mul_zero, Nat.add_zero] at hv
    have hc := hcan rfl
    have hnz : neg = decide (z < 0) := hneg
    have hR : ∀ s, NatSl 64 a0 s → RInt 64 z (.agg [.sc (.bool neg), s]) := fun s hs => by
      rw [hneg]
      exact ⟨s, rfl, by rw [← ha0]; exact hs⟩
    rcases hg with ⟨rfl, rfl, rfl⟩ | ⟨g, hl0, rfl, rfl⟩
    · have st : opStore 2 (.ptr 0 0 0) (.tr (.agg [.sc (.bool neg), .sc (.slice none 0 0)])) [S0] = some [.row [bv neg, .tr (.sc (.slice none 0 0))] 0] := by
        rw [st_row (a := bv false) (b := .tr (.sc (.slice none 0 0))) (by rw [hS0]; rfl) rfl]; rfl
      have ld : opLoad 2 true (.ptr 0 0 0) [.row [bv neg, .tr (.sc (.slice none 0 0))] 0] = some (.tr (.agg [.sc (.bool neg), .sc (.slice none 0 0)])) := ld_row rfl
      simp [k32_3, h0, k32_9, h3, h4, h2', st, ld]
      exact hR _ ⟨[], .inl ⟨rfl, rfl⟩, dig_nil _, can_nil, hv, by simp⟩
    · obtain ⟨ow, how⟩ : ∃ ow : V, ow = .own 1 g 0 l.length 1 none := ⟨_, rfl⟩
      have hbu : opBuild [.sc (.bool false), .sc (.slice none 0 0)] [(0, 1, bv neg), (1, 1, .own 1 g 0 l.length 1 none)] = some (.agg [bv neg, .own 1 g 0 l.length 1 none]) := rfl
      have hst2 : opStore 2 (.ptr 0 0 0) (.agg [bv neg, .own 1 g 0 l.length 1 none]) [S0, .row (cK .i64 l) g] = some [.row [bv neg, .own 1 g 0 l.length 1 none] 0, .row (cK .i64 l) g] := by
        rw [hS0]; rfl
      have hld2 : opLoad 2 true (.ptr 0 0 0) [.row [bv neg, .own 1 g 0 l.length 1 none] 0, .row (cK .i64 l) g] = some (.agg [bv neg, .own 1 g 0 l.length 1 none]) := rfl
      have hsn := fun k => snap_own (d := k) (σ := [.row [bv neg, .own 1 g 0 l.length 1 none] 0, .row (cK .i64 l) g]) (id := 1) (n := l.length) (cap := none) rfl rfl
      simp [k32_3, h0, k32_9, h3, h4, h2', hbu, hst2, hld2]
      refine ⟨.agg [.sc (.bool neg), .row (l.flatMap iE) l.length none], ?_, hR _ ⟨l, .inr ⟨none, rfl⟩, dl, hc, hv, hl64⟩⟩
      rw [snap_deep]
      rw [snap_agg]
      simp only [snapL, hsn, snap_tr]
  · have hsn : ¬ sg neg a = 0 := by unfold sg; cases neg <;> simp <;> omega
    have hm : (sg neg a).tmod 65536 = sg neg (a % 65536) := (sg_mod (x := neg) (y := false) (m := a) (n := 65536)).symm
    have hd : (sg neg a).tdiv 65536 = sg neg (a / 65536) := by
      have := sg_div (x := neg) (y := false) (m := a) (n := 65536)
      rw [show (!(neg == false)) = neg by cases neg <;> rfl] at this
      exact this.symm
    have hrem : opBin .other .rem (iv (sg neg a)) (.tr (.sc (.int .i64 65536))) = some (iv (sg neg (a % 65536))) := by rw [bin_rem _ _ _ (by omega), hm]
    have hwr : IntKind.i64.wrap (sg neg (a / 65536)) = sg neg (a / 65536) := by
      have : a / 65536 ≤ a := Nat.div_le_self _ _
      unfold sg
      cases neg
      · exact w64 (by simp; omega) (by simp; omega)
      · exact w64 (by simp; omega) (by simp; omega)
    have hquo : opBin .other .quo (iv (sg neg a)) (.tr (.sc (.int .i64 65536))) = some (iv (sg neg (a / 65536))) := by rw [bin_quo _ _ _ (by omega), hd, hwr]
    obtain ⟨x, hx⟩ : ∃ x, x = a % 65536 := ⟨_, rfl⟩
    have hxb : x < 65536 := by omega
    rw [← hx] at hrem
    obtain ⟨w', σ', happ, hg'⟩ := grown_app (m := [x]) (b := 8) hg (by omega) (by simp) (by omega) (by simp) (some 1)
    have happ' : opAppend 1 8 w (.tr (.row [.sc (.int .i64 (x : Int))] 1 (some 1))) σ = some (w', σ') := happ
    have hbs : ∀ σ, opBslice false 1 1 [.sc (.int .i64 0)] [(0, 1, nv .i64 x)] σ = some (.tr (.row [.sc (.int .i64 (x : Int))] 1 (some 1)), σ) := fun σ => rfl
    have next : ∀ e' L', look e' 0 = some (iv (sg neg (a / 65536))) → look e' 2 = some (.ptr 0 0 0) → look e' 3 = some (bv neg) → look e' 4 = some w' → I (a / 65536) ⟨e', L', σ'⟩ := by
      intro e' L' g0 g2 g3 g4
      have hda : a / 65536 ≤ a := Nat.div_le_self _ _
      have hda2 : a / 65536 * 2 ≤ a := by omega
      rw [hI]
      refine ⟨by omega, e', L', l ++ [x], w', σ', rfl, hg', dig_append.2 ⟨dl, fun y hy => by simp at hy; omega⟩, by simp; omega, ?_, ?_, ?_, ?_, g0, g2, g3, g4⟩
      · have h6 : 1 * 2 ^ l.length ≤ a * 2 ^ l.length := Nat.mul_le_mul_right _ (by omega)
        have h7 : l.length < 64 := by
          rcases Nat.lt_or_ge l.length 64 with h | h
          · exact h
          · have : 2 ^ 64 ≤ 2 ^ l.length := Nat.pow_le_pow_right (by decide) h
            omega
        simp; omega
      · rw [List.length_append, List.length_singleton, Nat.pow_succ, Nat.mul_comm (2 ^ l.length) 2, ← Nat.mul_assoc]
        exact Nat.le_trans (Nat.mul_le_mul_right _ hda2) hlp
      · intro h9 hlast
        simp at hlast
        omega
      · rw [val_append, List.length_append, List.length_singleton, Nat.pow_succ, Nat.mul_assoc]
        have e5 : 65536 ^ l.length * val 65536 [x] + 65536 ^ l.length * (65536 * (a / 65536)) = 65536 ^ l.length * a := by
          rw [← Nat.mul_add]; congr 1; simp [val]; omega
        omega
    by_cases hlt : sg neg x < 0
    · have hng : opUn .neg (iv (sg neg x)) = some (nv .i64 x) := by
        have hsx : sg neg x = -(x : Int) := by
          cases neg with
          | true => rfl
          | false => exact absurd hlt (by show ¬ ((x : Int) < 0); omega)
        show some (V.tr (Tree.sc (Value.int .i64 (IntKind.i64.wrap (0 - sg neg x))))) = _
        rw [hsx, w64 (by omega) (by omega)]
        congr 4
        omega
      simp [k32_3, h0, hsn, k32_5, hrem, hlt, hng, k32_8, h4, hbs, happ', hquo]
      exact ⟨_, by omega, next _ _ (by simp) (by simp [h2']) (by simp [h3]) (by simp)⟩
    · have hsx : sg neg x = (x : Int) := by
        cases neg with
        | false => rfl
        | true =>
          have h9 : ¬ -(x : Int) < 0 := hlt
          show -(x : Int) = x
          omega
      rw [hsx] at hrem
      have hx0 : ¬ (x : Int) < 0 := by omega
      simp [k32_3, h0, hsn, k32_5, hrem, hx0, k32_8, h4, hbs, happ', hquo]
      exact ⟨_, by omega, next _ _ (by simp) (by simp [h2']) (by simp [h3]) (by simp)⟩
end Go.Proofs.Ytjacddclpcelmaa.AM.Bi
