/- IntText: part 62. -/
import Derived.Test.YtjacddclpcelmaaBi61
import Derived.Test.YtjacddclpcelmaaBi42
import Derived.Test.YtjacddclpcelmaaBi12
set_option maxRecDepth 1000000
set_option linter.unusedVariables false
set_option linter.unusedSimpArgs false
namespace Go.Proofs.Ytjacddclpcelmaa.AM.Bi
open Go.Proofs

theorem grow_end {S0 : Ob} {W : List Nat} {w : V} {σ : Store} {c : Nat} {e L : List (Nat × V)} (hg : Grown .u32 S0 W w σ) (dW : dig 4294967296 W) (hl : W.length ≤ 100000) (hc : c < 4294967296) (h0 : look e 0 = some w) (h7 : look e 7 = some (nv .u64 c)) :
    wpc T k62_8 ⟨e, L, σ⟩ (giv [.tmp 6] fun w' σ' => ∃ l', Grown .u32 S0 l' w' σ' ∧ dig 4294967296 l' ∧ val 4294967296 l' = val 4294967296 W + 4294967296 ^ W.length * c ∧ l'.length ≤ W.length + 1) := by
  by_cases h : 0 < c
  · have hi : (0 : Int) < c := by omega
    have w1 : IntKind.u32.wrap (c : Int) = c := wu32 (by omega) (by omega)
    have hbs : ∀ σ, opBslice false 1 1 [.sc (.int .u32 0)] [(0, 1, nv .u32 c)] σ = some (.tr (.row [.sc (.int .u32 (c : Int))] 1 (some 1)), σ) := fun σ => rfl
    obtain ⟨w', σ', happ, hg'⟩ := grown_app (m := [c]) (b := 4) hg (by omega) (by simp) (by omega) (by simp) (some 1)
    have happ' : opAppend 1 4 w (.tr (.row [.sc (.int .u32 (c : Int))] 1 (some 1))) σ = some (w', σ') := happ
    simp [k62_8, h7, h, h0, w1, hbs, happ', k62_10]
    exact ⟨W ++ [c], hg', dig_append.2 ⟨dW, fun x hx => by simp at hx; omega⟩, by rw [val_append]; simp [val], by simp⟩
  · have hc0 : c = 0 := by omega
    subst hc0
    simp [k62_8, h7, h0, k62_10]
    exact ⟨W, hg, dW, by simp, by omega⟩

/-- Times a digit, and one more. -/
theorem grow_ok {S0 : Ob} {l : List Nat} {w : V} {σ : Store} {m d : Nat} (hg : Grown .u32 S0 l w σ) (dl : dig 4294967296 l) (hl : l.length ≤ 100000) (hm : m ≤ 16) (hd : d < 16) :
    ∃ w' σ', callL T 62 [w, nv .u32 m, nv .u32 d] σ = some (w', σ') ∧ ∃ l', Grown .u32 S0 l' w' σ' ∧ dig 4294967296 l' ∧ val 4294967296 l' = val 4294967296 l * m + d ∧ l'.length ≤ l.length + 1 := by
  refine call_shared T62 rfl rfl ?_
  have hw0 : IntKind.u64.wrap (d : Int) = d := wu64 (by omega) (by omega)
  rcases id hg with ⟨rfl, rfl, rfl⟩ | ⟨g, h0, rfl, rfl⟩
  · have hnl : ∀ σ, opLen 1 (.tr (.sc (.slice none 0 0))) σ = some (.tr (.sc (.int .i64 0))) := fun _ => rfl
    simp [hw0, hnl]
    refine wpc_up 0 (fun i s => i = 0 ∧ ∃ e L, s = ⟨e, L, [S0]⟩ ∧ look e 0 = some (.tr (.sc (.slice none 0 0))) ∧ look e 7 = some (nv .u64 d) ∧ look e 13 = some (.tr (.sc (.int .i64 0))) ∧ look e 14 = some (.tr (.sc (.int .i64 0)))) ⟨rfl, _, _, rfl, by simp, by simp, by simp, by simp⟩ ?_
    rintro i s ⟨rfl, e, L, rfl, h0, h7, h13, h14⟩
    simp [k62_3, h13, h14]
    refine wpc_mono _ _ _ _ (giv_mono ?_) (grow_end (c := d) hg dl hl (by omega) (by simp [h0]) (by simp [h7]))
    rintro w' σ' ⟨l', a1, a2, a3, a4⟩
    refine ⟨l', a1, a2, ?_, a4⟩
    rw [a3]; simp [val]
  · obtain ⟨n, hn⟩ : ∃ n, n = l.length := ⟨_, rfl⟩
    rw [← hn]
    have hln : ∀ σ, opLen 1 (.own 1 g 0 n 1 none) σ = some (nv .i64 n) := fun σ => own_len
    simp [hw0, hln]
    obtain ⟨I, hI⟩ : ∃ I : Nat → St → Prop, I = (fun i s => i ≤ n ∧ ∃ e L W c, s = ⟨e, L, [S0, .row (cK .u32 W) g]⟩ ∧ look e 0 = some (.own 1 g 0 n 1 none) ∧ look e 1 = some (nv .u32 m) ∧ look e 7 = some (nv .u64 c) ∧ look e 12 = some (.own 1 g 0 n 1 none) ∧ look e 13 = some (nv .i64 n) ∧ look e 14 = some (nv .i64 i)
      ∧ c < 16 ∧ dig 4294967296 W ∧ W.length = n ∧ W.drop i = l.drop i ∧ val 4294967296 (W.take i) + 4294967296 ^ i * c = val 4294967296 (l.take i) * m + d) := ⟨_, rfl⟩
    refine wpc_up n I ?_ ?_
    · rw [hI]
      exact ⟨Nat.zero_le _, _, _, l, d, rfl, by simp, by simp, by simp, by simp, by simp, by simp, hd, dl, hn.symm, rfl, by simp [val]⟩
    intro i s hIs
    rw [hI] at hIs
    obtain ⟨hi, e, L, W, c, rfl, h0', h1, h7, h12, h13, h14, hc, dW, hWl, hdr, hvi⟩ := hIs
    have hs' : ([S0, .row (cK .u32 W) g] : Store)[1]? = some (.row (cK .u32 W) g) := rfl
    by_cases hlt : i < n
    · have hxl : l[i]? = some l[i] := List.getElem?_eq_getElem (by omega)
      have ax : l[i] < 4294967296 := dig_at dl (by omega)
      obtain ⟨x, hx⟩ : ∃ x, x = l[i] := ⟨_, rfl⟩
      rw [← hx] at hxl ax
      have hxW : W[i]? = some x := by
        have h1 : (W.drop i)[0]? = (l.drop i)[0]? := by rw [hdr]
        rw [List.getElem?_drop, List.getElem?_drop, Nat.add_zero] at h1
        rw [h1]; exact hxl
      have hxm : x * m ≤ x * 16 := Nat.mul_le_mul_left _ hm
      have hxm2 : x * m ≤ 4294967295 * m := Nat.mul_le_mul_right _ (by omega)
      obtain ⟨y, hy⟩ : ∃ y, y = x * m := ⟨_, rfl⟩
      rw [← hy] at hxm hxm2
      obtain ⟨s, hs3⟩ : ∃ s, s = c + y := ⟨_, rfl⟩
      have w1 : IntKind.u64.wrap (x : Int) = x := wu64 (by omega) (by omega)
      have w2 : IntKind.u64.wrap (m : Int) = m := wu64 (by omega) (by omega)
      have w3 : IntKind.u64.wrap ((x : Int) * m) = y := by rw [← Int.natCast_mul, ← hy, wu64 (by omega) (by omega)]
      have w4 : IntKind.u64.wrap ((c : Int) + y) = s := by rw [wu64 (by omega) (by omega)]; omega
      have w6 : IntKind.u32.wrap (s : Int) = ((s % 4294967296 : Nat) : Int) := by rw [wu32m]; omega
      have w5 : IntKind.i64.wrap ((i : Int) + 1) = ((i + 1 : Nat) : Int) := w64 (by omega) (by omega)
      have hsh : opBin .other .shr (nv .u64 s) (.tr (.sc (.int .u64 32))) = some (nv .u64 (s / 4294967296)) := shr_u64_32 s
      have hia : opIaddr 1 (.own 1 g 0 n 1 none) (nv .i64 i) [S0, .row (cK .u32 W) g] = some (.ptr 1 g (0 + i)) := own_iaddr hs' hlt
      rw [Nat.zero_add] at hia
      have hld : opLoad 1 false (.ptr 1 g i) [S0, .row (cK .u32 W) g] = some (nv .u32 x) := own_load hs' hxW
      have hst : ∀ y : Nat, opStore 1 (.ptr 1 g i) (nv .u32 y) [S0, .row (cK .u32 W) g] = some [S0, .row (cK .u32 (W.set i y)) g] := fun y => by
        rw [own_store hs' (by omega)]; rfl
      have goal : val 4294967296 ((W.set i (s % 4294967296)).take (i + 1)) + 4294967296 ^ (i + 1) * (s / 4294967296) = val 4294967296 (l.take (i + 1)) * m + d := by
        have := val_step (B := 4294967296) (w := y) (show i < W.length by omega) hvi
        rw [← hs3] at this
        rw [this, val_take_succ (show i < l.length by omega), ← hx, Nat.add_mul, hy, Nat.mul_assoc]
        omega
      have hsc : s / 4294967296 < 16 := by omega
      clear hvi
      simp [k62_3, h14, h13, hlt, k62_5, h12, hia, hld, h7, w1, h1, w2, w3, w4, h0', w6, hst, hsh, w5, -Int.natCast_add, -Int.natCast_ediv, -Int.natCast_emod, -Int.natCast_mul]
      rw [hI]
      refine ⟨by omega, _, _, _, s / 4294967296, rfl, by simp [h0'], by simp [h1], by simp, by simp [h12], by simp [h13], by simp, hsc, dig_set_mod (by decide) dW, by simpa using hWl, ?_, goal⟩
      rw [List.drop_set_of_lt (by omega)]
      have := congrArg (List.drop 1) hdr
      rwa [List.drop_drop, List.drop_drop] at this
    · have hie : i = n := by omega
      subst hie
      rw [List.take_of_length_le (show W.length ≤ i by omega), List.take_of_length_le (show l.length ≤ i by omega)] at hvi
      simp [k62_3, h14, h13]
      have hg2 : Grown .u32 S0 W (.own 1 g 0 i 1 none) [S0, .row (cK .u32 W) g] := .inr ⟨g, by intro h; rw [h] at hWl; simp at hWl; apply h0; apply List.length_eq_zero_iff.1; omega, by rw [hWl], rfl⟩
      refine wpc_mono _ _ _ _ (giv_mono ?_) (grow_end (c := c) hg2 dW (by omega) (by omega) (by simp [h0']) (by simp [h7]))
      rintro w' σ' ⟨l', a1, a2, a3, a4⟩
      refine ⟨l', a1, a2, ?_, by omega⟩
      rw [a3, hWl, hvi]
end Go.Proofs.Ytjacddclpcelmaa.AM.Bi
