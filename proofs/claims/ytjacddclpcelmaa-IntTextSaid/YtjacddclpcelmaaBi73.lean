/- IntText: part 73. -/
import Derived.Test.YtjacddclpcelmaaBi72
set_option maxRecDepth 1000000
set_option linter.unusedVariables false
set_option linter.unusedSimpArgs false
namespace Go.Proofs.Ytjacddclpcelmaa.AM.Bi
open Go.Proofs

/-- Nine digits at most. -/
theorem text_inner {l : List Nat} {S0 : Ob} {ds0 : List Nat} {n m rest : Nat} {bx : V} {w0 : V} {e L : List (Nat × V)} {σ : Store} {Q : Out → St → Prop}
    (hg : Grown .u8 S0 (ds0.map (48 + ·)) w0 σ) (dd : dig 10 ds0) (hr : rest < 10 ^ 9) (hl0 : 0 < val 4294967296 l ↔ 0 < l.length) (hll : l.length ≤ 100000)
    (hv : val 10 ds0 + 10 ^ ds0.length * (rest + 10 ^ 9 * val 4294967296 l) = n) (hp : (rest + 10 ^ 9 * val 4294967296 l) * 2 ^ ds0.length ≤ n) (hn : n < 2 ^ m) (hm : m ≤ 90000) (hpos : 0 < rest + 10 ^ 9 * val 4294967296 l)
    (h1 : look e 1 = some bx) (h3 : look e 3 = some (.own 0 0 0 l.length 1 none)) (h4 : look e 4 = some w0) (h5 : look e 5 = some (nv .u32 rest)) (h6 : look e 6 = some (nv .i64 0))
    (hQ : ∀ ds w σ' e' L', Grown .u8 S0 (ds.map (48 + ·)) w σ' → dig 10 ds → (val 4294967296 l = 0 → can ds) → val 10 ds + 10 ^ ds.length * val 4294967296 l = n → val 4294967296 l * 2 ^ ds.length ≤ n → look e' 1 = some bx → look e' 3 = some (.own 0 0 0 l.length 1 none) → look e' 4 = some w → Q (.exit 2) ⟨e', L', σ'⟩) :
    Wp T (.loop k33_12) ⟨e, L, σ⟩ Q := by
  obtain ⟨V, hV⟩ : ∃ V, V = val 4294967296 l := ⟨_, rfl⟩
  rw [← hV] at hl0 hv hp hpos hQ
  obtain ⟨I, hI⟩ : ∃ I : Nat → St → Prop, I = (fun i s => i ≤ 9 ∧ ∃ e L σ ds w rest R, s = ⟨e, L, σ⟩ ∧ Grown .u8 S0 (ds.map (48 + ·)) w σ ∧ dig 10 ds ∧ rest < 10 ^ (9 - i) ∧ R = rest + 10 ^ (9 - i) * V ∧ (R = 0 → can ds) ∧ val 10 ds + 10 ^ ds.length * R = n ∧ R * 2 ^ ds.length ≤ n ∧ ds.length ≤ m
    ∧ look e 1 = some bx ∧ look e 3 = some (.own 0 0 0 l.length 1 none) ∧ look e 4 = some w ∧ look e 5 = some (nv .u32 rest) ∧ look e 6 = some (nv .i64 i)) := ⟨_, rfl⟩
  have lenb : ∀ (k R : Nat), 0 < R → R * 2 ^ k ≤ n → k < m := by
    intro k R hR h
    have h6 : 1 * 2 ^ k ≤ R * 2 ^ k := Nat.mul_le_mul_right _ hR
    rcases Nat.lt_or_ge k m with h | h
    · exact h
    · have : 2 ^ m ≤ 2 ^ k := Nat.pow_le_pow_right (by decide) h
      omega
  refine wpc_up 9 I ?_ ?_
  · rw [hI]
    exact ⟨by omega, e, L, σ, ds0, w0, rest, _, rfl, hg, dd, by simpa using hr, rfl, fun h => by omega, hv, hp, by have := lenb _ _ hpos hp; omega, h1, h3, h4, h5, h6⟩
  clear hg dd hr hv hp hpos h1 h3 h4 h5 h6
  intro i s hIs
  rw [hI] at hIs
  obtain ⟨hi, e, L, σ, ds, w, rest, R, rfl, hg, dd, hr, hR, hc, hv, hp, hdl, h1, h3, h4, h5, h6⟩ := hIs
  have hl := fun σ => own_len (σ := σ) (id := 0) (g := 0) (off := 0) (n := l.length) (cap := none)
  have hr9 : rest < 1000000000 := by
    have h1 : 10 ^ (9 - i) ≤ 10 ^ 9 := Nat.pow_le_pow_right (by decide) (by omega)
    omega
  have go : i < 9 → 0 < R → (rest + 10 ^ (9 - i) * V) / 10 = rest / 10 + 10 ^ (9 - (i + 1)) * V ∧ R % 10 = rest % 10 := by
    intro hi9 _
    have e1 : (10 : Nat) ^ (9 - i) = 10 * 10 ^ (9 - (i + 1)) := by
      rw [show 9 - i = (9 - (i + 1)) + 1 by omega, Nat.pow_succ, Nat.mul_comm]
    rw [hR, e1, Nat.mul_assoc]
    omega
  by_cases hcond : i < 9 ∧ (0 < l.length ∨ 0 < rest)
  · obtain ⟨hi9, hor⟩ := hcond
    have hRp : 0 < R := by
      rcases hor with h | h
      · have h7 := hl0.2 h
        have : 1 * 1 ≤ 10 ^ (9 - i) * V := Nat.mul_le_mul (Nat.pow_pos (by decide)) h7
        omega
      · omega
    obtain ⟨g1, g2⟩ := go hi9 hRp
    rw [← hR] at g1
    obtain ⟨d, hd⟩ : ∃ d, d = rest % 10 := ⟨_, rfl⟩
    obtain ⟨q, hq⟩ : ∃ q, q = rest / 10 := ⟨_, rfl⟩
    have hd10 : d < 10 := by omega
    have hi9' : (i : Int) < 9 := by omega
    have hrem : opBin .other .rem (nv .u32 rest) (.tr (.sc (.int .u32 10))) = some (nv .u32 d) := by
      rw [bin_rem _ _ _ (by omega), hd]; congr 4
    have hquo : opBin .other .quo (nv .u32 rest) (.tr (.sc (.int .u32 10))) = some (nv .u32 q) := by
      rw [bin_quo _ _ _ (by omega), hq]
      have h1 : (rest : Int).tdiv 10 = ((rest / 10 : Nat) : Int) := rfl
      rw [h1, wu32 (by omega) (by omega)]
    have w1 : IntKind.u32.wrap (48 + (d : Int)) = ((48 + d : Nat) : Int) := by rw [wu32 (by omega) (by omega)]; omega
    have w2 : IntKind.u8.wrap ((48 + d : Nat) : Int) = ((48 + d : Nat) : Int) := by
      simp [IntKind.wrap, IntKind.bits, IntKind.signed]; omega
    have hbs : ∀ σ, opBslice false 1 1 [.sc (.int .u8 0)] [(0, 1, nv .u8 (48 + d))] σ = some (.tr (.row [.sc (.int .u8 ((48 + d : Nat) : Int))] 1 (some 1)), σ) := fun σ => rfl
    obtain ⟨w', σ', happ, hg'⟩ := grown_app (m := [48 + d]) (b := 1) hg (by omega) (by simp) (by simp; omega) (by simp) (some 1)
    have happ' : opAppend 1 1 w (.tr (.row [.sc (.int .u8 ((48 + d : Nat) : Int))] 1 (some 1))) σ = some (w', σ') := happ
    have w3 : IntKind.i64.wrap ((i : Int) + 1) = ((i + 1 : Nat) : Int) := w64 (by omega) (by omega)
    have next : ∀ e' L', look e' 1 = some bx → look e' 3 = some (.own 0 0 0 l.length 1 none) → look e' 4 = some w' → look e' 5 = some (nv .u32 q) → look e' 6 = some (nv .i64 (i + 1)) → I (i + 1) ⟨e', L', σ'⟩ := by
      intro e' L' f1 f3 f4 f5 f6
      rw [hI]
      refine ⟨by omega, e', L', σ', ds ++ [d], w', q, R / 10, rfl, by simpa using hg', dig_append.2 ⟨dd, fun y hy => by simp at hy; omega⟩, ?_, by rw [g1, hq], ?_, ?_, ?_, ?_, f1, f3, f4, f5, f6⟩
      · rw [hq]
        have e1 : (10 : Nat) ^ (9 - i) = 10 * 10 ^ (9 - (i + 1)) := by
          rw [show 9 - i = (9 - (i + 1)) + 1 by omega, Nat.pow_succ, Nat.mul_comm]
        omega
      · intro h hlast
        simp at hlast
        omega
      · rw [val_append, List.length_append, List.length_singleton, Nat.pow_succ, Nat.mul_assoc]
        have e5 : 10 ^ ds.length * val 10 [d] + 10 ^ ds.length * (10 * (R / 10)) = 10 ^ ds.length * R := by
          rw [← Nat.mul_add]; congr 1; simp [val]; omega
        omega
      · rw [List.length_append, List.length_singleton, Nat.pow_succ, Nat.mul_comm (2 ^ ds.length) 2, ← Nat.mul_assoc]
        exact Nat.le_trans (Nat.mul_le_mul_right _ (by omega)) hp
      · have := lenb _ _ hRp hp
        simp; omega
    by_cases hll0 : 0 < l.length
    · have hll0' : (0 : Int) < l.length := by omega
      simp [k33_12, h6, hi9', hi9, h3, hl, hll0, hll0', h5, k33_14, h4, hrem, w1, w2, hbs, happ', hquo, w3, -Int.natCast_add]
      exact next _ _ (by simp [h1]) (by simp [h3]) (by simp) (by simp) (by simp)
    · have hll0' : ¬ (0 : Int) < l.length := by omega
      have hr0 : 0 < rest := by omega
      have hr0' : (0 : Int) < rest := by omega
      simp [k33_12, h6, hi9', hi9, h3, hl, hll0, hll0', h5, hr0, hr0', k33_14, h4, hrem, w1, w2, hbs, happ', hquo, w3, -Int.natCast_add]
      exact next _ _ (by simp [h1]) (by simp [h3]) (by simp) (by simp) (by simp)
  · have hRV : R = V := by
      by_cases hi9 : i = 9
      · subst hi9; simp at hr hR; omega
      · have h7 : ¬ 0 < l.length := fun h => hcond ⟨by omega, .inl h⟩
        have h8 : ¬ 0 < rest := fun h => hcond ⟨by omega, .inr h⟩
        have h9 : V = 0 := by omega
        rw [h9] at hR ⊢
        omega
    rw [hRV] at hc hv hp
    by_cases hi9 : i = 9
    · have hi9' : ¬ (i : Int) < 9 := by omega
      have hi9'' : ¬ i < 9 := by omega
      simp [k33_12, h6, hi9', hi9'']
      exact hQ ds w σ _ _ hg dd hc hv hp (by simp [h1]) (by simp [h3]) (by simp [h4])
    · have h7 : ¬ 0 < l.length := fun h => hcond ⟨by omega, .inl h⟩
      have h8 : ¬ 0 < rest := fun h => hcond ⟨by omega, .inr h⟩
      have hi9' : (i : Int) < 9 := by omega
      have h7' : ¬ (0 : Int) < l.length := by omega
      have h8' : ¬ (0 : Int) < rest := by omega
      have hi9'' : i < 9 := by omega
      simp [k33_12, h6, hi9', hi9'', h3, hl, h7, h7', h5, h8, h8']
      exact hQ ds w σ _ _ hg dd hc hv hp (by simp [h1]) (by simp [h3]) (by simp [h4])
end Go.Proofs.Ytjacddclpcelmaa.AM.Bi
