/- the scanner: parts 14, 15, 16, 17, 18, 19, 20, 21, 22, 23, 24, 25. -/
import Derived.Test.YtbdebcmklaooaaaDoorSa2
section
set_option maxRecDepth 1000000
set_option linter.unusedVariables false
set_option linter.unusedSimpArgs false
namespace Go.Proofs.YtbdebcmklaooaaaDoor.AM.Sa
open Go.Proofs
def textT (r : Option (Nat × List UInt8)) : Tree := match r with | none => .tup [.sc (.int .i64 0), .sc (.slice none 0 0)] | some (n, o) => .tup [.sc (.int .i64 (n : Int)), outT o]
theorem own_end {o : List UInt8} {v : V} {σ : Store} {n : Nat} {z : Int} (hz : z = n) (h : OutP o v σ) : snap σ deepN (mkTup [iv z, v]) = some (textT (some (n, o))) := by
  subst hz
  rcases h with ⟨rfl, rfl, rfl⟩ | ⟨h0, g, rfl, rfl⟩
  · rfl
  · have := out_snap (d := deepN - 2) (v := .own 0 g 0 o.length 1 none) (o := o) (.inr ⟨h0, g, rfl, rfl⟩)
    show snap _ deepN (.tup [iv n, .own 0 g 0 o.length 1 none]) = _
    have e : deepN = deepN - 2 + 1 + 1 := rfl
    rw [e]
    unfold snap
    simp only [snapL]
    rw [this]
    rfl
theorem inB_dv {c : UInt8} (h : inB 16 c = true) : 0 ≤ dv c ∧ dv c < 16 := by
  simpa [inB] using h
theorem hexN_lt : ∀ (n : Nat) (l : List UInt8), l.length = n → (∀ c ∈ l, inB 16 c = true) → hexN l < 16 ^ n
  | 0, l, h, _ => by
    obtain rfl := List.length_eq_zero_iff.1 h
    simp [hexN]
  | n + 1, l, h, ha => by
    have hne : l ≠ [] := by rintro rfl; simp at h
    have h1 := hexN_lt n l.dropLast (by rw [List.length_dropLast]; omega) (fun c hc => ha c (List.dropLast_subset l hc))
    have h2 := inB_dv (ha _ (List.getLast_mem hne))
    rw [← List.dropLast_concat_getLast hne, hexN_snoc, Nat.pow_succ]
    omega
section
variable {b : List UInt8} {tb : Tree} (hb : IsSl byE b (.tr tb)) (hl : b.length ≤ 1000000) {k : Nat}
include hb hl
theorem hex_part {P : Out → St → Prop} {n i : Nat} {q : UInt8} {v : V} {σ : Store} (hn : n = 2 ∨ n = 4) (hk : k < b.length) (e L : List (Nat × V)) (h0 : look e 0 = some (.tr tb)) (h1 : look e 1 = some (nv .i64 i)) (h6 : look e 6 = some v) (h7 : look e 7 = some (u8v q)) (h8 : look e 8 = some (nv .i64 k)) (h10 : look e 10 = some (nv .i64 n))
    (hbad : nrun (inB 16) (b.drop (k + 2)) < n → ∀ e' L', look e' 4 = some (iv 0) → look e' 5 = some nilSl → P .ret ⟨e', L', σ⟩)
    (hgood : n ≤ nrun (inB 16) (b.drop (k + 2)) → hexN ((b.drop (k + 2)).take n) < 65536 → ∀ e' L', look e' 0 = some (.tr tb) → look e' 1 = some (nv .i64 i) → look e' 6 = some v → look e' 7 = some (u8v q) → look e' 8 = some (nv .i64 k) → look e' 10 = some (nv .i64 n) → look e' 11 = some (nv .i64 (hexN ((b.drop (k + 2)).take n))) → wpc T k24_41 ⟨e', L', σ⟩ P) :
    wpc T k24_32 ⟨e, L, σ⟩ P := by
  have w2 : IntKind.i64.wrap ((k : Int) + 2) = (k : Int) + 2 := w64z (by omega) (by omega)
  have dg := fun σ => digits_ok hb hl (k + 2) 16 (by omega) (z := (k : Int) + 2) (y := 16) (by omega) rfl σ
  obtain ⟨R, hR⟩ : ∃ R, nrun (inB 16) (b.drop (k + 2)) = R := ⟨_, rfl⟩
  have hRl : R ≤ b.length - (k + 2) := by rw [← hR, ← List.length_drop]; exact nrun_le
  have hdg : ∀ (m : Nat) c, m < R → (b.drop (k + 2))[m]? = some c → inB 16 c = true := by
    intro m c hm hc
    obtain ⟨c2, h5, h6⟩ := nrun_lt (p := inB 16) (s := b.drop (k + 2)) (n := m) (by omega)
    rw [hc] at h5
    cases h5
    exact h6
  rw [hR] at dg hbad hgood
  by_cases hlt : R < n
  · have hltz : (R : Int) < n := by omega
    simp [k24_32, h0, h8, h10, w2, dg, hlt, hltz]
    refine hbad hlt _ _ ?_ ?_ <;> simp [nilSl]
  · have hltz : ¬ (R : Int) < n := by omega
    have hall : ∀ j, j ≤ n → ∀ c ∈ (b.drop (k + 2)).take j, inB 16 c = true := by
      intro j hj c hc
      obtain ⟨m, hm⟩ := List.mem_iff_getElem?.1 hc
      rw [List.getElem?_take] at hm
      split at hm
      · exact hdg m c (by omega) hm
      · cases hm
    have hbd : ∀ j, j ≤ n → hexN ((b.drop (k + 2)).take j) < 65536 := by
      intro j hj
      have h := hexN_lt j ((b.drop (k + 2)).take j) (by rw [List.length_take, List.length_drop]; omega) (hall j hj)
      have : 16 ^ j ≤ 16 ^ 4 := Nat.pow_le_pow_right (by omega) (by omega)
      omega
    obtain ⟨I, hI⟩ : ∃ I : Nat → St → Prop, I = fun j st => j ≤ n ∧ ∃ e L, st = ⟨e, L, σ⟩ ∧ look e 0 = some (.tr tb) ∧ look e 1 = some (nv .i64 i) ∧ look e 6 = some v ∧ look e 7 = some (u8v q) ∧ look e 8 = some (nv .i64 k) ∧ look e 10 = some (nv .i64 n) ∧ look e 11 = some (nv .i64 (hexN ((b.drop (k + 2)).take j))) ∧ look e 12 = some (nv .i64 j) := ⟨_, rfl⟩
    simp [k24_32, k24_35, h0, h8, h10, w2, dg, hlt, hltz]
    refine wpc_up n I (by rw [hI]; refine ⟨Nat.zero_le _, _, _, rfl, ?_, ?_, ?_, ?_, ?_, ?_, ?_, ?_⟩ <;> simp [h0, h1, h6, h7, h8, h10, hexN]) ?_
    intro j st hst
    rw [hI] at hst
    obtain ⟨hj, e, L, rfl, h0, h1, h6, h7, h8, h10, h11, h12⟩ := hst
    by_cases hjn : j < n
    · have hjz : (j : Int) < n := by omega
      obtain ⟨c, hc⟩ := some_of (l := b) (i := k + 2 + j) (by omega)
      have hc' : (b.drop (k + 2))[j]? = some c := by simpa using hc
      have iac := fun σ => by_iaZ (σ := σ) hb hc (z := (k : Int) + 2 + j) (by omega) .i64
      have hd16 := inB_dv (hdg j c (by omega) hc')
      have hsn : hexN ((b.drop (k + 2)).take (j + 1)) = 16 * hexN ((b.drop (k + 2)).take j) + (dv c).toNat := by rw [take_snoc hc', hexN_snoc]
      have hb1 := hbd j hj
      obtain ⟨V0, hV0⟩ : ∃ V0, hexN ((b.drop (k + 2)).take j) = V0 := ⟨_, rfl⟩
      rw [hV0] at h11 hsn hb1
      have hm16 : opBin .other .mul (iv 16) (nv .i64 V0) = some (iv (16 * (V0 : Int))) := by
        show some (V.tr (.sc (.int .i64 (IntKind.i64.wrap (16 * (V0 : Int)))))) = _
        rw [w64z (by omega) (by omega)]
      have w3 : IntKind.i64.wrap ((k : Int) + 2 + j) = (k : Int) + 2 + j := w64z (by omega) (by omega)
      have w4 : IntKind.i64.wrap (16 * (V0 : Int) + dv c) = 16 * (V0 : Int) + dv c := w64z (by omega) (by omega)
      have w5 : IntKind.i64.wrap ((j : Int) + 1) = (j : Int) + 1 := w64z (by omega) (by omega)
      have dk := fun σ => digit_ok c σ
      simp [k24_38, k24_40, h0, h1, h6, h7, h8, h10, h11, h12, hjn, hjz, w2, w3, w4, w5, hm16, iac, by_ld hc, by_ldt hc, dk]
      rw [hI]
      refine ⟨by omega, _, _, rfl, ?_, ?_, ?_, ?_, ?_, ?_, ?_, ?_⟩
      all_goals simp [h0, h1, h6, h7, h8, h10]
      rw [hsn]
      omega
    · obtain rfl : j = n := by omega
      simp [k24_38, h0, h1, h6, h7, h8, h10, h11, h12]
      refine hgood (by omega) (hbd j (Nat.le_refl _)) _ _ ?_ ?_ ?_ ?_ ?_ ?_ ?_ <;> simp [h0, h1, h6, h7, h8, h10, h11, h12]
end
end Go.Proofs.YtbdebcmklaooaaaDoor.AM.Sa
end
section
set_option maxRecDepth 1000000
set_option linter.unusedVariables false
set_option linter.unusedSimpArgs false
namespace Go.Proofs.YtbdebcmklaooaaaDoor.AM.Sa
open Go.Proofs
section
variable {b : List UInt8} {tb : Tree} (hb : IsSl byE b (.tr tb)) (hl : b.length ≤ 1000000) {i : Nat} (hi : i < b.length)
include hb hl hi
theorem text_ok {z : Int} (hz : z = i) (σ : Store) : callL T 24 [.tr tb, iv z] σ = some (.tr (textT (textR (b.drop i))), σ) := by
  subst hz
  suffices hh : ∃ t, (∀ σ, callL T 24 ([tb, .sc (.int .i64 (i : Int))].map .tr) σ = some (.tr t, σ)) ∧ t = textT (textR (b.drop i)) by
    obtain ⟨t, h, rfl⟩ := hh
    exact h σ
  refine call_iso T24 rfl rfl ?_
  obtain ⟨q, hq⟩ := some_of hi
  have eq0 : hd (b.drop i) 0 = q := by rw [hd_drop]; exact hd_of hq
  have hia := fun σ => by_ia (σ := σ) hb hq .i64
  have hlen : ∀ σ, opLen 1 (.tr tb) σ = some (nv .i64 b.length) := fun σ => by_len hb
  have hne : b.drop i ≠ [] := by
    intro h
    have := congrArg List.length h
    rw [List.length_drop] at this
    simp at this
    omega
  rw [textR_G hne, eq0, List.drop_drop]
  obtain ⟨RES, hRES⟩ : ∃ R, comb 1 [] (textG q (b.drop (i + 1))) = R := ⟨_, rfl⟩
  rw [hRES]
  have w1 : IntKind.i64.wrap ((i : Int) + 1) = (i : Int) + 1 := w64z (by omega) (by omega)
  obtain ⟨I, hI⟩ : ∃ I : Nat → St → Prop, I = fun m st => ∃ k o v σ e L, st = ⟨e, L, σ⟩ ∧ i + 1 + m ≤ k ∧ k ≤ b.length ∧ o.length ≤ k ∧ OutP o v σ ∧ RES = comb (k - i) o (textG q (b.drop k)) ∧ look e 0 = some (.tr tb) ∧ look e 1 = some (nv .i64 i) ∧ look e 6 = some v ∧ look e 7 = some (u8v q) ∧ look e 8 = some (nv .i64 k) := ⟨_, rfl⟩
  simp [hia, by_ld hq, by_ldt hq, w1]
  refine wpc_up b.length I (by rw [hI]; exact ⟨i + 1, [], nilSl, [], _, _, rfl, by omega, by omega, by simp, .inl ⟨rfl, rfl, rfl⟩, by rw [← hRES, show i + 1 - i = 1 by omega], by simp, by simp, by simp [nilSl], by simp, by simp⟩) ?_
  intro m st hst
  rw [hI] at hst
  obtain ⟨k, o, v, σ, e, L, rfl, hk1, hk2, ho, hout, hR, h0, h1, h6, h7, h8⟩ := hst
  by_cases hlt : k < b.length
  · have hltz : (k : Int) < b.length := by omega
    obtain ⟨c, hc⟩ := some_of hlt
    have ec : hd (b.drop k) 0 = c := by rw [hd_drop]; exact hd_of hc
    have iac := fun σ => by_ia (σ := σ) hb hc .i64
    have ld := fun σ => by_ld (σ := σ) hc
    have ldt := by_ldt hc
    have hnek : b.drop k ≠ [] := by
      intro h
      have := congrArg List.length h
      rw [List.length_drop] at this
      simp at this
      omega
    have w2 : IntKind.i64.wrap ((k : Int) + 1) = (k : Int) + 1 := w64z (by omega) (by omega)
    have w3 : IntKind.i64.wrap ((k : Int) + 1 - i) = (k : Int) + 1 - i := w64z (by omega) (by omega)
    have w4 : IntKind.i64.wrap ((k : Int) + 2) = (k : Int) + 2 := w64z (by omega) (by omega)
    by_cases hcq : c = q
    · have hr : RES = some (k + 1 - i, o) := by
        rw [hR, textG_end hnek (by rw [ec, hcq]), show k + 1 - i = k - i + 1 by omega]
        simp [comb]
      subst hcq
      rw [hr]
      have := own_end (n := k + 1 - i) (z := (k : Int) + 1 - i) (by omega) hout
      simp [k24_4, k24_6, k24_10, h0, h1, h6, h7, h8, hlen, hltz, iac, ld, ldt, w2, w3, this]
    · have hcqz : ¬ (c.toNat : Int) = (q.toNat : Int) := fun h => hcq (u8_eq.1 h)
      have hcqn : ¬ c.toNat = q.toNat := fun h => hcq (UInt8.toNat_inj.1 h)
      have bad : stepR q (b.drop k) = none → RES = none := by
        intro h
        rw [hR, textG_bad hnek (by rw [ec]; exact hcq) h]
        rfl
      have next : ∀ n o' v' σ' e' L', stepR q (b.drop k) = some (n, o') → OutP (o ++ o') v' σ' → look e' 0 = some (.tr tb) → look e' 1 = some (nv .i64 i) → look e' 6 = some v' → look e' 7 = some (u8v q) → look e' 8 = some (iv ((k : Int) + n)) → m < b.length ∧ I (m + 1) ⟨e', L', σ'⟩ := by
        intro n o' v' σ' e' L' hst hout' g0 g1 g6 g7 g8
        have hle := stepR_le hnek hst
        rw [List.length_drop] at hle
        refine ⟨by omega, ?_⟩
        rw [hI]
        refine ⟨k + n, o ++ o', v', σ', e', L', rfl, by omega, by omega, by rw [List.length_append]; omega, hout', ?_, g0, g1, g6, g7, ?_⟩
        · rw [hR, textG_step hnek (by rw [ec]; exact hcq) hst, comb_comb, List.drop_drop, show k - i + n = k + n - i by omega]
        · rw [g8]; simp
      have app := fun (m : List UInt8) (x : V) (hx : IsSl byE m x) (h0 : 0 < m.length) (h1 : m.length ≤ 1000000) => out_app hout hx h0 (by omega) h1
      clear hR
      have c10 : ((c.toNat : Int) = 10 ↔ c = 10) := u8_eq (c := 10)
      have c92 : ((c.toNat : Int) = 92 ↔ c = 92) := u8_eq (c := 92)
      have c13 : ((c.toNat : Int) = 13 ↔ c = 13) := u8_eq (c := 13)
      have q34 : ((q.toNat : Int) = 34 ↔ q = 34) := u8_eq (c := 34)
      have q96 : ((q.toNat : Int) = 96 ↔ q = 96) := u8_eq (c := 96)
      -- a rune
      have rune : ∀ e L, ¬ (q = 34 ∧ c = 10) → ¬ (q = 34 ∧ c = 92) → look e 0 = some (.tr tb) → look e 1 = some (nv .i64 i) → look e 6 = some v → look e 7 = some (u8v q) → look e 8 = some (nv .i64 k) → look e 9 = some (u8v c) →
          ∀ P : Out → St → Prop, (RES = none → ∀ e' L', look e' 4 = some (iv 0) → look e' 5 = some nilSl → P .ret ⟨e', L', σ⟩) → (∀ s, (m < b.length ∧ I (m + 1) s) → P .normal s) → wpc T k24_48 ⟨e, L, σ⟩ P := by
        intro e L hn1 hn2 h0 h1 h6 h7 h8 h9 P hbad hgood
        have ut := fun σ => utf_ok hb hl hlt (z := (k : Int)) rfl σ
        have hule := utfR_le hnek
        rw [List.length_drop] at hule
        have hst : stepR q (b.drop k) = if utfR (b.drop k) = 0 then none else some (utfR (b.drop k), if q ≠ 96 ∨ c ≠ 13 then (b.drop k).take (utfR (b.drop k)) else []) := by
          unfold stepR
          rw [ec, if_neg hn1, if_neg hn2]
        obtain ⟨N, hN⟩ : ∃ N, utfR (b.drop k) = N := ⟨_, rfl⟩
        rw [hN] at ut hule hst
        by_cases hN0 : N = 0
        · subst hN0
          rw [if_pos rfl] at hst
          simp [k24_48, h0, h1, h6, h7, h8, h9, ut]
          refine hbad (bad hst) _ _ ?_ ?_ <;> simp [nilSl]
        · rw [if_neg hN0] at hst
          have hN0z : ¬ (N : Int) = 0 := by omega
          have w5 : IntKind.i64.wrap ((k : Int) + N) = (k : Int) + N := w64z (by omega) (by omega)
          obtain ⟨t', ht1, ht2⟩ := by_cut hb (lo := k) (hi := k + N) (by omega) (by omega) (y := (k : Int)) (z := (k : Int) + N) rfl (by omega)
          have htk : (b.take (k + N)).drop k = (b.drop k).take N := by rw [List.drop_take, show k + N - k = N by omega]
          rw [htk] at ht2
          have hlN : ((b.drop k).take N).length = N := by rw [List.length_take, List.length_drop]; omega
          obtain ⟨v', σ', hap, hout'⟩ := app _ _ ht2 (by omega) (by omega)
          by_cases hq96 : q = 96
          · have hq96z := q96.2 hq96
            have hq96n : q.toNat = 96 := by omega
            by_cases hc13 : c = 13
            · have hc13z := c13.2 hc13
              have hc13n : c.toNat = 13 := by omega
              rw [if_neg (by simp [hq96, hc13])] at hst
              simp [k24_48, k24_52, k24_54, h0, h1, h6, h7, h8, h9, ut, hN0, hN0z, hq96z, hq96n, hc13z, hc13n, w5]
              refine hgood _ (next N [] v σ _ _ hst (by simpa using hout) ?_ ?_ ?_ ?_ ?_) <;> simp [h0, h1, h6, h7, h8]
            · have hc13z : ¬ (c.toNat : Int) = 13 := fun h => hc13 (c13.1 h)
              have hc13n : ¬ c.toNat = 13 := by omega
              rw [if_pos (.inr hc13)] at hst
              simp [k24_48, k24_52, k24_54, h0, h1, h6, h7, h8, h9, ut, hN0, hN0z, hq96z, hq96n, hc13z, hc13n, w5, ht1, hap]
              refine hgood _ (next N _ v' σ' _ _ hst hout' ?_ ?_ ?_ ?_ ?_) <;> simp [h0, h1, h6, h7, h8]
          · have hq96z : ¬ (q.toNat : Int) = 96 := fun h => hq96 (q96.1 h)
            have hq96n : ¬ q.toNat = 96 := by omega
            rw [if_pos (.inl hq96)] at hst
            simp [k24_48, k24_52, k24_54, h0, h1, h6, h7, h8, h9, ut, hN0, hN0z, hq96z, hq96n, w5, ht1, hap]
            refine hgood _ (next N _ v' σ' _ _ hst hout' ?_ ?_ ?_ ?_ ?_) <;> simp [h0, h1, h6, h7, h8]
      by_cases hq34 : q = 34
      · have hq34z := q34.2 hq34
        have hq34n : q.toNat = 34 := by omega
        by_cases hc10 : c = 10
        · have hc10z := c10.2 hc10
          have hc10n : c.toNat = 10 := by omega
          have hr := bad (by unfold stepR; rw [ec, if_pos ⟨hq34, hc10⟩])
          subst hr
          have hz10 : ¬ (10 : Int) = 34 := by omega
          simp [k24_4, k24_6, k24_10, h0, h1, h6, h7, h8, hlen, hltz, iac, ld, ldt, hc10z, hc10n, hq34z, hq34n, textT]
        · have hc10z : ¬ (c.toNat : Int) = 10 := fun h => hc10 (c10.1 h)
          have hc10n : ¬ c.toNat = 10 := by omega
          by_cases hc92 : c = 92
          · have hc92z := c92.2 hc92
            have hc92n : c.toNat = 92 := by omega
            have hst : stepR q (b.drop k) = escR (b.drop k) := by
              unfold stepR
              rw [ec, if_neg (by simp [hc10]), if_pos ⟨hq34, hc92⟩]
            obtain ⟨d, hd0⟩ : ∃ d, hd b (k + 1) = d := ⟨_, rfl⟩
            have ed : hd (b.drop k) 1 = d := by rw [hd_drop]; exact hd0
            have a1 := fun σ => at_ok hb (k + 1) (z := (k : Int) + 1) (by omega) σ
            rw [hd0] at a1
            have hdb : d ≠ 0 → b[k + 1]? = some d := by
              intro h
              have hlt1 : k + 1 < b.length := hd_pos (by rw [hd0]; exact h)
              obtain ⟨d', hd'⟩ := some_of hlt1
              rw [← hd_of hd', hd0] at hd'
              exact hd'
            have ia1 : d ≠ 0 → ∀ σ, opIaddr 1 (.tr tb) (iv ((k : Int) + 1)) σ = some (.tr (.rptr (b.flatMap byE) (k + 1))) := fun h σ => by_iaZ hb (hdb h) (z := (k : Int) + 1) (by omega) .i64
            unfold escR at hst
            rw [ed] at hst
            simp only [List.drop_drop] at hst
            by_cases hd1 : d = 92 ∨ d = 34
            · rw [if_pos hd1] at hst
              have hdn : d ≠ 0 := by rcases hd1 with h | h <;> rw [h] <;> decide
              obtain ⟨v', σ', hap, hout'⟩ := app _ _ (byT_sl [d]) (by simp) (by simp)
              have bs := bs1 (x := (d.toNat : Int)) (c := d) rfl
              rcases hd1 with hd1 | hd1
              · have hz : (d.toNat : Int) = 92 := by rw [hd1]; rfl
                have hzn : d.toNat = 92 := by omega
                simp [k24_4, k24_6, k24_10, k24_13, k24_18, h0, h1, h6, h7, h8, hlen, hltz, iac, ld, ldt, hc92z, hc92n, hq34z, hq34n, w2, w4, a1, hz, hzn, ia1 hdn, by_ld (hdb hdn), by_ldt (hdb hdn), bs, hap]
                refine next 2 _ v' σ' _ _ hst hout' ?_ ?_ ?_ ?_ ?_ <;> simp [h0, h1, h6, h7, h8, hq34z]
              · have hz : (d.toNat : Int) = 34 := by rw [hd1]; rfl
                have hzn : d.toNat = 34 := by omega
                simp [k24_4, k24_6, k24_10, k24_13, k24_18, h0, h1, h6, h7, h8, hlen, hltz, iac, ld, ldt, hc92z, hc92n, hq34z, hq34n, w2, w4, a1, hz, hzn, ia1 hdn, by_ld (hdb hdn), by_ldt (hdb hdn), bs, hap]
                refine next 2 _ v' σ' _ _ hst hout' ?_ ?_ ?_ ?_ ?_ <;> simp [h0, h1, h6, h7, h8, hq34z]
            · rw [if_neg hd1] at hst
              have d92 : ((d.toNat : Int) = 92 ↔ d = 92) := u8_eq (c := 92)
              have d34 : ((d.toNat : Int) = 34 ↔ d = 34) := u8_eq (c := 34)
              have d110 : ((d.toNat : Int) = 110 ↔ d = 110) := u8_eq (c := 110)
              have d116 : ((d.toNat : Int) = 116 ↔ d = 116) := u8_eq (c := 116)
              have d120 : ((d.toNat : Int) = 120 ↔ d = 120) := u8_eq (c := 120)
              have d117 : ((d.toNat : Int) = 117 ↔ d = 117) := u8_eq (c := 117)
              have e92 : ¬ (d.toNat : Int) = 92 := fun h => hd1 (.inl (d92.1 h))
              have e34 : ¬ (d.toNat : Int) = 34 := fun h => hd1 (.inr (d34.1 h))
              have e92n : ¬ d.toNat = 92 := by omega
              have e34n : ¬ d.toNat = 34 := by omega
              by_cases hd2 : d = 110
              · rw [if_pos hd2] at hst
                have hz := d110.2 hd2
                have hzn : d.toNat = 110 := by omega
                obtain ⟨v', σ', hap, hout'⟩ := app _ _ (byT_sl [10]) (by simp) (by simp)
                have bs := bs1 (x := 10) (c := 10) rfl
                simp [k24_4, k24_6, k24_10, k24_13, k24_18, h0, h1, h6, h7, h8, hlen, hltz, iac, ld, ldt, hc92z, hc92n, hq34z, hq34n, w2, w4, a1, e92, e34, e92n, e34n, hz, hzn, bs, hap]
                refine next 2 _ v' σ' _ _ hst hout' ?_ ?_ ?_ ?_ ?_ <;> simp [h0, h1, h6, h7, h8, hq34z]
              rw [if_neg hd2] at hst
              have e110 : ¬ (d.toNat : Int) = 110 := fun h => hd2 (d110.1 h)
              have e110n : ¬ d.toNat = 110 := by omega
              by_cases hd3 : d = 116
              · rw [if_pos hd3] at hst
                have hz := d116.2 hd3
                have hzn : d.toNat = 116 := by omega
                obtain ⟨v', σ', hap, hout'⟩ := app _ _ (byT_sl [9]) (by simp) (by simp)
                have bs := bs1 (x := 9) (c := 9) rfl
                simp [k24_4, k24_6, k24_10, k24_13, k24_18, h0, h1, h6, h7, h8, hlen, hltz, iac, ld, ldt, hc92z, hc92n, hq34z, hq34n, w2, w4, a1, e92, e34, e92n, e34n, e110, e110n, hz, hzn, bs, hap]
                refine next 2 _ v' σ' _ _ hst hout' ?_ ?_ ?_ ?_ ?_ <;> simp [h0, h1, h6, h7, h8, hq34z]
              rw [if_neg hd3] at hst
              have e116 : ¬ (d.toNat : Int) = 116 := fun h => hd3 (d116.1 h)
              have e116n : ¬ d.toNat = 116 := by omega
              by_cases hd4 : d = 120
              · rw [if_pos hd4] at hst
                have hz := d120.2 hd4
                have hzn : d.toNat = 120 := by omega
                have hdn : d ≠ 0 := by rw [hd4]; decide
                simp [k24_4, k24_6, k24_10, k24_13, k24_18, k24_28, h0, h1, h6, h7, h8, hlen, hltz, iac, ld, ldt, hc92z, hc92n, hq34z, hq34n, w2, w4, a1, e92, e34, e92n, e34n, e110, e110n, e116, e116n, hz, hzn, ia1 hdn, by_ld (hdb hdn), by_ldt (hdb hdn)]
                refine hex_part hb hl (n := 2) (i := i) (q := q) (v := v) (.inl rfl) hlt _ _ ?_ ?_ ?_ ?_ ?_ ?_ ?_ ?_
                · simp [h0]
                · simp [h1]
                · simp [h6]
                · simp [h7]
                · simp [h8]
                · simp
                · intro hsh e' L' h4 h5
                  rw [if_pos hsh] at hst
                  have hr := bad hst
                  subst hr
                  simp [h4, h5, textT, nilSl]
                · intro hsh hbd e' L' g0 g1 g6 g7 g8 g10 g11
                  rw [if_neg (by omega)] at hst
                  obtain ⟨x, hx⟩ : ∃ x, hexN ((b.drop (k + 2)).take 2) = x := ⟨_, rfl⟩
                  rw [hx] at hst hbd g11
                  obtain ⟨v', σ', hap, hout'⟩ := app _ _ (byT_sl [.ofNat x]) (by simp) (by simp)
                  have bs := bs1 (x := IntKind.u8.wrap (x : Int)) (c := .ofNat x) (by rw [of8, IntKind.wrap_u8])
                  have w5 : IntKind.i64.wrap ((k : Int) + 4) = (k : Int) + 4 := w64z (by omega) (by omega)
                  have w6 : IntKind.i64.wrap 4 = 4 := rfl
                  simp [k24_41, k24_46, g0, g1, g6, g7, g8, g10, g11, bs, hap, w5]
                  refine next 4 _ v' σ' _ _ hst hout' ?_ ?_ ?_ ?_ ?_ <;> simp [g0, g1, g6, g7, g8, hq34z, w5, w6]
              rw [if_neg hd4] at hst
              have e120 : ¬ (d.toNat : Int) = 120 := fun h => hd4 (d120.1 h)
              have e120n : ¬ d.toNat = 120 := by omega
              by_cases hd5 : d = 117
              · rw [if_pos hd5] at hst
                have hz := d117.2 hd5
                have hzn : d.toNat = 117 := by omega
                have hdn : d ≠ 0 := by rw [hd5]; decide
                simp [k24_4, k24_6, k24_10, k24_13, k24_18, k24_28, h0, h1, h6, h7, h8, hlen, hltz, iac, ld, ldt, hc92z, hc92n, hq34z, hq34n, w2, w4, a1, e92, e34, e92n, e34n, e110, e110n, e116, e116n, hz, hzn, ia1 hdn, by_ld (hdb hdn), by_ldt (hdb hdn)]
                refine hex_part hb hl (n := 4) (i := i) (q := q) (v := v) (.inr rfl) hlt _ _ ?_ ?_ ?_ ?_ ?_ ?_ ?_ ?_
                · simp [h0]
                · simp [h1]
                · simp [h6]
                · simp [h7]
                · simp [h8]
                · simp
                · intro hsh e' L' h4 h5
                  rw [if_pos hsh] at hst
                  have hr := bad hst
                  subst hr
                  simp [h4, h5, textT, nilSl]
                · intro hsh hbd e' L' g0 g1 g6 g7 g8 g10 g11
                  rw [if_neg (by omega)] at hst
                  obtain ⟨x, hx⟩ : ∃ x, hexN ((b.drop (k + 2)).take 4) = x := ⟨_, rfl⟩
                  rw [hx] at hst hbd g11
                  have r8 := fun σ => rune8_ok x hbd σ
                  obtain ⟨v', σ', hap, hout'⟩ := app _ _ (byT_sl (rune8R x)) (rune8R_pos x) (by have := rune8R_le x; omega)
                  have w5 : IntKind.i64.wrap ((k : Int) + 6) = (k : Int) + 6 := w64z (by omega) (by omega)
                  have w6 : IntKind.i64.wrap 6 = 6 := rfl
                  by_cases s1 : 55296 ≤ x
                  · have s1z : (55296 : Int) ≤ x := by omega
                    by_cases s2 : x < 57344
                    · have s2z : (x : Int) < 57344 := by omega
                      rw [if_pos ⟨s1, s2⟩] at hst
                      have hr := bad hst
                      subst hr
                      simp [k24_41, k24_46, g0, g1, g6, g7, g8, g10, g11, s1, s1z, s2, s2z, textT]
                    · have s2z : ¬ (x : Int) < 57344 := by omega
                      rw [if_neg (by omega)] at hst
                      simp [k24_41, k24_46, g0, g1, g6, g7, g8, g10, g11, s1, s1z, s2, s2z, r8, hap, w5]
                      refine next 6 _ v' σ' _ _ hst hout' ?_ ?_ ?_ ?_ ?_ <;> simp [g0, g1, g6, g7, g8, hq34z, w5, w6]
                  · have s1z : ¬ (55296 : Int) ≤ x := by omega
                    rw [if_neg (by omega)] at hst
                    simp [k24_41, k24_46, g0, g1, g6, g7, g8, g10, g11, s1, s1z, r8, hap, w5]
                    refine next 6 _ v' σ' _ _ hst hout' ?_ ?_ ?_ ?_ ?_ <;> simp [g0, g1, g6, g7, g8, hq34z, w5, w6]
              rw [if_neg hd5] at hst
              have e117 : ¬ (d.toNat : Int) = 117 := fun h => hd5 (d117.1 h)
              have e117n : ¬ d.toNat = 117 := by omega
              have hr := bad hst
              subst hr
              simp [k24_4, k24_6, k24_10, k24_13, k24_18, k24_28, h0, h1, h6, h7, h8, hlen, hltz, iac, ld, ldt, hc92z, hc92n, hq34z, hq34n, w2, w4, a1, e92, e34, e92n, e34n, e110, e110n, e116, e116n, e120, e120n, e117, e117n, textT]
          · have hc92z : ¬ (c.toNat : Int) = 92 := fun h => hc92 (c92.1 h)
            have hc92n : ¬ c.toNat = 92 := by omega
            have hc34z : ¬ (c.toNat : Int) = 34 := by omega
            have hc34n : ¬ c.toNat = 34 := by omega
            simp [hc34z, hc34n, k24_4, k24_6, k24_10, k24_13, h0, h1, h6, h7, h8, hlen, hltz, iac, ld, ldt, hc10z, hc10n, hc92z, hc92n, hq34z, hq34n, hcqz, hcqn]
            refine rune _ _ (by simp [hc10]) (by simp [hc92]) ?_ ?_ ?_ ?_ ?_ ?_ _ ?_ ?_
            · simp [h0]
            · simp [h1]
            · simp [h6]
            · simp [h7]
            · simp [h8]
            · simp
            · intro hr e' L' h4 h5
              subst hr
              simp [h4, h5, textT, nilSl]
            · intro s hs
              simpa using hs
      · have hq34z : ¬ (q.toNat : Int) = 34 := fun h => hq34 (q34.1 h)
        have hq34n : ¬ q.toNat = 34 := by omega
        simp [k24_4, k24_6, k24_10, k24_13, h0, h1, h6, h7, h8, hlen, hltz, iac, ld, ldt, hq34z, hq34n, hcqz, hcqn]
        refine rune _ _ (by simp [hq34]) (by simp [hq34]) ?_ ?_ ?_ ?_ ?_ ?_ _ ?_ ?_
        · simp [h0]
        · simp [h1]
        · simp [h6]
        · simp [h7]
        · simp [h8]
        · simp
        · intro hr e' L' h4 h5
          subst hr
          simp [h4, h5, textT, nilSl]
        · intro s hs
          simpa using hs
  · have hke : k = b.length := by omega
    have hltz : ¬ (k : Int) < b.length := by omega
    have hr : RES = none := by
      rw [hR, List.drop_eq_nil_of_le (by omega), textG_nil]
      rfl
    subst hr
    simp [k24_4, k24_55, h0, h1, h6, h7, h8, hlen, hlt, hltz, textT]
end
end Go.Proofs.YtbdebcmklaooaaaDoor.AM.Sa
end
section
set_option maxRecDepth 1000000
set_option linter.unusedVariables false
set_option linter.unusedSimpArgs false
namespace Go.Proofs.YtbdebcmklaooaaaDoor.AM.Sa
open Go.Proofs
end Go.Proofs.YtbdebcmklaooaaaDoor.AM.Sa
end
section
set_option maxRecDepth 1000000
set_option linter.unusedVariables false
set_option linter.unusedSimpArgs false
namespace Go.Proofs.YtbdebcmklaooaaaDoor.AM.Sa
open Go.Proofs
theorem textG_le {q : UInt8} : ∀ (m : Nat) (s : List UInt8) {n : Nat} {o : List UInt8}, s.length ≤ m → textG q s = some (n, o) → n ≤ s.length
  | 0, s, n, o, hm, h => by
    obtain rfl := List.length_eq_zero_iff.1 (show s.length = 0 by omega)
    simp [textG_nil] at h
  | m + 1, s, n, o, hm, h => by
    by_cases hs : s = []
    · subst hs; simp [textG_nil] at h
    · have hp := List.length_pos_iff.2 hs
      by_cases hq : hd s 0 = q
      · rw [textG_end hs hq] at h
        obtain ⟨rfl, _⟩ := Prod.mk.inj (Option.some.inj h)
        omega
      · cases hst : stepR q s with
        | none => rw [textG_bad hs hq hst] at h; cases h
        | some x =>
          obtain ⟨n', o'⟩ := x
          have hle := stepR_le hs hst
          rw [textG_step hs hq hst] at h
          cases hg : textG q (s.drop n') with
          | none => rw [hg] at h; simp [comb] at h
          | some y =>
            obtain ⟨n2, o2⟩ := y
            rw [hg] at h
            simp only [comb, Option.map_some] at h
            obtain ⟨rfl, _⟩ := Prod.mk.inj (Option.some.inj h)
            have := textG_le m (s.drop n') (by rw [List.length_drop]; omega) hg
            rw [List.length_drop] at this
            omega
theorem textR_le {s : List UInt8} {n : Nat} {o : List UInt8} (hs : s ≠ []) (h : textR s = some (n, o)) : n ≤ s.length ∧ 2 ≤ n := by
  rw [textR_G hs] at h
  have hp := List.length_pos_iff.2 hs
  cases hg : textG (hd s 0) (s.drop 1) with
  | none => rw [hg] at h; simp [comb] at h
  | some y =>
    obtain ⟨n2, o2⟩ := y
    rw [hg] at h
    simp only [comb, Option.map_some] at h
    obtain ⟨rfl, _⟩ := Prod.mk.inj (Option.some.inj h)
    have := textG_le _ (s.drop 1) (Nat.le_refl _) hg
    rw [List.length_drop] at this
    refine ⟨by omega, ?_⟩
    have h1 : s.drop 1 ≠ [] := by rintro h; rw [h, textG_nil] at hg; cases hg
    by_cases hq : hd (s.drop 1) 0 = hd s 0
    · rw [textG_end h1 hq] at hg
      obtain ⟨rfl, _⟩ := Prod.mk.inj (Option.some.inj hg)
      omega
    · cases hst : stepR (hd s 0) (s.drop 1) with
      | none => rw [textG_bad h1 hq hst] at hg; cases hg
      | some x =>
        obtain ⟨n', o'⟩ := x
        have hle := stepR_le h1 hst
        rw [textG_step h1 hq hst] at hg
        cases hg' : textG (hd s 0) ((s.drop 1).drop n') with
        | none => rw [hg'] at hg; simp [comb] at hg
        | some y =>
          rw [hg'] at hg
          simp only [comb, Option.map_some] at hg
          obtain ⟨rfl, _⟩ := Prod.mk.inj (Option.some.inj hg)
          omega
end Go.Proofs.YtbdebcmklaooaaaDoor.AM.Sa
end
section
set_option maxRecDepth 1000000
set_option linter.unusedVariables false
set_option linter.unusedSimpArgs false
namespace Go.Proofs.YtbdebcmklaooaaaDoor.AM.Sa
open Go.Proofs
section
variable {b : List UInt8} {tb : Tree} (hb : IsSl byE b (.tr tb)) (hl : b.length ≤ 1000000) {i : Nat} (hi : i < b.length)
include hb hl hi
end
end Go.Proofs.YtbdebcmklaooaaaDoor.AM.Sa
end
section
set_option maxRecDepth 1000000
set_option linter.unusedVariables false
set_option linter.unusedSimpArgs false
namespace Go.Proofs.YtbdebcmklaooaaaDoor.AM.Sa
open Go.Proofs
section
variable {b : List UInt8} {tb : Tree} (hb : IsSl byE b (.tr tb)) (hl : b.length ≤ 1000000)
include hb hl
end
end Go.Proofs.YtbdebcmklaooaaaDoor.AM.Sa
end
section
set_option maxRecDepth 1000000
set_option linter.unusedVariables false
set_option linter.unusedSimpArgs false
namespace Go.Proofs.YtbdebcmklaooaaaDoor.AM.Sa
open Go.Proofs
section
variable {b : List UInt8} {tb : Tree} (hb : IsSl byE b (.tr tb)) (hl : b.length ≤ 1000000)
include hb hl
end
end Go.Proofs.YtbdebcmklaooaaaDoor.AM.Sa
end
section
set_option maxRecDepth 1000000
set_option linter.unusedVariables false
set_option linter.unusedSimpArgs false
namespace Go.Proofs.YtbdebcmklaooaaaDoor.AM.Sa
open Go.Proofs
section
variable {c : CallA} {i : Nat} {ns : List Nat} {is : List (Nat × List Nat)} {d : Option Nat} {inK : Bool} {k : HK} {r : List HOp} {st : St} {K : St → Prop} {ps : List Pend} {p : Pend}
end

theorem eqInt_refl (z : Int) : eqInt z z = true := by cases z <;> simp [eqInt]
theorem eqTL_by : ∀ (s : List UInt8), eqTL (s.flatMap byE) (s.flatMap byE) = true
  | [] => rfl
  | c :: s => by
    rw [List.flatMap_cons]
    show (eqT _ _ && eqTL (s.flatMap byE) (s.flatMap byE)) = true
    rw [eqTL_by s, Bool.and_true]
    simp [eqT, eqS, eqInt_refl]
theorem eqO_refl (o : Option Nat) : eqO o o = true := by cases o <;> simp [eqO]
theorem eqV_by {s : List UInt8} {t : Tree} (h : IsSl byE s (.tr t)) : eqV (.tr t) (.tr t) = true := by
  rcases h with ⟨_, h⟩ | ⟨cap, h⟩
  · cases h; rfl
  · cases h
    simp [eqV, eqT, eqTL_by, eqO_refl]
theorem by_map : ∀ (b : List UInt8), b.flatMap byE = b.map (fun c => Tree.sc (.int .u8 (c.toNat : Int)))
  | [] => rfl
  | x :: y => by rw [List.flatMap_cons, by_map y]; rfl
/-- Bytes' cells. -/
def bC (b : List UInt8) : List V := (b.flatMap byE).map .tr
theorem bC_len (b : List UInt8) : (bC b).length = b.length := by
  unfold bC
  rw [List.length_map, flat_len byE_len, Nat.mul_one]
/-- A slice of bytes, with a place (not at `id`) or without. -/
def BV (σ : Store) (id : Nat) (bt : V) (b : List UInt8) : Prop := (∃ tb, bt = .tr tb ∧ IsSl byE b (.tr tb)) ∨ (∃ j g cap, j ≠ id ∧ bt = .own j g 0 b.length 1 cap ∧ σ[j]? = some (.row (bC b) g))
/-- Tokens that are gathered. -/
def TL (σ : Store) (id : Nat) (bt : V) (l : List Tk) (lv : V) : Prop := (l = [] ∧ lv = nilSl) ∨ (0 < l.length ∧ ∃ m g, m ≠ id ∧ (∀ j g' n c, bt = .own j g' 0 n 1 c → j ≠ m) ∧ lv = .own m g 0 l.length 3 none ∧ σ[m]? = some (.row ((l.flatMap tkE).map .tr) g))
/-- A scanner. -/
def SC (σ : Store) (id : Nat) (b : List UInt8) (a : Nat) (need : Bool) (l : List Tk) (bt lv : V) : Prop := σ[id]? = some (.row [bt, nv .i64 a, bv need, lv] 0) ∧ BV σ id bt b ∧ TL σ id bt l lv
section
variable {σ : Store} {id : Nat} {b : List UInt8} {a a' : Nat} {need need' : Bool} {l : List Tk} {bt lv : V}
theorem bv_len (h : BV σ id bt b) (σ' : Store) : opLen 1 bt σ' = some (nv .i64 b.length) := by
  rcases h with ⟨tb, rfl, h⟩ | ⟨j, g, cap, _, rfl, _⟩
  · exact by_len h
  · rfl
theorem bv_at (h : BV σ id bt b) {i : Nat} {c : UInt8} (hi : b[i]? = some c) {z : Int} (hz : z = i) : ∃ p, opIaddr 1 bt (iv z) σ = some p ∧ opLoad 1 false p σ = some (u8v c) := by
  subst hz
  rcases h with ⟨tb, rfl, h⟩ | ⟨j, g, cap, _, rfl, hs⟩
  · exact ⟨_, by_ia h hi .i64, by_ld hi⟩
  · have hlt := (List.getElem?_eq_some_iff.1 hi).1
    refine ⟨.ptr j g (0 + i), own_iaddr hs hlt, ?_⟩
    have h1 : obCells σ j g = some (bC b) := by simp [obCells, hs]
    have hx : (bC b)[i]? = some (u8v c) := by
      unfold bC
      rw [List.getElem?_map, by_map, List.getElem?_map, hi]
      rfl
    have h2 : slice? (bC b) (0 + i) 1 = some [u8v c] := by
      have hlt' : i < (bC b).length := by rw [bC_len]; exact hlt
      unfold slice?
      have : ((bC b).drop (0 + i)).take 1 = [u8v c] := by
        rw [Nat.zero_add, List.drop_eq_getElem_cons hlt']
        rw [List.getElem?_eq_getElem hlt'] at hx
        simp [Option.some.inj hx]
      simp only [this]
      rfl
    simp only [opLoad, h1, h2, ofCells]
theorem sc_l0 (h : SC σ id b a need l bt lv) : opLoad 1 false (.ptr id 0 0) σ = some bt := by
  have h1 : obCells σ id 0 = some [bt, nv .i64 a, bv need, lv] := by simp [obCells, h.1]
  simp only [opLoad, h1]; rfl
theorem sc_l1 (h : SC σ id b a need l bt lv) : opLoad 1 false (.ptr id 0 1) σ = some (nv .i64 a) := by
  have h1 : obCells σ id 0 = some [bt, nv .i64 a, bv need, lv] := by simp [obCells, h.1]
  simp only [opLoad, h1]; rfl
theorem bv_set (h : BV σ id bt b) {k : Nat} {x : Ob} (hk : ∀ j g n c, bt = .own j g 0 n 1 c → j ≠ k) : BV (σ.set k x) id bt b := by
  rcases h with h | ⟨j, g, cap, h1, rfl, h2⟩
  · exact .inl h
  · exact .inr ⟨j, g, cap, h1, rfl, by rw [List.getElem?_set_ne (Ne.symm (hk _ _ _ _ rfl))]; exact h2⟩
theorem bv_ne (h : BV σ id bt b) : ∀ j g n c, bt = .own j g 0 n 1 c → j ≠ id := by
  intro j g n c e
  rcases h with ⟨tb, rfl, _⟩ | ⟨j', g', cap, h1, rfl, h2⟩
  · cases e
  · cases e; exact h1
theorem tl_set (h : TL σ id bt l lv) {x : Ob} : TL (σ.set id x) id bt l lv := by
  rcases h with h | ⟨h0, m, g, h1, h2, rfl, h3⟩
  · exact .inl h
  · exact .inr ⟨h0, m, g, h1, h2, rfl, by rw [List.getElem?_set_ne (Ne.symm h1)]; exact h3⟩
theorem sc_set (h : SC σ id b a need l bt lv) (a' : Nat) (need' : Bool) : SC (σ.set id (.row [bt, nv .i64 a', bv need', lv] 0)) id b a' need' l bt lv :=
  ⟨List.getElem?_set_self (List.getElem?_eq_some_iff.1 h.1).1, bv_set h.2.1 (bv_ne h.2.1), tl_set h.2.2⟩
theorem sc_s1 (h : SC σ id b a need l bt lv) {z : Int} (hz : z = a') : ∃ σ', opStore 1 (.ptr id 0 1) (iv z) σ = some σ' ∧ SC σ' id b a' need l bt lv := by
  subst hz
  refine ⟨_, ?_, sc_set h a' need⟩
  have h1 : cellsOf (iv a') = [iv a'] := rfl
  unfold opStore
  simp only [h1, List.length_singleton, if_true]
  unfold obPut
  rw [h.1]
  rfl
theorem sc_nc : opNilCheck (.ptr id 0 0) = some (.ptr id 0 0) := rfl
theorem sc_f (k : Nat) : opFaddr k (.ptr id 0 0) = some (.ptr id 0 k) := by
  unfold opFaddr
  simp
end
end Go.Proofs.YtbdebcmklaooaaaDoor.AM.Sa
end
section
set_option maxRecDepth 1000000
set_option linter.unusedVariables false
set_option linter.unusedSimpArgs false
namespace Go.Proofs.YtbdebcmklaooaaaDoor.AM.Sa
open Go.Proofs
/-- A value that holds bytes. -/
def Bs (σ : Store) (v : V) (x : List UInt8) : Prop := opConv .bytesStr v σ = some (sv x, σ) ∧ (∀ r xs, rdB σ r = some xs → rdB σ (v :: r) = some (.string ⟨⟨x⟩⟩ :: xs)) ∧ eqV v v = true
theorem bytes_bC (x : List UInt8) : bytesOf? (bC x) = some x := byE_bytes x
theorem bs_tr {σ : Store} {t : Tree} {x : List UInt8} (h : IsSl byE x (.tr t)) : Bs σ (.tr t) x := by
  refine ⟨by_str h σ, ?_, eqV_by h⟩
  intro r xs hr
  rcases h with ⟨rfl, h⟩ | ⟨cap, h⟩
  · cases h
    simp only [rdB, hr]
  · cases h
    have h1 : elems σ 1 (.tr (.row (x.flatMap byE) x.length cap)) = some ((x.flatMap byE).map .tr, x.length) := by
      simp [elems, flat_len byE_len x]
    simp only [rdB, hr, h1, byE_bytes]
theorem bs_own {σ : Store} {j g off : Nat} {cap : Option Nat} {x : List UInt8} (h : elems σ 1 (.own j g off x.length 1 cap) = some (bC x, x.length)) : Bs σ (.own j g off x.length 1 cap) x := by
  refine ⟨?_, ?_, ?_⟩
  · simp only [opConv, h, bytes_bC]
  · intro r xs hr
    simp only [rdB, hr, h, bytes_bC]
  · simp [eqV, eqO_refl]
section
variable {σ : Store} {id : Nat} {b : List UInt8} {bt : V}
theorem own_el {j g : Nat} {cap : Option Nat} {lo n : Nat} (hs : σ[j]? = some (.row (bC b) g)) (h : lo + n ≤ b.length) : elems σ 1 (.own j g lo n 1 cap) = some (bC ((b.drop lo).take n), n) := by
  have h1 : obCells σ j g = some (bC b) := by simp [obCells, hs]
  have h2 : slice? (bC b) lo n = some (bC ((b.drop lo).take n)) := by
    unfold slice?
    have e : ((bC b).drop lo).take n = bC ((b.drop lo).take n) := by
      unfold bC
      rw [by_map, by_map, List.map_map, List.map_map, List.map_take, List.map_drop]
    simp only [e]
    rw [if_pos (by rw [bC_len, List.length_take, List.length_drop]; omega)]
  simp only [elems, if_true, h1, Nat.mul_one, h2]
theorem bv_rest (h : BV σ id bt b) {lo : Nat} (h1 : lo ≤ b.length) {y : Int} (hy : y = lo) : ∃ v', ∀ σ', BV σ' id bt b → opSlice 1 bt (some (iv y)) none none σ' = some v' ∧ Bs σ' v' (b.drop lo) := by
  rcases h with ⟨tb, rfl, h⟩ | ⟨j, g, cap, _, rfl, hs⟩
  · obtain ⟨t', h3, h4⟩ := by_cut_lo h h1 hy
    exact ⟨_, fun σ' _ => ⟨h3 σ', bs_tr h4⟩⟩
  · subst hy
    refine ⟨.own j g (0 + lo * 1) (b.length - lo) 1 (cutCap cap none lo), fun σ' hb' => ?_⟩
    have hs : σ'[j]? = some (.row (bC b) g) := by
      rcases hb' with ⟨tb, e, _⟩ | ⟨j', g', cap', _, e, hs⟩
      · cases e
      · cases e; exact hs
    have h3 : obCells σ' j g = some (bC b) := by simp [obCells, hs]
    refine ⟨?_, ?_⟩
    · unfold opSlice
      simp only [optIdx, asIdx_nat, Option.isSome_none, Bool.false_and, Bool.false_eq_true, if_false, Option.getD_some, Option.getD_none, ne_eq, not_true_eq_false, h3]
      rw [if_pos ⟨h1, Nat.le_refl _, .inl (Nat.le_refl _)⟩]
    · rw [Nat.zero_add, Nat.mul_one]
      have e := own_el (cap := cutCap cap none lo) (lo := lo) (n := b.length - lo) hs (by omega)
      have el : (b.drop lo).length = b.length - lo := List.length_drop
      have e2 : (b.drop lo).take (b.length - lo) = b.drop lo := by rw [← el, List.take_length]
      rw [e2] at e
      have := bs_own (σ := σ') (j := j) (g := g) (off := lo) (cap := cutCap cap none lo) (x := b.drop lo) (by rw [el]; exact e)
      rwa [el] at this
end
end Go.Proofs.YtbdebcmklaooaaaDoor.AM.Sa
end
section
set_option maxRecDepth 1000000
set_option linter.unusedVariables false
set_option linter.unusedSimpArgs false
namespace Go.Proofs.YtbdebcmklaooaaaDoor.AM.Sa
open Go.Proofs
section
variable {σ : Store} {id : Nat} {b : List UInt8} {a : Nat} {need : Bool} {l : List Tk} {bt lv : V}
theorem ahead_ok (h : SC σ id b a need l bt lv) (hl : b.length ≤ 1000000) (ha : a ≤ 2000000) {k : Nat} (hk : k ≤ 1000000) {z : Int} (hz : z = k) : callL T 37 [.ptr id 0 0, iv z] σ = some (u8v (hd b (a + k)), σ) := by
  subst hz
  suffices hh : ∃ v σ', callL T 37 [.ptr id 0 0, iv (k : Int)] σ = some (v, σ') ∧ (v = u8v (hd b (a + k)) ∧ σ' = σ) by
    obtain ⟨v, σ', h, rfl, rfl⟩ := hh
    exact h
  refine call_shared T37 rfl rfl ?_
  have hlen := bv_len h.2.1
  have w1 : IntKind.i64.wrap ((a : Int) + k) = (a : Int) + k := w64z (by omega) (by omega)
  have l0 := sc_l0 h
  have l1 := sc_l1 h
  by_cases hin : a + k < b.length
  · obtain ⟨c, hc⟩ := some_of hin
    have hz : ¬ (b.length : Int) ≤ (a : Int) + k := by omega
    obtain ⟨p, hp1, hp2⟩ := bv_at h.2.1 hc (z := (a : Int) + k) (by omega)
    rw [hd_of hc]
    simp [k37_3, sc_nc, sc_f, l0, l1, hlen, w1, hz, hp1, hp2]
  · have hz : (b.length : Int) ≤ (a : Int) + k := by omega
    rw [hd_none (by omega)]
    simp [k37_3, sc_nc, sc_f, l0, l1, hlen, w1, hz]
end
end Go.Proofs.YtbdebcmklaooaaaDoor.AM.Sa
end
section
set_option maxRecDepth 1000000
set_option linter.unusedVariables false
set_option linter.unusedSimpArgs false
namespace Go.Proofs.YtbdebcmklaooaaaDoor.AM.Sa
open Go.Proofs
theorem call_ext {f k : Nat} {fn : HFn} {vs : List V} {σ : Store} {v : V} (hf : T f = some fn) (hm : fn.mode = .ext k) (hl : fn.nargs = vs.length) (h : extV k vs σ = some v) : callL T f vs σ = some (v, σ) := by
  refine callL_some.2 ⟨1, ?_⟩
  rw [callA, hf]
  simp only [hl, if_true, hm, h]
end Go.Proofs.YtbdebcmklaooaaaDoor.AM.Sa
end
section
set_option maxRecDepth 1000000
set_option linter.unusedVariables false
set_option linter.unusedSimpArgs false
namespace Go.Proofs.YtbdebcmklaooaaaDoor.AM.Sa
open Go.Proofs
section
variable {c : CallA} {i : Nat} {ns : List Nat} {is : List (Nat × List Nat)} {d : Option Nat} {inK : Bool} {k : HK} {r : List HOp} {st : St} {K : St → Prop} {ps : List Pend} {p : Pend}
end
section
variable {σ : Store} {id : Nat} {b : List UInt8} {a : Nat} {need : Bool} {l : List Tk} {bt lv : V}
end
end Go.Proofs.YtbdebcmklaooaaaDoor.AM.Sa
end
