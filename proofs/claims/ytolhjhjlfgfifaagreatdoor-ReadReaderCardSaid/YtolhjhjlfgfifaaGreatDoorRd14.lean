/- the reader: parts 14, 15, 16, 17, 18, 19, 20, 21, 22, 23, 24, 25. -/
import Derived.Test.YtolhjhjlfgfifaaGreatDoorRd2
set_option linter.unusedSectionVars false
section
set_option maxRecDepth 1000000
set_option linter.unusedVariables false
set_option linter.unusedSimpArgs false
namespace Go.Proofs.YtolhjhjlfgfifaaGreatDoor.AM.Rd
open Go.Proofs
def textT (r : Option (Nat × List UInt8)) : Tree := match r with | none => .tup [.sc (.int .i64 0), .sc (.slice none 0 0)] | some (n, o) => .tup [.sc (.int .i64 (n : Int)), outT o]
theorem own_end {o : List UInt8} {v : V} {σ : Store} {n : Nat} {z : Int} (hz : z = n) (h : OutP o v σ) : snap σ deepN (mkTup [iv z, v]) = some (textT (some (n, o))) := by
  subst hz
  rcases h with ⟨rfl, rfl, rfl⟩ | ⟨h0, g, rfl, rfl⟩
  · rfl
  · have := out_snap (d := deepN - 2) (v := .own 0 g 0 o.length 1 none) (o := o) (.inr ⟨h0, g, rfl, rfl⟩)
    show snap _ deepN (.tup [iv n, .own 0 g 0 o.length 1 none]) = _
    have e : deepN = deepN - 2 + 1 + 1 := rfl
    rw [e]
    unfold snap
    simp only [snapL]
    rw [this]
    rfl
theorem inB_dv {c : UInt8} (h : inB 16 c = true) : 0 ≤ dv c ∧ dv c < 16 := by
  simpa [inB] using h
theorem hexN_lt : ∀ (n : Nat) (l : List UInt8), l.length = n → (∀ c ∈ l, inB 16 c = true) → hexN l < 16 ^ n
  | 0, l, h, _ => by
    obtain rfl := List.length_eq_zero_iff.1 h
    simp [hexN]
  | n + 1, l, h, ha => by
    have hne : l ≠ [] := by rintro rfl; simp at h
    have h1 := hexN_lt n l.dropLast (by rw [List.length_dropLast]; omega) (fun c hc => ha c (List.dropLast_subset l hc))
    have h2 := inB_dv (ha _ (List.getLast_mem hne))
    rw [← List.dropLast_concat_getLast hne, hexN_snoc, Nat.pow_succ]
    omega
section
variable {b : List UInt8} {tb : Tree} (hb : IsSl byE b (.tr tb)) (hl : b.length ≤ 1000000) {k : Nat}
include hb hl
theorem hex_part {P : Out → St → Prop} {n i : Nat} {q : UInt8} {v : V} {σ : Store} (hn : n = 2 ∨ n = 4) (hk : k < b.length) (e L : List (Nat × V)) (h0 : look e 0 = some (.tr tb)) (h1 : look e 1 = some (nv .i64 i)) (h6 : look e 6 = some v) (h7 : look e 7 = some (u8v q)) (h8 : look e 8 = some (nv .i64 k)) (h10 : look e 10 = some (nv .i64 n))
    (hbad : nrun (inB 16) (b.drop (k + 2)) < n → ∀ e' L', look e' 4 = some (iv 0) → look e' 5 = some nilSl → P .ret ⟨e', L', σ⟩)
    (hgood : n ≤ nrun (inB 16) (b.drop (k + 2)) → hexN ((b.drop (k + 2)).take n) < 65536 → ∀ e' L', look e' 0 = some (.tr tb) → look e' 1 = some (nv .i64 i) → look e' 6 = some v → look e' 7 = some (u8v q) → look e' 8 = some (nv .i64 k) → look e' 10 = some (nv .i64 n) → look e' 11 = some (nv .i64 (hexN ((b.drop (k + 2)).take n))) → wpc T k49_41 ⟨e', L', σ⟩ P) :
    wpc T k49_32 ⟨e, L, σ⟩ P := by
  have w2 : IntKind.i64.wrap ((k : Int) + 2) = (k : Int) + 2 := w64z (by omega) (by omega)
  have dg := fun σ => digits_ok hb hl (k + 2) 16 (by omega) (z := (k : Int) + 2) (y := 16) (by omega) rfl σ
  obtain ⟨R, hR⟩ : ∃ R, nrun (inB 16) (b.drop (k + 2)) = R := ⟨_, rfl⟩
  have hRl : R ≤ b.length - (k + 2) := by rw [← hR, ← List.length_drop]; exact nrun_le
  have hdg : ∀ (m : Nat) c, m < R → (b.drop (k + 2))[m]? = some c → inB 16 c = true := by
    intro m c hm hc
    obtain ⟨c2, h5, h6⟩ := nrun_lt (p := inB 16) (s := b.drop (k + 2)) (n := m) (by omega)
    rw [hc] at h5
    cases h5
    exact h6
  rw [hR] at dg hbad hgood
  by_cases hlt : R < n
  · have hltz : (R : Int) < n := by omega
    simp [k49_32, h0, h8, h10, w2, dg, hltz]
    refine hbad hlt _ _ ?_ ?_ <;> simp [nilSl]
  · have hltz : ¬ (R : Int) < n := by omega
    have hall : ∀ j, j ≤ n → ∀ c ∈ (b.drop (k + 2)).take j, inB 16 c = true := by
      intro j hj c hc
      obtain ⟨m, hm⟩ := List.mem_iff_getElem?.1 hc
      rw [List.getElem?_take] at hm
      split at hm
      · exact hdg m c (by omega) hm
      · cases hm
    have hbd : ∀ j, j ≤ n → hexN ((b.drop (k + 2)).take j) < 65536 := by
      intro j hj
      have h := hexN_lt j ((b.drop (k + 2)).take j) (by rw [List.length_take, List.length_drop]; omega) (hall j hj)
      have : 16 ^ j ≤ 16 ^ 4 := Nat.pow_le_pow_right (by omega) (by omega)
      omega
    obtain ⟨I, hI⟩ : ∃ I : Nat → St → Prop, I = fun j st => j ≤ n ∧ ∃ e L, st = ⟨e, L, σ⟩ ∧ look e 0 = some (.tr tb) ∧ look e 1 = some (nv .i64 i) ∧ look e 6 = some v ∧ look e 7 = some (u8v q) ∧ look e 8 = some (nv .i64 k) ∧ look e 10 = some (nv .i64 n) ∧ look e 11 = some (nv .i64 (hexN ((b.drop (k + 2)).take j))) ∧ look e 12 = some (nv .i64 j) := ⟨_, rfl⟩
    simp [k49_32, k49_35, h0, h8, h10, w2, dg, hltz]
    refine wpc_up n I (by rw [hI]; refine ⟨Nat.zero_le _, _, _, rfl, ?_, ?_, ?_, ?_, ?_, ?_, ?_, ?_⟩ <;> simp [h0, h1, h6, h7, h8, h10, hexN]) ?_
    intro j st hst
    rw [hI] at hst
    obtain ⟨hj, e, L, rfl, h0, h1, h6, h7, h8, h10, h11, h12⟩ := hst
    by_cases hjn : j < n
    · have hjz : (j : Int) < n := by omega
      obtain ⟨c, hc⟩ := some_of (l := b) (i := k + 2 + j) (by omega)
      have hc' : (b.drop (k + 2))[j]? = some c := by simpa using hc
      have iac := fun σ => by_iaZ (σ := σ) hb hc (z := (k : Int) + 2 + j) (by omega) .i64
      have hd16 := inB_dv (hdg j c (by omega) hc')
      have hsn : hexN ((b.drop (k + 2)).take (j + 1)) = 16 * hexN ((b.drop (k + 2)).take j) + (dv c).toNat := by rw [take_snoc hc', hexN_snoc]
      have hb1 := hbd j hj
      obtain ⟨V0, hV0⟩ : ∃ V0, hexN ((b.drop (k + 2)).take j) = V0 := ⟨_, rfl⟩
      rw [hV0] at h11 hsn hb1
      have hm16 : opBin .other .mul (iv 16) (nv .i64 V0) = some (iv (16 * (V0 : Int))) := by
        show some (V.tr (.sc (.int .i64 (IntKind.i64.wrap (16 * (V0 : Int)))))) = _
        rw [w64z (by omega) (by omega)]
      have w3 : IntKind.i64.wrap ((k : Int) + 2 + j) = (k : Int) + 2 + j := w64z (by omega) (by omega)
      have w4 : IntKind.i64.wrap (16 * (V0 : Int) + dv c) = 16 * (V0 : Int) + dv c := w64z (by omega) (by omega)
      have w5 : IntKind.i64.wrap ((j : Int) + 1) = (j : Int) + 1 := w64z (by omega) (by omega)
      have dk := fun σ => digit_ok c σ
      simp [k49_38, k49_40, h0, h8, h10, h11, h12, hjn, hjz, w2, w3, w4, w5, hm16, iac, by_ld hc, dk]
      rw [hI]
      refine ⟨by omega, _, _, rfl, ?_, ?_, ?_, ?_, ?_, ?_, ?_, ?_⟩
      all_goals simp [h0, h1, h6, h7, h8, h10]
      rw [hsn]
      omega
    · obtain rfl : j = n := by omega
      simp [k49_38, h10, h12]
      refine hgood (by omega) (hbd j (Nat.le_refl _)) _ _ ?_ ?_ ?_ ?_ ?_ ?_ ?_ <;> simp [h0, h1, h6, h7, h8, h10, h11]
end
end Go.Proofs.YtolhjhjlfgfifaaGreatDoor.AM.Rd
end
section
set_option maxRecDepth 1000000
set_option linter.unusedVariables false
set_option linter.unusedSimpArgs false
namespace Go.Proofs.YtolhjhjlfgfifaaGreatDoor.AM.Rd
open Go.Proofs
section
variable {b : List UInt8} {tb : Tree} (hb : IsSl byE b (.tr tb)) (hl : b.length ≤ 1000000) {i : Nat} (hi : i < b.length)
include hb hl hi
theorem text_ok {z : Int} (hz : z = i) (σ : Store) : callL T 49 [.tr tb, iv z] σ = some (.tr (textT (textR (b.drop i))), σ) := by
  subst hz
  suffices hh : ∃ t, (∀ σ, callL T 49 ([tb, .sc (.int .i64 (i : Int))].map .tr) σ = some (.tr t, σ)) ∧ t = textT (textR (b.drop i)) by
    obtain ⟨t, h, rfl⟩ := hh
    exact h σ
  refine call_iso T49 rfl rfl ?_
  obtain ⟨q, hq⟩ := some_of hi
  have eq0 : hd (b.drop i) 0 = q := by rw [hd_drop]; exact hd_of hq
  have hia := fun σ => by_ia (σ := σ) hb hq .i64
  have hlen : ∀ σ, opLen 1 (.tr tb) σ = some (nv .i64 b.length) := fun σ => by_len hb
  have hne : b.drop i ≠ [] := by
    intro h
    have := congrArg List.length h
    rw [List.length_drop] at this
    simp at this
    omega
  rw [textR_G hne, eq0, List.drop_drop]
  obtain ⟨RES, hRES⟩ : ∃ R, comb 1 [] (textG q (b.drop (i + 1))) = R := ⟨_, rfl⟩
  rw [hRES]
  have w1 : IntKind.i64.wrap ((i : Int) + 1) = (i : Int) + 1 := w64z (by omega) (by omega)
  obtain ⟨I, hI⟩ : ∃ I : Nat → St → Prop, I = fun m st => ∃ k o v σ e L, st = ⟨e, L, σ⟩ ∧ i + 1 + m ≤ k ∧ k ≤ b.length ∧ o.length ≤ k ∧ OutP o v σ ∧ RES = comb (k - i) o (textG q (b.drop k)) ∧ look e 0 = some (.tr tb) ∧ look e 1 = some (nv .i64 i) ∧ look e 6 = some v ∧ look e 7 = some (u8v q) ∧ look e 8 = some (nv .i64 k) := ⟨_, rfl⟩
  simp [hia, by_ld hq, w1]
  refine wpc_up b.length I (by rw [hI]; exact ⟨i + 1, [], nilSl, [], _, _, rfl, by omega, by omega, by simp, .inl ⟨rfl, rfl, rfl⟩, by rw [← hRES, show i + 1 - i = 1 by omega], by simp, by simp, by simp [nilSl], by simp, by simp⟩) ?_
  intro m st hst
  rw [hI] at hst
  obtain ⟨k, o, v, σ, e, L, rfl, hk1, hk2, ho, hout, hR, h0, h1, h6, h7, h8⟩ := hst
  by_cases hlt : k < b.length
  · have hltz : (k : Int) < b.length := by omega
    obtain ⟨c, hc⟩ := some_of hlt
    have ec : hd (b.drop k) 0 = c := by rw [hd_drop]; exact hd_of hc
    have iac := fun σ => by_ia (σ := σ) hb hc .i64
    have ld := fun σ => by_ld (σ := σ) hc
    have ldt := by_ldt hc
    have hnek : b.drop k ≠ [] := by
      intro h
      have := congrArg List.length h
      rw [List.length_drop] at this
      simp at this
      omega
    have w2 : IntKind.i64.wrap ((k : Int) + 1) = (k : Int) + 1 := w64z (by omega) (by omega)
    have w3 : IntKind.i64.wrap ((k : Int) + 1 - i) = (k : Int) + 1 - i := w64z (by omega) (by omega)
    have w4 : IntKind.i64.wrap ((k : Int) + 2) = (k : Int) + 2 := w64z (by omega) (by omega)
    by_cases hcq : c = q
    · have hr : RES = some (k + 1 - i, o) := by
        rw [hR, textG_end hnek (by rw [ec, hcq]), show k + 1 - i = k - i + 1 by omega]
        simp [comb]
      subst hcq
      rw [hr]
      have := own_end (n := k + 1 - i) (z := (k : Int) + 1 - i) (by omega) hout
      simp [k49_4, k49_6, k49_10, h0, h1, h6, h7, h8, hlen, hltz, iac, ld, w2, w3, this]
    · have hcqz : ¬ (c.toNat : Int) = (q.toNat : Int) := fun h => hcq (u8_eq.1 h)
      have hcqn : ¬ c.toNat = q.toNat := fun h => hcq (UInt8.toNat_inj.1 h)
      have bad : stepR q (b.drop k) = none → RES = none := by
        intro h
        rw [hR, textG_bad hnek (by rw [ec]; exact hcq) h]
        rfl
      have next : ∀ n o' v' σ' e' L', stepR q (b.drop k) = some (n, o') → OutP (o ++ o') v' σ' → look e' 0 = some (.tr tb) → look e' 1 = some (nv .i64 i) → look e' 6 = some v' → look e' 7 = some (u8v q) → look e' 8 = some (iv ((k : Int) + n)) → m < b.length ∧ I (m + 1) ⟨e', L', σ'⟩ := by
        intro n o' v' σ' e' L' hst hout' g0 g1 g6 g7 g8
        have hle := stepR_le hnek hst
        rw [List.length_drop] at hle
        refine ⟨by omega, ?_⟩
        rw [hI]
        refine ⟨k + n, o ++ o', v', σ', e', L', rfl, by omega, by omega, by rw [List.length_append]; omega, hout', ?_, g0, g1, g6, g7, ?_⟩
        · rw [hR, textG_step hnek (by rw [ec]; exact hcq) hst, comb_comb, List.drop_drop, show k - i + n = k + n - i by omega]
        · rw [g8]; simp
      have app := fun (m : List UInt8) (x : V) (hx : IsSl byE m x) (h0 : 0 < m.length) (h1 : m.length ≤ 1000000) => out_app hout hx h0 (by omega) h1
      clear hR
      have c10 : ((c.toNat : Int) = 10 ↔ c = 10) := u8_eq (c := 10)
      have c92 : ((c.toNat : Int) = 92 ↔ c = 92) := u8_eq (c := 92)
      have c13 : ((c.toNat : Int) = 13 ↔ c = 13) := u8_eq (c := 13)
      have q34 : ((q.toNat : Int) = 34 ↔ q = 34) := u8_eq (c := 34)
      have q96 : ((q.toNat : Int) = 96 ↔ q = 96) := u8_eq (c := 96)
      have rune : ∀ e L, ¬ (q = 34 ∧ c = 10) → ¬ (q = 34 ∧ c = 92) → look e 0 = some (.tr tb) → look e 1 = some (nv .i64 i) → look e 6 = some v → look e 7 = some (u8v q) → look e 8 = some (nv .i64 k) → look e 9 = some (u8v c) →
          ∀ P : Out → St → Prop, (RES = none → ∀ e' L', look e' 4 = some (iv 0) → look e' 5 = some nilSl → P .ret ⟨e', L', σ⟩) → (∀ s, (m < b.length ∧ I (m + 1) s) → P .normal s) → wpc T k49_48 ⟨e, L, σ⟩ P := by
        intro e L hn1 hn2 h0 h1 h6 h7 h8 h9 P hbad hgood
        have ut := fun σ => utf_ok hb hl hlt (z := (k : Int)) rfl σ
        have hule := utfR_le hnek
        rw [List.length_drop] at hule
        have hst : stepR q (b.drop k) = if utfR (b.drop k) = 0 then none else some (utfR (b.drop k), if q ≠ 96 ∨ c ≠ 13 then (b.drop k).take (utfR (b.drop k)) else []) := by
          unfold stepR
          rw [ec, if_neg hn1, if_neg hn2]
        obtain ⟨N, hN⟩ : ∃ N, utfR (b.drop k) = N := ⟨_, rfl⟩
        rw [hN] at ut hule hst
        by_cases hN0 : N = 0
        · subst hN0
          rw [if_pos rfl] at hst
          simp [k49_48, h0, h8, ut]
          refine hbad (bad hst) _ _ ?_ ?_ <;> simp [nilSl]
        · rw [if_neg hN0] at hst
          have hN0z : ¬ (N : Int) = 0 := by omega
          have w5 : IntKind.i64.wrap ((k : Int) + N) = (k : Int) + N := w64z (by omega) (by omega)
          obtain ⟨t', ht1, ht2⟩ := by_cut hb (lo := k) (hi := k + N) (by omega) (by omega) (y := (k : Int)) (z := (k : Int) + N) rfl (by omega)
          have htk : (b.take (k + N)).drop k = (b.drop k).take N := by rw [List.drop_take, show k + N - k = N by omega]
          rw [htk] at ht2
          have hlN : ((b.drop k).take N).length = N := by rw [List.length_take, List.length_drop]; omega
          obtain ⟨v', σ', hap, hout'⟩ := app _ _ ht2 (by omega) (by omega)
          by_cases hq96 : q = 96
          · have hq96z := q96.2 hq96
            have hq96n : q.toNat = 96 := by omega
            by_cases hc13 : c = 13
            · have hc13z := c13.2 hc13
              have hc13n : c.toNat = 13 := by omega
              rw [if_neg (by simp [hq96, hc13])] at hst
              simp [k49_48, k49_52, k49_54, h0, h7, h8, h9, ut, hN0, hq96n, hc13n, w5]
              refine hgood _ (next N [] v σ _ _ hst (by simpa using hout) ?_ ?_ ?_ ?_ ?_) <;> simp [h0, h1, h6, h7]
            · have hc13z : ¬ (c.toNat : Int) = 13 := fun h => hc13 (c13.1 h)
              have hc13n : ¬ c.toNat = 13 := by omega
              rw [if_pos (.inr hc13)] at hst
              simp [k49_48, k49_52, k49_54, h0, h6, h7, h8, h9, ut, hN0, hq96n, hc13z, w5, ht1, hap]
              refine hgood _ (next N _ v' σ' _ _ hst hout' ?_ ?_ ?_ ?_ ?_) <;> simp [h0, h1, h7]
          · have hq96z : ¬ (q.toNat : Int) = 96 := fun h => hq96 (q96.1 h)
            have hq96n : ¬ q.toNat = 96 := by omega
            rw [if_pos (.inl hq96)] at hst
            simp [k49_48, k49_52, k49_54, h0, h6, h7, h8, ut, hN0, hq96z, w5, ht1, hap]
            refine hgood _ (next N _ v' σ' _ _ hst hout' ?_ ?_ ?_ ?_ ?_) <;> simp [h0, h1, h7]
      by_cases hq34 : q = 34
      · have hq34z := q34.2 hq34
        have hq34n : q.toNat = 34 := by omega
        by_cases hc10 : c = 10
        · have hc10z := c10.2 hc10
          have hc10n : c.toNat = 10 := by omega
          have hr := bad (by unfold stepR; rw [ec, if_pos ⟨hq34, hc10⟩])
          subst hr
          have hz10 : ¬ (10 : Int) = 34 := by omega
          simp [k49_4, k49_6, k49_10, h0, h7, h8, hlen, hltz, iac, ld, hc10n, hq34n, textT]
        · have hc10z : ¬ (c.toNat : Int) = 10 := fun h => hc10 (c10.1 h)
          have hc10n : ¬ c.toNat = 10 := by omega
          by_cases hc92 : c = 92
          · have hc92z := c92.2 hc92
            have hc92n : c.toNat = 92 := by omega
            have hst : stepR q (b.drop k) = escR (b.drop k) := by
              unfold stepR
              rw [ec, if_neg (by simp [hc10]), if_pos ⟨hq34, hc92⟩]
            obtain ⟨d, hd0⟩ : ∃ d, hd b (k + 1) = d := ⟨_, rfl⟩
            have ed : hd (b.drop k) 1 = d := by rw [hd_drop]; exact hd0
            have a1 := fun σ => at_ok hb (k + 1) (z := (k : Int) + 1) (by omega) σ
            rw [hd0] at a1
            have hdb : d ≠ 0 → b[k + 1]? = some d := by
              intro h
              have hlt1 : k + 1 < b.length := hd_pos (by rw [hd0]; exact h)
              obtain ⟨d', hd'⟩ := some_of hlt1
              rw [← hd_of hd', hd0] at hd'
              exact hd'
            have ia1 : d ≠ 0 → ∀ σ, opIaddr 1 (.tr tb) (iv ((k : Int) + 1)) σ = some (.tr (.rptr (b.flatMap byE) (k + 1))) := fun h σ => by_iaZ hb (hdb h) (z := (k : Int) + 1) (by omega) .i64
            unfold escR at hst
            rw [ed] at hst
            simp only [List.drop_drop] at hst
            by_cases hd1 : d = 92 ∨ d = 34
            · rw [if_pos hd1] at hst
              have hdn : d ≠ 0 := by rcases hd1 with h | h <;> rw [h] <;> decide
              obtain ⟨v', σ', hap, hout'⟩ := app _ _ (byT_sl [d]) (by simp) (by simp)
              have bs := bs1 (x := (d.toNat : Int)) (c := d) rfl
              rcases hd1 with hd1 | hd1
              · have hz : (d.toNat : Int) = 92 := by rw [hd1]; rfl
                have hzn : d.toNat = 92 := by omega
                simp [k49_4, k49_6, k49_10, k49_13, k49_18, h0, h6, h7, h8, hlen, hltz, iac, ld, hc92n, hq34n, w2, w4, a1, hzn, ia1 hdn, by_ld (hdb hdn), bs, hap]
                refine next 2 _ v' σ' _ _ hst hout' ?_ ?_ ?_ ?_ ?_ <;> simp [h0, h1, h7]
              · have hz : (d.toNat : Int) = 34 := by rw [hd1]; rfl
                have hzn : d.toNat = 34 := by omega
                simp [k49_4, k49_6, k49_10, k49_13, k49_18, h0, h6, h7, h8, hlen, hltz, iac, ld, hc92n, hq34n, w2, w4, a1, hzn, ia1 hdn, by_ld (hdb hdn), bs, hap]
                refine next 2 _ v' σ' _ _ hst hout' ?_ ?_ ?_ ?_ ?_ <;> simp [h0, h1, h7]
            · rw [if_neg hd1] at hst
              have d92 : ((d.toNat : Int) = 92 ↔ d = 92) := u8_eq (c := 92)
              have d34 : ((d.toNat : Int) = 34 ↔ d = 34) := u8_eq (c := 34)
              have d110 : ((d.toNat : Int) = 110 ↔ d = 110) := u8_eq (c := 110)
              have d116 : ((d.toNat : Int) = 116 ↔ d = 116) := u8_eq (c := 116)
              have d120 : ((d.toNat : Int) = 120 ↔ d = 120) := u8_eq (c := 120)
              have d117 : ((d.toNat : Int) = 117 ↔ d = 117) := u8_eq (c := 117)
              have e92 : ¬ (d.toNat : Int) = 92 := fun h => hd1 (.inl (d92.1 h))
              have e34 : ¬ (d.toNat : Int) = 34 := fun h => hd1 (.inr (d34.1 h))
              have e92n : ¬ d.toNat = 92 := by omega
              have e34n : ¬ d.toNat = 34 := by omega
              by_cases hd2 : d = 110
              · rw [if_pos hd2] at hst
                have hz := d110.2 hd2
                have hzn : d.toNat = 110 := by omega
                obtain ⟨v', σ', hap, hout'⟩ := app _ _ (byT_sl [10]) (by simp) (by simp)
                have bs := bs1 (x := 10) (c := 10) rfl
                simp [k49_4, k49_6, k49_10, k49_13, k49_18, h0, h6, h7, h8, hlen, hltz, iac, ld, hc92n, hq34n, w2, w4, a1, hzn, bs, hap]
                refine next 2 _ v' σ' _ _ hst hout' ?_ ?_ ?_ ?_ ?_ <;> simp [h0, h1, h7]
              rw [if_neg hd2] at hst
              have e110 : ¬ (d.toNat : Int) = 110 := fun h => hd2 (d110.1 h)
              have e110n : ¬ d.toNat = 110 := by omega
              by_cases hd3 : d = 116
              · rw [if_pos hd3] at hst
                have hz := d116.2 hd3
                have hzn : d.toNat = 116 := by omega
                obtain ⟨v', σ', hap, hout'⟩ := app _ _ (byT_sl [9]) (by simp) (by simp)
                have bs := bs1 (x := 9) (c := 9) rfl
                simp [k49_4, k49_6, k49_10, k49_13, k49_18, h0, h6, h7, h8, hlen, hltz, iac, ld, hc92n, hq34n, w2, w4, a1, hzn, bs, hap]
                refine next 2 _ v' σ' _ _ hst hout' ?_ ?_ ?_ ?_ ?_ <;> simp [h0, h1, h7]
              rw [if_neg hd3] at hst
              have e116 : ¬ (d.toNat : Int) = 116 := fun h => hd3 (d116.1 h)
              have e116n : ¬ d.toNat = 116 := by omega
              by_cases hd4 : d = 120
              · rw [if_pos hd4] at hst
                have hz := d120.2 hd4
                have hzn : d.toNat = 120 := by omega
                have hdn : d ≠ 0 := by rw [hd4]; decide
                simp [k49_4, k49_6, k49_10, k49_13, k49_18, k49_28, h0, h7, h8, hlen, hltz, iac, ld, hc92n, hq34n, w2, a1, hzn, ia1 hdn, by_ld (hdb hdn)]
                refine hex_part hb hl (n := 2) (i := i) (q := q) (v := v) (.inl rfl) hlt _ _ ?_ ?_ ?_ ?_ ?_ ?_ ?_ ?_
                · simp [h0]
                · simp [h1]
                · simp [h6]
                · simp [h7]
                · simp [h8]
                · simp
                · intro hsh e' L' h4 h5
                  rw [if_pos hsh] at hst
                  have hr := bad hst
                  subst hr
                  simp [h4, h5, textT, nilSl]
                · intro hsh hbd e' L' g0 g1 g6 g7 g8 g10 g11
                  rw [if_neg (by omega)] at hst
                  obtain ⟨x, hx⟩ : ∃ x, hexN ((b.drop (k + 2)).take 2) = x := ⟨_, rfl⟩
                  rw [hx] at hst hbd g11
                  obtain ⟨v', σ', hap, hout'⟩ := app _ _ (byT_sl [.ofNat x]) (by simp) (by simp)
                  have bs := bs1 (x := IntKind.u8.wrap (x : Int)) (c := .ofNat x) (by rw [of8, IntKind.wrap_u8])
                  have w5 : IntKind.i64.wrap ((k : Int) + 4) = (k : Int) + 4 := w64z (by omega) (by omega)
                  have w6 : IntKind.i64.wrap 4 = 4 := rfl
                  simp [k49_41, k49_46, g6, g8, g10, g11, bs, hap]
                  refine next 4 _ v' σ' _ _ hst hout' ?_ ?_ ?_ ?_ ?_ <;> simp [g0, g1, g7, w5, w6]
              rw [if_neg hd4] at hst
              have e120 : ¬ (d.toNat : Int) = 120 := fun h => hd4 (d120.1 h)
              have e120n : ¬ d.toNat = 120 := by omega
              by_cases hd5 : d = 117
              · rw [if_pos hd5] at hst
                have hz := d117.2 hd5
                have hzn : d.toNat = 117 := by omega
                have hdn : d ≠ 0 := by rw [hd5]; decide
                simp [k49_4, k49_6, k49_10, k49_13, k49_18, k49_28, h0, h7, h8, hlen, hltz, iac, ld, hc92n, hq34n, w2, a1, hzn, ia1 hdn, by_ld (hdb hdn)]
                refine hex_part hb hl (n := 4) (i := i) (q := q) (v := v) (.inr rfl) hlt _ _ ?_ ?_ ?_ ?_ ?_ ?_ ?_ ?_
                · simp [h0]
                · simp [h1]
                · simp [h6]
                · simp [h7]
                · simp [h8]
                · simp
                · intro hsh e' L' h4 h5
                  rw [if_pos hsh] at hst
                  have hr := bad hst
                  subst hr
                  simp [h4, h5, textT, nilSl]
                · intro hsh hbd e' L' g0 g1 g6 g7 g8 g10 g11
                  rw [if_neg (by omega)] at hst
                  obtain ⟨x, hx⟩ : ∃ x, hexN ((b.drop (k + 2)).take 4) = x := ⟨_, rfl⟩
                  rw [hx] at hst hbd g11
                  have r8 := fun σ => rune8_ok x hbd σ
                  obtain ⟨v', σ', hap, hout'⟩ := app _ _ (byT_sl (rune8R x)) (rune8R_pos x) (by have := rune8R_le x; omega)
                  have w5 : IntKind.i64.wrap ((k : Int) + 6) = (k : Int) + 6 := w64z (by omega) (by omega)
                  have w6 : IntKind.i64.wrap 6 = 6 := rfl
                  by_cases s1 : 55296 ≤ x
                  · have s1z : (55296 : Int) ≤ x := by omega
                    by_cases s2 : x < 57344
                    · have s2z : (x : Int) < 57344 := by omega
                      rw [if_pos ⟨s1, s2⟩] at hst
                      have hr := bad hst
                      subst hr
                      simp [k49_41, k49_46, g10, g11, s1z, s2z, textT]
                    · have s2z : ¬ (x : Int) < 57344 := by omega
                      rw [if_neg (by omega)] at hst
                      simp [k49_41, k49_46, g6, g8, g10, g11, s1z, s2z, r8, hap]
                      refine next 6 _ v' σ' _ _ hst hout' ?_ ?_ ?_ ?_ ?_ <;> simp [g0, g1, g7, w5, w6]
                  · have s1z : ¬ (55296 : Int) ≤ x := by omega
                    rw [if_neg (by omega)] at hst
                    simp [k49_41, k49_46, g6, g8, g10, g11, s1z, r8, hap]
                    refine next 6 _ v' σ' _ _ hst hout' ?_ ?_ ?_ ?_ ?_ <;> simp [g0, g1, g7, w5, w6]
              rw [if_neg hd5] at hst
              have e117 : ¬ (d.toNat : Int) = 117 := fun h => hd5 (d117.1 h)
              have e117n : ¬ d.toNat = 117 := by omega
              have hr := bad hst
              subst hr
              simp [k49_4, k49_6, k49_10, k49_13, k49_18, k49_28, h0, h7, h8, hlen, hltz, iac, ld, hc92n, hq34n, w2, a1, e92, e34, e110, e116, e120, e117, textT]
          · have hc92z : ¬ (c.toNat : Int) = 92 := fun h => hc92 (c92.1 h)
            have hc92n : ¬ c.toNat = 92 := by omega
            have hc34z : ¬ (c.toNat : Int) = 34 := by omega
            have hc34n : ¬ c.toNat = 34 := by omega
            simp [hc34z, k49_4, k49_6, k49_10, k49_13, h0, h7, h8, hlen, hltz, iac, ld, hc10z, hc92z, hq34n]
            refine rune _ _ (by simp [hc10]) (by simp [hc92]) ?_ ?_ ?_ ?_ ?_ ?_ _ ?_ ?_
            · simp [h0]
            · simp [h1]
            · simp [h6]
            · simp [h7]
            · simp [h8]
            · simp
            · intro hr e' L' h4 h5
              subst hr
              simp [h4, h5, textT, nilSl]
            · intro s hs
              simpa using hs
      · have hq34z : ¬ (q.toNat : Int) = 34 := fun h => hq34 (q34.1 h)
        have hq34n : ¬ q.toNat = 34 := by omega
        simp [k49_4, k49_6, k49_10, k49_13, h0, h7, h8, hlen, hltz, iac, ld, hq34z, hcqz]
        refine rune _ _ (by simp [hq34]) (by simp [hq34]) ?_ ?_ ?_ ?_ ?_ ?_ _ ?_ ?_
        · simp [h0]
        · simp [h1]
        · simp [h6]
        · simp [h7]
        · simp [h8]
        · simp
        · intro hr e' L' h4 h5
          subst hr
          simp [h4, h5, textT, nilSl]
        · intro s hs
          simpa using hs
  · have hke : k = b.length := by omega
    have hltz : ¬ (k : Int) < b.length := by omega
    have hr : RES = none := by
      rw [hR, List.drop_eq_nil_of_le (by omega), textG_nil]
      rfl
    subst hr
    simp [k49_4, k49_55, h0, h8, hlen, hltz, textT]
end
end Go.Proofs.YtolhjhjlfgfifaaGreatDoor.AM.Rd
end
section
set_option maxRecDepth 1000000
set_option linter.unusedVariables false
set_option linter.unusedSimpArgs false
namespace Go.Proofs.YtolhjhjlfgfifaaGreatDoor.AM.Rd
open Go.Proofs
theorem T_iso0 {T : FTab} {f : FuncId} {fn : HFn} {vs : List V} {ts : List Tree} {σ : Store} {t : Tree} (hf : T f = some fn) (hm : fn.mode = .iso) (hl : fn.nargs = vs.length)
    (hs : snapL (snap σ deepN) vs = some ts) (hn : noRows t = true) (h1 : ∀ σ, callL T f (ts.map .tr) σ = some (.tr t, σ)) : callL T f vs σ = some (.tr t, σ) := by
  obtain ⟨m, hm'⟩ := callL_some.1 (h1 [])
  cases m with
  | zero => simp [callA] at hm'
  | succ m =>
    rw [callA, hf] at hm'
    simp only [hm, snapL_tr] at hm'
    split at hm'
    · split at hm'
      · cases hm'
      · rename_i v σ1 hr
        split at hm'
        · cases hm'
        · rename_i t' hst
          have e : t' = t := by
            split at hm'
            · cases hm'; rfl
            · split at hm'
              · cases hm'; rfl
              · cases hm'
          subst e
          refine callL_some.2 ⟨m + 1, ?_⟩
          rw [callA, hf]
          simp only [hm, hl, hs, hr, hst, hn, if_true]
    · cases hm'
def TkV (l : List Tk) (v : V) (σ : Store) : Prop := (l = [] ∧ v = nilSl ∧ σ = []) ∨ (0 < l.length ∧ ∃ g, v = .own 0 g 0 l.length 3 none ∧ σ = [.row ((l.flatMap tkE).map .tr) g])
def tksT (l : List Tk) : Tree := if l = [] then .sc (.slice none 0 0) else .row (l.flatMap tkE) l.length none
theorem tks_sl (l : List Tk) : IsSl tkE l (.tr (tksT l)) := by
  unfold tksT
  split
  · rename_i h; exact .inl ⟨h, rfl⟩
  · exact .inr ⟨_, rfl⟩
theorem flat3 (l : List Tk) : (l.flatMap tkE).length = l.length * 3 := flat_len tkE_len l
theorem tk_app {l : List Tk} {t : Tk} {v : V} {σ : Store} (h : TkV l v σ) (hl : l.length ≤ 3000000) : ∃ v' σ', opAppend 3 32 v (.tr (.row (tkE t) 1 (some 1))) σ = some (v', σ') ∧ TkV (l ++ [t]) v' σ' := by
  have hr : ∀ n, n ≤ 3000000 → room n 32 = true := by
    intro n hn
    unfold room
    have : n * (32 + 1) ≤ 3000000 * 33 := Nat.mul_le_mul hn (by omega)
    exact Nat.ble_eq_true_of_le (by omega)
  have hr1 := hr 1 (by omega)
  have hr2 := hr l.length hl
  have hel : elems σ 3 (.tr (.row (tkE t) 1 (some 1))) = some ((tkE t).map .tr, 1) := by simp [elems, tkE_len]
  rcases h with ⟨rfl, rfl, rfl⟩ | ⟨h0, g, rfl, rfl⟩
  · refine ⟨.own 0 0 0 1 3 none, [.row ((tkE t).map .tr) 0], ?_, .inr ⟨by simp, 0, rfl, by simp⟩⟩
    unfold opAppend nilSl
    simp [hel, hr1]
  · have hold : slice? ((l.flatMap tkE).map V.tr) 0 (l.length * 3) = some ((l.flatMap tkE).map .tr) := by
      unfold slice?
      have ht : (((l.flatMap tkE).map V.tr).drop 0).take (l.length * 3) = (l.flatMap tkE).map .tr := by
        rw [List.drop_zero, List.take_of_length_le (by rw [List.length_map, flat3]; exact Nat.le_refl _)]
      simp only [ht, List.length_map, flat3, if_true]
    refine ⟨.own 0 (g + 1) 0 (l.length + 1) 3 none, [.row ((l.flatMap tkE).map .tr ++ (tkE t).map .tr) (g + 1)], ?_, .inr ⟨by simp, g + 1, by simp, by simp⟩⟩
    have hone : ((tkE t).map V.tr).all oneV = true := rfl
    have hn : ¬ (0 + (l.length + 1) * 3 ≤ ((l.flatMap tkE).map V.tr).length ∧ 0 < 3) := by rw [List.length_map, flat3]; omega
    have hg : ([Ob.row ((l.flatMap tkE).map V.tr) g])[0]? = some (Ob.row ((l.flatMap tkE).map V.tr) g) := rfl
    unfold opAppend
    simp only [hel, hr1, hr2, hg, hold, Bool.not_true, Bool.false_eq_true, if_false, ne_eq, not_true_eq_false, hn, hone, if_true, Nat.one_ne_zero, List.set_cons_zero]
theorem tk_snap {l : List Tk} {v : V} {σ : Store} {d : Nat} (h : TkV l v σ) : snap σ (d + 1) v = some (tksT l) := by
  rcases h with ⟨rfl, rfl, rfl⟩ | ⟨h0, g, rfl, rfl⟩
  · rfl
  · have hold : slice? ((l.flatMap tkE).map V.tr) 0 (l.length * 3) = some ((l.flatMap tkE).map .tr) := by
      unfold slice?
      have ht : (((l.flatMap tkE).map V.tr).drop 0).take (l.length * 3) = (l.flatMap tkE).map .tr := by
        rw [List.drop_zero, List.take_of_length_le (by rw [List.length_map, flat3]; exact Nat.le_refl _)]
      simp only [ht, List.length_map, flat3, if_true]
    have hob : obCells [Ob.row ((l.flatMap tkE).map V.tr) g] 0 g = some ((l.flatMap tkE).map .tr) := by simp [obCells]
    unfold snap
    simp only [hob, hold]
    rw [snapL_tr]
    unfold tksT
    rw [if_neg (by rintro rfl; simp at h0)]
theorem tk_ends {l : List Tk} {v : V} {σ : Store} (h : TkV l v σ) (hk : ∀ t ∈ l, t.kind ≤ 7) (hb : l.length < 2^62) : callL T 51 [v] σ = some (bv (endsR l), σ) := by
  refine T_iso0 (ts := [tksT l]) T51 rfl rfl ?_ rfl (fun σ => ends_tr (tks_sl l) hk hb σ)
  have := tk_snap (d := deepN - 1) h
  simp only [snapL]
  rw [show deepN = deepN - 1 + 1 from rfl, this]
def scanT (r : Nat ⊕ List Tk) : Tree := match r with | .inl i => .tup [.sc (.slice none 0 0), .sc (.int .i64 (i : Int)), .sc (.bool false)] | .inr l => .tup [tksT l, .sc (.int .i64 0), .sc (.bool true)]
theorem tk_end {l : List Tk} {v : V} {σ : Store} (h : TkV l v σ) : snap σ deepN (mkTup [v, iv 0, bv true]) = some (scanT (.inr l)) := by
  rcases h with ⟨rfl, rfl, rfl⟩ | ⟨h0, g, rfl, rfl⟩
  · rfl
  · have := tk_snap (d := deepN - 2) (v := .own 0 g 0 l.length 3 none) (l := l) (.inr ⟨h0, g, rfl, rfl⟩)
    show snap _ deepN (.tup [.own 0 g 0 l.length 3 none, iv 0, bv true]) = _
    have e : deepN = deepN - 2 + 1 + 1 := rfl
    rw [e]
    unfold snap
    simp only [snapL]
    rw [this]
    rfl
end Go.Proofs.YtolhjhjlfgfifaaGreatDoor.AM.Rd
end
section
set_option maxRecDepth 1000000
set_option linter.unusedVariables false
set_option linter.unusedSimpArgs false
namespace Go.Proofs.YtolhjhjlfgfifaaGreatDoor.AM.Rd
open Go.Proofs
def isLD (c : UInt8) : Bool := isL c || isD c
def elR (s : List UInt8) : Nat × Nat × Bool :=
  if hd s 0 = 32 ∨ hd s 0 = 9 ∨ hd s 0 = 13 ∨ hd s 0 = 10 then (0, 1, decide (hd s 0 = 10)) else
  if hd s 0 = 47 ∧ (hd s 1 = 47 ∨ hd s 1 = 42) then (match commentR s with | none => (0, 0, false) | some (n, l) => (0, n, l)) else
  if isL (hd s 0) then (if isWord wordsR (s.take (nrun isLD s)) then 6 else 1, nrun isLD s, false) else
  if isD (hd s 0) ∨ (hd s 0 = 46 ∧ isD (hd s 1)) then (match numberR s with | none => (0, 0, false) | some (k, n) => (k, n, false)) else
  if hd s 0 = 34 ∨ hd s 0 = 96 then (4, match textR s with | none => 0 | some (n, _) => n, false) else
  if hd s 0 = 59 then (7, 1, false) else (5, opFind opsR s, false)
def nlT (at_ : Nat) : Tk := ⟨7, [10], at_⟩
def addR (l : List Tk) (i : Nat) (s : List UInt8) : List Tk :=
  (if (elR s).2.2 = true ∧ endsR l = true then l ++ [nlT i] else l) ++ (if (elR s).1 = 0 then [] else [⟨(elR s).1, s.take (elR s).2.1, i⟩])
def scanF : Nat → Nat → List Tk → List UInt8 → Nat ⊕ List Tk
  | 0, i, l, _ => .inr ((if endsR l then l ++ [nlT i] else l) ++ [⟨0, [], i⟩])
  | f + 1, i, l, s => if s = [] then .inr ((if endsR l then l ++ [nlT i] else l) ++ [⟨0, [], i⟩]) else
    if (elR s).2.1 = 0 then .inl i else scanF f (i + (elR s).2.1) (addR l i s) (s.drop (elR s).2.1)
def scanR (s : List UInt8) : Nat ⊕ List Tk := scanF s.length 0 [] s
theorem star_le : ∀ {t : List UInt8} {k : Nat}, star t = some k → k + 2 ≤ t.length
  | [], k, h => by simp [star] at h
  | [_], k, h => by simp [star] at h
  | a :: b :: t, k, h => by
    simp only [star] at h
    split at h
    · cases h; simp
    · cases hs : star (b :: t) with
      | none => rw [hs] at h; simp at h
      | some k' =>
        rw [hs] at h
        simp at h
        have := star_le hs
        simp at this ⊢
        omega
theorem commentR_le {s : List UInt8} {n : Nat} {l : Bool} (h : commentR s = some (n, l)) : n ≤ s.length := by
  unfold commentR at h
  split at h
  · obtain ⟨rfl, _⟩ := Prod.mk.inj (Option.some.inj h)
    exact nrun_le
  · cases hs : star (s.drop 2) with
    | none => rw [hs] at h; cases h
    | some k =>
      rw [hs] at h
      simp only [Option.map_some] at h
      obtain ⟨rfl, _⟩ := Prod.mk.inj (Option.some.inj h)
      have := star_le hs
      rw [List.length_drop] at this
      omega
theorem numFin_le {s : List UInt8} {kd k k' n : Nat} (h : numFin s kd k = some (k', n)) : k' = kd ∧ n = k := by
  unfold numFin at h
  split at h
  · cases h
  · obtain ⟨rfl, rfl⟩ := Prod.mk.inj (Option.some.inj h)
    exact ⟨rfl, rfl⟩
theorem expo_le {s : List UInt8} {k : Nat} {a g : UInt8} (hk : k ≤ s.length) : k + (expoR (s.drop k) a g).toNat ≤ s.length := by
  have := expoR_le (s.drop k) a g
  rw [List.length_drop] at this
  omega
theorem numX_le {s : List UInt8} {n k k' n' : Nat} {pt : Bool} (hk : n ≠ 0 → k ≤ s.length) (h : numX s n k pt = some (k', n')) : n' ≤ s.length ∧ 2 ≤ k' ∧ k' ≤ 3 := by
  unfold numX at h
  split at h
  · cases h
  · rename_i hc
    obtain ⟨rfl, rfl⟩ := numFin_le h
    refine ⟨expo_le (hk fun h => hc (.inl h)), ?_, ?_⟩ <;> split <;> omega
theorem numP_le {s : List UInt8} {n k k' n' : Nat} {pt : Bool} (hk : k ≤ s.length) (h : numP s n k pt = some (k', n')) : n' ≤ s.length ∧ 2 ≤ k' ∧ k' ≤ 3 := by
  unfold numP at h
  split at h
  · cases h
  · split at h
    · cases h
    · obtain ⟨rfl, rfl⟩ := numFin_le h
      refine ⟨expo_le hk, ?_, ?_⟩ <;> split <;> omega
theorem hd46 {s : List UInt8} {n : Nat} (h : hd s n = 46) : n < s.length := hd_pos (by rw [h]; decide)
theorem numberR_le {s : List UInt8} {k n : Nat} (h : numberR s = some (k, n)) : n ≤ s.length ∧ 2 ≤ k ∧ k ≤ 3 := by
  unfold numberR at h
  have l1 := nrun_le (p := inB 16) (s := s.drop 2)
  have l2 := nrun_le (p := inB 16) (s := s.drop (2 + nrun (inB 16) (s.drop 2) + 1))
  have l3 := nrun_le (p := inB (if hd s 1 = 98 ∨ hd s 1 = 66 then 2 else 8)) (s := s.drop 2)
  have l4 := nrun_le (p := inB 10) (s := s)
  have l5 := nrun_le (p := inB 10) (s := s.drop (nrun (inB 10) s + 1))
  simp only [List.length_drop] at l1 l2 l3 l5
  generalize (if hd s 1 = 98 ∨ hd s 1 = 66 then 2 else 8) = bs at h l3
  split at h
  · split at h
    · rename_i h46
      have := hd46 h46
      exact numX_le (fun _ => by omega) h
    · exact numX_le (fun _ => by omega) h
  · split at h
    · split at h
      · cases h
      · obtain ⟨rfl, rfl⟩ := numFin_le h
        refine ⟨by omega, by omega, by omega⟩
    · split at h
      · rename_i h46
        have := hd46 h46
        exact numP_le (by omega) h
      · exact numP_le (by omega) h
theorem textG_le {q : UInt8} : ∀ (m : Nat) (s : List UInt8) {n : Nat} {o : List UInt8}, s.length ≤ m → textG q s = some (n, o) → n ≤ s.length
  | 0, s, n, o, hm, h => by
    obtain rfl := List.length_eq_zero_iff.1 (show s.length = 0 by omega)
    simp [textG_nil] at h
  | m + 1, s, n, o, hm, h => by
    by_cases hs : s = []
    · subst hs; simp [textG_nil] at h
    · have hp := List.length_pos_iff.2 hs
      by_cases hq : hd s 0 = q
      · rw [textG_end hs hq] at h
        obtain ⟨rfl, _⟩ := Prod.mk.inj (Option.some.inj h)
        omega
      · cases hst : stepR q s with
        | none => rw [textG_bad hs hq hst] at h; cases h
        | some x =>
          obtain ⟨n', o'⟩ := x
          have hle := stepR_le hs hst
          rw [textG_step hs hq hst] at h
          cases hg : textG q (s.drop n') with
          | none => rw [hg] at h; simp [comb] at h
          | some y =>
            obtain ⟨n2, o2⟩ := y
            rw [hg] at h
            simp only [comb, Option.map_some] at h
            obtain ⟨rfl, _⟩ := Prod.mk.inj (Option.some.inj h)
            have := textG_le m (s.drop n') (by rw [List.length_drop]; omega) hg
            rw [List.length_drop] at this
            omega
theorem textR_le {s : List UInt8} {n : Nat} {o : List UInt8} (hs : s ≠ []) (h : textR s = some (n, o)) : n ≤ s.length ∧ 2 ≤ n := by
  rw [textR_G hs] at h
  have hp := List.length_pos_iff.2 hs
  cases hg : textG (hd s 0) (s.drop 1) with
  | none => rw [hg] at h; simp [comb] at h
  | some y =>
    obtain ⟨n2, o2⟩ := y
    rw [hg] at h
    simp only [comb, Option.map_some] at h
    obtain ⟨rfl, _⟩ := Prod.mk.inj (Option.some.inj h)
    have := textG_le _ (s.drop 1) (Nat.le_refl _) hg
    rw [List.length_drop] at this
    refine ⟨by omega, ?_⟩
    have h1 : s.drop 1 ≠ [] := by rintro h; rw [h, textG_nil] at hg; cases hg
    by_cases hq : hd (s.drop 1) 0 = hd s 0
    · rw [textG_end h1 hq] at hg
      obtain ⟨rfl, _⟩ := Prod.mk.inj (Option.some.inj hg)
      omega
    · cases hst : stepR (hd s 0) (s.drop 1) with
      | none => rw [textG_bad h1 hq hst] at hg; cases hg
      | some x =>
        obtain ⟨n', o'⟩ := x
        have hle := stepR_le h1 hst
        rw [textG_step h1 hq hst] at hg
        cases hg' : textG (hd s 0) ((s.drop 1).drop n') with
        | none => rw [hg'] at hg; simp [comb] at hg
        | some y =>
          rw [hg'] at hg
          simp only [comb, Option.map_some] at hg
          obtain ⟨rfl, _⟩ := Prod.mk.inj (Option.some.inj hg)
          omega
theorem opFind_le (ops : List (List UInt8)) (s : List UInt8) : opFind ops s ≤ s.length := by
  unfold opFind
  cases h : ops.find? (fun o => o.isPrefixOf s) with
  | none => simp
  | some o =>
    have := List.find?_some h
    exact (pre_take.1 this).1
theorem elR_le {s : List UInt8} (hs : s ≠ []) : (elR s).2.1 ≤ s.length ∧ (elR s).1 ≤ 7 := by
  have hp := List.length_pos_iff.2 hs
  unfold elR
  split
  · exact ⟨hp, by omega⟩
  split
  · cases h : commentR s with
    | none => exact ⟨by simp, by simp⟩
    | some x => exact ⟨commentR_le h, by simp⟩
  split
  · refine ⟨nrun_le, ?_⟩
    simp only
    split <;> omega
  split
  · cases h : numberR s with
    | none => exact ⟨by simp, by simp⟩
    | some x =>
      have := numberR_le (k := x.1) (n := x.2) h
      exact ⟨this.1, by show x.1 ≤ 7; omega⟩
  split
  · cases h : textR s with
    | none => exact ⟨by simp, by simp⟩
    | some x => exact ⟨(textR_le (n := x.1) (o := x.2) hs h).1, by simp⟩
  split
  · exact ⟨hp, by simp⟩
  · exact ⟨opFind_le _ _, by simp⟩
theorem scanF_fuel : ∀ (f g i : Nat) (l : List Tk) (s : List UInt8), s.length ≤ f → s.length ≤ g → scanF f i l s = scanF g i l s
  | 0, 0, i, l, s, _, _ => rfl
  | 0, g + 1, i, l, s, h, _ => by
    obtain rfl := List.length_eq_zero_iff.1 (show s.length = 0 by omega)
    simp [scanF]
  | f + 1, 0, i, l, s, _, h => by
    obtain rfl := List.length_eq_zero_iff.1 (show s.length = 0 by omega)
    simp [scanF]
  | f + 1, g + 1, i, l, s, h1, h2 => by
    unfold scanF
    split
    · rfl
    · rename_i hs
      split
      · rfl
      · rename_i h0
        exact scanF_fuel f g _ _ _ (by rw [List.length_drop]; omega) (by rw [List.length_drop]; omega)
def scanG (i : Nat) (l : List Tk) (s : List UInt8) : Nat ⊕ List Tk := scanF s.length i l s
theorem scanG_nil (i : Nat) (l : List Tk) : scanG i l [] = .inr ((if endsR l then l ++ [nlT i] else l) ++ [⟨0, [], i⟩]) := rfl
theorem scanG_bad {i : Nat} {l : List Tk} {s : List UInt8} (hs : s ≠ []) (h : (elR s).2.1 = 0) : scanG i l s = .inl i := by
  obtain ⟨a, s, rfl⟩ := List.exists_cons_of_ne_nil hs
  show scanF (s.length + 1) _ _ _ = _
  unfold scanF
  rw [if_neg (by simp), if_pos h]
theorem scanG_step {i : Nat} {l : List Tk} {s : List UInt8} (hs : s ≠ []) (h : (elR s).2.1 ≠ 0) : scanG i l s = scanG (i + (elR s).2.1) (addR l i s) (s.drop (elR s).2.1) := by
  have hle := elR_le hs
  obtain ⟨a, s, rfl⟩ := List.exists_cons_of_ne_nil hs
  show scanF (s.length + 1) _ _ _ = _
  unfold scanF
  rw [if_neg (by simp), if_neg h]
  refine scanF_fuel _ _ _ _ _ ?_ (Nat.le_refl _)
  rw [List.length_drop]
  simp only [List.length_cons] at hle ⊢
  omega
theorem addR_len (l : List Tk) (i : Nat) (s : List UInt8) : (addR l i s).length ≤ l.length + 2 := by
  unfold addR
  rw [List.length_append]
  split <;> split <;> simp
theorem addR_kind {l : List Tk} {i : Nat} {s : List UInt8} (hs : s ≠ []) (h : ∀ t ∈ l, t.kind ≤ 7) : ∀ t ∈ addR l i s, t.kind ≤ 7 := by
  intro t ht
  unfold addR at ht
  rw [List.mem_append] at ht
  rcases ht with ht | ht
  · split at ht
    · rw [List.mem_append] at ht
      rcases ht with ht | ht
      · exact h t ht
      · simp at ht; subst ht; simp [nlT]
    · exact h t ht
  · split at ht
    · simp at ht
    · simp at ht; subst ht; exact (elR_le hs).2
end Go.Proofs.YtolhjhjlfgfifaaGreatDoor.AM.Rd
end
section
set_option maxRecDepth 1000000
set_option linter.unusedVariables false
set_option linter.unusedSimpArgs false
namespace Go.Proofs.YtolhjhjlfgfifaaGreatDoor.AM.Rd
open Go.Proofs
def ScI (b : List UInt8) (tb : Tree) (RES : Nat ⊕ List Tk) (m : Nat) (st : St) : Prop :=
  ∃ i l v σ e L, st = ⟨e, L, σ⟩ ∧ m ≤ i ∧ i ≤ b.length ∧ l.length ≤ 2 * i ∧ (∀ t ∈ l, t.kind ≤ 7) ∧ TkV l v σ ∧ RES = scanG i l (b.drop i) ∧ look e 0 = some (.tr tb) ∧ look e 5 = some v ∧ look e 6 = some (nv .i64 i)
theorem spl3 (a b c d : V) : splice [a, b, c] 2 [d] = [a, b, d] := rfl
theorem bs_tk (k : Nat) (x : List UInt8) (i : Nat) (σ : Store) : opBslice false 1 3 [.sc (.int .i64 0), .sc (.string ⟨⟨[]⟩⟩), .sc (.int .i64 0)] [(0, 3, .tr (.agg [.sc (.int .i64 (k : Int)), .sc (.string ⟨⟨x⟩⟩), .sc (.int .i64 (i : Int))]))] σ = some (.tr (.row (tkE ⟨k, x, i⟩) 1 (some 1)), σ) := rfl
section
variable {b : List UInt8} {tb : Tree} (hb : IsSl byE b (.tr tb)) (hl : b.length ≤ 1000000) {i : Nat} (hi : i < b.length)
include hb hl hi
theorem scan_tail {RES : Nat ⊕ List Tk} {m : Nat} {l : List Tk} {v : V} {σ : Store} (hm : m ≤ i) (hll : l.length ≤ 2 * i) (hk : ∀ t ∈ l, t.kind ≤ 7) (hv : TkV l v σ) (hR : RES = scanG i l (b.drop i)) (kind n : Nat) (line : Bool) (e L : List (Nat × V)) (h0 : look e 0 = some (.tr tb)) (h5 : look e 5 = some v) (h6 : look e 6 = some (nv .i64 i)) (h8 : look e 8 = some (bv line)) (h9 : look e 9 = some (nv .i64 n)) (h10 : look e 10 = some (nv .i64 kind))
    (hel : (n = 0 ∧ (elR (b.drop i)).2.1 = 0) ∨ (0 < n ∧ elR (b.drop i) = (kind, n, line))) (P : Out → St → Prop)
    (hbad : RES = .inl i → ∀ e' L', look e' 2 = some nilSl → look e' 3 = some (nv .i64 i) → look e' 4 = some (bv false) → P .ret ⟨e', L', σ⟩)
    (hgood : ∀ s', (m < b.length ∧ ScI b tb RES (m + 1) s') → P .normal s') : wpc T k23_30 ⟨e, L, σ⟩ P := by
  have hne : b.drop i ≠ [] := by
    intro h
    have := congrArg List.length h
    rw [List.length_drop] at this
    simp at this
    omega
  have hle := elR_le hne
  rw [List.length_drop] at hle
  rcases hel with ⟨rfl, h⟩ | ⟨hn, h⟩
  · have hr : RES = .inl i := by rw [hR, scanG_bad hne h]
    simp [k23_30, h6, h9]
    refine hbad hr _ _ ?_ ?_ ?_ <;> simp [nilSl]
  · rw [h] at hle
    simp only at hle
    have hn0 : ¬ n = 0 := by omega
    have hn0z : ¬ (n : Int) = 0 := by omega
    have w1 : IntKind.i64.wrap ((i : Int) + n) = (i : Int) + n := w64z (by omega) (by omega)
    have hstep : RES = scanG (i + n) (addR l i (b.drop i)) (b.drop (i + n)) := by
      rw [hR, scanG_step hne (by rw [h]; exact hn0), h, List.drop_drop]
    have hkk := addR_kind (i := i) hne hk
    have hal := addR_len l i (b.drop i)
    have hadd : addR l i (b.drop i) = (if line = true ∧ endsR l = true then l ++ [nlT i] else l) ++ (if kind = 0 then [] else [⟨kind, (b.drop i).take n, i⟩]) := by unfold addR; rw [h]
    have hen := tk_ends hv hk (by omega)
    have good : ∀ v' σ' e' L', TkV (addR l i (b.drop i)) v' σ' → look e' 0 = some (.tr tb) → look e' 5 = some v' → look e' 6 = some (iv ((i : Int) + n)) → P .normal ⟨e', L', σ'⟩ := by
      intro v' σ' e' L' g g0 g5 g6
      refine hgood _ ⟨by omega, i + n, addR l i (b.drop i), v', σ', e', L', rfl, by omega, by omega, by omega, hkk, g, hstep, g0, g5, ?_⟩
      rw [g6]; simp
    clear hR hstep hgood hbad
    obtain ⟨t', ht1, ht2⟩ := by_cut hb (lo := i) (hi := i + n) (by omega) (by omega) (y := (i : Int)) (z := (i : Int) + n) rfl (by omega)
    have htk : (b.take (i + n)).drop i = (b.drop i).take n := by rw [List.drop_take, show i + n - i = n by omega]
    rw [htk] at ht2
    have hstr := fun σ => by_str ht2 σ
    obtain ⟨x, hx⟩ : ∃ x, (b.drop i).take n = x := ⟨_, rfl⟩
    rw [hx] at hadd hstr ht2
    have second : ∀ l1 v1 σ1 e L, TkV l1 v1 σ1 → l1.length ≤ 3000000 → addR l i (b.drop i) = l1 ++ (if kind = 0 then [] else [⟨kind, x, i⟩]) → look e 0 = some (.tr tb) → look e 5 = some v1 → look e 6 = some (nv .i64 i) → look e 9 = some (nv .i64 n) → look e 10 = some (nv .i64 kind) → wpc T k23_35 ⟨e, L, σ1⟩ P := by
      intro l1 v1 σ1 e L hv1 hl1 had h0 h5 h6 h9 h10
      by_cases hk0 : kind = 0
      · subst hk0
        rw [if_pos rfl, List.append_nil] at had
        simp [k23_35, k23_37, h6, h9, h10, w1]
        refine good v1 σ1 _ _ (by rw [had]; exact hv1) ?_ ?_ ?_ <;> simp [h0, h5]
      · have hk0z : ¬ (kind : Int) = 0 := by omega
        rw [if_neg hk0] at had
        obtain ⟨v', σ', ha, hv'⟩ := tk_app (t := ⟨kind, x, i⟩) hv1 hl1
        simp [k23_35, k23_37, h0, h5, h6, h9, h10, w1, hk0, ht1, hstr, spl3, bs_tk, ha]
        refine good v' σ' _ _ (by rw [had]; exact hv') ?_ ?_ ?_ <;> simp [h0]
    have hn7 := fun σ => bs_tk 7 [10] i σ
    simp only [Int.cast_ofNat_Int] at hn7
    cases line with
    | false =>
      rw [if_neg (by simp)] at hadd
      simp [k23_30, k23_33, h8, h9, hn0]
      refine second l v σ _ _ hv (by omega) hadd ?_ ?_ ?_ ?_ ?_ <;> simp [h0, h5, h6, h9, h10]
    | true =>
      cases he : endsR l with
      | false =>
        rw [he] at hen
        rw [if_neg (by simp [he])] at hadd
        simp [k23_30, k23_33, h5, h8, h9, hn0, hen]
        refine second l v σ _ _ hv (by omega) hadd ?_ ?_ ?_ ?_ ?_ <;> simp [h0, h5, h6, h9, h10]
      | true =>
        rw [he] at hen
        rw [if_pos ⟨rfl, he⟩] at hadd
        obtain ⟨v', σ', ha, hv'⟩ := tk_app (t := nlT i) hv (by omega)
        have ha' : opAppend 3 32 v (.tr (.row (tkE ⟨7, [10], i⟩) 1 (some 1))) σ = some (v', σ') := ha
        simp [k23_30, k23_33, h5, h6, h8, h9, hn0, hen, spl3, hn7, ha']
        refine second (l ++ [nlT i]) v' σ' _ _ hv' (by simp; omega) hadd ?_ ?_ ?_ ?_ ?_ <;> simp [h0, h6, h9, h10]
end
end Go.Proofs.YtolhjhjlfgfifaaGreatDoor.AM.Rd
end
section
set_option maxRecDepth 1000000
set_option linter.unusedVariables false
set_option linter.unusedSimpArgs false
namespace Go.Proofs.YtolhjhjlfgfifaaGreatDoor.AM.Rd
open Go.Proofs
section
variable {b : List UInt8} {tb : Tree} (hb : IsSl byE b (.tr tb)) (hl : b.length ≤ 1000000)
include hb hl
theorem word_loop {P : Out → St → Prop} {i : Nat} (hi : i < b.length) {c : UInt8} (hc : b[i]? = some c) (hL : isL c = true) {v : V} {σ : Store} (e L : List (Nat × V)) (h0 : look e 0 = some (.tr tb)) (h5 : look e 5 = some v) (h6 : look e 6 = some (nv .i64 i)) (h8 : look e 8 = some (bv false)) (h9 : look e 9 = some (nv .i64 1))
    (hgood : ∀ e' L', look e' 0 = some (.tr tb) → look e' 5 = some v → look e' 6 = some (nv .i64 i) → look e' 8 = some (bv false) → look e' 9 = some (nv .i64 (nrun isLD (b.drop i))) → P (.exit 3) ⟨e', L', σ⟩) :
    Wp T (.loop k23_16) ⟨e, L, σ⟩ P := by
  obtain ⟨N, hN⟩ : ∃ N, nrun isLD (b.drop i) = N := ⟨_, rfl⟩
  have hNl : N ≤ b.length - i := by rw [← hN, ← List.length_drop]; exact nrun_le
  have h00 : (b.drop i)[0]? = some c := by simpa using hc
  have hN1 : 1 ≤ N := by
    rcases Nat.eq_zero_or_pos N with h | h
    · have := nrun_at (p := isLD) (s := b.drop i) (c := c) (by rw [hN, h]; exact h00)
      simp [isLD, hL] at this
    · exact h
  rw [hN] at hgood
  obtain ⟨I, hI⟩ : ∃ I : Nat → St → Prop, I = fun m st => 1 + m ≤ N ∧ ∃ e L, st = ⟨e, L, σ⟩ ∧ look e 0 = some (.tr tb) ∧ look e 5 = some v ∧ look e 6 = some (nv .i64 i) ∧ look e 8 = some (bv false) ∧ look e 9 = some (iv (1 + (m : Int))) := ⟨_, rfl⟩
  refine wpc_up N I (by rw [hI]; exact ⟨by omega, e, L, rfl, h0, h5, h6, h8, by rw [h9]; rfl⟩) ?_
  intro m st hst
  rw [hI] at hst
  obtain ⟨hm, e, L, rfl, h0, h5, h6, h8, h9⟩ := hst
  have w1 : IntKind.i64.wrap ((i : Int) + (1 + (m : Int))) = (i : Int) + (1 + (m : Int)) := w64z (by omega) (by omega)
  have w2 : IntKind.i64.wrap ((1 : Int) + m + 1) = 1 + m + 1 := w64z (by omega) (by omega)
  have a1 := fun σ => at_ok hb (i + 1 + m) (z := (i : Int) + (1 + (m : Int))) (by omega) σ
  obtain ⟨d, hd0⟩ : ∃ d, hd b (i + 1 + m) = d := ⟨_, rfl⟩
  rw [hd0] at a1
  have le := fun σ => rletter_ok d σ
  have di := fun σ => rdigit_ok d σ
  by_cases hlt : 1 + m < N
  · obtain ⟨d', h1, h2⟩ := nrun_lt (p := isLD) (s := b.drop i) (n := 1 + m) (by omega)
    have hd1 : b[i + 1 + m]? = some d' := by rw [← h1]; simp; congr 1; omega
    have : d' = d := by rw [← hd0, hd_of hd1]
    subst this
    have fin : m < N ∧ ∀ e' L', look e' 0 = some (.tr tb) → look e' 5 = some v → look e' 6 = some (nv .i64 i) → look e' 8 = some (bv false) → look e' 9 = some (iv (1 + (m : Int) + 1)) → I (m + 1) ⟨e', L', σ⟩ := by
      refine ⟨by omega, fun e' L' g0 g5 g6 g8 g9 => ?_⟩
      rw [hI]
      exact ⟨by omega, e', L', rfl, g0, g5, g6, g8, by rw [g9]; simp; omega⟩
    cases hl1 : isL d' with
    | true =>
      rw [hl1] at le
      simp [k23_16, k23_18, h0, h6, h9, w1, w2, a1, le]
      refine ⟨fin.1, fin.2 _ _ ?_ ?_ ?_ ?_ ?_⟩ <;> simp [h0, h5, h6, h8]
    | false =>
      rw [hl1] at le
      have hd2 : isD d' = true := by simpa [isLD, hl1] using h2
      rw [hd2] at di
      simp [k23_16, k23_18, h0, h6, h9, w1, w2, a1, le, di]
      refine ⟨fin.1, fin.2 _ _ ?_ ?_ ?_ ?_ ?_⟩ <;> simp [h0, h5, h6, h8]
  · have hNm : N = 1 + m := by omega
    have hf : isLD d = false := by
      rcases Nat.lt_or_ge (i + 1 + m) b.length with h | h
      · obtain ⟨d', hd1⟩ := some_of h
        have : d' = d := by rw [← hd0, hd_of hd1]
        subst this
        refine nrun_at (p := isLD) (s := b.drop i) (c := d') ?_
        rw [hN, hNm, List.getElem?_drop, ← hd1]
        congr 1
        omega
      · rw [hd_none h] at hd0
        subst hd0
        rfl
    have hf1 : isL d = false := by
      unfold isLD at hf
      exact (Bool.or_eq_false_iff.1 hf).1
    have hf2 : isD d = false := by
      unfold isLD at hf
      exact (Bool.or_eq_false_iff.1 hf).2
    rw [hf1] at le
    rw [hf2] at di
    have g9 : look e 9 = some (nv .i64 N) := by rw [h9, hNm]; simp
    simp [k23_16, k23_18, h0, h6, h9, w1, a1, le, di]
    refine hgood _ _ ?_ ?_ ?_ ?_ ?_ <;> simp [h0, h5, h6, h8, g9]
end
end Go.Proofs.YtolhjhjlfgfifaaGreatDoor.AM.Rd
end
section
set_option maxRecDepth 1000000
set_option linter.unusedVariables false
set_option linter.unusedSimpArgs false
namespace Go.Proofs.YtolhjhjlfgfifaaGreatDoor.AM.Rd
open Go.Proofs
theorem elR_eq (c d : UInt8) (s : List UInt8) (ec : hd s 0 = c) (ed : hd s 1 = d) : elR s = if c = 32 ∨ c = 9 ∨ c = 13 ∨ c = 10 then (0, 1, decide (c = 10)) else
  if c = 47 ∧ (d = 47 ∨ d = 42) then (match commentR s with | none => (0, 0, false) | some (n, l) => (0, n, l)) else
  if isL c then (if isWord wordsR (s.take (nrun isLD s)) then 6 else 1, nrun isLD s, false) else
  if isD c ∨ (c = 46 ∧ isD d) then (match numberR s with | none => (0, 0, false) | some (k, n) => (k, n, false)) else
  if c = 34 ∨ c = 96 then (4, match textR s with | none => 0 | some (n, _) => n, false) else
  if c = 59 then (7, 1, false) else (5, opFind opsR s, false) := by
  subst ec; subst ed; rfl
section
variable {b : List UInt8} {tb : Tree} (hb : IsSl byE b (.tr tb)) (hl : b.length ≤ 1000000)
include hb hl
theorem scan_step {RES : Nat ⊕ List Tk} {m : Nat} {st : St} (hst : ScI b tb RES m st) : wpc T k23_3 st (thenN (fun s' => m < b.length ∧ ScI b tb RES (m + 1) s') (blk 0 (sq T k23_38 (giv [HRes.tmp 2, HRes.tmp 3, HRes.tmp 4] fun v σ => snap σ deepN v = some (scanT RES))))) := by
  have hst0 := hst
  obtain ⟨i, l, v, σ, e, L, rfl, hm, hib, hll, hk, hv, hR, h0, h5, h6⟩ := hst
  have hlen : ∀ σ, opLen 1 (.tr tb) σ = some (nv .i64 b.length) := fun σ => by_len hb
  by_cases hi : i < b.length
  · have hltz : (i : Int) < b.length := by omega
    obtain ⟨c, hc⟩ := some_of hi
    have ec : hd (b.drop i) 0 = c := by rw [hd_drop]; exact hd_of hc
    obtain ⟨d, hd0⟩ : ∃ d, hd b (i + 1) = d := ⟨_, rfl⟩
    have ed : hd (b.drop i) 1 = d := by rw [hd_drop]; exact hd0
    have iac := fun σ => by_ia (σ := σ) hb hc .i64
    have ld := fun σ => by_ld (σ := σ) hc
    have ldt := by_ldt hc
    have a1 := fun σ => at_ok hb (i + 1) (z := (i : Int) + 1) (by omega) σ
    rw [hd0] at a1
    have w1 : IntKind.i64.wrap ((i : Int) + 1) = (i : Int) + 1 := w64z (by omega) (by omega)
    have le := fun σ => rletter_ok c σ
    have di := fun σ => rdigit_ok c σ
    have di1 := fun σ => rdigit_ok d σ
    have leaf : ∀ (kind n : Nat) (line : Bool) (e L : List (Nat × V)), elR (b.drop i) = (kind, n, line) → look e 0 = some (.tr tb) → look e 5 = some v → look e 6 = some (nv .i64 i) → look e 8 = some (bv line) → look e 9 = some (nv .i64 n) → look e 10 = some (nv .i64 kind) → ∀ P : Out → St → Prop,
        (RES = .inl i → ∀ e' L', look e' 2 = some nilSl → look e' 3 = some (nv .i64 i) → look e' 4 = some (bv false) → P .ret ⟨e', L', σ⟩) → (∀ s', (m < b.length ∧ ScI b tb RES (m + 1) s') → P .normal s') → wpc T k23_30 ⟨e, L, σ⟩ P := by
      intro kind n line e L hel g0 g5 g6 g8 g9 g10 P hbad hgood
      refine scan_tail hb hl hi hm hll hk hv hR kind n line e L g0 g5 g6 g8 g9 g10 ?_ P hbad hgood
      rcases Nat.eq_zero_or_pos n with h | h
      · subst h; exact .inl ⟨rfl, by rw [hel]⟩
      · exact .inr ⟨h, hel⟩
    have spec := elR_eq c d (b.drop i) ec ed
    clear hR
    by_cases hc32 : c = 32
    · have hel : elR (b.drop i) = (0, 1, false) := by rw [spec]; subst hc32; rfl
      have zc32 : (c.toNat : Int) = 32 := by rw [hc32]; rfl
      have nc32 : c.toNat = 32 := by omega
      simp [k23_3, k23_5, k23_19, k23_20, h0, h6, hlen, hltz, iac, ld, nc32]
      refine leaf 0 1 false _ _ hel ?_ ?_ ?_ ?_ ?_ ?_ _ ?_ ?_
      · simp [h0]
      · simp [h5]
      · simp [h6]
      · simp
      · simp
      · simp
      · intro hr e' L' g2 g3 g4
        subst hr
        simp [g2, g3, g4, scanT, nilSl]
        rfl
      · intro s' hs'
        simpa using hs'
    have zc32 : ¬ (c.toNat : Int) = 32 := fun h => hc32 ((u8_eq (a := c) (c := 32)).1 h)
    have nc32 : ¬ c.toNat = 32 := by omega
    by_cases hc9 : c = 9
    · have hel : elR (b.drop i) = (0, 1, false) := by rw [spec]; subst hc9; rfl
      have zc9 : (c.toNat : Int) = 9 := by rw [hc9]; rfl
      have nc9 : c.toNat = 9 := by omega
      simp [k23_3, k23_5, k23_19, k23_20, h0, h6, hlen, hltz, iac, ld, nc9]
      refine leaf 0 1 false _ _ hel ?_ ?_ ?_ ?_ ?_ ?_ _ ?_ ?_
      · simp [h0]
      · simp [h5]
      · simp [h6]
      · simp
      · simp
      · simp
      · intro hr e' L' g2 g3 g4
        subst hr
        simp [g2, g3, g4, scanT, nilSl]
        rfl
      · intro s' hs'
        simpa using hs'
    have zc9 : ¬ (c.toNat : Int) = 9 := fun h => hc9 ((u8_eq (a := c) (c := 9)).1 h)
    have nc9 : ¬ c.toNat = 9 := by omega
    by_cases hc13 : c = 13
    · have hel : elR (b.drop i) = (0, 1, false) := by rw [spec]; subst hc13; rfl
      have zc13 : (c.toNat : Int) = 13 := by rw [hc13]; rfl
      have nc13 : c.toNat = 13 := by omega
      simp [k23_3, k23_5, k23_19, k23_20, h0, h6, hlen, hltz, iac, ld, nc13]
      refine leaf 0 1 false _ _ hel ?_ ?_ ?_ ?_ ?_ ?_ _ ?_ ?_
      · simp [h0]
      · simp [h5]
      · simp [h6]
      · simp
      · simp
      · simp
      · intro hr e' L' g2 g3 g4
        subst hr
        simp [g2, g3, g4, scanT, nilSl]
        rfl
      · intro s' hs'
        simpa using hs'
    have zc13 : ¬ (c.toNat : Int) = 13 := fun h => hc13 ((u8_eq (a := c) (c := 13)).1 h)
    have nc13 : ¬ c.toNat = 13 := by omega
    by_cases hc10 : c = 10
    · have hel : elR (b.drop i) = (0, 1, true) := by rw [spec]; subst hc10; rfl
      have zc10 : (c.toNat : Int) = 10 := by rw [hc10]; rfl
      have nc10 : c.toNat = 10 := by omega
      simp [k23_3, k23_5, k23_19, k23_20, h0, h6, hlen, hltz, iac, ld, nc10]
      refine leaf 0 1 true _ _ hel ?_ ?_ ?_ ?_ ?_ ?_ _ ?_ ?_
      · simp [h0]
      · simp [h5]
      · simp [h6]
      · simp
      · simp
      · simp
      · intro hr e' L' g2 g3 g4
        subst hr
        simp [g2, g3, g4, scanT, nilSl]
        rfl
      · intro s' hs'
        simpa using hs'
    have zc10 : ¬ (c.toNat : Int) = 10 := fun h => hc10 ((u8_eq (a := c) (c := 10)).1 h)
    have nc10 : ¬ c.toNat = 10 := by omega
    rw [if_neg (by simp [hc32, hc9, hc13, hc10])] at spec
    by_cases hcom : c = 47 ∧ (d = 47 ∨ d = 42)
    · rw [if_pos hcom] at spec
      have hi1 : i + 1 < b.length := hd_pos (by rw [hd0]; rcases hcom.2 with h | h <;> rw [h] <;> decide)
      have co := fun σ => comment_ok hb hl hi1 (z := (i : Int)) rfl σ
      have zc47 : (c.toNat : Int) = 47 := by rw [hcom.1]; rfl
      have nc47 : c.toNat = 47 := by omega
      have key : ∀ k n line, commentR (b.drop i) = none ∧ n = 0 ∧ line = false ∨ commentR (b.drop i) = some (n, line) → k = 0 → resC (commentR (b.drop i)) = .tup [.sc (.int .i64 (n : Int)), .sc (.bool line)] ∧ elR (b.drop i) = (k, n, line) := by
        intro k n line h hk0
        subst hk0
        rcases h with ⟨h, rfl, rfl⟩ | h
        · rw [h] at spec ⊢
          exact ⟨rfl, spec⟩
        · rw [h] at spec ⊢
          exact ⟨rfl, spec⟩
      obtain ⟨n, line, hnl⟩ : ∃ n line, commentR (b.drop i) = none ∧ n = 0 ∧ line = false ∨ commentR (b.drop i) = some (n, line) := by
        cases h : commentR (b.drop i) with
        | none => exact ⟨0, false, .inl ⟨rfl, rfl, rfl⟩⟩
        | some x => exact ⟨x.1, x.2, .inr rfl⟩
      obtain ⟨hres, hel⟩ := key 0 n line hnl rfl
      rw [hres] at co
      rcases hcom.2 with hd47 | hd42
      · have zd47 : (d.toNat : Int) = 47 := by rw [hd47]; rfl
        have nd47 : d.toNat = 47 := by omega
        simp [k23_3, k23_5, k23_19, k23_20, h0, h6, hlen, hltz, iac, ld, w1, a1, co, opExtract, nc47, nd47]
        refine leaf 0 n line _ _ hel ?_ ?_ ?_ ?_ ?_ ?_ _ ?_ ?_
        · simp [h0]
        · simp [h5]
        · simp [h6]
        · simp
        · simp
        · simp
        · intro hr e' L' g2 g3 g4
          subst hr
          simp [g2, g3, g4, scanT, nilSl]
          rfl
        · intro s' hs'
          simpa using hs'
      · have zd42 : (d.toNat : Int) = 42 := by rw [hd42]; rfl
        have nd42 : d.toNat = 42 := by omega
        simp [k23_3, k23_5, k23_19, k23_20, h0, h6, hlen, hltz, iac, ld, w1, a1, co, opExtract, nc47, nd42]
        refine leaf 0 n line _ _ hel ?_ ?_ ?_ ?_ ?_ ?_ _ ?_ ?_
        · simp [h0]
        · simp [h5]
        · simp [h6]
        · simp
        · simp
        · simp
        · intro hr e' L' g2 g3 g4
          subst hr
          simp [g2, g3, g4, scanT, nilSl]
          rfl
        · intro s' hs'
          simpa using hs'
    rw [if_neg hcom] at spec
    by_cases hc47 : c = 47
    · have hd47 : ¬ d = 47 := fun h => hcom ⟨hc47, .inl h⟩
      have hd42 : ¬ d = 42 := fun h => hcom ⟨hc47, .inr h⟩
      have zc47 : (c.toNat : Int) = 47 := by rw [hc47]; rfl
      have nc47 : c.toNat = 47 := by omega
      have zd47 : ¬ (d.toNat : Int) = 47 := fun h => hd47 ((u8_eq (a := d) (c := 47)).1 h)
      have nd47 : ¬ d.toNat = 47 := by omega
      have zd42 : ¬ (d.toNat : Int) = 42 := fun h => hd42 ((u8_eq (a := d) (c := 42)).1 h)
      have nd42 : ¬ d.toNat = 42 := by omega
      have hLc : isL c = false := by rw [hc47]; rfl
      have hDc : isD c = false := by rw [hc47]; rfl
      rw [hLc] at le
      rw [hDc] at di
      have op := fun σ => op_ok hb hl hi (z := (i : Int)) rfl σ
      have hel : elR (b.drop i) = (5, opFind opsR (b.drop i), false) := by rw [spec, if_neg (by simp [hLc]), if_neg (by rw [hDc, hc47]; simp), if_neg (by simp [hc47]), if_neg (by simp [hc47])]
      obtain ⟨n, hn⟩ : ∃ n, opFind opsR (b.drop i) = n := ⟨_, rfl⟩
      rw [hn] at op hel
      simp [k23_3, k23_5, k23_19, k23_20, h0, h6, hlen, hltz, iac, ld, w1, a1, le, di, op, nc47, zd47, zd42]
      refine leaf 5 n false _ _ hel ?_ ?_ ?_ ?_ ?_ ?_ _ ?_ ?_
      · simp [h0]
      · simp [h5]
      · simp [h6]
      · simp
      · simp
      · simp
      · intro hr e' L' g2 g3 g4
        subst hr
        simp [g2, g3, g4, scanT, nilSl]
        rfl
      · intro s' hs'
        simpa using hs'
    have zc47 : ¬ (c.toNat : Int) = 47 := fun h => hc47 ((u8_eq (a := c) (c := 47)).1 h)
    have nc47 : ¬ c.toNat = 47 := by omega
    cases hLc : isL c with
    | true =>
      rw [hLc] at le spec
      rw [if_pos rfl] at spec
      simp [k23_3, k23_5, k23_19, k23_20, h0, h6, hlen, hltz, iac, ld, le, zc32, zc9, zc13, zc10, zc47]
      refine word_loop hb hl hi hc hLc (v := v) _ _ ?_ ?_ ?_ ?_ ?_ ?_
      · simp [h0]
      · simp [h5]
      · simp [h6]
      · simp
      · simp
      intro e' L' g0 g5 g6 g8 g9
      have hNl : nrun isLD (b.drop i) ≤ b.length - i := by rw [← List.length_drop]; exact nrun_le
      obtain ⟨N, hN⟩ : ∃ N, nrun isLD (b.drop i) = N := ⟨_, rfl⟩
      rw [hN] at g9 hNl spec
      obtain ⟨t', ht1, ht2⟩ := by_cut hb (lo := i) (hi := i + N) (by omega) (by omega) (y := (i : Int)) (z := (i : Int) + N) rfl (by omega)
      have htk : (b.take (i + N)).drop i = (b.drop i).take N := by rw [List.drop_take, show i + N - i = N by omega]
      rw [htk] at ht2
      have hstr := fun σ => by_str ht2 σ
      have wd := fun σ => rword_ok ((b.drop i).take N) σ
      have w2 : IntKind.i64.wrap ((i : Int) + N) = (i : Int) + N := w64z (by omega) (by omega)
      obtain ⟨x, hx⟩ : ∃ x, (b.drop i).take N = x := ⟨_, rfl⟩
      rw [hx] at hstr wd spec
      cases hw : isWord wordsR x with
      | true =>
        rw [hw] at wd spec
        rw [if_pos rfl] at spec
        simp [g0, g6, g9, w2, ht1, hstr, wd]
        refine leaf 6 N false _ _ spec ?_ ?_ ?_ ?_ ?_ ?_ _ ?_ ?_
        · simp [g0]
        · simp [g5]
        · simp [g6]
        · simp [g8]
        · simp [g9]
        · simp
        · intro hr e' L' g2 g3 g4
          subst hr
          simp [g2, g3, g4, scanT, nilSl]
          rfl
        · intro s' hs'
          simpa using hs'
      | false =>
        rw [hw] at wd spec
        rw [if_neg (by simp)] at spec
        simp [g0, g6, g9, w2, ht1, hstr, wd]
        refine leaf 1 N false _ _ spec ?_ ?_ ?_ ?_ ?_ ?_ _ ?_ ?_
        · simp [g0]
        · simp [g5]
        · simp [g6]
        · simp [g8]
        · simp [g9]
        · simp
        · intro hr e' L' g2 g3 g4
          subst hr
          simp [g2, g3, g4, scanT, nilSl]
          rfl
        · intro s' hs'
          simpa using hs'
    | false =>
    rw [hLc] at le spec
    rw [if_neg (by simp)] at spec
    have number : (isD c = true ∨ (c = 46 ∧ isD d = true)) → ∀ kind n, numberR (b.drop i) = none ∧ kind = 0 ∧ n = 0 ∨ numberR (b.drop i) = some (kind, n) → resN (numberR (b.drop i)) = .tup [.sc (.int .i64 (kind : Int)), .sc (.int .i64 (n : Int))] ∧ elR (b.drop i) = (kind, n, false) := by
      intro hh kind n h
      rw [if_pos hh] at spec
      rcases h with ⟨h, rfl, rfl⟩ | h
      · rw [h] at spec ⊢
        exact ⟨rfl, spec⟩
      · rw [h] at spec ⊢
        exact ⟨rfl, spec⟩
    obtain ⟨kind, n, hkn⟩ : ∃ kind n, numberR (b.drop i) = none ∧ kind = 0 ∧ n = 0 ∨ numberR (b.drop i) = some (kind, n) := by
      cases h : numberR (b.drop i) with
      | none => exact ⟨0, 0, .inl ⟨rfl, rfl, rfl⟩⟩
      | some x => exact ⟨x.1, x.2, .inr rfl⟩
    have nu := fun σ => number_ok hb hl hi (z := (i : Int)) rfl σ
    cases hDc : isD c with
    | true =>
      obtain ⟨hres, hel⟩ := number (.inl hDc) kind n hkn
      rw [hDc] at di
      rw [hres] at nu
      simp [k23_3, k23_5, k23_19, k23_20, h0, h6, hlen, hltz, iac, ld, le, di, nu, opExtract, zc32, zc9, zc13, zc10, zc47]
      refine leaf kind n false _ _ hel ?_ ?_ ?_ ?_ ?_ ?_ _ ?_ ?_
      · simp [h0]
      · simp [h5]
      · simp [h6]
      · simp
      · simp
      · simp
      · intro hr e' L' g2 g3 g4
        subst hr
        simp [g2, g3, g4, scanT, nilSl]
        rfl
      · intro s' hs'
        simpa using hs'
    | false =>
    rw [hDc] at di
    by_cases hc46 : c = 46
    · have zc46 : (c.toNat : Int) = 46 := by rw [hc46]; rfl
      have nc46 : c.toNat = 46 := by omega
      cases hDd : isD d with
      | true =>
        obtain ⟨hres, hel⟩ := number (.inr ⟨hc46, hDd⟩) kind n hkn
        rw [hDd] at di1
        rw [hres] at nu
        simp [k23_3, k23_5, k23_19, k23_20, h0, h6, hlen, hltz, iac, ld, w1, a1, le, di, di1, nu, opExtract, nc46]
        refine leaf kind n false _ _ hel ?_ ?_ ?_ ?_ ?_ ?_ _ ?_ ?_
        · simp [h0]
        · simp [h5]
        · simp [h6]
        · simp
        · simp
        · simp
        · intro hr e' L' g2 g3 g4
          subst hr
          simp [g2, g3, g4, scanT, nilSl]
          rfl
        · intro s' hs'
          simpa using hs'
      | false =>
        rw [hDd] at di1
        clear nu hkn number
        have op := fun σ => op_ok hb hl hi (z := (i : Int)) rfl σ
        have hel : elR (b.drop i) = (5, opFind opsR (b.drop i), false) := by rw [spec, if_neg (by rw [hDc, hDd]; simp), if_neg (by simp [hc46]), if_neg (by simp [hc46])]
        obtain ⟨n, hn⟩ : ∃ n, opFind opsR (b.drop i) = n := ⟨_, rfl⟩
        rw [hn] at op hel
        simp [k23_3, k23_5, k23_19, k23_20, h0, h6, hlen, hltz, iac, ld, w1, a1, le, di, di1, op, nc46]
        refine leaf 5 n false _ _ hel ?_ ?_ ?_ ?_ ?_ ?_ _ ?_ ?_
        · simp [h0]
        · simp [h5]
        · simp [h6]
        · simp
        · simp
        · simp
        · intro hr e' L' g2 g3 g4
          subst hr
          simp [g2, g3, g4, scanT, nilSl]
          rfl
        · intro s' hs'
          simpa using hs'
    have zc46 : ¬ (c.toNat : Int) = 46 := fun h => hc46 ((u8_eq (a := c) (c := 46)).1 h)
    have nc46 : ¬ c.toNat = 46 := by omega
    clear nu hkn number
    rw [if_neg (by simp [hDc, hc46])] at spec
    have tx := fun σ => text_ok hb hl hi (z := (i : Int)) rfl σ
    obtain ⟨n, t2, hres, hn⟩ : ∃ n t2, textT (textR (b.drop i)) = .tup [.sc (.int .i64 ((n : Nat) : Int)), t2] ∧ (match textR (b.drop i) with | none => 0 | some (n, _) => n) = n := by
      cases textR (b.drop i) with
      | none => exact ⟨0, _, rfl, rfl⟩
      | some x => exact ⟨x.1, _, rfl, rfl⟩
    rw [hres] at tx
    by_cases hc34 : c = 34
    · have hel : elR (b.drop i) = (4, n, false) := by rw [spec, if_pos (by simp [hc34]), ← hn]
      have zc34 : (c.toNat : Int) = 34 := by rw [hc34]; rfl
      have nc34 : c.toNat = 34 := by omega
      simp [k23_3, k23_5, k23_19, k23_20, h0, h6, hlen, hltz, iac, ld, le, di, tx, opExtract, nc34]
      refine leaf 4 n false _ _ hel ?_ ?_ ?_ ?_ ?_ ?_ _ ?_ ?_
      · simp [h0]
      · simp [h5]
      · simp [h6]
      · simp
      · simp
      · simp
      · intro hr e' L' g2 g3 g4
        subst hr
        simp [g2, g3, g4, scanT, nilSl]
        rfl
      · intro s' hs'
        simpa using hs'
    have zc34 : ¬ (c.toNat : Int) = 34 := fun h => hc34 ((u8_eq (a := c) (c := 34)).1 h)
    have nc34 : ¬ c.toNat = 34 := by omega
    by_cases hc96 : c = 96
    · have hel : elR (b.drop i) = (4, n, false) := by rw [spec, if_pos (by simp [hc96]), ← hn]
      have zc96 : (c.toNat : Int) = 96 := by rw [hc96]; rfl
      have nc96 : c.toNat = 96 := by omega
      simp [k23_3, k23_5, k23_19, k23_20, h0, h6, hlen, hltz, iac, ld, le, di, tx, opExtract, nc96]
      refine leaf 4 n false _ _ hel ?_ ?_ ?_ ?_ ?_ ?_ _ ?_ ?_
      · simp [h0]
      · simp [h5]
      · simp [h6]
      · simp
      · simp
      · simp
      · intro hr e' L' g2 g3 g4
        subst hr
        simp [g2, g3, g4, scanT, nilSl]
        rfl
      · intro s' hs'
        simpa using hs'
    have zc96 : ¬ (c.toNat : Int) = 96 := fun h => hc96 ((u8_eq (a := c) (c := 96)).1 h)
    have nc96 : ¬ c.toNat = 96 := by omega
    clear tx
    rw [if_neg (by simp [hc34, hc96])] at spec
    by_cases hc59 : c = 59
    · rw [if_pos hc59] at spec
      have zc59 : (c.toNat : Int) = 59 := by rw [hc59]; rfl
      have nc59 : c.toNat = 59 := by omega
      simp [k23_3, k23_5, k23_19, k23_20, h0, h6, hlen, hltz, iac, ld, le, di, nc59]
      refine leaf 7 1 false _ _ spec ?_ ?_ ?_ ?_ ?_ ?_ _ ?_ ?_
      · simp [h0]
      · simp [h5]
      · simp [h6]
      · simp
      · simp
      · simp
      · intro hr e' L' g2 g3 g4
        subst hr
        simp [g2, g3, g4, scanT, nilSl]
        rfl
      · intro s' hs'
        simpa using hs'
    have zc59 : ¬ (c.toNat : Int) = 59 := fun h => hc59 ((u8_eq (a := c) (c := 59)).1 h)
    have nc59 : ¬ c.toNat = 59 := by omega
    rw [if_neg hc59] at spec
    have op := fun σ => op_ok hb hl hi (z := (i : Int)) rfl σ
    obtain ⟨n2, hn2⟩ : ∃ n, opFind opsR (b.drop i) = n := ⟨_, rfl⟩
    rw [hn2] at op spec
    simp [k23_3, k23_5, k23_19, k23_20, h0, h6, hlen, hltz, iac, ld, le, di, op, zc32, zc9, zc13, zc10, zc47, zc46, zc34, zc96, zc59]
    refine leaf 5 n2 false _ _ spec ?_ ?_ ?_ ?_ ?_ ?_ _ ?_ ?_
    · simp [h0]
    · simp [h5]
    · simp [h6]
    · simp
    · simp
    · simp
    · intro hr e' L' g2 g3 g4
      subst hr
      simp [g2, g3, g4, scanT, nilSl]
      rfl
    · intro s' hs'
      simpa using hs'
  · have hie : i = b.length := by omega
    have hltz : ¬ (i : Int) < b.length := by omega
    have hr : RES = .inr ((if endsR l then l ++ [nlT i] else l) ++ [⟨0, [], i⟩]) := by
      rw [hR, List.drop_eq_nil_of_le (by omega), scanG_nil]
    clear hR hst0
    have hen := tk_ends hv hk (by omega)
    have bl : b.length = i := hie.symm
    have hi7 := fun σ => bs_tk 7 [10] i σ
    have hi0 := fun σ => bs_tk 0 [] i σ
    simp only [Int.cast_ofNat_Int] at hi7 hi0
    have fin : ∀ (l1 : List Tk) v1 σ1, TkV l1 v1 σ1 → l1.length ≤ 3000000 → RES = .inr (l1 ++ [⟨0, [], i⟩]) → ∀ e L, look e 0 = some (.tr tb) → look e 5 = some v1 → wpc T k23_40 ⟨e, L, σ1⟩ (giv [HRes.tmp 2, HRes.tmp 3, HRes.tmp 4] fun v σ => snap σ deepN v = some (scanT RES)) := by
      intro l1 v1 σ1 hv1 hl1 hr e L h0 h5
      obtain ⟨v', σ', ha, hv'⟩ := tk_app (t := ⟨0, [], i⟩) hv1 hl1
      have hend := tk_end hv'
      subst hr
      simp [k23_40, h0, h5, hlen, bl, spl3, hi0, ha, hend]
    cases he : endsR l with
    | false =>
      rw [he] at hen hr
      simp [k23_3, k23_38, h0, h5, h6, hlen, hltz, hen]
      refine fin l v σ hv (by omega) (by simpa using hr) _ _ ?_ ?_ <;> simp [h0, h5]
    | true =>
      rw [he] at hen hr
      obtain ⟨v', σ', ha, hv'⟩ := tk_app (t := nlT i) hv (by omega)
      have ha' : opAppend 3 32 v (.tr (.row (tkE ⟨7, [10], i⟩) 1 (some 1))) σ = some (v', σ') := ha
      simp [k23_3, k23_38, h0, h5, h6, hlen, hen, bl, spl3, hi7, ha']
      refine fin (l ++ [nlT i]) v' σ' hv' (by simp; omega) (by simpa using hr) _ _ ?_ ?_ <;> simp [h0]
theorem rscan_ok (σ : Store) : callL T 23 [.tr tb] σ = some (.tr (scanT (scanR b)), σ) := by
  suffices hh : ∃ t, (∀ σ, callL T 23 ([tb].map .tr) σ = some (.tr t, σ)) ∧ t = scanT (scanR b) by
    obtain ⟨t, h, rfl⟩ := hh
    exact h σ
  refine call_iso T23 rfl rfl ?_
  simp
  refine wpc_up b.length (ScI b tb (scanR b)) ⟨0, [], nilSl, [], _, _, rfl, by omega, by omega, by simp, by simp, .inl ⟨rfl, rfl, rfl⟩, rfl, by simp, by simp [nilSl], by simp⟩ ?_
  intro m st hst
  exact scan_step hb hl hst
end
end Go.Proofs.YtolhjhjlfgfifaaGreatDoor.AM.Rd
end
section
set_option maxRecDepth 1000000
set_option linter.unusedVariables false
set_option linter.unusedSimpArgs false
namespace Go.Proofs.YtolhjhjlfgfifaaGreatDoor.AM.Rd
open Go.Proofs
section
variable {c : CallA} {i : Nat} {ns : List Nat} {is : List (Nat × List Nat)} {d : Option Nat} {inK : Bool} {k : HK} {r : List HOp} {st : St} {K : St → Prop} {ps : List Pend} {p : Pend}
theorem pendAdd_lo {n : Nat} (hn : n < 3) {o : HOp} : pendAdd c n ns o st ps = ps := by
  unfold pendAdd
  split
  · omega
  · rfl
theorem opsDP_nil : okP (opsRunD c i (p :: ps) [] [] st) K ↔ pendAll c i st.σ (p :: ps) = true ∧ K st := by
  simp only [opsRunD]
  cases h : pendAll c i st.σ (p :: ps) <;> simp [okP]
theorem opsDP_0 : okP (opsRunD c i (p :: ps) ((0, ns) :: is) (⟨d, inK, k, none⟩ :: r) st) K ↔ okA (opA c k (st.only ns)) d inK st (fun st' => okP (opsRunD c (i + 1) (p :: ps) is r st') K) := by
  have hb : Nat.beq 0 1 = false := rfl
  have hb2 : Nat.beq 0 2 = false := rfl
  simp only [opsRunD, pendAdd_lo (show 0 < 3 by omega), hb2, Bool.false_and, Bool.false_eq_true, if_false]
  unfold opStepD
  simp only [guardA, hb, Bool.false_and, Bool.false_eq_true, if_false]
  cases h : opA c k (st.only ns) with
  | none => simp [okA_no, okP]
  | some q => obtain ⟨v, s⟩ := q; simp [okA_sm]
theorem opsDP_2 : okP (opsRunD c i (p :: ps) ((2, ns) :: is) (⟨d, inK, k, none⟩ :: r) st) K ↔ pendAll c i st.σ (p :: ps) = true ∧ okA (opA c k (st.only ns)) d inK st (fun st' => okP (opsRunD c (i + 1) (p :: ps) is r st') K) := by
  have hb : Nat.beq 2 1 = false := rfl
  have hb2 : Nat.beq 2 2 = true := rfl
  simp only [opsRunD, pendAdd_lo (show 2 < 3 by omega), hb2, Bool.true_and]
  unfold opStepD
  simp only [guardA, hb, Bool.false_and, Bool.false_eq_true, if_false]
  cases hp : pendAll c i st.σ (p :: ps) with
  | false => simp [okP]
  | true =>
    cases h : opA c k (st.only ns) with
    | none => simp [okA_no, okP]
    | some q => obtain ⟨v, s⟩ := q; simp [okA_sm]
theorem opsDP_1 : okP (opsRunD c i (p :: ps) ((1, ns) :: is) (⟨d, inK, k, none⟩ :: r) st) K ↔ okA (okF true st.σ (opA (quietCall c) k (st.only ns))) d inK st (fun st' => okP (opsRunD c (i + 1) (p :: ps) is r st') K) := by
  have hb : Nat.beq 1 1 = true := rfl
  have hb2 : Nat.beq 1 2 = false := rfl
  simp only [opsRunD, pendAdd_lo (show 1 < 3 by omega), hb2, Bool.false_and, Bool.false_eq_true, if_false]
  unfold opStepD okF
  simp only [guardA, hb, Bool.true_and, if_true]
  cases h : opA (quietCall c) k (st.only ns) with
  | none => simp [okA_no, okP]
  | some q =>
    obtain ⟨v, s⟩ := q
    cases hf : freshOk st.σ s <;> simp [hf, okA_no, okA_sm, okP]
theorem opsD_h {v : V} {σ1 : Store} (n : Nat) (h : opA c k (st.only ns) = some (v, σ1)) : okP (opsRunD c i [] ((n + 3, ns) :: is) (⟨d, inK, k, none⟩ :: r) st) K ↔ okP (opsRunD c (i + 1) [⟨n, k, st.only ns, v⟩] is r ({ st with σ := σ1 }.set d inK v)) K := by
  have hb : Nat.beq (n + 3) 1 = false := rfl
  have hb2 : Nat.beq (n + 3) 2 = false := rfl
  have hpa : pendAdd c (n + 3) ns ⟨d, inK, k, none⟩ st [] = [⟨n, k, st.only ns, v⟩] := by
    unfold pendAdd
    simp only [guardA, h]
  simp only [opsRunD, hpa, hb2, Bool.false_and, Bool.false_eq_true, if_false]
  unfold opStepD
  simp only [guardA, hb, Bool.false_and, Bool.false_eq_true, if_false, h]
end
theorem eqInt_refl (z : Int) : eqInt z z = true := by cases z <;> simp [eqInt]
theorem eqV_int (k : IntKind) (z : Int) : eqV (.tr (.sc (.int k z))) (.tr (.sc (.int k z))) = true := by simp [eqV, eqT, eqS, eqInt_refl]
theorem eqTL_by : ∀ (s : List UInt8), eqTL (s.flatMap byE) (s.flatMap byE) = true
  | [] => rfl
  | c :: s => by
    rw [List.flatMap_cons]
    show (eqT _ _ && eqTL (s.flatMap byE) (s.flatMap byE)) = true
    rw [eqTL_by s, Bool.and_true]
    simp [eqT, eqS, eqInt_refl]
theorem eqO_refl (o : Option Nat) : eqO o o = true := by cases o <;> simp [eqO]
theorem eqV_by {s : List UInt8} {t : Tree} (h : IsSl byE s (.tr t)) : eqV (.tr t) (.tr t) = true := by
  rcases h with ⟨_, h⟩ | ⟨cap, h⟩
  · cases h; rfl
  · cases h
    simp [eqV, eqT, eqTL_by, eqO_refl]
theorem by_map : ∀ (b : List UInt8), b.flatMap byE = b.map (fun c => Tree.sc (.int .u8 (c.toNat : Int)))
  | [] => rfl
  | x :: y => by rw [List.flatMap_cons, by_map y]; rfl
def bC (b : List UInt8) : List V := (b.flatMap byE).map .tr
theorem bC_len (b : List UInt8) : (bC b).length = b.length := by
  unfold bC
  rw [List.length_map, flat_len byE_len, Nat.mul_one]
def BV (σ : Store) (id : Nat) (bt : V) (b : List UInt8) : Prop := (∃ tb, bt = .tr tb ∧ IsSl byE b (.tr tb)) ∨ (∃ j g cap, j ≠ id ∧ bt = .own j g 0 b.length 1 cap ∧ σ[j]? = some (.row (bC b) g))
def TL (σ : Store) (id : Nat) (bt : V) (l : List Tk) (lv : V) : Prop := (l = [] ∧ lv = nilSl) ∨ (0 < l.length ∧ ∃ m g, m ≠ id ∧ (∀ j g' n c, bt = .own j g' 0 n 1 c → j ≠ m) ∧ lv = .own m g 0 l.length 3 none ∧ σ[m]? = some (.row ((l.flatMap tkE).map .tr) g))
def SC (σ : Store) (id : Nat) (b : List UInt8) (a : Nat) (need : Bool) (l : List Tk) (bt lv : V) : Prop := σ[id]? = some (.row [bt, nv .i64 a, bv need, lv] 0) ∧ BV σ id bt b ∧ TL σ id bt l lv
section
variable {σ : Store} {id : Nat} {b : List UInt8} {a a' : Nat} {need need' : Bool} {l : List Tk} {bt lv : V}
theorem bv_len (h : BV σ id bt b) (σ' : Store) : opLen 1 bt σ' = some (nv .i64 b.length) := by
  rcases h with ⟨tb, rfl, h⟩ | ⟨j, g, cap, _, rfl, _⟩
  · exact by_len h
  · rfl
theorem bv_eq (h : BV σ id bt b) : eqV bt bt = true := by
  rcases h with ⟨tb, rfl, h⟩ | ⟨j, g, cap, _, rfl, _⟩
  · exact eqV_by h
  · simp [eqV, eqO_refl]
theorem bv_at (h : BV σ id bt b) {i : Nat} {c : UInt8} (hi : b[i]? = some c) {z : Int} (hz : z = i) : ∃ p, opIaddr 1 bt (iv z) σ = some p ∧ opLoad 1 false p σ = some (u8v c) := by
  subst hz
  rcases h with ⟨tb, rfl, h⟩ | ⟨j, g, cap, _, rfl, hs⟩
  · exact ⟨_, by_ia h hi .i64, by_ld hi⟩
  · have hlt := (List.getElem?_eq_some_iff.1 hi).1
    refine ⟨.ptr j g (0 + i), own_iaddr hs hlt, ?_⟩
    have h1 : obCells σ j g = some (bC b) := by simp [obCells, hs]
    have hx : (bC b)[i]? = some (u8v c) := by
      unfold bC
      rw [List.getElem?_map, by_map, List.getElem?_map, hi]
      rfl
    have h2 : slice? (bC b) (0 + i) 1 = some [u8v c] := by
      have hlt' : i < (bC b).length := by rw [bC_len]; exact hlt
      unfold slice?
      have : ((bC b).drop (0 + i)).take 1 = [u8v c] := by
        rw [Nat.zero_add, List.drop_eq_getElem_cons hlt']
        rw [List.getElem?_eq_getElem hlt'] at hx
        simp [Option.some.inj hx]
      simp only [this]
      rfl
    simp only [opLoad, h1, h2, ofCells]
theorem sc_l0 (h : SC σ id b a need l bt lv) : opLoad 1 false (.ptr id 0 0) σ = some bt := by
  have h1 : obCells σ id 0 = some [bt, nv .i64 a, bv need, lv] := by simp [obCells, h.1]
  simp only [opLoad, h1]; rfl
theorem sc_l1 (h : SC σ id b a need l bt lv) : opLoad 1 false (.ptr id 0 1) σ = some (nv .i64 a) := by
  have h1 : obCells σ id 0 = some [bt, nv .i64 a, bv need, lv] := by simp [obCells, h.1]
  simp only [opLoad, h1]; rfl
theorem sc_l2 (h : SC σ id b a need l bt lv) : opLoad 1 false (.ptr id 0 2) σ = some (bv need) := by
  have h1 : obCells σ id 0 = some [bt, nv .i64 a, bv need, lv] := by simp [obCells, h.1]
  simp only [opLoad, h1]; rfl
theorem sc_l3 (h : SC σ id b a need l bt lv) : opLoad 1 false (.ptr id 0 3) σ = some lv := by
  have h1 : obCells σ id 0 = some [bt, nv .i64 a, bv need, lv] := by simp [obCells, h.1]
  simp only [opLoad, h1]; rfl
theorem bv_set (h : BV σ id bt b) {k : Nat} {x : Ob} (hk : ∀ j g n c, bt = .own j g 0 n 1 c → j ≠ k) : BV (σ.set k x) id bt b := by
  rcases h with h | ⟨j, g, cap, h1, rfl, h2⟩
  · exact .inl h
  · exact .inr ⟨j, g, cap, h1, rfl, by rw [List.getElem?_set_ne (Ne.symm (hk _ _ _ _ rfl))]; exact h2⟩
theorem bv_ne (h : BV σ id bt b) : ∀ j g n c, bt = .own j g 0 n 1 c → j ≠ id := by
  intro j g n c e
  rcases h with ⟨tb, rfl, _⟩ | ⟨j', g', cap, h1, rfl, h2⟩
  · cases e
  · cases e; exact h1
theorem tl_set (h : TL σ id bt l lv) {x : Ob} : TL (σ.set id x) id bt l lv := by
  rcases h with h | ⟨h0, m, g, h1, h2, rfl, h3⟩
  · exact .inl h
  · exact .inr ⟨h0, m, g, h1, h2, rfl, by rw [List.getElem?_set_ne (Ne.symm h1)]; exact h3⟩
theorem sc_set (h : SC σ id b a need l bt lv) (a' : Nat) (need' : Bool) : SC (σ.set id (.row [bt, nv .i64 a', bv need', lv] 0)) id b a' need' l bt lv :=
  ⟨List.getElem?_set_self (List.getElem?_eq_some_iff.1 h.1).1, bv_set h.2.1 (bv_ne h.2.1), tl_set h.2.2⟩
theorem sc_s1 (h : SC σ id b a need l bt lv) {z : Int} (hz : z = a') : ∃ σ', opStore 1 (.ptr id 0 1) (iv z) σ = some σ' ∧ SC σ' id b a' need l bt lv := by
  subst hz
  refine ⟨_, ?_, sc_set h a' need⟩
  have h1 : cellsOf (iv a') = [iv a'] := rfl
  unfold opStore
  simp only [h1, List.length_singleton, if_true]
  unfold obPut
  rw [h.1]
  rfl
theorem sc_s2 (h : SC σ id b a need l bt lv) (need' : Bool) : ∃ σ', opStore 1 (.ptr id 0 2) (bv need') σ = some σ' ∧ SC σ' id b a need' l bt lv := by
  refine ⟨_, ?_, sc_set h a need'⟩
  have h1 : cellsOf (bv need') = [bv need'] := rfl
  unfold opStore
  simp only [h1, List.length_singleton, if_true]
  unfold obPut
  rw [h.1]
  rfl
theorem sc_nc : opNilCheck (.ptr id 0 0) = some (.ptr id 0 0) := rfl
theorem sc_f (k : Nat) : opFaddr k (.ptr id 0 0) = some (.ptr id 0 k) := by
  unfold opFaddr
  simp
theorem sc_new (h : SC σ id b a need l bt lv) (x : Ob) : SC (σ ++ [x]) id b a need l bt lv := by
  have ap : ∀ {i : Nat} {y : Ob}, σ[i]? = some y → (σ ++ [x])[i]? = some y := fun {i y} h => by rw [List.getElem?_append_left (List.getElem?_eq_some_iff.1 h).1]; exact h
  refine ⟨ap h.1, ?_, ?_⟩
  · rcases h.2.1 with h | ⟨j, g, cap, h1, rfl, h2⟩
    · exact .inl h
    · exact .inr ⟨j, g, cap, h1, rfl, ap h2⟩
  · rcases h.2.2 with h | ⟨h0, m, g, h1, h2, rfl, h3⟩
    · exact .inl h
    · exact .inr ⟨h0, m, g, h1, h2, rfl, ap h3⟩
theorem tl_eq (h : TL σ id bt l lv) : eqV lv lv = true := by
  rcases h with ⟨_, rfl⟩ | ⟨_, m, g, _, _, rfl, _⟩
  · rfl
  · simp [eqV, eqO]
theorem sc_put (h : SC σ id b a need l bt lv) (t : Tk) (hl : l.length ≤ 3000000) : ∃ v' σ1 σ2, opAppend 3 32 lv (.tr (.row (tkE t) 1 (some 1))) σ = some (v', σ1) ∧ opStore 1 (.ptr id 0 3) v' σ1 = some σ2 ∧ SC σ2 id b a need (l ++ [t]) bt v' := by
  have hr : ∀ n, n ≤ 3000000 → room n 32 = true := by
    intro n hn
    unfold room
    have : n * (32 + 1) ≤ 3000000 * 33 := Nat.mul_le_mul hn (by omega)
    exact Nat.ble_eq_true_of_le (by omega)
  have hr1 := hr 1 (by omega)
  have hr2 := hr l.length hl
  have hel : elems σ 3 (.tr (.row (tkE t) 1 (some 1))) = some ((tkE t).map .tr, 1) := by simp [elems, tkE_len]
  obtain ⟨hid, hbv, htl⟩ := h
  have hidl := (List.getElem?_eq_some_iff.1 hid).1
  have fin : ∀ (v' : V) (σ1 : Store), (∃ m g, v' = .own m g 0 (l.length + 1) 3 none) → σ1[id]? = some (.row [bt, nv .i64 a, bv need, lv] 0) → opStore 1 (.ptr id 0 3) v' σ1 = some (σ1.set id (.row [bt, nv .i64 a, bv need, v'] 0)) := by
    rintro _ σ1 ⟨m, g, rfl⟩ h1
    have h2 : cellsOf (.own m g 0 (l.length + 1) 3 none) = [.own m g 0 (l.length + 1) 3 none] := rfl
    unfold opStore
    simp only [h2, List.length_singleton, if_true]
    unfold obPut
    rw [h1]
    rfl
  rcases htl with ⟨rfl, rfl⟩ | ⟨h0, m, g, hm, hbm, rfl, hs⟩
  · have hap : opAppend 3 32 nilSl (.tr (.row (tkE t) 1 (some 1))) σ = some (.own σ.length 0 0 1 3 none, σ ++ [.row ((tkE t).map .tr) 0]) := by
      unfold opAppend nilSl
      simp [hel, hr1]
    have h1 : (σ ++ [Ob.row ((tkE t).map .tr) 0])[id]? = some (.row [bt, nv .i64 a, bv need, nilSl] 0) := by rw [List.getElem?_append_left hidl]; exact hid
    refine ⟨_, _, _, hap, fin _ _ ⟨_, _, rfl⟩ h1, List.getElem?_set_self (by simp; omega), ?_, .inr ⟨by simp, σ.length, 0, by omega, ?_, rfl, ?_⟩⟩
    · refine bv_set ?_ (bv_ne hbv)
      rcases hbv with h | ⟨j, g, cap, h1', rfl, h2⟩
      · exact .inl h
      · exact .inr ⟨j, g, cap, h1', rfl, by rw [List.getElem?_append_left (List.getElem?_eq_some_iff.1 h2).1]; exact h2⟩
    · intro j g' n c e
      rcases hbv with ⟨tb, rfl, _⟩ | ⟨j', g'', cap, h1, rfl, h2⟩
      · cases e
      · cases e
        have := (List.getElem?_eq_some_iff.1 h2).1
        omega
    · rw [List.getElem?_set_ne (by omega)]
      simp
  · have hml := (List.getElem?_eq_some_iff.1 hs).1
    have hold : slice? ((l.flatMap tkE).map V.tr) 0 (l.length * 3) = some ((l.flatMap tkE).map .tr) := by
      unfold slice?
      have ht : (((l.flatMap tkE).map V.tr).drop 0).take (l.length * 3) = (l.flatMap tkE).map .tr := by
        rw [List.drop_zero, List.take_of_length_le (by rw [List.length_map, flat3]; exact Nat.le_refl _)]
      simp only [ht, List.length_map, flat3, if_true]
    have hap : opAppend 3 32 (.own m g 0 l.length 3 none) (.tr (.row (tkE t) 1 (some 1))) σ = some (.own m (g + 1) 0 (l.length + 1) 3 none, σ.set m (.row ((l.flatMap tkE).map .tr ++ (tkE t).map .tr) (g + 1))) := by
      have hone : ((tkE t).map V.tr).all oneV = true := rfl
      have hn : ¬ (0 + (l.length + 1) * 3 ≤ ((l.flatMap tkE).map V.tr).length ∧ 0 < 3) := by rw [List.length_map, flat3]; omega
      unfold opAppend
      simp only [hel, hr1, hr2, hs, hold, Bool.not_true, Bool.false_eq_true, if_false, ne_eq, not_true_eq_false, hn, hone, if_true, Nat.one_ne_zero]
    have h1 : (σ.set m (Ob.row ((l.flatMap tkE).map .tr ++ (tkE t).map .tr) (g + 1)))[id]? = some (.row [bt, nv .i64 a, bv need, .own m g 0 l.length 3 none] 0) := by rw [List.getElem?_set_ne hm]; exact hid
    refine ⟨_, _, _, hap, fin _ _ ⟨_, _, rfl⟩ h1, List.getElem?_set_self (by simp; omega), bv_set (bv_set hbv hbm) (bv_ne hbv), .inr ⟨by simp, m, g + 1, hm, hbm, by simp, ?_⟩⟩
    rw [List.getElem?_set_ne (Ne.symm hm), List.getElem?_set_self hml]
    simp
end
end Go.Proofs.YtolhjhjlfgfifaaGreatDoor.AM.Rd
end
section
set_option maxRecDepth 1000000
set_option linter.unusedVariables false
set_option linter.unusedSimpArgs false
namespace Go.Proofs.YtolhjhjlfgfifaaGreatDoor.AM.Rd
open Go.Proofs
def Bs (σ : Store) (v : V) (x : List UInt8) : Prop := opConv .bytesStr v σ = some (sv x, σ) ∧ (∀ r xs, rdB σ r = some xs → rdB σ (v :: r) = some (.string ⟨⟨x⟩⟩ :: xs)) ∧ eqV v v = true
theorem bytes_bC (x : List UInt8) : bytesOf? (bC x) = some x := byE_bytes x
theorem bs_tr {σ : Store} {t : Tree} {x : List UInt8} (h : IsSl byE x (.tr t)) : Bs σ (.tr t) x := by
  refine ⟨by_str h σ, ?_, eqV_by h⟩
  intro r xs hr
  rcases h with ⟨rfl, h⟩ | ⟨cap, h⟩
  · cases h
    simp only [rdB, hr]
  · cases h
    have h1 : elems σ 1 (.tr (.row (x.flatMap byE) x.length cap)) = some ((x.flatMap byE).map .tr, x.length) := by
      simp [elems, flat_len byE_len x]
    simp only [rdB, hr, h1, byE_bytes]
theorem bs_own {σ : Store} {j g off : Nat} {cap : Option Nat} {x : List UInt8} (h : elems σ 1 (.own j g off x.length 1 cap) = some (bC x, x.length)) : Bs σ (.own j g off x.length 1 cap) x := by
  refine ⟨?_, ?_, ?_⟩
  · simp only [opConv, h, bytes_bC]
  · intro r xs hr
    simp only [rdB, hr, h, bytes_bC]
  · simp [eqV, eqO_refl]
section
variable {σ : Store} {id : Nat} {b : List UInt8} {bt : V}
theorem own_el {j g : Nat} {cap : Option Nat} {lo n : Nat} (hs : σ[j]? = some (.row (bC b) g)) (h : lo + n ≤ b.length) : elems σ 1 (.own j g lo n 1 cap) = some (bC ((b.drop lo).take n), n) := by
  have h1 : obCells σ j g = some (bC b) := by simp [obCells, hs]
  have h2 : slice? (bC b) lo n = some (bC ((b.drop lo).take n)) := by
    unfold slice?
    have e : ((bC b).drop lo).take n = bC ((b.drop lo).take n) := by
      unfold bC
      rw [by_map, by_map, List.map_map, List.map_map, List.map_take, List.map_drop]
    simp only [e]
    rw [if_pos (by rw [bC_len, List.length_take, List.length_drop]; omega)]
  simp only [elems, if_true, h1, Nat.mul_one, h2]
theorem bv_cut (h : BV σ id bt b) {lo hi : Nat} (h1 : lo ≤ hi) (h2 : hi ≤ b.length) {y z : Int} (hy : y = lo) (hz : z = hi) : ∃ v', opSlice 1 bt (some (iv y)) (some (iv z)) none σ = some v' ∧ Bs σ v' ((b.drop lo).take (hi - lo)) := by
  rcases h with ⟨tb, rfl, h⟩ | ⟨j, g, cap, _, rfl, hs⟩
  · obtain ⟨t', h3, h4⟩ := by_cut h h1 h2 hy hz
    rw [List.drop_take] at h4
    exact ⟨_, h3 σ, bs_tr h4⟩
  · subst hy hz
    have h3 : obCells σ j g = some (bC b) := by simp [obCells, hs]
    refine ⟨.own j g (0 + lo * 1) (hi - lo) 1 (cutCap cap none lo), ?_, ?_⟩
    · unfold opSlice
      simp only [optIdx, asIdx_nat, Option.isSome_none, Bool.false_and, Bool.false_eq_true, if_false, Option.getD_some, Option.getD_none, ne_eq, not_true_eq_false, h3]
      rw [if_pos ⟨h1, Nat.le_refl _, .inl h2⟩]
    · rw [Nat.zero_add, Nat.mul_one]
      have e := own_el (cap := cutCap cap none lo) (lo := lo) (n := hi - lo) hs (by omega)
      have el : ((b.drop lo).take (hi - lo)).length = hi - lo := by rw [List.length_take, List.length_drop]; omega
      have := bs_own (σ := σ) (j := j) (g := g) (off := lo) (cap := cutCap cap none lo) (x := (b.drop lo).take (hi - lo)) (by rw [el]; exact e)
      rwa [el] at this
theorem bv_rest (h : BV σ id bt b) {lo : Nat} (h1 : lo ≤ b.length) {y : Int} (hy : y = lo) : ∃ v', ∀ σ', BV σ' id bt b → opSlice 1 bt (some (iv y)) none none σ' = some v' ∧ Bs σ' v' (b.drop lo) := by
  rcases h with ⟨tb, rfl, h⟩ | ⟨j, g, cap, _, rfl, hs⟩
  · obtain ⟨t', h3, h4⟩ := by_cut_lo h h1 hy
    exact ⟨_, fun σ' _ => ⟨h3 σ', bs_tr h4⟩⟩
  · subst hy
    refine ⟨.own j g (0 + lo * 1) (b.length - lo) 1 (cutCap cap none lo), fun σ' hb' => ?_⟩
    have hs : σ'[j]? = some (.row (bC b) g) := by
      rcases hb' with ⟨tb, e, _⟩ | ⟨j', g', cap', _, e, hs⟩
      · cases e
      · cases e; exact hs
    have h3 : obCells σ' j g = some (bC b) := by simp [obCells, hs]
    refine ⟨?_, ?_⟩
    · unfold opSlice
      simp only [optIdx, asIdx_nat, Option.isSome_none, Bool.false_and, Bool.false_eq_true, if_false, Option.getD_some, Option.getD_none, ne_eq, not_true_eq_false, h3]
      rw [if_pos ⟨h1, Nat.le_refl _, .inl (Nat.le_refl _)⟩]
    · rw [Nat.zero_add, Nat.mul_one]
      have e := own_el (cap := cutCap cap none lo) (lo := lo) (n := b.length - lo) hs (by omega)
      have el : (b.drop lo).length = b.length - lo := List.length_drop
      have e2 : (b.drop lo).take (b.length - lo) = b.drop lo := by rw [← el, List.take_length]
      rw [e2] at e
      have := bs_own (σ := σ') (j := j) (g := g) (off := lo) (cap := cutCap cap none lo) (x := b.drop lo) (by rw [el]; exact e)
      rwa [el] at this
end
end Go.Proofs.YtolhjhjlfgfifaaGreatDoor.AM.Rd
end
section
set_option maxRecDepth 1000000
set_option linter.unusedVariables false
set_option linter.unusedSimpArgs false
namespace Go.Proofs.YtolhjhjlfgfifaaGreatDoor.AM.Rd
open Go.Proofs
section
variable {σ : Store} {id : Nat} {b : List UInt8} {a : Nat} {need : Bool} {l : List Tk} {bt lv : V}
theorem ahead_ok (h : SC σ id b a need l bt lv) (hl : b.length ≤ 1000000) (ha : a ≤ 2000000) {k : Nat} (hk : k ≤ 1000000) {z : Int} (hz : z = k) : callL T 72 [.ptr id 0 0, iv z] σ = some (u8v (hd b (a + k)), σ) := by
  subst hz
  suffices hh : ∃ v σ', callL T 72 [.ptr id 0 0, iv (k : Int)] σ = some (v, σ') ∧ (v = u8v (hd b (a + k)) ∧ σ' = σ) by
    obtain ⟨v, σ', h, rfl, rfl⟩ := hh
    exact h
  refine call_shared T72 rfl rfl ?_
  have hlen := bv_len h.2.1
  have w1 : IntKind.i64.wrap ((a : Int) + k) = (a : Int) + k := w64z (by omega) (by omega)
  have l0 := sc_l0 h
  have l1 := sc_l1 h
  by_cases hin : a + k < b.length
  · obtain ⟨c, hc⟩ := some_of hin
    have hz : ¬ (b.length : Int) ≤ (a : Int) + k := by omega
    obtain ⟨p, hp1, hp2⟩ := bv_at h.2.1 hc (z := (a : Int) + k) (by omega)
    rw [hd_of hc]
    simp [k72_3, sc_nc, sc_f, l0, l1, hlen, w1, hz, hp1, hp2]
  · have hz : (b.length : Int) ≤ (a : Int) + k := by omega
    rw [hd_none (by omega)]
    simp [k72_3, sc_nc, sc_f, l0, l1, hlen, w1, hz]
theorem begins_ok (h : SC σ id b a need l bt lv) (hl : b.length ≤ 1000000) {t : List UInt8} (ht : t.length ≤ 1000) (ha : a ≤ b.length) : callL T 67 [.ptr id 0 0, sv t] σ = some (bv (t.isPrefixOf (b.drop a)), σ) := by
  suffices hh : ∃ v σ', callL T 67 [.ptr id 0 0, sv t] σ = some (v, σ') ∧ (v = bv (t.isPrefixOf (b.drop a)) ∧ σ' = σ) by
    obtain ⟨v, σ', h, rfl, rfl⟩ := hh
    exact h
  refine call_shared T67 rfl rfl ?_
  have l0 := sc_l0 h
  have l1 := sc_l1 h
  have hlen := bv_len h.2.1
  have hlen0 : ∀ σ, opLen 0 (sv t) σ = some (nv .i64 t.length) := fun σ => rfl
  have w1 : IntKind.i64.wrap ((a : Int) + t.length) = (a : Int) + t.length := w64z (by omega) (by omega)
  obtain ⟨H, hH⟩ : ∃ H, min b.length (a + t.length) = H := ⟨_, rfl⟩
  have hmm : minmaxAll false (nv .i64 b.length) [iv ((a : Int) + t.length)] = some (nv .i64 H) := by
    rw [← hH]
    show (match opMinMax false (nv .i64 b.length) (iv ((a : Int) + t.length)) with | some w => minmaxAll false w [] | none => none) = _
    simp only [opMinMax, minmaxAll, Bool.false_eq_true, if_false]
    by_cases h : b.length ≤ a + t.length
    · rw [if_neg (by omega), Nat.min_eq_left h]
      rfl
    · rw [if_pos (by omega), Nat.min_eq_right (by omega)]
      simp
      rfl
  obtain ⟨t', ht1, ht2⟩ := bv_cut h.2.1 (lo := a) (hi := H) (by omega) (by omega) (y := (a : Int)) (z := (H : Int)) rfl rfl
  have hstr := ht2.1
  have hpre : t.isPrefixOf (b.drop a) = decide ((b.drop a).take (H - a) = t) := by
    have e1 : (b.drop a).take (H - a) = (b.drop a).take t.length := by
      rw [← hH]
      rcases Nat.lt_or_ge b.length (a + t.length) with h | h
      · rw [Nat.min_eq_left (by omega), List.take_of_length_le (by rw [List.length_drop]; omega), List.take_of_length_le (by rw [List.length_drop]; omega)]
      · rw [Nat.min_eq_right (by omega), show a + t.length - a = t.length by omega]
    rw [e1]
    by_cases h : (b.drop a).take t.length = t
    · rw [decide_eq_true h, pre_take]
      refine ⟨?_, h⟩
      have := congrArg List.length h
      rw [List.length_take] at this
      omega
    · rw [decide_eq_false h]
      cases hp : t.isPrefixOf (b.drop a) with
      | false => rfl
      | true => exact absurd (pre_take.1 hp).2 h
  rw [hpre]
  simp [sc_nc, sc_f, l0, l1, hlen, hlen0, w1, hmm, ht1, hstr, bytesEq_iff']
theorem put_ok (h : SC σ id b a need l bt lv) {kind i : Nat} (hi : i ≤ a) (ha : a ≤ b.length) (hll : l.length ≤ 3000000) {z : Int} (hz : z = i) : ∃ σ' lv', callL T 42 [.ptr id 0 0, nv .i64 kind, iv z] σ = some (undefV, σ') ∧ SC σ' id b a need (l ++ [⟨kind, (b.drop i).take (a - i), i⟩]) bt lv' := by
  subst hz
  suffices hh : ∃ v σ', callL T 42 [.ptr id 0 0, nv .i64 kind, iv (i : Int)] σ = some (v, σ') ∧ (v = undefV ∧ ∃ lv', SC σ' id b a need (l ++ [⟨kind, (b.drop i).take (a - i), i⟩]) bt lv') by
    obtain ⟨v, σ', h, rfl, lv', h2⟩ := hh
    exact ⟨σ', lv', h, h2⟩
  refine call_shared T42 rfl rfl ?_
  have l0 := sc_l0 h
  have l1 := sc_l1 h
  have l3 := sc_l3 h
  obtain ⟨t', ht1, ht2⟩ := bv_cut h.2.1 (lo := i) (hi := a) hi ha (y := (i : Int)) (z := (a : Int)) rfl rfl
  have hstr := ht2.1
  obtain ⟨x, hx⟩ : ∃ x, (b.drop i).take (a - i) = x := ⟨_, rfl⟩
  rw [hx] at hstr ⊢
  obtain ⟨v', σ1, σ2, h1, h2, h3⟩ := sc_put h ⟨kind, x, i⟩ hll
  simp [sc_nc, sc_f]
  rw [opsD_h 20 (v := lv) (σ1 := σ) (by simp [l3])]
  obtain ⟨p, hp⟩ : ∃ p : Pend, p = ⟨20, .load 1 false (.loc 9), St.only ⟨[(0, .ptr id 0 0), (1, nv .i64 kind), (2, iv (i : Int))], [(9, V.ptr id 0 3), (8, V.ptr id 0 0), (7, .ptr id 0 0), (6, .ptr id 0 0)], σ⟩ [9], lv⟩ := ⟨_, rfl⟩
  rw [← hp]
  have pe : ∀ j, pendAll (callL T) j σ [p] = true := by
    intro j
    rw [hp]
    have hlk2 : look (St.only ⟨[(0, .ptr id 0 0), (1, nv .i64 kind), (2, iv (i : Int))], [(9, V.ptr id 0 3), (8, V.ptr id 0 0), (7, .ptr id 0 0), (6, .ptr id 0 0)], σ⟩ [9]).loc 9 = some (.ptr id 0 3) := rfl
    have he := tl_eq h.2.2
    simp [pendAll, pendOk, hlk2, l3, he, bind1, pure1]
  have pf : ∀ j σx, 20 < j → pendAll (callL T) j σx [p] = true := by
    intro j σx hj
    rw [hp]
    simp [pendAll, Nat.blt_eq, hj]
  have hut : mkTup [] = undefV := rfl
  simp [opsDP_0, opsDP_1, opsDP_2, opsDP_nil, pe, pf, sc_nc, sc_f, l0, l1, ht1, hstr, spl3, bs_tk, h1, h2, hut]
  exact ⟨_, h3⟩
theorem newline_ok (h : SC σ id b a need l bt lv) {i : Nat} (hll : l.length ≤ 3000000) {z : Int} (hz : z = i) : ∃ σ' lv', callL T 41 [.ptr id 0 0, iv z] σ = some (undefV, σ') ∧ SC σ' id b a false (if need then l ++ [nlT i] else l) bt lv' := by
  subst hz
  suffices hh : ∃ v σ', callL T 41 [.ptr id 0 0, iv (i : Int)] σ = some (v, σ') ∧ (v = undefV ∧ ∃ lv', SC σ' id b a false (if need then l ++ [nlT i] else l) bt lv') by
    obtain ⟨v, σ', h, rfl, lv', h2⟩ := hh
    exact ⟨σ', lv', h, h2⟩
  refine call_shared T41 rfl rfl ?_
  have hut : mkTup [] = undefV := rfl
  have hi7 := fun σ => bs_tk 7 [10] i σ
  simp only [Int.cast_ofNat_Int] at hi7
  have l2 := sc_l2 h
  have l3 := sc_l3 h
  cases need with
  | false =>
    obtain ⟨σ', h1, h2⟩ := sc_s2 h false
    simp [hut, k41_1, sc_nc, sc_f, l2, h1]
    exact ⟨_, h2⟩
  | true =>
    obtain ⟨v', σ1, σ2, h1, h2, h3⟩ := sc_put h (nlT i) hll
    obtain ⟨σ', h4, h5⟩ := sc_s2 h3 false
    have h1' : opAppend 3 32 lv (.tr (.row (tkE ⟨7, [10], i⟩) 1 (some 1))) σ = some (v', σ1) := h1
    simp [hut, k41_1, sc_nc, sc_f, l2, l3, spl3, hi7, h1', h2, h4]
    exact ⟨_, h5⟩
theorem run_ok (h : SC σ id b a need l bt lv) (hl : b.length ≤ 1000000) (p : UInt8 → Bool) (f : V) (hf : ∀ c σ, callV (callL T) f [u8v c] σ = some (bv (p c), σ)) (ha : a ≤ 2000000) : ∃ σ', callL T 107 [.ptr id 0 0, f] σ = some (nv .i64 (nrun p (b.drop a)), σ') ∧ SC σ' id b (a + nrun p (b.drop a)) need l bt lv := by
  obtain ⟨N, hN⟩ : ∃ N, nrun p (b.drop a) = N := ⟨_, rfl⟩
  have hNl : N ≤ b.length - a := by rw [← hN, ← List.length_drop]; exact nrun_le
  rw [hN]
  suffices hh : ∃ v σ', callL T 107 [.ptr id 0 0, f] σ = some (v, σ') ∧ (v = nv .i64 N ∧ SC σ' id b (a + N) need l bt lv) by
    obtain ⟨v, σ', h, rfl, h2⟩ := hh
    exact ⟨σ', h, h2⟩
  refine call_shared T107 rfl rfl ?_
  have hlen := bv_len h.2.1
  have l1 := sc_l1 h
  obtain ⟨I, hI⟩ : ∃ I : Nat → St → Prop, I = fun m st => m ≤ N ∧ ∃ e L σ', st = ⟨e, L, σ'⟩ ∧ SC σ' id b (a + m) need l bt lv ∧ look e 0 = some (.ptr id 0 0) ∧ look e 1 = some f ∧ look e 5 = some (nv .i64 a) := ⟨_, rfl⟩
  simp [sc_nc, sc_f, l1]
  refine wpc_up N I (by rw [hI]; exact ⟨by omega, _, _, σ, rfl, h, by simp, by simp, by simp⟩) ?_
  clear l1
  intro m st hst
  rw [hI] at hst
  obtain ⟨hm, e, L, σ', rfl, hsc, h0, h1, h5⟩ := hst
  have l0 := sc_l0 hsc
  have l1 := sc_l1 hsc
  have w1 : IntKind.i64.wrap ((a : Int) + m + 1) = (a : Int) + m + 1 := w64z (by omega) (by omega)
  have w2 : IntKind.i64.wrap ((a : Int) + m - a) = m := by rw [w64z (by omega) (by omega)]; omega
  obtain ⟨σ2, s1, s2⟩ := sc_s1 hsc (a' := a + (m + 1)) (z := (a : Int) + m + 1) (by omega)
  by_cases hin : a + m < b.length
  · have hz : (a : Int) + m < b.length := by omega
    obtain ⟨c, hc⟩ := some_of hin
    have hc' : (b.drop a)[m]? = some c := by simpa using hc
    obtain ⟨q, hq1, hq2⟩ := bv_at hsc.2.1 hc (z := (a : Int) + m) (by omega)
    have hq3 : opIaddr 1 bt (nv .i64 (a + m)) σ' = some q := by
      have e : ((a + m : Nat) : Int) = (a : Int) + m := by omega
      show opIaddr 1 bt (iv ((a + m : Nat) : Int)) σ' = _
      rw [e]
      exact hq1
    have hfc := fun σ => hf c σ
    by_cases hlt : m < N
    · obtain ⟨c2, h7, h8⟩ := nrun_lt (p := p) (s := b.drop a) (n := m) (by omega)
      rw [hc'] at h7
      cases h7
      rw [h8] at hfc
      simp [k107_2, k107_4, h0, h1, sc_nc, sc_f, l0, l1, hlen, hz, hq2, hq3, hfc, w1, s1]
      refine ⟨hlt, ?_⟩
      rw [hI]
      exact ⟨by omega, _, _, _, rfl, s2, by simp [h0], by simp [h1], by simp [h5]⟩
    · have hmN : m = N := by omega
      subst hmN
      have h8 := nrun_at (p := p) (s := b.drop a) (c := c) (by rw [hN]; exact hc')
      rw [h8] at hfc
      simp [k107_2, k107_5, h0, h1, h5, sc_nc, sc_f, l0, l1, hlen, hz, hq2, hq3, hfc, w2]
      exact hsc
  · have hz : ¬ (a : Int) + m < b.length := by omega
    have hmN : m = N := by omega
    subst hmN
    simp [k107_2, k107_5, h0, h5, sc_nc, sc_f, l0, l1, hlen, hz, w2]
    exact hsc
end
end Go.Proofs.YtolhjhjlfgfifaaGreatDoor.AM.Rd
end
section
set_option maxRecDepth 1000000
set_option linter.unusedVariables false
set_option linter.unusedSimpArgs false
namespace Go.Proofs.YtolhjhjlfgfifaaGreatDoor.AM.Rd
open Go.Proofs
theorem call_ext {f k : Nat} {fn : HFn} {vs : List V} {σ : Store} {v : V} (hf : T f = some fn) (hm : fn.mode = .ext k) (hl : fn.nargs = vs.length) (h : extV k vs σ = some v) : callL T f vs σ = some (v, σ) := by
  refine callL_some.2 ⟨1, ?_⟩
  rw [callA, hf]
  simp only [hl, if_true, hm, h]
theorem idx_star : ∀ (s : List UInt8) (i : Nat), idxL [42, 47] s i = match star s with | none => -1 | some k => ((i + k : Nat) : Int)
  | [], i => rfl
  | [x], i => by
    have : [42, 47].isPrefixOf [x] = false := by simp [List.isPrefixOf]
    simp [idxL, star, List.isPrefixOf]
  | x :: y :: t, i => by
    have ih := idx_star (y :: t) (i + 1)
    unfold idxL star
    by_cases h : x = 42 ∧ y = 47
    · rw [if_pos h]
      obtain ⟨rfl, rfl⟩ := h
      simp [List.isPrefixOf]
    · rw [if_neg h]
      have : [42, 47].isPrefixOf (x :: y :: t) = false := by
        simp [List.isPrefixOf]
        intro h1 h2
        exact h ⟨h1.symm, h2.symm⟩
      rw [if_neg (by simp [this]), ih]
      cases star (y :: t) with
      | none => rfl
      | some k =>
        show (((i + 1) + k : Nat) : Int) = ((i + (k + 1) : Nat) : Int)
        congr 1
        omega
theorem byteL_ge (c : UInt8) : ∀ (s : List UInt8) (i : Nat), decide (0 ≤ byteL c s i) = s.any fun x => x == c
  | [], i => rfl
  | x :: s, i => by
    unfold byteL
    rw [List.any_cons]
    cases h : x == c with
    | true =>
      simp
    | false =>
      simp only [Bool.false_eq_true, if_false, Bool.false_or]
      exact byteL_ge c s (i + 1)
theorem star_at : ∀ {t : List UInt8} {k : Nat}, star t = some k → (t.drop k).take 2 = [42, 47]
  | [], k, h => by simp [star] at h
  | [_], k, h => by simp [star] at h
  | a :: b :: t, k, h => by
    simp only [star] at h
    split at h
    · rename_i hc
      cases h
      obtain ⟨rfl, rfl⟩ := hc
      rfl
    · cases hs : star (b :: t) with
      | none => rw [hs] at h; simp at h
      | some k' =>
        rw [hs] at h
        simp at h
        subst h
        show ((b :: t).drop k').take 2 = _
        exact star_at hs
theorem any_com {s : List UInt8} {k : Nat} (h0 : hd s 0 = 47) (h1 : hd s 1 = 42) (hk : star (s.drop 2) = some k) : (s.take (k + 4)).any isNl = ((s.drop 2).take k).any isNl := by
  have h2 : 1 < s.length := hd_pos (by rw [h1]; decide)
  obtain ⟨a, s, rfl⟩ := List.exists_cons_of_ne_nil (show s ≠ [] by rintro rfl; simp at h2)
  obtain ⟨b, s, rfl⟩ := List.exists_cons_of_ne_nil (show s ≠ [] by rintro rfl; simp at h2)
  have ha : a = 47 := h0
  have hb : b = 42 := h1
  subst ha hb
  have hk' : star s = some k := hk
  have e := star_at hk'
  show ((47 : UInt8) :: 42 :: s.take (k + 2)).any isNl = (s.take k).any isNl
  have e2 : s.take (k + 2) = s.take k ++ [42, 47] := by rw [List.take_add, e]
  rw [e2]
  simp [isNl]
theorem index_ok {s : List UInt8} {v w : V} {σ : Store} (hv : Bs σ v s) (hw : Bs σ w [42, 47]) (hs : s.length ≤ 1000000) : callL T 105 [v, w] σ = some (iv (match star s with | none => -1 | some k => (k : Int)), σ) := by
  refine call_ext (k := 11) T105 rfl rfl ?_
  have h3 := hv.2.1 _ _ (hw.2.1 [] [] rfl)
  unfold extV argsOf
  have b1 : Nat.blt 11 5 = false := rfl
  have b2 : Nat.blt 11 11 = false := rfl
  have b3 : Nat.blt 11 16 = true := rfl
  simp only [b1, b2, b3, h3]
  have b4 : Nat.blt s.length 4294967281 = true := Nat.ble_eq_true_of_le (by omega)
  unfold extS
  simp only [b4, idx_star]
  have b5 : Nat.blt [(42 : UInt8), 47].length 4294967281 = true := rfl
  simp only [b5, Bool.and_self, if_true, extR]
  cases star s with
  | none => rfl
  | some k => simp
theorem indexByte_ok {s : List UInt8} {v : V} {σ : Store} (hv : Bs σ v s) : ∃ z, callL T 106 [v, .tr (.sc (.int .u8 10))] σ = some (iv z, σ) ∧ decide (0 ≤ z) = s.any isNl := by
  refine ⟨byteL 10 s 0, ?_, byteL_ge 10 s 0⟩
  refine call_ext (k := 12) T106 rfl rfl ?_
  have h3 := hv.2.1 [.tr (.sc (.int .u8 10))] [.int .u8 10] rfl
  unfold extV argsOf
  have b1 : Nat.blt 12 5 = false := rfl
  have b2 : Nat.blt 12 11 = false := rfl
  have b3 : Nat.blt 12 16 = true := rfl
  simp only [b1, b2, b3, h3]
  rfl
end Go.Proofs.YtolhjhjlfgfifaaGreatDoor.AM.Rd
end
section
set_option maxRecDepth 1000000
set_option linter.unusedVariables false
set_option linter.unusedSimpArgs false
namespace Go.Proofs.YtolhjhjlfgfifaaGreatDoor.AM.Rd
open Go.Proofs
section
variable {c : CallA} {i : Nat} {ns : List Nat} {is : List (Nat × List Nat)} {d : Option Nat} {inK : Bool} {k : HK} {r : List HOp} {st : St} {K : St → Prop} {ps : List Pend} {p : Pend}
theorem opsDP_h {v : V} {σ1 : Store} (n : Nat) (h : opA c k (st.only ns) = some (v, σ1)) : okP (opsRunD c i (p :: ps) ((n + 3, ns) :: is) (⟨d, inK, k, none⟩ :: r) st) K ↔ okP (opsRunD c (i + 1) (⟨n, k, st.only ns, v⟩ :: p :: ps) is r ({ st with σ := σ1 }.set d inK v)) K := by
  have hb : Nat.beq (n + 3) 1 = false := rfl
  have hb2 : Nat.beq (n + 3) 2 = false := rfl
  have hpa : pendAdd c (n + 3) ns ⟨d, inK, k, none⟩ st (p :: ps) = ⟨n, k, st.only ns, v⟩ :: p :: ps := by
    unfold pendAdd
    simp only [guardA, h]
  simp only [opsRunD, hpa, hb2, Bool.false_and, Bool.false_eq_true, if_false]
  unfold opStepD
  simp only [guardA, hb, Bool.false_and, Bool.false_eq_true, if_false, h]
theorem pendAll_cons {σ : Store} {j : Nat} (h1 : Nat.blt p.h j = true ∨ pendOk c σ p = true) (h2 : pendAll c j σ ps = true) : pendAll c j σ (p :: ps) = true := by
  unfold pendAll at *
  rw [List.all_cons, h2, Bool.and_true]
  rcases h1 with h | h <;> simp [h]
end
theorem conv_same {σ : Store} : opConv .same (.own σ.length 0 0 2 1 (some 2)) (σ ++ [.row [.tr (.sc (.int .u8 42)), .tr (.sc (.int .u8 47))] 0]) = some (.own σ.length 0 0 2 1 (some 2), σ ++ [.row [.tr (.sc (.int .u8 42)), .tr (.sc (.int .u8 47))] 0]) := by
  simp [opConv, opSame]
theorem bs_lit {σ : Store} : Bs (σ ++ [.row [.tr (.sc (.int .u8 42)), .tr (.sc (.int .u8 47))] 0]) (.own σ.length 0 0 2 1 (some 2)) [42, 47] := by
  refine bs_own (x := [42, 47]) ?_
  have h1 : obCells (σ ++ [.row [.tr (.sc (.int .u8 42)), .tr (.sc (.int .u8 47))] 0]) σ.length 0 = some [.tr (.sc (.int .u8 42)), .tr (.sc (.int .u8 47))] := by simp [obCells]
  simp only [elems, h1]
  rfl
section
variable {σ : Store} {id : Nat} {b : List UInt8} {a : Nat} {need : Bool} {l : List Tk} {bt lv : V}
theorem scom_block (h : SC σ id b a need l bt lv) (hl : b.length ≤ 1000000) (hd0 : hd b a = 47) (hd1 : hd b (a + 1) = 42) (hll : l.length ≤ 3000000) (e L : List (Nat × V)) (h0 : look e 0 = some (.ptr id 0 0)) (h3 : look e 3 = some (nv .i64 a)) {P : Out → St → Prop}
    (hbad : commentR (b.drop a) = none → ∀ e' L' σ', look e' 2 = some (bv false) → P .ret ⟨e', L', σ'⟩)
    (hgood : ∀ n line, commentR (b.drop a) = some (n, line) → ∀ e' L' σ' lv', look e' 2 = some (bv true) → SC σ' id b (a + n) (if line then false else need) (if line && need then l ++ [nlT a] else l) bt lv' → P .ret ⟨e', L', σ'⟩) :
    wpc T k68_8 ⟨e, L, σ⟩ P := by
  have hlen1 : a + 1 < b.length := hd_pos (by rw [hd1]; decide)
  have w1 : IntKind.i64.wrap ((a : Int) + 2) = (a : Int) + 2 := w64z (by omega) (by omega)
  obtain ⟨σ1, hσ1⟩ : ∃ σ1, σ1 = σ ++ [.row [.tr (.sc (.int .u8 42)), .tr (.sc (.int .u8 47))] 0] := ⟨_, rfl⟩
  have hs1 : SC σ1 id b a need l bt lv := by rw [hσ1]; exact sc_new h _
  obtain ⟨v', hv'⟩ := bv_rest h.2.1 (lo := a + 2) (by omega) (y := (a : Int) + 2) (by omega)
  have hv1 := hv' σ h.2.1
  have hv2 := hv' σ1 hs1.2.1
  have hlit : Bs σ1 (.own σ.length 0 0 2 1 (some 2)) [42, 47] := by rw [hσ1]; exact bs_lit
  have hix := index_ok hv2.2 hlit (by rw [List.length_drop]; omega)
  have hbs : opBslice true 2 1 [.sc (.int .u8 0)] [(0, 1, .tr (.sc (.int .u8 42))), (1, 1, .tr (.sc (.int .u8 47)))] σ = some (.own σ.length 0 0 2 1 (some 2), σ1) := by rw [hσ1]; rfl
  have hcv : opConv .same (.own σ.length 0 0 2 1 (some 2)) σ1 = some (.own σ.length 0 0 2 1 (some 2), σ1) := by rw [hσ1]; exact conv_same
  have l0 := sc_l0 h
  have l1 := sc_l1 h
  have m0 := sc_l0 hs1
  have m1 := sc_l1 hs1
  have eb := bv_eq h.2.1
  simp [k68_8, h0, sc_nc, sc_f]
  rw [opsD_h 12 (v := bt) (σ1 := σ) (by simp [l0])]
  obtain ⟨p1, hp1⟩ : ∃ p : Pend, p = ⟨12, .load 1 false (.loc 43), St.only ⟨e, [(43, .ptr id 0 0), (42, .ptr id 0 0), (41, .ptr id 0 0)], σ⟩ [43], bt⟩ := ⟨_, rfl⟩
  rw [← hp1]
  simp [opsDP_0, sc_nc, sc_f, h0]
  rw [opsDP_h 12 (v := nv .i64 a) (σ1 := σ) (by simp [l1])]
  obtain ⟨p2, hp2⟩ : ∃ p : Pend, p = ⟨12, .load 1 false (.loc 47), St.only ⟨e, [(47, .ptr id 0 1), (46, .ptr id 0 0), (45, .ptr id 0 0), (44, bt), (43, .ptr id 0 0), (42, .ptr id 0 0), (41, .ptr id 0 0)], σ⟩ [47], nv .i64 a⟩ := ⟨_, rfl⟩
  rw [← hp2]
  simp [opsDP_0, w1]
  rw [opsDP_h 12 (v := v') (σ1 := σ) (by simp [hv1.1])]
  obtain ⟨p3, hp3⟩ : ∃ p : Pend, p = ⟨12, .slice 1 (.loc 44) (some (.loc 49)) none none, St.only ⟨e, [(49, iv ((a : Int) + 2)), (48, nv .i64 a), (47, .ptr id 0 1), (46, .ptr id 0 0), (45, .ptr id 0 0), (44, bt), (43, .ptr id 0 0), (42, .ptr id 0 0), (41, .ptr id 0 0)], σ⟩ [44, 49], v'⟩ := ⟨_, rfl⟩
  rw [← hp3]
  have ok1 : ∀ σx, opLoad 1 false (.ptr id 0 0) σx = some bt → pendOk (callL T) σx p1 = true := by
    intro σx hx
    rw [hp1]
    have hlk : look (St.only ⟨e, [(43, V.ptr id 0 0), (42, V.ptr id 0 0), (41, V.ptr id 0 0)], σ⟩ [43]).loc 43 = some (.ptr id 0 0) := rfl
    simp [pendOk, hlk, hx, eb, bind1, pure1]
  have ok2 : ∀ σx, opLoad 1 false (.ptr id 0 1) σx = some (nv .i64 a) → pendOk (callL T) σx p2 = true := by
    intro σx hx
    rw [hp2]
    have hlk : look (St.only ⟨e, [(47, V.ptr id 0 1), (46, V.ptr id 0 0), (45, V.ptr id 0 0), (44, bt), (43, V.ptr id 0 0), (42, V.ptr id 0 0), (41, V.ptr id 0 0)], σ⟩ [47]).loc 47 = some (.ptr id 0 1) := rfl
    simp [pendOk, hlk, hx, eqV_int, bind1, pure1]
  have ok3 : ∀ σx, opSlice 1 bt (some (iv ((a : Int) + 2))) none none σx = some v' → pendOk (callL T) σx p3 = true := by
    intro σx hx
    rw [hp3]
    have hlk1 : look (St.only ⟨e, [(49, iv ((a : Int) + 2)), (48, nv .i64 a), (47, V.ptr id 0 1), (46, V.ptr id 0 0), (45, V.ptr id 0 0), (44, bt), (43, V.ptr id 0 0), (42, V.ptr id 0 0), (41, V.ptr id 0 0)], σ⟩ [44, 49]).loc 44 = some bt := rfl
    have hlk2 : look (St.only ⟨e, [(49, iv ((a : Int) + 2)), (48, nv .i64 a), (47, V.ptr id 0 1), (46, V.ptr id 0 0), (45, V.ptr id 0 0), (44, bt), (43, V.ptr id 0 0), (42, V.ptr id 0 0), (41, V.ptr id 0 0)], σ⟩ [44, 49]).loc 49 = some (iv ((a : Int) + 2)) := rfl
    have ev := hv1.2.2.2
    simp [pendOk, hlk1, hlk2, hx, ev, bind1, pure1]
  have pa : ∀ j, pendAll (callL T) j σ [p3, p2, p1] = true := fun j => pendAll_cons (.inr (ok3 σ hv1.1)) (pendAll_cons (.inr (ok2 σ l1)) (pendAll_cons (.inr (ok1 σ l0)) rfl))
  have pb : ∀ j, pendAll (callL T) j σ1 [p3, p2, p1] = true := fun j => pendAll_cons (.inr (ok3 σ1 hv2.1)) (pendAll_cons (.inr (ok2 σ1 m1)) (pendAll_cons (.inr (ok1 σ1 m0)) rfl))
  have e0 : hd (b.drop a) 0 = 47 := by rw [hd_drop]; exact hd0
  have e1 : hd (b.drop a) 1 = 42 := by rw [hd_drop]; exact hd1
  have hcom : commentR (b.drop a) = (star (b.drop (a + 2))).map fun k => (k + 4, ((b.drop (a + 2)).take k).any isNl) := by
    unfold commentR
    rw [e1, if_neg (by decide), List.drop_drop]
  cases hst : star (b.drop (a + 2)) with
  | none =>
    rw [hst] at hix hcom
    simp [opsDP_2, opsDP_0, opsDP_nil, pa, pb, hbs, hcv, hix]
    refine hbad hcom _ _ _ ?_
    simp
  | some k =>
    rw [hst] at hix hcom
    have hkl := star_le hst
    rw [List.length_drop] at hkl
    have hk0 : ¬ (k : Int) < 0 := by omega
    have w2 : IntKind.i64.wrap ((k : Int) + 4) = (k : Int) + 4 := w64z (by omega) (by omega)
    have w3 : IntKind.i64.wrap ((a : Int) + ((k : Int) + 4)) = (a : Int) + ((k : Int) + 4) := w64z (by omega) (by omega)
    obtain ⟨σ2, s1, s2⟩ := sc_s1 hs1 (a' := a + (k + 4)) (z := (a : Int) + ((k : Int) + 4)) (by omega)
    have n0 := sc_l0 s2
    have n1 := sc_l1 s2
    obtain ⟨u', hu1, hu2⟩ := bv_cut s2.2.1 (lo := a) (hi := a + (k + 4)) (by omega) (by omega) (y := (a : Int)) (z := (a : Int) + ((k : Int) + 4)) rfl (by omega)
    obtain ⟨zz, hz1, hz2⟩ := indexByte_ok hu2
    have hu3 : opSlice 1 bt (some (nv .i64 a)) (some (nv .i64 (a + (k + 4)))) none σ2 = some u' := by
      rw [← hu1]
      have e : ((a + (k + 4) : Nat) : Int) = (a : Int) + ((k : Int) + 4) := by omega
      show opSlice 1 bt (some (iv a)) (some (iv ((a + (k + 4) : Nat) : Int))) none σ2 = _
      rw [e]
    have hany : (((b.drop a).take (a + (k + 4) - a)).any isNl) = ((b.drop (a + 2)).take k).any isNl := by
      rw [show a + (k + 4) - a = k + 4 by omega, any_com e0 e1 (by rw [List.drop_drop]; exact hst), List.drop_drop]
    rw [hany] at hz2
    simp only [Option.map_some] at hcom
    cases hln : ((b.drop (a + 2)).take k).any isNl with
    | false =>
      rw [hln] at hz2 hcom
      have hz3 : ¬ 0 ≤ zz := by simpa using hz2
      simp [opsDP_2, opsDP_0, opsDP_nil, pa, pb, hbs, hcv, hix, hk0, k68_12, k68_15, h0, h3, sc_nc, sc_f, m1, w2, w3, s1, n0, n1, hu3, hz1, hz3]
      refine hgood _ _ hcom _ _ _ lv ?_ ?_
      · simp
      · exact s2
    | true =>
      rw [hln] at hz2 hcom
      have hz3 : 0 ≤ zz := by simpa using hz2
      obtain ⟨σ3, lv', hnl, hs3⟩ := newline_ok s2 hll (i := a) (z := (a : Int)) rfl
      simp [opsDP_2, opsDP_0, opsDP_nil, pa, pb, hbs, hcv, hix, hk0, k68_12, k68_15, h0, h3, sc_nc, sc_f, m1, w2, w3, s1, n0, n1, hu3, hz1, hz3, hnl]
      refine hgood _ _ hcom _ _ _ lv' ?_ ?_
      · simp
      · simpa using hs3
theorem pre2 (x y : UInt8) (r : List UInt8) (d : UInt8) : [x, d].isPrefixOf (x :: y :: r) = decide (y = d) := by
  show (x == x && (d == y && true)) = decide (y = d)
  rw [beq_self_eq_true, Bool.true_and, Bool.and_true]
  by_cases h : d = y
  · subst h; simp
  · rw [decide_eq_false (Ne.symm h)]
    simpa using h
theorem drop2 {b : List UInt8} {a : Nat} (h : a + 1 < b.length) : b.drop a = hd b a :: hd b (a + 1) :: b.drop (a + 2) := by
  obtain ⟨x, hx⟩ := some_of (l := b) (i := a) (by omega)
  obtain ⟨y, hy⟩ := some_of (l := b) (i := a + 1) h
  rw [hd_of hx, hd_of hy]
  obtain ⟨g1, g2⟩ := List.getElem?_eq_some_iff.1 hx
  obtain ⟨g3, g4⟩ := List.getElem?_eq_some_iff.1 hy
  rw [List.drop_eq_getElem_cons g1, List.drop_eq_getElem_cons g3, g2, g4]
theorem scom_ok (h : SC σ id b a need l bt lv) (hl : b.length ≤ 1000000) (hd0 : hd b a = 47) (hd1 : hd b (a + 1) = 47 ∨ hd b (a + 1) = 42) (hll : l.length ≤ 3000000) :
    ∃ σ' r, callL T 68 [.ptr id 0 0] σ = some (bv r, σ') ∧ (match commentR (b.drop a) with | none => r = false | some (n, line) => r = true ∧ ∃ lv', SC σ' id b (a + n) (if line then false else need) (if line && need then l ++ [nlT a] else l) bt lv') := by
  suffices hh : ∃ v σ', callL T 68 [.ptr id 0 0] σ = some (v, σ') ∧ (∃ r, v = bv r ∧ (match commentR (b.drop a) with | none => r = false | some (n, line) => r = true ∧ ∃ lv', SC σ' id b (a + n) (if line then false else need) (if line && need then l ++ [nlT a] else l) bt lv')) by
    obtain ⟨v, σ', h, r, rfl, h2⟩ := hh
    exact ⟨σ', r, h, h2⟩
  refine call_shared T68 rfl rfl ?_
  have hlen1 : a + 1 < b.length := hd_pos (by rcases hd1 with h | h <;> rw [h] <;> decide)
  have hlen := bv_len h.2.1
  have l1 := sc_l1 h
  have bg := begins_ok h hl (t := [47, 47]) (by decide) (by omega)
  have hpre : [47, 47].isPrefixOf (b.drop a) = decide (hd b (a + 1) = 47) := by rw [drop2 hlen1, hd0, pre2]
  rw [hpre] at bg
  rcases hd1 with hd1 | hd1
  · rw [decide_eq_true hd1] at bg
    have e1 : hd (b.drop a) 1 = 47 := by rw [hd_drop]; exact hd1
    have hcom : commentR (b.drop a) = some (nrun (fun c => !isNl c) (b.drop a), false) := by
      unfold commentR
      rw [if_pos e1]
    rw [hcom]
    obtain ⟨N, hN⟩ : ∃ N, nrun (fun c => !isNl c) (b.drop a) = N := ⟨_, rfl⟩
    have hNl : N ≤ b.length - a := by rw [← hN, ← List.length_drop]; exact nrun_le
    rw [hN]
    obtain ⟨I, hI⟩ : ∃ I : Nat → St → Prop, I = fun m st => m ≤ N ∧ ∃ e L σ', st = ⟨e, L, σ'⟩ ∧ SC σ' id b (a + m) need l bt lv ∧ look e 0 = some (.ptr id 0 0) := ⟨_, rfl⟩
    simp [sc_nc, sc_f, l1, bg]
    refine wpc_up N I (by rw [hI]; exact ⟨by omega, _, _, σ, rfl, h, by simp⟩) ?_
    clear l1 bg
    intro m st hst
    rw [hI] at hst
    obtain ⟨hm, e, L, σ', rfl, hsc, h0⟩ := hst
    have l0 := sc_l0 hsc
    have l1 := sc_l1 hsc
    have w1 : IntKind.i64.wrap ((a : Int) + m + 1) = (a : Int) + m + 1 := w64z (by omega) (by omega)
    obtain ⟨σ2, s1, s2⟩ := sc_s1 hsc (a' := a + (m + 1)) (z := (a : Int) + m + 1) (by omega)
    by_cases hin : a + m < b.length
    · have hz : (a : Int) + m < b.length := by omega
      obtain ⟨c, hc⟩ := some_of hin
      have hc' : (b.drop a)[m]? = some c := by simpa using hc
      obtain ⟨q, hq1, hq2⟩ := bv_at hsc.2.1 hc (z := (a : Int) + m) (by omega)
      have hq3 : opIaddr 1 bt (nv .i64 (a + m)) σ' = some q := by
        have e : ((a + m : Nat) : Int) = (a : Int) + m := by omega
        show opIaddr 1 bt (iv ((a + m : Nat) : Int)) σ' = _
        rw [e]
        exact hq1
      by_cases hlt : m < N
      · obtain ⟨c2, h7, h8⟩ := nrun_lt (p := fun c => !isNl c) (s := b.drop a) (n := m) (by omega)
        rw [hc'] at h7
        cases h7
        have hne : ¬ (c.toNat : Int) = 10 := by
          intro h9
          have : c = 10 := u8_eq (c := 10) |>.1 h9
          subst this
          simp [isNl] at h8
        have hnn : ¬ c.toNat = 10 := by omega
        simp [k68_4, k68_6, h0, sc_nc, sc_f, l0, l1, hlen, hz, hq2, hq3, hne, w1, s1]
        refine ⟨hlt, ?_⟩
        rw [hI]
        exact ⟨by omega, _, _, _, rfl, s2, by simp [h0]⟩
      · have hmN : m = N := by omega
        subst hmN
        have h8 := nrun_at (p := fun c => !isNl c) (s := b.drop a) (c := c) (by rw [hN]; exact hc')
        have hc10 : c = 10 := by simpa [isNl] using h8
        have hne : (c.toNat : Int) = 10 := by rw [hc10]; rfl
        have hnn : c.toNat = 10 := by omega
        simp [k68_4, k68_7, h0, sc_nc, sc_f, l0, l1, hlen, hz, hq2, hq3, hnn]
        exact ⟨lv, hsc⟩
    · have hz : ¬ (a : Int) + m < b.length := by omega
      have hmN : m = N := by omega
      subst hmN
      simp [k68_4, k68_7, h0, sc_nc, sc_f, l0, l1, hlen, hz]
      exact ⟨lv, hsc⟩
  · rw [decide_eq_false (by rw [hd1]; decide)] at bg
    simp [sc_nc, sc_f, l1, bg]
    refine scom_block h hl hd0 hd1 hll _ _ ?_ ?_ ?_ ?_
    · simp
    · simp
    · intro hc e' L' σ' h2
      rw [hc]
      simp [h2]
    · intro n line hc e' L' σ' lv' h2 h3
      rw [hc]
      simp [h2]
      exact ⟨lv', by simpa using h3⟩
end
end Go.Proofs.YtolhjhjlfgfifaaGreatDoor.AM.Rd
end
