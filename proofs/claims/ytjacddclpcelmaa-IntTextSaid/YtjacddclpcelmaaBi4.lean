/- IntText: part 4. -/
import Derived.Test.YtjacddclpcelmaaBi3
set_option maxRecDepth 1000000
set_option linter.unusedVariables false
set_option linter.unusedSimpArgs false
namespace Go.Proofs.Ytjacddclpcelmaa.AM.Bi
open Go.Proofs

theorem plus_rest {a b : List Nat} {ta tb : Tree} (ha : IsSl uE a (.tr ta)) (hb : IsSl uE b (.tr tb)) (da : dig 4294967296 a) (db : dig 4294967296 b) (la : a.length ≤ 100000) (lb : b.length ≤ a.length) (e L : List (Nat × V)) (h0 : look e 0 = some (.tr ta)) (h1 : look e 1 = some (.tr tb)) :
    wpc T k42_2 ⟨e, L, []⟩ (giv [.tmp 4] fun v σ => ∃ t, snap σ deepN v = some t ∧ ∃ l, IsSl uE l (.tr t) ∧ dig 4294967296 l ∧ val 4294967296 l = val 4294967296 a + val 4294967296 b ∧ l.length ≤ a.length + 1) := by
  have hla : ∀ σ, opLen 1 (.tr ta) σ = some (nv .i64 a.length) := fun σ => isSl_len ha
  have hlb : ∀ σ, opLen 1 (.tr tb) σ = some (nv .i64 b.length) := fun σ => isSl_len hb
  have hw : IntKind.i64.wrap ((a.length : Int) + 1) = ((a.length + 1 : Nat) : Int) := w64 (by omega) (by omega)
  have hmk := mk_own (σ := []) (room_ok (n := a.length + 1) (b := 4) (by omega) (by omega))
  simp only [List.length_nil, List.nil_append] at hmk
  simp [k42_2, h0, h1, hla, hw, hmk, -Int.natCast_add]
  obtain ⟨I, hI⟩ : ∃ I : Nat → St → Prop, I = (fun i s => i ≤ a.length ∧ ∃ e L out c, s = ⟨e, L, [.row (cK .u32 out) 0]⟩ ∧ look e 0 = some (.tr ta) ∧ look e 1 = some (.tr tb) ∧ look e 5 = some (.own 0 0 0 (a.length + 1) 1 (some (a.length + 1))) ∧ look e 6 = some (nv .u64 c)
    ∧ look e 20 = some (.tr ta) ∧ look e 21 = some (nv .i64 a.length) ∧ look e 22 = some (nv .i64 i) ∧ c ≤ 1 ∧ dig 4294967296 out ∧ out.length = a.length + 1 ∧ val 4294967296 (out.take i) + 4294967296 ^ i * c = val 4294967296 (a.take i) + val 4294967296 (b.take i)) := ⟨_, rfl⟩
  refine wpc_up a.length I ?_ ?_
  · rw [hI]
    exact ⟨Nat.zero_le _, _, _, List.replicate (a.length + 1) 0, 0, rfl, by simp [h0], by simp [h1], by simp, by simp, by simp, by simp, by simp, by omega, dig_rep (by decide), by simp, by simp [val]⟩
  intro i s hIs
  rw [hI] at hIs
  obtain ⟨hi, e, L, out, c, rfl, h0, h1, h5, h6, h20, h21, h22, hc, hd, ho, hv⟩ := hIs
  by_cases hlt : i < a.length
  · have hxa : a[i]? = some a[i] := List.getElem?_eq_getElem hlt
    have ax := dig_at da hlt
    have bx := at0_dig (by decide) db i
    have hcv : IntKind.u64.wrap (a[i] : Int) = a[i] := wu64 (by omega) (by omega)
    have hcb : IntKind.u64.wrap (at0 b i : Int) = at0 b i := wu64 (by omega) (by omega)
    obtain ⟨s1, hs1⟩ : ∃ s1, s1 = c + a[i] := ⟨_, rfl⟩
    obtain ⟨s, hs⟩ : ∃ s, s = c + (a[i] + at0 b i) := ⟨_, rfl⟩
    obtain ⟨r, hr⟩ : ∃ r, r = s % 4294967296 := ⟨_, rfl⟩
    obtain ⟨q, hq⟩ : ∃ q, q = s / 4294967296 := ⟨_, rfl⟩
    have hw1 : IntKind.u64.wrap ((c : Int) + a[i]) = s1 := by rw [wu64 (by omega) (by omega)]; omega
    have hw2 : IntKind.u64.wrap ((s1 : Int) + at0 b i) = s := by rw [wu64 (by omega) (by omega)]; omega
    have hwr : IntKind.u32.wrap (s : Int) = r := by rw [wu32m]; omega
    have hwq : (s : Int) / 4294967296 = q := by omega
    have hwi : IntKind.i64.wrap ((i : Int) + 1) = ((i + 1 : Nat) : Int) := w64 (by omega) (by omega)
    have hia : opIaddr 1 (.own 0 0 0 (a.length + 1) 1 (some (a.length + 1))) (nv .i64 i) [.row (cK .u32 out) 0] = some (.ptr 0 0 (0 + i)) := own_iaddr rfl (by omega)
    rw [Nat.zero_add] at hia
    have hst : opStore 1 (.ptr 0 0 i) (nv .u32 r) [.row (cK .u32 out) 0] = some [.row (cK .u32 (out.set i r)) 0] := own_store rfl (by omega)
    have hv' := val_step (B := 4294967296) (w := a[i] + at0 b i) (show i < out.length by omega) hv
    rw [← hs, ← hr, ← hq] at hv'
    have goal : val 4294967296 ((out.set i r).take (i + 1)) + 4294967296 ^ (i + 1) * q = val 4294967296 (a.take (i + 1)) + val 4294967296 (b.take (i + 1)) := by
      rw [hv', val_take_at0, val_take_at0, at0_lt hlt, Nat.mul_add]; omega
    have hdr : dig 4294967296 (out.set i r) := by rw [hr]; exact dig_set_mod (by decide) hd
    by_cases hb2 : i < b.length
    · have hxb : b[i]? = some b[i] := List.getElem?_eq_getElem hb2
      rw [at0_lt hb2] at hcb hw2
      simp [k42_6, h0, h1, h5, h6, h20, h21, h22, hlt, k42_8, sl_iaddr ha hxa, sl_load hxa, hcv, hw1, hlb, hb2, sl_iaddr hb hxb, sl_load hxb, hcb, hw2, k42_12, hwr, hia, hst, hwq, k42_13, hwi, -Int.natCast_add]
      rw [hI]
      exact ⟨by omega, _, _, _, q, rfl, by simp [h0], by simp [h1], by simp [h5], by simp, by simp [h20], by simp [h21], by simp, by omega, hdr, by simpa using ho, goal⟩
    · rw [at0_ge (by omega)] at hcb hw2 hs
      have e1 : s1 = s := by omega
      rw [e1] at hw1
      simp [k42_6, h0, h1, h5, h6, h20, h21, h22, hlt, k42_8, sl_iaddr ha hxa, sl_load hxa, hcv, hw1, hlb, hb2, k42_12, hwr, hia, hst, hwq, k42_13, hwi, -Int.natCast_add]
      rw [hI]
      exact ⟨by omega, _, _, _, q, rfl, by simp [h0], by simp [h1], by simp [h5], by simp, by simp [h20], by simp [h21], by simp, by omega, hdr, by simpa using ho, goal⟩
  · have hie : i = a.length := by omega
    subst hie
    have hia : opIaddr 1 (.own 0 0 0 (a.length + 1) 1 (some (a.length + 1))) (nv .i64 a.length) [.row (cK .u32 out) 0] = some (.ptr 0 0 (0 + a.length)) := own_iaddr rfl (by omega)
    rw [Nat.zero_add] at hia
    have hwr : IntKind.u32.wrap (c : Int) = c := by rw [wu32m]; omega
    have hst : opStore 1 (.ptr 0 0 a.length) (nv .u32 c) [.row (cK .u32 out) 0] = some [.row (cK .u32 (out.set a.length c)) 0] := own_store rfl (by omega)
    have hsn : ∀ d, snap [.row (cK .u32 (out.set a.length c)) 0] (d + 1) (.own 0 0 0 (a.length + 1) 1 (some (a.length + 1))) = some (.row ((out.set a.length c).flatMap uE) (out.set a.length c).length (some (a.length + 1))) := fun d => snap_own rfl (by simp [ho])
    simp [k42_6, h0, h1, h5, h6, h20, h21, h22, k42_14, hla, hia, hwr, hst, snap_deep, hsn]
    refine ⟨out.set a.length c, .inr ⟨some (a.length + 1), by simp⟩, dig_set hd (by omega), ?_, by simp [ho]⟩
    have h2 := val_take_set (B := 4294967296) (x := c) (show a.length < out.length by omega)
    rw [List.take_of_length_le (by simp; omega)] at h2
    rw [h2, hv, List.take_of_length_le (Nat.le_refl _), List.take_of_length_le lb]

theorem plus_ok {a b : List Nat} {ta tb : Tree} (ha : IsSl uE a (.tr ta)) (hb : IsSl uE b (.tr tb)) (da : dig 4294967296 a) (db : dig 4294967296 b) (la : a.length ≤ 100000) (lb : b.length ≤ 100000) :
    ∃ t, (∀ σ, callL T 42 [.tr ta, .tr tb] σ = some (.tr t, σ)) ∧ ∃ l, IsSl uE l (.tr t) ∧ dig 4294967296 l ∧ val 4294967296 l = val 4294967296 a + val 4294967296 b ∧ l.length ≤ max a.length b.length + 1 := by
  refine call_iso (ts := [ta, tb]) T42 rfl rfl ?_
  have hla : ∀ σ, opLen 1 (.tr ta) σ = some (nv .i64 a.length) := fun σ => isSl_len ha
  have hlb : ∀ σ, opLen 1 (.tr tb) σ = some (nv .i64 b.length) := fun σ => isSl_len hb
  by_cases h : a.length < b.length
  · simp [hla, hlb, h]
    refine wpc_mono _ _ _ _ (giv_mono ?_) (plus_rest hb ha db da lb (by omega) _ _ (by simp) (by simp))
    rintro v σ ⟨t, h1, l, h2, h3, h4, h5⟩
    exact ⟨t, h1, l, h2, h3, by omega, by omega⟩
  · simp [hla, hlb, h]
    refine wpc_mono _ _ _ _ (giv_mono ?_) (plus_rest ha hb da db la (by omega) _ _ (by simp) (by simp))
    rintro v σ ⟨t, h1, l, h2, h3, h4, h5⟩
    exact ⟨t, h1, l, h2, h3, by omega, by omega⟩
end Go.Proofs.Ytjacddclpcelmaa.AM.Bi
