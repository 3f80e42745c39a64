/- IntText: part 9. -/
import Derived.Test.YtjacddclpcelmaaBi8
set_option maxRecDepth 1000000
set_option linter.unusedVariables false
set_option linter.unusedSimpArgs false
namespace Go.Proofs.Ytjacddclpcelmaa.AM.Bi
open Go.Proofs

theorem radd_ok {N M m n : Nat} {ta tb : Tree} (ha : NatSl N m ta) (hb : NatSl M n tb) (la : N ≤ 100000) (lb : M ≤ 100000) :
    ∃ t, (∀ σ, callL T 45 [.tr ta, .tr tb] σ = some (.tr t, σ)) ∧ NatSl (max N M + 1) (m + n) t := by
  obtain ⟨a, ha, da, ca, rfl, hN⟩ := ha
  obtain ⟨b, hb, db, cb, rfl, hM⟩ := hb
  clear ca cb
  refine call_iso (ts := [ta, tb]) T45 rfl rfl ?_
  have hla : ∀ σ, opLen 1 (.tr ta) σ = some (nv .i64 a.length) := fun σ => isSl_len ha
  have hlb : ∀ σ, opLen 1 (.tr tb) σ = some (nv .i64 b.length) := fun σ => isSl_len hb
  obtain ⟨K, hK⟩ : ∃ K, K = max a.length b.length := ⟨_, rfl⟩
  have main : ∀ e L, look e 0 = some (.tr ta) → look e 1 = some (.tr tb) → look e 5 = some (nv .i64 K) → wpc T k45_3 ⟨e, L, []⟩ (giv [.tmp 4] fun v σ => ∃ t, snap σ deepN v = some t ∧ NatSl (max N M + 1) (val 65536 a + val 65536 b) t) := by
    intro e L h0 h1 h5
    have hw : IntKind.i64.wrap ((K : Int) + 1) = ((K + 1 : Nat) : Int) := w64 (by omega) (by omega)
    have hmk := mk_own8 (σ := []) (room_ok (n := K + 1) (b := 8) (by omega) (by omega))
    simp only [List.length_nil, List.nil_append] at hmk
    simp [k45_3, h5, hw, hmk, -Int.natCast_add]
    obtain ⟨I, hI⟩ : ∃ I : Nat → St → Prop, I = (fun i s => i ≤ K + 1 ∧ ∃ e L out c, s = ⟨e, L, [.row (cK .i64 out) 0]⟩ ∧ look e 0 = some (.tr ta) ∧ look e 1 = some (.tr tb) ∧ look e 5 = some (nv .i64 K) ∧ look e 6 = some (.own 0 0 0 (K + 1) 1 (some (K + 1))) ∧ look e 7 = some (nv .i64 c) ∧ look e 8 = some (nv .i64 i) ∧ c ≤ 1 ∧ dig 65536 out ∧ out.length = K + 1 ∧ val 65536 (out.take i) + 65536 ^ i * c = val 65536 (a.take i) + val 65536 (b.take i)) := ⟨_, rfl⟩
    refine wpc_up (K + 1) I ?_ ?_
    · rw [hI]
      exact ⟨Nat.zero_le _, _, _, List.replicate (K + 1) 0, 0, rfl, by simp [h0], by simp [h1], by simp [h5], by simp, by simp, by simp, by omega, dig_rep (by decide), by simp, by simp [val]⟩
    intro i s hIs
    rw [hI] at hIs
    obtain ⟨hi, e, L, out, c, rfl, h0, h1, h5, h6, h7, h8, hc, hd, ho, hv⟩ := hIs
    by_cases hlt : i < K + 1
    · have hle : (i : Int) ≤ K := by omega
      have ax : at0 a i < 65536 := at0_dig (by decide) da i
      have bx : at0 b i < 65536 := at0_dig (by decide) db i
      obtain ⟨s1, hs1⟩ : ∃ s1, s1 = c + at0 a i := ⟨_, rfl⟩
      obtain ⟨s, hs⟩ : ∃ s, s = s1 + at0 b i := ⟨_, rfl⟩
      have w1 : IntKind.i64.wrap ((c : Int) + at0 a i) = s1 := by rw [w64 (by omega) (by omega)]; omega
      have w2 : IntKind.i64.wrap ((s1 : Int) + at0 b i) = s := by rw [w64 (by omega) (by omega)]; omega
      have hrm : opBin .other .rem (nv .i64 s) (.tr (.sc (.int .i64 65536))) = some (nv .i64 (s % 65536)) := rem_nn s 65536 (by omega)
      have hqu : opBin .other .quo (nv .i64 s) (.tr (.sc (.int .i64 65536))) = some (nv .i64 (s / 65536)) := quo_nn s 65536 (by omega) (by omega)
      have w5 : IntKind.i64.wrap ((i : Int) + 1) = ((i + 1 : Nat) : Int) := w64 (by omega) (by omega)
      have hia : opIaddr 1 (.own 0 0 0 (K + 1) 1 (some (K + 1))) (nv .i64 i) [.row (cK .i64 out) 0] = some (.ptr 0 0 (0 + i)) := own_iaddr rfl (by omega)
      rw [Nat.zero_add] at hia
      have hst : ∀ y, opStore 1 (.ptr 0 0 i) (nv .i64 y) [.row (cK .i64 out) 0] = some [.row (cK .i64 (out.set i y)) 0] := fun y => own_store rfl (by omega)
      have goal : val 65536 ((out.set i (s % 65536)).take (i + 1)) + 65536 ^ (i + 1) * (s / 65536) = val 65536 (a.take (i + 1)) + val 65536 (b.take (i + 1)) := by
        have := val_step (B := 65536) (w := at0 a i + at0 b i) (show i < out.length by omega) hv
        rw [show c + (at0 a i + at0 b i) = s by omega] at this
        rw [this, val_take_at0, val_take_at0, Nat.mul_add]; omega
      clear hv
      by_cases ca : i < a.length
      · by_cases cb : i < b.length
        · have hxa : a[i]? = some a[i] := List.getElem?_eq_getElem ca
          rw [at0_lt ca] at w1
          have hxb : b[i]? = some b[i] := List.getElem?_eq_getElem cb
          rw [at0_lt cb] at w2
          simp [k45_7, hlt, h0, h1, h5, h6, h7, h8, hle, hla, hlb, ca, sl_iaddr ha hxa, sl_load hxa, w1, cb, sl_iaddr hb hxb, sl_load hxb, w2, k45_9, k45_11, k45_13, hrm, hia, hst, hqu, k45_14, w5, -Int.natCast_add, -Int.natCast_ediv, -Int.natCast_emod]
          rw [hI]
          exact ⟨by omega, _, _, _, s / 65536, rfl, by simp [h0], by simp [h1], by simp [h5], by simp [h6], by simp, by simp, by omega, dig_set_mod (by decide) hd, by simpa using ho, goal⟩
        · have hxa : a[i]? = some a[i] := List.getElem?_eq_getElem ca
          rw [at0_lt ca] at w1
          have z2 : at0 b i = 0 := at0_ge (by omega)
          have e2 : s = s1 := by omega
          rw [e2] at hrm hqu goal
          simp [k45_7, hlt, h0, h1, h5, h6, h7, h8, hle, hla, hlb, ca, sl_iaddr ha hxa, sl_load hxa, w1, cb, k45_9, k45_11, k45_13, hrm, hia, hst, hqu, k45_14, w5, -Int.natCast_add, -Int.natCast_ediv, -Int.natCast_emod]
          rw [hI]
          exact ⟨by omega, _, _, _, s1 / 65536, rfl, by simp [h0], by simp [h1], by simp [h5], by simp [h6], by simp, by simp, by omega, dig_set_mod (by decide) hd, by simpa using ho, goal⟩
      · by_cases cb : i < b.length
        · have z1 : at0 a i = 0 := at0_ge (by omega)
          have e1 : s1 = c := by omega
          have hxb : b[i]? = some b[i] := List.getElem?_eq_getElem cb
          rw [at0_lt cb] at w2
          rw [e1] at w2
          simp [k45_7, hlt, h0, h1, h5, h6, h7, h8, hle, hla, hlb, ca, cb, sl_iaddr hb hxb, sl_load hxb, w2, k45_9, k45_11, k45_13, hrm, hia, hst, hqu, k45_14, w5, -Int.natCast_add, -Int.natCast_ediv, -Int.natCast_emod]
          rw [hI]
          exact ⟨by omega, _, _, _, s / 65536, rfl, by simp [h0], by simp [h1], by simp [h5], by simp [h6], by simp, by simp, by omega, dig_set_mod (by decide) hd, by simpa using ho, goal⟩
        · have z1 : at0 a i = 0 := at0_ge (by omega)
          have e1 : s1 = c := by omega
          have z2 : at0 b i = 0 := at0_ge (by omega)
          have e2 : s = s1 := by omega
          rw [e1] at e2
          rw [e2] at hrm hqu goal
          simp [k45_7, hlt, h0, h1, h5, h6, h7, h8, hle, hla, hlb, ca, cb, k45_9, k45_11, k45_13, hrm, hia, hst, hqu, k45_14, w5, -Int.natCast_add, -Int.natCast_ediv, -Int.natCast_emod]
          rw [hI]
          exact ⟨by omega, _, _, _, c / 65536, rfl, by simp [h0], by simp [h1], by simp [h5], by simp [h6], by simp, by simp, by omega, dig_set_mod (by decide) hd, by simpa using ho, goal⟩
    · have hie : i = K + 1 := by omega
      subst hie
      have hle : ¬ ((K + 1 : Nat) : Int) ≤ K := by omega
      rw [List.take_of_length_le (by omega), List.take_of_length_le (by omega), List.take_of_length_le (by omega)] at hv
      obtain ⟨r, σ', hm, hr, hσ⟩ := rtrim_own (σ := [.row (cK .i64 out) 0]) (id := 0) (n := K + 1) (cap := some (K + 1)) rfl ho.symm hd (by omega)
      simp [k45_7, h5, h8, hle, k45_15, h6, hm, -Int.natCast_add]
      have hc0 : c = 0 := by
        have h1 := val_lt da
        have h2 := val_lt db
        have p1 : 65536 ^ a.length ≤ 65536 ^ K := Nat.pow_le_pow_right (by decide) (by omega)
        have p2 : 65536 ^ b.length ≤ 65536 ^ K := Nat.pow_le_pow_right (by decide) (by omega)
        have p3 : (65536 : Nat) ^ (K + 1) = 65536 ^ K * 65536 := Nat.pow_succ ..
        rcases (show c = 0 ∨ c = 1 by omega) with rfl | rfl
        · rfl
        · omega
      subst hc0
      rw [Nat.mul_zero, Nat.add_zero] at hv
      rw [← hv]
      obtain ⟨l, g1, g2, g3, g4, g5⟩ := hr
      exact ⟨l, g1, g2, g3, g4, by omega⟩
  by_cases h : b.length > a.length
  · simp [hla, hlb, h]
    exact main _ _ (by simp) (by simp) (by simp; omega)
  · simp [hla, hlb, h]
    exact main _ _ (by simp) (by simp) (by simp; omega)
end Go.Proofs.Ytjacddclpcelmaa.AM.Bi
