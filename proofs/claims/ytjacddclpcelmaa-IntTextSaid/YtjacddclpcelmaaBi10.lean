/- IntText: part 10. -/
import Derived.Test.YtjacddclpcelmaaBi9
set_option maxRecDepth 1000000
set_option linter.unusedVariables false
set_option linter.unusedSimpArgs false
namespace Go.Proofs.Ytjacddclpcelmaa.AM.Bi
open Go.Proofs

theorem rsub_ok {N M m n : Nat} {ta tb : Tree} (ha : NatSl N m ta) (hb : NatSl M n tb) (la : N ≤ 100000) (lb : M ≤ 100000) (hge : n ≤ m) :
    ∃ t, (∀ σ, callL T 47 [.tr ta, .tr tb] σ = some (.tr t, σ)) ∧ NatSl N (m - n) t := by
  obtain ⟨a, ha, da, ca, rfl, hN⟩ := ha
  obtain ⟨b, hb, db, cb, rfl, hM⟩ := hb
  refine call_iso (ts := [ta, tb]) T47 rfl rfl ?_
  have hlen : b.length ≤ a.length := by
    rcases Nat.lt_or_ge a.length b.length with h | h
    · have := len_lt (by decide) da cb h
      omega
    · exact h
  have hla : ∀ σ, opLen 1 (.tr ta) σ = some (nv .i64 a.length) := fun σ => isSl_len ha
  have hlb : ∀ σ, opLen 1 (.tr tb) σ = some (nv .i64 b.length) := fun σ => isSl_len hb
  have hmk := mk_own8 (σ := []) (room_ok (n := a.length) (b := 8) (by omega) (by omega))
  simp only [List.length_nil, List.nil_append] at hmk
  simp [hla, hmk]
  obtain ⟨I, hI⟩ : ∃ I : Nat → St → Prop, I = (fun i s => i ≤ a.length ∧ ∃ e L out c, s = ⟨e, L, [.row (cK .i64 out) 0]⟩ ∧ look e 0 = some (.tr ta) ∧ look e 1 = some (.tr tb) ∧ look e 5 = some (.own 0 0 0 a.length 1 (some a.length)) ∧ look e 6 = some (nv .i64 c)
    ∧ look e 7 = some (nv .i64 i) ∧ c ≤ 1 ∧ dig 65536 out ∧ out.length = a.length ∧ val 65536 (out.take i) + val 65536 (b.take i) = val 65536 (a.take i) + 65536 ^ i * c) := ⟨_, rfl⟩
  refine wpc_up a.length I ?_ ?_
  · rw [hI]
    exact ⟨Nat.zero_le _, _, _, List.replicate a.length 0, 0, rfl, by simp, by simp, by simp, by simp, by simp, by omega, dig_rep (by decide), by simp, by simp [val]⟩
  intro i s hIs
  rw [hI] at hIs
  obtain ⟨hi, e, L, out, c, rfl, h0, h1, h5, h6, h7, hc, hd, ho, hv⟩ := hIs
  by_cases hlt : i < a.length
  · have hxa : a[i]? = some a[i] := List.getElem?_eq_getElem hlt
    have ax : a[i] < 65536 := dig_at da hlt
    have bx : at0 b i < 65536 := at0_dig (by decide) db i
    obtain ⟨s1, hs1⟩ : ∃ s1 : Int, s1 = (a[i] : Int) - c := ⟨_, rfl⟩
    obtain ⟨s, hs⟩ : ∃ s : Int, s = s1 - at0 b i := ⟨_, rfl⟩
    have w1 : IntKind.i64.wrap ((a[i] : Int) - c) = s1 := by rw [w64 (by omega) (by omega)]; omega
    have w2 : IntKind.i64.wrap (s1 - at0 b i) = s := by rw [w64 (by omega) (by omega)]; omega
    have w5 : IntKind.i64.wrap ((i : Int) + 1) = ((i + 1 : Nat) : Int) := w64 (by omega) (by omega)
    have hia : opIaddr 1 (.own 0 0 0 a.length 1 (some a.length)) (nv .i64 i) [.row (cK .i64 out) 0] = some (.ptr 0 0 (0 + i)) := own_iaddr rfl (by omega)
    rw [Nat.zero_add] at hia
    have hst : ∀ y : Nat, opStore 1 (.ptr 0 0 i) (nv .i64 y) [.row (cK .i64 out) 0] = some [.row (cK .i64 (out.set i y)) 0] := fun y => own_store rfl (by omega)
    have goal : ∀ r q : Nat, (a[i] : Nat) + 65536 * q = r + c + at0 b i → val 65536 ((out.set i r).take (i + 1)) + val 65536 (b.take (i + 1)) = val 65536 (a.take (i + 1)) + 65536 ^ (i + 1) * q := by
      intro r q hrq
      rw [val_take_set (by omega), val_take_at0 _ i a, val_take_at0 _ i b, at0_lt hlt]
      exact sub_step hv hrq
    clear hv
    by_cases hneg : s < 0
    · obtain ⟨r, hr⟩ : ∃ r : Nat, s + 65536 = r := ⟨(s + 65536).toNat, by omega⟩
      have w3 : IntKind.i64.wrap (s + 65536) = r := by rw [w64 (by omega) (by omega)]; omega
      by_cases hb2 : i < b.length
      · have hxb : b[i]? = some b[i] := List.getElem?_eq_getElem hb2
        rw [at0_lt hb2] at w2
        simp [k47_4, hlt, h0, h1, h5, h6, h7, hla, k47_6, sl_iaddr ha hxa, sl_load hxa, w1, hlb, hb2, sl_iaddr hb hxb, sl_load hxb, w2, k47_9, hneg, w3, k47_13, hia, hst, k47_14, w5, -Int.natCast_add]
        rw [hI]
        exact ⟨by omega, _, _, _, 1, rfl, by simp [h0], by simp [h1], by simp [h5], by simp, by simp, by omega, dig_set hd (by omega), by simpa using ho, goal r 1 (by omega)⟩
      · have z2 : at0 b i = 0 := at0_ge (by omega)
        have e2 : s1 = s := by omega
        rw [e2] at w1
        simp [k47_4, hlt, h0, h1, h5, h6, h7, hla, k47_6, sl_iaddr ha hxa, sl_load hxa, w1, hlb, hb2, k47_9, hneg, w3, k47_13, hia, hst, k47_14, w5, -Int.natCast_add]
        rw [hI]
        exact ⟨by omega, _, _, _, 1, rfl, by simp [h0], by simp [h1], by simp [h5], by simp, by simp, by omega, dig_set hd (by omega), by simpa using ho, goal r 1 (by omega)⟩
    · obtain ⟨r, hr⟩ : ∃ r : Nat, s = r := ⟨s.toNat, by omega⟩
      rw [hr] at w2 hneg
      by_cases hb2 : i < b.length
      · have hxb : b[i]? = some b[i] := List.getElem?_eq_getElem hb2
        rw [at0_lt hb2] at w2
        simp [k47_4, hlt, h0, h1, h5, h6, h7, hla, k47_6, sl_iaddr ha hxa, sl_load hxa, w1, hlb, hb2, sl_iaddr hb hxb, sl_load hxb, w2, k47_9, hneg, k47_13, hia, hst, k47_14, w5, -Int.natCast_add]
        rw [hI]
        exact ⟨by omega, _, _, _, 0, rfl, by simp [h0], by simp [h1], by simp [h5], by simp, by simp, by omega, dig_set hd (by omega), by simpa using ho, goal r 0 (by omega)⟩
      · have z2 : at0 b i = 0 := at0_ge (by omega)
        have e2 : s1 = r := by omega
        rw [e2] at w1
        simp [k47_4, hlt, h0, h1, h5, h6, h7, hla, k47_6, sl_iaddr ha hxa, sl_load hxa, w1, hlb, hb2, k47_9, hneg, k47_13, hia, hst, k47_14, w5, -Int.natCast_add]
        rw [hI]
        exact ⟨by omega, _, _, _, 0, rfl, by simp [h0], by simp [h1], by simp [h5], by simp, by simp, by omega, dig_set hd (by omega), by simpa using ho, goal r 0 (by omega)⟩
  · have hie : i = a.length := by omega
    subst hie
    rw [List.take_of_length_le (by omega), List.take_of_length_le (by omega), List.take_of_length_le (Nat.le_refl _)] at hv
    obtain ⟨r, σ', hm, hr, hσ⟩ := rtrim_own (σ := [.row (cK .i64 out) 0]) (id := 0) (n := a.length) (cap := some a.length) rfl ho.symm hd (by omega)
    simp [k47_4, h0, h7, hla, k47_15, h5, hm]
    have hlt2 := val_lt hd
    rw [ho] at hlt2
    obtain ⟨l, g1, g2, g3, g4, g5⟩ := hr
    refine ⟨l, g1, g2, g3, ?_, by omega⟩
    rw [g4]
    rcases (show c = 0 ∨ c = 1 by omega) with rfl | rfl
    · omega
    · omega

theorem rmul_step {B i j c c' o r p q V V' X Y : Nat} (h : V + B ^ (i + j) * c = X + B ^ i * (p * Y)) (hs : V' + B ^ (i + j) * o = V + B ^ (i + j) * r) (hw : r + B * c' = c + o + p * q) :
    V' + B ^ (i + (j + 1)) * c' = X + B ^ i * (p * (Y + B ^ j * q)) := by
  have h2 : B ^ (i + j) * (r + B * c') = B ^ (i + j) * (c + o + p * q) := by rw [hw]
  rw [Nat.mul_add, Nat.mul_add, Nat.mul_add, ← Nat.mul_assoc] at h2
  have e1 : B ^ (i + (j + 1)) * c' = B ^ (i + j) * B * c' := by rw [← Nat.add_assoc, Nat.pow_succ]
  have e2 : B ^ i * (p * (Y + B ^ j * q)) = B ^ i * (p * Y) + B ^ (i + j) * (p * q) := by
    rw [Nat.mul_add, Nat.mul_add, Nat.pow_add, Nat.mul_left_comm p, Nat.mul_assoc]
  rw [e1, e2]
  omega
theorem val_set_at {B i x : Nat} {l : List Nat} (h : i < l.length) : val B (l.set i x) + B ^ i * l[i] = val B l + B ^ i * x := val_set h

theorem rmul_ok {N M m n : Nat} {ta tb : Tree} (ha : NatSl N m ta) (hb : NatSl M n tb) (la : N ≤ 100000) (lb : M ≤ 100000) :
    ∃ t, (∀ σ, callL T 49 [.tr ta, .tr tb] σ = some (.tr t, σ)) ∧ NatSl (N + M + 1) (m * n) t := by
  obtain ⟨a, ha, da, ca, rfl, hN⟩ := ha
  obtain ⟨b, hb, db, cb, rfl, hM⟩ := hb
  clear ca cb
  refine call_iso (ts := [ta, tb]) T49 rfl rfl ?_
  have hla : ∀ σ, opLen 1 (.tr ta) σ = some (nv .i64 a.length) := fun σ => isSl_len ha
  have hlb : ∀ σ, opLen 1 (.tr tb) σ = some (nv .i64 b.length) := fun σ => isSl_len hb
  have wa : IntKind.i64.wrap ((a.length : Int) + b.length) = ((a.length + b.length : Nat) : Int) := by rw [w64 (by omega) (by omega)]; omega
  obtain ⟨K, hK⟩ : ∃ K, K = a.length + b.length + 1 := ⟨_, rfl⟩
  have wb : IntKind.i64.wrap (((a.length + b.length : Nat) : Int) + 1) = (K : Int) := by rw [w64 (by omega) (by omega)]; omega
  have hmk := mk_own8 (σ := []) (room_ok (n := K) (b := 8) (by omega) (by omega))
  simp only [List.length_nil, List.nil_append] at hmk
  simp [hla, hlb, wa, wb, hmk, -Int.natCast_add]
  obtain ⟨I, hI⟩ : ∃ I : Nat → St → Prop, I = (fun i s => i ≤ a.length ∧ ∃ e L out, s = ⟨e, L, [.row (cK .i64 out) 0]⟩ ∧ look e 0 = some (.tr ta) ∧ look e 1 = some (.tr tb) ∧ look e 5 = some (.own 0 0 0 K 1 (some K)) ∧ look e 6 = some (nv .i64 i)
    ∧ dig 65536 out ∧ out.length = K ∧ val 65536 out = val 65536 (a.take i) * val 65536 b) := ⟨_, rfl⟩
  refine wpc_up a.length I ?_ ?_
  · rw [hI]
    exact ⟨Nat.zero_le _, _, _, List.replicate K 0, rfl, by simp, by simp, by simp, by simp, dig_rep (by decide), by simp, by simp [val, val_rep]⟩
  intro i s hIs
  rw [hI] at hIs
  obtain ⟨hi, e, L, out, rfl, h0, h1, h5, h6, hd, ho, hv⟩ := hIs
  by_cases hlt : i < a.length
  · have hxa : a[i]? = some a[i] := List.getElem?_eq_getElem hlt
    have ax : a[i] < 65536 := dig_at da hlt
    obtain ⟨p, hp⟩ : ∃ p, p = a[i] := ⟨_, rfl⟩
    rw [← hp] at hxa ax
    have bound : val 65536 (a.take i) * val 65536 b + 65536 ^ i * (p * val 65536 b) < 65536 ^ (i + b.length + 1) := by
      have e1 : val 65536 (a.take i) * val 65536 b + 65536 ^ i * (p * val 65536 b) = val 65536 (a.take (i + 1)) * val 65536 b := by
        rw [val_take_succ hlt, ← hp, Nat.add_mul, Nat.mul_assoc]
      have h1 := val_lt (dig_take (n := i + 1) da)
      rw [List.length_take, Nat.min_eq_left (by omega)] at h1
      have h2 := val_lt db
      rw [e1, show i + b.length + 1 = (i + 1) + b.length by omega, Nat.pow_add]
      exact Nat.mul_lt_mul'' h1 h2
    simp [k49_3, h0, h6, hla, hlt, k49_5]
    obtain ⟨J, hJ⟩ : ∃ J : Nat → St → Prop, J = (fun j s => ∃ e L o c, s = ⟨e, L, [.row (cK .i64 o) 0]⟩ ∧ look e 0 = some (.tr ta) ∧ look e 1 = some (.tr tb) ∧ look e 5 = some (.own 0 0 0 K 1 (some K)) ∧ look e 6 = some (nv .i64 i) ∧ look e 7 = some (nv .i64 c) ∧ look e 8 = some (nv .i64 j)
      ∧ c < 65536 ∧ j ≤ b.length + 1 ∧ dig 65536 o ∧ o.length = K ∧ val 65536 o + 65536 ^ (i + j) * c = val 65536 (a.take i) * val 65536 b + 65536 ^ i * (p * val 65536 (b.take j))) := ⟨_, rfl⟩
    refine wpc_up (b.length + 1) J ?_ ?_
    · rw [hJ]
      exact ⟨_, _, out, 0, rfl, by simp [h0], by simp [h1], by simp [h5], by simp [h6], by simp, by simp, by omega, by omega, hd, ho, by simp [hv, val]⟩
    intro j s hJs
    rw [hJ] at hJs
    obtain ⟨e, L, o, c, rfl, h0, h1, h5, h6, h7, h8, hc, hj, hdo, hoo, hvj⟩ := hJs
    have hcj : 0 < c → j ≤ b.length := by
      intro hcp
      rcases Nat.lt_or_ge b.length j with h | h
      · exfalso
        rw [List.take_of_length_le (show b.length ≤ j by omega)] at hvj
        have h2 : 65536 ^ (i + b.length + 1) ≤ 65536 ^ (i + j) := Nat.pow_le_pow_right (by decide) (by omega)
        have h3 : 65536 ^ (i + j) * 1 ≤ 65536 ^ (i + j) * c := Nat.mul_le_mul_left _ hcp
        omega
      · exact h
    by_cases hjt : j < b.length ∨ 0 < c
    · have hj2 : j ≤ b.length := by
        rcases hjt with h | h
        · omega
        · exact hcj h
      have hij : i + j < o.length := by omega
      have hxo : o[i + j]? = some o[i + j] := List.getElem?_eq_getElem hij
      have ox : o[i + j] < 65536 := dig_at hdo hij
      obtain ⟨u, hu⟩ : ∃ u, u = o[i + j] := ⟨_, rfl⟩
      rw [← hu] at hxo ox
      have bx : at0 b j < 65536 := at0_dig (by decide) db j
      have hpq : p * at0 b j ≤ 65535 * 65535 := Nat.mul_le_mul (by omega) (by omega)
      obtain ⟨m, hm⟩ : ∃ m, m = p * at0 b j := ⟨_, rfl⟩
      rw [← hm] at hpq
      obtain ⟨s1, hs1⟩ : ∃ s1, s1 = c + u := ⟨_, rfl⟩
      obtain ⟨s, hs⟩ : ∃ s, s = s1 + m := ⟨_, rfl⟩
      have w3 : IntKind.i64.wrap ((p : Int) * at0 b j) = m := by rw [← Int.natCast_mul, ← hm, w64 (by omega) (by omega)]
      have w4 : IntKind.i64.wrap ((i : Int) + j) = ((i + j : Nat) : Int) := by rw [w64 (by omega) (by omega)]; omega
      have w6 : IntKind.i64.wrap ((c : Int) + u) = s1 := by rw [w64 (by omega) (by omega)]; omega
      have w7 : IntKind.i64.wrap ((s1 : Int) + m) = s := by rw [w64 (by omega) (by omega)]; omega
      have w10 : IntKind.i64.wrap ((j : Int) + 1) = ((j + 1 : Nat) : Int) := by rw [w64 (by omega) (by omega)]; omega
      have hrm : opBin .other .rem (nv .i64 s) (.tr (.sc (.int .i64 65536))) = some (nv .i64 (s % 65536)) := rem_nn s 65536 (by omega)
      have hqu : opBin .other .quo (nv .i64 s) (.tr (.sc (.int .i64 65536))) = some (nv .i64 (s / 65536)) := quo_nn s 65536 (by omega) (by omega)
      have hia : opIaddr 1 (.own 0 0 0 K 1 (some K)) (nv .i64 (i + j)) [.row (cK .i64 o) 0] = some (.ptr 0 0 (0 + (i + j))) := own_iaddr rfl (by omega)
      rw [Nat.zero_add] at hia
      have hld : opLoad 1 false (.ptr 0 0 (i + j)) [.row (cK .i64 o) 0] = some (nv .i64 u) := own_load rfl hxo
      have hst : ∀ y : Nat, opStore 1 (.ptr 0 0 (i + j)) (nv .i64 y) [.row (cK .i64 o) 0] = some [.row (cK .i64 (o.set (i + j) y)) 0] := fun y => own_store rfl hij
      have goal : val 65536 (o.set (i + j) (s % 65536)) + 65536 ^ (i + (j + 1)) * (s / 65536) = val 65536 (a.take i) * val 65536 b + 65536 ^ i * (p * val 65536 (b.take (j + 1))) := by
        rw [val_take_at0]
        refine rmul_step hvj (val_set_at hij) ?_
        rw [← hu, ← hm]
        omega
      have hdr : dig 65536 (o.set (i + j) (s % 65536)) := dig_set_mod (by decide) hdo
      clear hvj bound hv
      by_cases hjb : j < b.length
      · have hxb : b[j]? = some b[j] := List.getElem?_eq_getElem hjb
        rw [at0_lt hjb] at w3
        simp [k49_8, h1, h7, h8, hlb, hjb, k49_10, h5, h6, w4, hia, hld, w6, h0, sl_iaddr ha hxa, sl_load hxa, sl_iaddr hb hxb, sl_load hxb, w3, w7, k49_13, hrm, hst, hqu, k49_14, w10, show j < b.length + 1 by omega, -Int.natCast_add, -Int.natCast_mul, -Int.natCast_emod, -Int.natCast_ediv]
        rw [hJ]
        exact ⟨_, _, _, s / 65536, rfl, by simp [h0], by simp [h1], by simp [h5], by simp [h6], by simp, by simp, by omega, by omega, hdr, by simpa using hoo, goal⟩
      · have z2 : at0 b j = 0 := at0_ge (by omega)
        have hm0 : m = 0 := by rw [hm, z2, Nat.mul_zero]
        have e2 : s1 = s := by omega
        have hcp : 0 < c := by
          rcases hjt with h | h
          · exact absurd h hjb
          · exact h
        rw [e2] at w6
        simp [k49_8, h1, h7, h8, hlb, hjb, hcp, k49_10, h5, h6, w4, hia, hld, w6, k49_13, hrm, hst, hqu, k49_14, w10, show j < b.length + 1 by omega, -Int.natCast_add, -Int.natCast_mul, -Int.natCast_emod, -Int.natCast_ediv]
        rw [hJ]
        exact ⟨_, _, _, s / 65536, rfl, by simp [h0], by simp [h1], by simp [h5], by simp [h6], by simp, by simp, by omega, by omega, hdr, by simpa using hoo, goal⟩
    · have hjb : ¬ j < b.length := fun h => hjt (.inl h)
      have hc0 : c = 0 := by
        rcases Nat.eq_zero_or_pos c with h | h
        · exact h
        · exact absurd (.inr h) hjt
      subst hc0
      have w10 : IntKind.i64.wrap ((i : Int) + 1) = ((i + 1 : Nat) : Int) := by rw [w64 (by omega) (by omega)]; omega
      simp [k49_8, h1, h7, h8, hlb, hjb, k49_15, h6, w10, -Int.natCast_add]
      rw [hI]
      refine ⟨by omega, _, _, _, rfl, by simp [h0], by simp [h1], by simp [h5], by simp, hdo, hoo, ?_⟩
      rw [List.take_of_length_le (show b.length ≤ j by omega), Nat.mul_zero, Nat.add_zero] at hvj
      rw [hvj, val_take_succ hlt, ← hp, Nat.add_mul, Nat.mul_assoc]
  · have hie : i = a.length := by omega
    subst hie
    rw [List.take_of_length_le (Nat.le_refl _)] at hv
    obtain ⟨r, σ', hm, hr, hσ⟩ := rtrim_own (σ := [.row (cK .i64 out) 0]) (id := 0) (n := K) (cap := some K) rfl ho.symm hd (by omega)
    simp [k49_3, h0, h6, hla, k49_16, h5, hm]
    rw [hv] at hr
    obtain ⟨l, g1, g2, g3, g4, g5⟩ := hr
    exact ⟨l, g1, g2, g3, g4, by omega⟩
end Go.Proofs.Ytjacddclpcelmaa.AM.Bi
