/- IntText: part 18. -/
import Derived.Test.YtjacddclpcelmaaBi17
set_option maxRecDepth 1000000
set_option linter.unusedVariables false
set_option linter.unusedSimpArgs false
namespace Go.Proofs.Ytjacddclpcelmaa.AM.Bi
open Go.Proofs

/-- A slice that is read while one place is written. -/
structure Beside (σ : Store) (id : Nat) (d : List Nat) (dv : V) : Prop where
  len : ∀ σ', opLen 1 dv σ' = some (nv .i64 d.length)
  rd : ∀ i x, d[i]? = some x → ∀ o, ∃ p, opIaddr 1 dv (nv .i64 i) (σ.set id o) = some p ∧ opLoad 1 false p (σ.set id o) = some (nv .u32 x)

theorem takes_step {B i b c c' q w r p lo P P' D b' : Nat} (h : P + B ^ i * (b + c) = P' + q * D) (h1 : B * c' + lo = c + q * w) (h2 : p + B * b' = r + b + lo) :
    (P + B ^ i * p) + B ^ (i + 1) * (b' + c') = (P' + B ^ i * r) + q * (D + B ^ i * w) := by
  have e1 : B ^ i * (p + B * b') = B ^ i * (r + b + lo) := by rw [h2]
  have e2 : B ^ i * (B * c' + lo) = B ^ i * (c + q * w) := by rw [h1]
  have e3 : B ^ (i + 1) * (b' + c') = B ^ i * (B * b') + B ^ i * (B * c') := by rw [Nat.pow_succ, Nat.mul_assoc, Nat.mul_add, Nat.mul_add]
  have e4 : q * (D + B ^ i * w) = q * D + B ^ i * (q * w) := by rw [Nat.mul_add, Nat.mul_left_comm]
  rw [Nat.mul_add] at h
  rw [Nat.mul_add, Nat.mul_add, Nat.mul_add] at e1
  rw [Nat.mul_add, Nat.mul_add] at e2
  rw [e3, e4]
  omega

section
variable {pre P d : List Nat} {σ : Store} {id n1 : Nat} {dv : V} {cap : Option Nat}
theorem at_app {i : Nat} : (pre ++ P)[pre.length + i]? = P[i]? := by
  rw [List.getElem?_append_right (by omega)]; congr 1; omega
theorem set_app {i y : Nat} : (pre ++ P).set (pre.length + i) y = pre ++ P.set i y := by
  rw [List.set_append_right _ _ (by omega)]; congr 2; omega

/-- A product taken from some digits of a place. -/
theorem takes_ok (hs : σ[id]? = some (.row (cK .u32 (pre ++ P)) 0)) (hn : n1 ≤ P.length) (hP : dig 4294967296 P) (hd : dig 4294967296 d) (hB : Beside σ id d dv) (hdn : d.length < n1) (hl : P.length ≤ 100000) (q : Nat) (hq : q < 4294967296) :
    ∃ P' b, callL T 67 [.own id 0 pre.length n1 1 cap, dv, nv .u64 q] σ = some (bv (decide (b = 1)), σ.set id (.row (cK .u32 (pre ++ P')) 0)) ∧ P'.length = P.length ∧ P'.drop n1 = P.drop n1 ∧ dig 4294967296 P' ∧ b ≤ 1
      ∧ val 4294967296 (P.take n1) + 4294967296 ^ n1 * b = val 4294967296 (P'.take n1) + q * val 4294967296 d := by
  suffices hh : ∃ v σ', callL T 67 [.own id 0 pre.length n1 1 cap, dv, nv .u64 q] σ = some (v, σ') ∧ ∃ P' b, v = bv (decide (b = 1)) ∧ σ' = σ.set id (.row (cK .u32 (pre ++ P')) 0) ∧ P'.length = P.length ∧ P'.drop n1 = P.drop n1 ∧ dig 4294967296 P' ∧ b ≤ 1
      ∧ val 4294967296 (P.take n1) + 4294967296 ^ n1 * b = val 4294967296 (P'.take n1) + q * val 4294967296 d by
    obtain ⟨v, σ', h1, P', b, rfl, rfl, h2⟩ := hh
    exact ⟨P', b, h1, h2⟩
  have hid : id < σ.length := (List.getElem?_eq_some_iff.1 hs).1
  refine call_shared T67 rfl rfl ?_
  simp [own_len]
  obtain ⟨I, hI⟩ : ∃ I : Nat → St → Prop, I = (fun i s => i ≤ n1 ∧ ∃ e L P' b c, s = ⟨e, L, σ.set id (.row (cK .u32 (pre ++ P')) 0)⟩ ∧ look e 0 = some (.own id 0 pre.length n1 1 cap) ∧ look e 1 = some dv ∧ look e 2 = some (nv .u64 q) ∧ look e 7 = some (nv .u64 c) ∧ look e 8 = some (iv (-(b : Nat)))
    ∧ look e 11 = some (nv .i64 n1) ∧ look e 12 = some (nv .i64 i) ∧ b ≤ 1 ∧ c < 4294967296 ∧ (d.length < i → c = 0) ∧ dig 4294967296 P' ∧ P'.length = P.length ∧ P'.drop i = P.drop i
    ∧ val 4294967296 (P.take i) + 4294967296 ^ i * (b + c) = val 4294967296 (P'.take i) + q * val 4294967296 (d.take i)) := ⟨_, rfl⟩
  refine wpc_up n1 I ?_ ?_
  · rw [hI]
    exact ⟨Nat.zero_le _, _, _, P, 0, 0, by rw [set_id hs], by simp, by simp, by simp, by simp, by simp, by simp, by simp, by omega, by omega, fun _ => rfl, hP, rfl, rfl, by simp [val]⟩
  intro i s hIs
  rw [hI] at hIs
  obtain ⟨hi, e, L, P', b, c, rfl, h0, h1, h2, h7, h8, h11, h12, hb, hc, hcz, hd', hl', hdr, hv⟩ := hIs
  have hs2 : (σ.set id (.row (cK .u32 (pre ++ P')) 0))[id]? = some (.row (cK .u32 (pre ++ P')) 0) := by rw [List.getElem?_set_self hid]
  by_cases hlt : i < n1
  · have hxp : P'[i]? = some P'[i] := List.getElem?_eq_getElem (by omega)
    have px : P'[i] < 4294967296 := dig_at hd' (by omega)
    have hpp : P[i]'(by omega) = P'[i] := by
      have h1 : P.drop i = P[i]'(by omega) :: P.drop (i + 1) := List.drop_eq_getElem_cons (by omega)
      have h2 : P'.drop i = P'[i] :: P'.drop (i + 1) := List.drop_eq_getElem_cons (by omega)
      rw [hdr, h1] at h2
      exact (List.cons.inj h2).1
    have hdr1 : P'.drop (i + 1) = P.drop (i + 1) := by
      have h1 : P.drop i = P[i]'(by omega) :: P.drop (i + 1) := List.drop_eq_getElem_cons (by omega)
      have h2 : P'.drop i = P'[i] :: P'.drop (i + 1) := List.drop_eq_getElem_cons (by omega)
      rw [hdr, h1] at h2
      exact (List.cons.inj h2).2.symm
    obtain ⟨p, hp⟩ : ∃ p, p = P'[i] := ⟨_, rfl⟩
    rw [← hp] at hxp px hpp
    have dx : at0 d i < 4294967296 := at0_dig (by decide) hd i
    obtain ⟨w, hw⟩ : ∃ w, w = at0 d i := ⟨_, rfl⟩
    rw [← hw] at dx
    have hqw : q * w ≤ 4294967295 * 4294967295 := Nat.mul_le_mul (by omega) (by omega)
    obtain ⟨m, hm⟩ : ∃ m, m = q * w := ⟨_, rfl⟩
    rw [← hm] at hqw
    obtain ⟨c1, hc1⟩ : ∃ c1, c1 = c + m := ⟨_, rfl⟩
    obtain ⟨lo, hlo⟩ : ∃ lo, lo = c1 % 4294967296 := ⟨_, rfl⟩
    obtain ⟨c2, hc2⟩ : ∃ c2, c2 = c1 / 4294967296 := ⟨_, rfl⟩
    obtain ⟨s, hs3⟩ : ∃ s : Int, s = -(b : Nat) + ((p : Int) - lo) := ⟨_, rfl⟩
    obtain ⟨r, hr⟩ : ∃ r : Nat, (r : Int) = s % 4294967296 := ⟨(s % 4294967296).toNat, by omega⟩
    obtain ⟨b2, hb2⟩ : ∃ b2 : Nat, (-(b2 : Nat) : Int) = s / 4294967296 := ⟨(-(s / 4294967296)).toNat, by omega⟩
    have hia : opIaddr 1 (.own id 0 pre.length n1 1 cap) (nv .i64 i) (σ.set id (.row (cK .u32 (pre ++ P')) 0)) = some (.ptr id 0 (pre.length + i)) := own_iaddr hs2 hlt
    have hld : opLoad 1 false (.ptr id 0 (pre.length + i)) (σ.set id (.row (cK .u32 (pre ++ P')) 0)) = some (nv .u32 p) := own_load hs2 (by rw [at_app]; exact hxp)
    have hst : opStore 1 (.ptr id 0 (pre.length + i)) (nv .u32 r) (σ.set id (.row (cK .u32 (pre ++ P')) 0)) = some (σ.set id (.row (cK .u32 (pre ++ P'.set i r)) 0)) := by
      rw [own_store hs2 (by rw [List.length_append]; omega), List.set_set, set_app]
    have w1 : IntKind.u64.wrap (w : Int) = w := wu64 (by omega) (by omega)
    have w2 : IntKind.u64.wrap ((q : Int) * w) = m := by rw [← Int.natCast_mul, ← hm, wu64 (by omega) (by omega)]
    have w3 : IntKind.u64.wrap ((c : Int) + m) = c1 := by rw [wu64 (by omega) (by omega)]; omega
    have w4 : IntKind.i64.wrap (p : Int) = p := w64 (by omega) (by omega)
    have w5 : IntKind.u32.wrap (c1 : Int) = lo := by rw [wu32m]; omega
    have w6 : IntKind.i64.wrap (lo : Int) = lo := w64 (by omega) (by omega)
    have w7 : IntKind.i64.wrap ((p : Int) - lo) = (p : Int) - lo := w64 (by omega) (by omega)
    have w8 : IntKind.i64.wrap (-(b : Int) + ((p : Int) - lo)) = s := by rw [w64 (by omega) (by omega), hs3]
    have w9 : IntKind.u32.wrap s = r := by rw [wu32m]; omega
    have w10 : (c1 : Int) / 4294967296 = c2 := by omega
    have w11 : IntKind.i64.wrap ((i : Int) + 1) = ((i + 1 : Nat) : Int) := w64 (by omega) (by omega)
    have goal : val 4294967296 (P.take (i + 1)) + 4294967296 ^ (i + 1) * (b2 + c2) = val 4294967296 ((P'.set i r).take (i + 1)) + q * val 4294967296 (d.take (i + 1)) := by
      rw [val_take_succ (show i < P.length by omega), val_take_set (by omega), val_take_at0, ← hw, hpp]
      refine takes_step (lo := lo) hv ?_ ?_
      · rw [← hm]; omega
      · omega
    have hcz2 : d.length < i + 1 → c2 = 0 := by
      intro h
      have hw0 : w = 0 := by rw [hw]; exact at0_ge (by omega)
      have hm0 : m = 0 := by rw [hm, hw0, Nat.mul_zero]
      omega
    clear hv
    by_cases hdi : i < d.length
    · have hxd : d[i]? = some w := by rw [hw, at0_lt hdi]; exact List.getElem?_eq_getElem hdi
      obtain ⟨pd, hp1, hp2⟩ := hB.rd i w hxd (.row (cK .u32 (pre ++ P')) 0)
      simp [k67_3, h12, h11, hlt, k67_5, h1, hB.len, hdi, h7, h2, hp1, hp2, w1, w2, w3, k67_8, h8, h0, hia, hld, w4, w5, w6, w7, w8, w9, hst, ← hb2, w10, k67_11, w11, -Int.natCast_add, -Int.natCast_mul]
      rw [hI]
      exact ⟨by omega, _, _, P'.set i r, b2, c2, rfl, by simp [h0], by simp [h1], by simp [h2], by simp, by simp, by simp [h11], by simp, by omega, by omega, hcz2, dig_set hd' (by omega), by simpa using hl', by rw [List.drop_set_of_lt (by omega)]; exact hdr1, goal⟩
    · have hw0 : w = 0 := by rw [hw]; exact at0_ge (by omega)
      have hm0 : m = 0 := by rw [hm, hw0, Nat.mul_zero]
      have e1 : c1 = c := by omega
      rw [e1] at w5 w10
      simp [k67_3, h12, h11, hlt, k67_5, h1, hB.len, hdi, h7, h2, k67_8, h8, h0, hia, hld, w4, w5, w6, w7, w8, w9, hst, ← hb2, w10, k67_11, w11, -Int.natCast_add, -Int.natCast_mul]
      rw [hI]
      exact ⟨by omega, _, _, P'.set i r, b2, c2, rfl, by simp [h0], by simp [h1], by simp [h2], by simp, by simp, by simp [h11], by simp, by omega, by omega, hcz2, dig_set hd' (by omega), by simpa using hl', by rw [List.drop_set_of_lt (by omega)]; exact hdr1, goal⟩
  · have hie : i = n1 := by omega
    subst hie
    have hc0 := hcz hdn
    rw [hc0, List.take_of_length_le (show d.length ≤ i by omega), Nat.add_zero] at hv
    have hbd : decide (-(b : Int) < 0) = decide (b = 1) := by
      rw [Bool.eq_iff_iff]; simp; omega
    simp [k67_3, h12, h11, k67_12, h8]
    exact ⟨P', b, by omega, rfl, hl', hdr, hd', hb, hv⟩

/-- Digits added to some digits of a place. -/
theorem gives_ok (hs : σ[id]? = some (.row (cK .u32 (pre ++ P)) 0)) (hn : n1 ≤ P.length) (hP : dig 4294967296 P) (hd : dig 4294967296 d) (hB : Beside σ id d dv) (hdn : d.length ≤ n1) (hl : P.length ≤ 100000) :
    ∃ P' b, callL T 68 [.own id 0 pre.length n1 1 cap, dv] σ = some (bv (decide (b = 1)), σ.set id (.row (cK .u32 (pre ++ P')) 0)) ∧ P'.length = P.length ∧ P'.drop n1 = P.drop n1 ∧ dig 4294967296 P' ∧ b ≤ 1
      ∧ val 4294967296 (P'.take n1) + 4294967296 ^ n1 * b = val 4294967296 (P.take n1) + val 4294967296 d := by
  suffices hh : ∃ v σ', callL T 68 [.own id 0 pre.length n1 1 cap, dv] σ = some (v, σ') ∧ ∃ P' b, v = bv (decide (b = 1)) ∧ σ' = σ.set id (.row (cK .u32 (pre ++ P')) 0) ∧ P'.length = P.length ∧ P'.drop n1 = P.drop n1 ∧ dig 4294967296 P' ∧ b ≤ 1
      ∧ val 4294967296 (P'.take n1) + 4294967296 ^ n1 * b = val 4294967296 (P.take n1) + val 4294967296 d by
    obtain ⟨v, σ', h1, P', b, rfl, rfl, h2⟩ := hh
    exact ⟨P', b, h1, h2⟩
  have hid : id < σ.length := (List.getElem?_eq_some_iff.1 hs).1
  refine call_shared T68 rfl rfl ?_
  simp [own_len]
  obtain ⟨I, hI⟩ : ∃ I : Nat → St → Prop, I = (fun i s => i ≤ n1 ∧ ∃ e L P' c, s = ⟨e, L, σ.set id (.row (cK .u32 (pre ++ P')) 0)⟩ ∧ look e 0 = some (.own id 0 pre.length n1 1 cap) ∧ look e 1 = some dv ∧ look e 5 = some (nv .u64 c)
    ∧ look e 8 = some (nv .i64 n1) ∧ look e 9 = some (nv .i64 i) ∧ c ≤ 1 ∧ dig 4294967296 P' ∧ P'.length = P.length ∧ P'.drop i = P.drop i
    ∧ val 4294967296 (P'.take i) + 4294967296 ^ i * c = val 4294967296 (P.take i) + val 4294967296 (d.take i)) := ⟨_, rfl⟩
  refine wpc_up n1 I ?_ ?_
  · rw [hI]
    exact ⟨Nat.zero_le _, _, _, P, 0, by rw [set_id hs], by simp, by simp, by simp, by simp, by simp, by omega, hP, rfl, rfl, by simp [val]⟩
  intro i s hIs
  rw [hI] at hIs
  obtain ⟨hi, e, L, P', c, rfl, h0, h1, h5, h8, h9, hc, hd', hl', hdr, hv⟩ := hIs
  have hs2 : (σ.set id (.row (cK .u32 (pre ++ P')) 0))[id]? = some (.row (cK .u32 (pre ++ P')) 0) := by rw [List.getElem?_set_self hid]
  by_cases hlt : i < n1
  · have hxp : P'[i]? = some P'[i] := List.getElem?_eq_getElem (by omega)
    have px : P'[i] < 4294967296 := dig_at hd' (by omega)
    have h1' : P.drop i = P[i]'(by omega) :: P.drop (i + 1) := List.drop_eq_getElem_cons (by omega)
    have h2' : P'.drop i = P'[i] :: P'.drop (i + 1) := List.drop_eq_getElem_cons (by omega)
    rw [hdr, h1'] at h2'
    have hpp := (List.cons.inj h2').1
    have hdr1 := (List.cons.inj h2').2.symm
    obtain ⟨p, hp⟩ : ∃ p, p = P'[i] := ⟨_, rfl⟩
    rw [← hp] at hxp px hpp
    have dx : at0 d i < 4294967296 := at0_dig (by decide) hd i
    obtain ⟨w, hw⟩ : ∃ w, w = at0 d i := ⟨_, rfl⟩
    rw [← hw] at dx
    obtain ⟨s1, hs1⟩ : ∃ s1, s1 = c + p := ⟨_, rfl⟩
    obtain ⟨s, hs3⟩ : ∃ s, s = s1 + w := ⟨_, rfl⟩
    have hia : opIaddr 1 (.own id 0 pre.length n1 1 cap) (nv .i64 i) (σ.set id (.row (cK .u32 (pre ++ P')) 0)) = some (.ptr id 0 (pre.length + i)) := own_iaddr hs2 hlt
    have hld : opLoad 1 false (.ptr id 0 (pre.length + i)) (σ.set id (.row (cK .u32 (pre ++ P')) 0)) = some (nv .u32 p) := own_load hs2 (by rw [at_app]; exact hxp)
    obtain ⟨r, hr⟩ : ∃ r, r = s % 4294967296 := ⟨_, rfl⟩
    obtain ⟨c2, hc2⟩ : ∃ c2, c2 = s / 4294967296 := ⟨_, rfl⟩
    have hst : opStore 1 (.ptr id 0 (pre.length + i)) (nv .u32 r) (σ.set id (.row (cK .u32 (pre ++ P')) 0)) = some (σ.set id (.row (cK .u32 (pre ++ P'.set i r)) 0)) := by
      rw [own_store hs2 (by rw [List.length_append]; omega), List.set_set, set_app]
    have w1 : IntKind.u64.wrap (p : Int) = p := wu64 (by omega) (by omega)
    have w2 : IntKind.u64.wrap ((c : Int) + p) = s1 := by rw [wu64 (by omega) (by omega)]; omega
    have w3 : IntKind.u64.wrap (w : Int) = w := wu64 (by omega) (by omega)
    have w4 : IntKind.u64.wrap ((s1 : Int) + w) = s := by rw [wu64 (by omega) (by omega)]; omega
    have w5 : IntKind.u32.wrap (s : Int) = r := by rw [wu32m]; omega
    have w6 : (s : Int) / 4294967296 = c2 := by omega
    have w11 : IntKind.i64.wrap ((i : Int) + 1) = ((i + 1 : Nat) : Int) := w64 (by omega) (by omega)
    have goal : val 4294967296 ((P'.set i r).take (i + 1)) + 4294967296 ^ (i + 1) * c2 = val 4294967296 (P.take (i + 1)) + val 4294967296 (d.take (i + 1)) := by
      have := val_step (B := 4294967296) (w := p + w) (show i < P'.length by omega) hv
      rw [show c + (p + w) = s by omega, ← hr, ← hc2] at this
      rw [this, val_take_succ (show i < P.length by omega), val_take_at0 _ i d, ← hw, hpp, Nat.mul_add]
      omega
    clear hv
    by_cases hdi : i < d.length
    · have hxd : d[i]? = some w := by rw [hw, at0_lt hdi]; exact List.getElem?_eq_getElem hdi
      obtain ⟨pd, hp1, hp2⟩ := hB.rd i w hxd (.row (cK .u32 (pre ++ P')) 0)
      simp [k68_3, h9, h8, hlt, k68_5, h5, h0, hia, hld, w1, w2, h1, hB.len, hdi, hp1, hp2, w3, w4, k68_9, w5, hst, w6, k68_10, w11, -Int.natCast_add]
      rw [hI]
      exact ⟨by omega, _, _, P'.set i r, c2, rfl, by simp [h0], by simp [h1], by simp, by simp [h8], by simp, by omega, dig_set hd' (by omega), by simpa using hl', by rw [List.drop_set_of_lt (by omega)]; exact hdr1, goal⟩
    · have hw0 : w = 0 := by rw [hw]; exact at0_ge (by omega)
      have e1 : s1 = s := by omega
      rw [e1] at w2
      simp [k68_3, h9, h8, hlt, k68_5, h5, h0, hia, hld, w1, w2, h1, hB.len, hdi, k68_9, w5, hst, w6, k68_10, w11, -Int.natCast_add]
      rw [hI]
      exact ⟨by omega, _, _, P'.set i r, c2, rfl, by simp [h0], by simp [h1], by simp, by simp [h8], by simp, by omega, dig_set hd' (by omega), by simpa using hl', by rw [List.drop_set_of_lt (by omega)]; exact hdr1, goal⟩
  · have hie : i = n1 := by omega
    subst hie
    rw [List.take_of_length_le hdn] at hv
    have hbd : decide ((0 : Int) < c) = decide (c = 1) := by
      rw [Bool.eq_iff_iff]; simp; omega
    simp [k68_3, h9, h8, k68_11, h5]
    exact ⟨P', c, by omega, rfl, hl', hdr, hd', hc, hv⟩
end
end Go.Proofs.Ytjacddclpcelmaa.AM.Bi
