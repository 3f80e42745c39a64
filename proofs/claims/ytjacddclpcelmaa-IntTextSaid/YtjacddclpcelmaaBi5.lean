/- IntText: part 5. -/
import Derived.Test.YtjacddclpcelmaaBi4
set_option maxRecDepth 1000000
set_option linter.unusedVariables false
set_option linter.unusedSimpArgs false
namespace Go.Proofs.Ytjacddclpcelmaa.AM.Bi
open Go.Proofs

theorem sub_step {B i c c' x y r A Bv O : Nat} (h : O + Bv = A + B ^ i * c) (hs : x + B * c' = r + c + y) : (O + B ^ i * r) + (Bv + B ^ i * y) = (A + B ^ i * x) + B ^ (i + 1) * c' := by
  have h2 : B ^ i * (x + B * c') = B ^ i * (r + c + y) := by rw [hs]
  rw [Nat.mul_add, Nat.mul_add, Nat.mul_add, ← Nat.mul_assoc] at h2
  rw [Nat.pow_succ]
  omega

theorem minus_ok {a b : List Nat} {ta tb : Tree} (ha : IsSl uE a (.tr ta)) (hb : IsSl uE b (.tr tb)) (da : dig 4294967296 a) (db : dig 4294967296 b) (la : a.length ≤ 100000) (lb : b.length ≤ 100000) (hge : val 4294967296 b ≤ val 4294967296 a) :
    ∃ t, (∀ σ, callL T 44 [.tr ta, .tr tb] σ = some (.tr t, σ)) ∧ ∃ l, IsSl uE l (.tr t) ∧ dig 4294967296 l ∧ val 4294967296 l + val 4294967296 b = val 4294967296 a ∧ l.length ≤ a.length := by
  refine call_iso (ts := [ta, tb]) T44 rfl rfl ?_
  obtain ⟨ta', hna, ha'⟩ := norm_tr ha (by omega)
  obtain ⟨tb', hnb, hb'⟩ := norm_tr hb (by omega)
  have hlea := trim_le a
  have hleb := trim_le b
  have ca := can_trim a
  have cb := can_trim b
  have dta := dig_trim da
  have dtb := dig_trim db
  rw [← val_trim _ a, ← val_trim _ b] at hge ⊢
  generalize trim a = a' at *
  generalize trim b = b' at *
  have hlen : b'.length ≤ a'.length := by
    rcases Nat.lt_or_ge a'.length b'.length with h | h
    · have := len_lt (by decide) dta cb h
      omega
    · exact h
  have hla : ∀ σ, opLen 1 (.tr ta') σ = some (nv .i64 a'.length) := fun σ => isSl_len ha'
  have hlb : ∀ σ, opLen 1 (.tr tb') σ = some (nv .i64 b'.length) := fun σ => isSl_len hb'
  have hmk := mk_own (σ := []) (room_ok (n := a'.length) (b := 4) (by omega) (by omega))
  simp only [List.length_nil, List.nil_append] at hmk
  simp [hna, hnb, hla, hmk]
  obtain ⟨I, hI⟩ : ∃ I : Nat → St → Prop, I = (fun i s => i ≤ a'.length ∧ ∃ e L out c, s = ⟨e, L, [.row (cK .u32 out) 0]⟩ ∧ look e 1 = some (.tr tb') ∧ look e 5 = some (.own 0 0 0 a'.length 1 (some a'.length)) ∧ look e 6 = some (iv (-(c : Nat)))
    ∧ look e 16 = some (.tr ta') ∧ look e 17 = some (nv .i64 a'.length) ∧ look e 18 = some (nv .i64 i) ∧ c ≤ 1 ∧ dig 4294967296 out ∧ out.length = a'.length ∧ val 4294967296 (out.take i) + val 4294967296 (b'.take i) = val 4294967296 (a'.take i) + 4294967296 ^ i * c) := ⟨_, rfl⟩
  refine wpc_up a'.length I ?_ ?_
  · rw [hI]
    exact ⟨Nat.zero_le _, _, _, List.replicate a'.length 0, 0, rfl, by simp, by simp, by simp, by simp, by simp, by simp, by omega, dig_rep (by decide), by simp, by simp [val]⟩
  intro i s hIs
  rw [hI] at hIs
  obtain ⟨hi, e, L, out, c, rfl, h1, h5, h6, h16, h17, h18, hc, hd, ho, hv⟩ := hIs
  by_cases hlt : i < a'.length
  · have hxa : a'[i]? = some a'[i] := List.getElem?_eq_getElem hlt
    have ax : a'[i] < 4294967296 := dig_at dta hlt
    have bx : at0 b' i < 4294967296 := at0_dig (by decide) dtb i
    have hcv : IntKind.i64.wrap (a'[i] : Int) = a'[i] := w64 (by omega) (by omega)
    have hcb : IntKind.i64.wrap (at0 b' i : Int) = at0 b' i := w64 (by omega) (by omega)
    obtain ⟨s1, hs1⟩ : ∃ s1 : Int, s1 = -(c : Nat) + a'[i] := ⟨_, rfl⟩
    obtain ⟨s, hs⟩ : ∃ s : Int, s = s1 - at0 b' i := ⟨_, rfl⟩
    obtain ⟨r, hr⟩ : ∃ r : Nat, (r : Int) = s % 4294967296 := ⟨(s % 4294967296).toNat, by omega⟩
    obtain ⟨q, hq⟩ : ∃ q : Nat, (-(q : Nat) : Int) = s / 4294967296 := ⟨(-(s / 4294967296)).toNat, by omega⟩
    have hw1 : IntKind.i64.wrap (-(c : Int) + a'[i]) = s1 := by rw [w64 (by omega) (by omega)]; omega
    have hw2 : IntKind.i64.wrap (s1 - at0 b' i) = s := by rw [w64 (by omega) (by omega)]; omega
    have hwr : IntKind.u32.wrap s = r := by rw [wu32m]; omega
    have hwi : IntKind.i64.wrap ((i : Int) + 1) = ((i + 1 : Nat) : Int) := w64 (by omega) (by omega)
    have hia : opIaddr 1 (.own 0 0 0 a'.length 1 (some a'.length)) (nv .i64 i) [.row (cK .u32 out) 0] = some (.ptr 0 0 (0 + i)) := own_iaddr rfl (by omega)
    rw [Nat.zero_add] at hia
    have hst : opStore 1 (.ptr 0 0 i) (nv .u32 r) [.row (cK .u32 out) 0] = some [.row (cK .u32 (out.set i r)) 0] := own_store rfl (by omega)
    have goal : val 4294967296 ((out.set i r).take (i + 1)) + val 4294967296 (b'.take (i + 1)) = val 4294967296 (a'.take (i + 1)) + 4294967296 ^ (i + 1) * q := by
      rw [val_take_set (by omega), val_take_at0 _ i a', val_take_at0 _ i b', at0_lt hlt]
      exact sub_step hv (by omega)
    have hdr : dig 4294967296 (out.set i r) := dig_set hd (by omega)
    by_cases hb2 : i < b'.length
    · have hxb : b'[i]? = some b'[i] := List.getElem?_eq_getElem hb2
      rw [at0_lt hb2] at hcb hw2
      simp [k44_5, h1, h5, h6, h16, h17, h18, hlt, k44_7, sl_iaddr ha' hxa, sl_load hxa, hcv, hw1, hlb, hb2, sl_iaddr hb' hxb, sl_load hxb, hcb, hw2, k44_11, hwr, hia, hst, ← hq, k44_12, hwi, -Int.natCast_add]
      rw [hI]
      exact ⟨by omega, _, _, _, q, rfl, by simp [h1], by simp [h5], by simp, by simp [h16], by simp [h17], by simp, by omega, hdr, by simpa using ho, goal⟩
    · rw [at0_ge (by omega)] at hcb hw2 hs
      have e1 : s1 = s := by omega
      rw [e1] at hw1
      simp [k44_5, h1, h5, h6, h16, h17, h18, hlt, k44_7, sl_iaddr ha' hxa, sl_load hxa, hcv, hw1, hlb, hb2, k44_11, hwr, hia, hst, ← hq, k44_12, hwi, -Int.natCast_add]
      rw [hI]
      exact ⟨by omega, _, _, _, q, rfl, by simp [h1], by simp [h5], by simp, by simp [h16], by simp [h17], by simp, by omega, hdr, by simpa using ho, goal⟩
  · have hie : i = a'.length := by omega
    subst hie
    have hsn : ∀ d, snap [.row (cK .u32 out) 0] (d + 1) (.own 0 0 0 a'.length 1 (some a'.length)) = some (.row (out.flatMap uE) out.length (some a'.length)) := fun d => snap_own rfl ho.symm
    simp [k44_5, h1, h5, h6, h16, h17, h18, k44_13, snap_deep, hsn]
    refine ⟨out, .inr ⟨some a'.length, rfl⟩, hd, ?_, by omega⟩
    rw [List.take_of_length_le (by omega), List.take_of_length_le (by omega), List.take_of_length_le (Nat.le_refl _)] at hv
    have hlt2 := val_lt hd
    rw [ho] at hlt2
    rcases (show c = 0 ∨ c = 1 by omega) with rfl | rfl
    · omega
    · omega

@[simp] theorem big_store {x y : V} {a b : Tree} : opStore 2 (.ptr 0 0 0) (.tr (.agg [a, b])) [.row [x, y] 0] = if oneV (.tr a) = true ∧ oneV (.tr b) = true then some [.row [.tr a, .tr b] 0] else none := by
  simp [opStore, obPut, splice_all]
@[simp] theorem big_load {a b : V} : opLoad 2 true (.ptr 0 0 0) [.row [a, b] 0] = some (mkAgg [a, b]) := by
  simp [opLoad, obCells, slice?]
theorem one_sl {k : IntKind} {l : List Nat} {t : Tree} (h : IsSl (nE k) l (.tr t)) : oneV (.tr t) = true := by
  rcases h with ⟨_, h⟩ | ⟨cap, h⟩ <;> cases h <;> rfl

theorem num_le {N M : Nat} {z : Int} {r : Tree} (h : IsNum N z r) (hle : N ≤ M) : IsNum M z r := by
  obtain ⟨neg, l, h1, h2, h3, h4, h5⟩ := h
  exact ⟨neg, l, h1, h2, h3, h4, by omega⟩
theorem add_ok {x y : Bool} {a b : List Nat} {ta tb : Tree} (ha : IsBig x a ta) (hb : IsBig y b tb) (la : a.length ≤ 100000) (lb : b.length ≤ 100000) :
    ∃ r, (∀ σ, callL T 14 [.tr ta, .tr tb] σ = some (.tr r, σ)) ∧ IsNum (max a.length b.length + 1) (ival x a + ival y b) r := by
  refine call_iso (ts := [ta, tb]) T14 rfl rfl ?_
  obtain ⟨sa, rfl, ia⟩ := ha.ex
  obtain ⟨sb, rfl, ib⟩ := hb.ex
  have hord := order_ok ia ib ha.dg hb.dg la lb
  by_cases hs : x = y
  · subst hs
    obtain ⟨t, hp, l, hl, hdl, hvl, hll⟩ := plus_ok ia ib ha.dg hb.dg la lb
    obtain ⟨r, hm, hr⟩ := made_ok (neg := x) hl hdl (by omega)
    obtain ⟨ng, l', hbig, hrest⟩ := id hr
    obtain ⟨s, rfl, is⟩ := hbig.ex
    simp [hp, hm, one_sl is]
    have : ival x l = ival x a + ival x b := by
      unfold ival
      cases x <;> simp <;> omega
    rw [← this]
    exact num_le hr (by omega)
  · have hs2 : (x == y) = false := by simpa using hs
    by_cases hge : val 4294967296 b ≤ val 4294967296 a
    · obtain ⟨t, hp, l, hl, hdl, hvl, hll⟩ := minus_ok ia ib ha.dg hb.dg la lb hge
      obtain ⟨r, hm, hr⟩ := made_ok (neg := x) hl hdl (by omega)
      obtain ⟨ng, l', hbig, hrest⟩ := id hr
      obtain ⟨s, rfl, is⟩ := hbig.ex
      have hsg : 0 ≤ sgn (val 4294967296 a) (val 4294967296 b) := by
        unfold sgn; split <;> (try split) <;> omega
      simp [hs2, hord, hsg, hp, hm, one_sl is]
      have : ival x l = ival x a + ival y b := by
        unfold ival
        cases x <;> cases y <;> simp at hs ⊢ <;> omega
      rw [← this]
      exact num_le hr (by omega)
    · obtain ⟨t, hp, l, hl, hdl, hvl, hll⟩ := minus_ok ib ia hb.dg ha.dg lb la (by omega)
      obtain ⟨r, hm, hr⟩ := made_ok (neg := y) hl hdl (by omega)
      obtain ⟨ng, l', hbig, hrest⟩ := id hr
      obtain ⟨s, rfl, is⟩ := hbig.ex
      have hsg : ¬ 0 ≤ sgn (val 4294967296 a) (val 4294967296 b) := by
        unfold sgn; rw [if_pos (by omega)]; omega
      simp [hs2, hord, hsg, k14_6, hp, hm, one_sl is]
      have : ival y l = ival x a + ival y b := by
        unfold ival
        cases x <;> cases y <;> simp at hs ⊢ <;> omega
      rw [← this]
      exact num_le hr (by omega)
end Go.Proofs.Ytjacddclpcelmaa.AM.Bi
