/- IntText: part 7. -/
import Derived.Test.YtjacddclpcelmaaBi6
set_option maxRecDepth 1000000
set_option linter.unusedVariables false
set_option linter.unusedSimpArgs false
namespace Go.Proofs.Ytjacddclpcelmaa.AM.Bi
open Go.Proofs

/-- A number made of a slice that has a place. -/
theorem made_own {neg : Bool} {l : List Nat} {σ : Store} {id n : Nat} {cap : Option Nat} (hs : σ[id]? = some (.row (cK .u32 l) 0)) (hn : n = l.length) (hd : dig 4294967296 l) (hl : l.length ≤ 1000000) :
    ∃ r σ', callL T 41 [bv neg, .own id 0 0 n 1 cap] σ = some (.tr r, σ') ∧ IsNum l.length (ival neg l) r ∧ (σ' = σ ∨ σ' = σ.set id (.fro (l.flatMap uE) 0)) := by
  subst hn
  have hsl : IsSl uE l (.tr (.row (l.flatMap uE) l.length cap)) := .inr ⟨cap, rfl⟩
  refine T_iso T41 rfl rfl (ts := [.sc (.bool neg), .row (l.flatMap uE) l.length cap]) ?_ (freeze_own hs _) (made_ok hsl hd hl)
  simp [snap_deep, snap_own hs rfl]

theorem mul_ok {x y : Bool} {a b : List Nat} {ta tb : Tree} (ha : IsBig x a ta) (hb : IsBig y b tb) (la : a.length ≤ 100000) (lb : b.length ≤ 100000) :
    ∃ r, (∀ σ, callL T 18 [.tr ta, .tr tb] σ = some (.tr r, σ)) ∧ IsNum (a.length + b.length) (ival x a * ival y b) r := by
  refine call_iso (ts := [ta, tb]) T18 rfl rfl ?_
  have dta := dig_trim ha.dg
  have dtb := dig_trim hb.dg
  have hlea := trim_le a
  have hleb := trim_le b
  obtain ⟨sa, rfl, ia⟩ := ha.ex
  obtain ⟨sb, rfl, ib⟩ := hb.ex
  obtain ⟨ta', hna, ha'⟩ := norm_tr ia (by omega)
  obtain ⟨tb', hnb, hb'⟩ := norm_tr ib (by omega)
  have ea : ival x a = ival x (trim a) := by unfold ival; rw [val_trim]
  have eb : ival y b = ival y (trim b) := by unfold ival; rw [val_trim]
  rw [ea, eb]
  generalize trim a = a' at *
  generalize trim b = b' at *
  have hla : ∀ σ, opLen 1 (.tr ta') σ = some (nv .i64 a'.length) := fun σ => isSl_len ha'
  have hlb : ∀ σ, opLen 1 (.tr tb') σ = some (nv .i64 b'.length) := fun σ => isSl_len hb'
  have hw : IntKind.i64.wrap ((a'.length : Int) + b'.length) = ((a'.length + b'.length : Nat) : Int) := by rw [w64 (by omega) (by omega)]; omega
  obtain ⟨S0, hS0⟩ : ∃ S0 : Ob, S0 = .row [.tr (.sc (.bool false)), .tr (.sc (.slice none 0 0))] 0 := ⟨_, rfl⟩
  have hmk := mk_own (σ := [S0]) (room_ok (n := a'.length + b'.length) (b := 4) (by omega) (by omega))
  simp only [List.length_singleton, List.singleton_append] at hmk
  simp [hna, hnb, hla, hlb, hw, ← hS0, hmk, -Int.natCast_add]
  obtain ⟨W, hW⟩ : ∃ W : V, W = .own 1 0 0 (a'.length + b'.length) 1 (some (a'.length + b'.length)) := ⟨_, rfl⟩
  rw [← hW]
  obtain ⟨F, hF⟩ : ∃ F : List (Nat × V) → Prop, F = (fun e => look e 2 = some (.tr (.rptr [.sc (.bool x), sa] 0)) ∧ look e 3 = some (.tr (.rptr [.sc (.bool y), sb] 0)) ∧ look e 4 = some (.ptr 0 0 0) ∧ look e 5 = some (.tr ta') ∧ look e 6 = some (.tr tb') ∧ look e 7 = some W
    ∧ look e 25 = some (.tr ta') ∧ look e 26 = some (nv .i64 a'.length)) := ⟨_, rfl⟩
  obtain ⟨I, hI⟩ : ∃ I : Nat → St → Prop, I = (fun i s => i ≤ a'.length ∧ ∃ e L out, s = ⟨e, L, [S0, .row (cK .u32 out) 0]⟩ ∧ F e ∧ look e 27 = some (nv .i64 i) ∧ dig 4294967296 out ∧ out.length = a'.length + b'.length
    ∧ val 4294967296 (out.take (i + b'.length)) = val 4294967296 (a'.take i) * val 4294967296 b') := ⟨_, rfl⟩
  refine wpc_up a'.length I ?_ ?_
  · rw [hI, hF]
    refine ⟨Nat.zero_le _, _, _, List.replicate (a'.length + b'.length) 0, rfl, ⟨by simp, by simp, by simp, by simp, by simp, by simp, by simp, by simp⟩, by simp, dig_rep (by decide), by simp, ?_⟩
    rw [List.take_replicate, val_rep]
    simp [val]
  intro i s hIs
  rw [hI] at hIs
  obtain ⟨hi, e, L, out, rfl, hFe, h27, hd, ho, hv⟩ := hIs
  have hFe' := hFe
  rw [hF] at hFe'
  obtain ⟨h2, h3, h4, h5, h6, h7, h25, h26⟩ := hFe'
  by_cases hlt : i < a'.length
  · have hxa : a'[i]? = some a'[i] := List.getElem?_eq_getElem hlt
    have ax : a'[i] < 4294967296 := dig_at dta hlt
    obtain ⟨p, hp⟩ : ∃ p, p = a'[i] := ⟨_, rfl⟩
    rw [← hp] at hxa ax
    simp [k18_4, h25, h26, h27, hlt, k18_6, sl_iaddr ha' hxa, sl_load hxa, h6, hlb]
    obtain ⟨J, hJ⟩ : ∃ J : Nat → St → Prop, J = (fun j s => j ≤ b'.length ∧ ∃ e L o c, s = ⟨e, L, [S0, .row (cK .u32 o) 0]⟩ ∧ F e ∧ look e 27 = some (nv .i64 i) ∧ look e 8 = some (nv .i64 i) ∧ look e 9 = some (nv .u32 p) ∧ look e 10 = some (nv .u64 c) ∧ look e 32 = some (.tr tb') ∧ look e 33 = some (nv .i64 b'.length) ∧ look e 34 = some (nv .i64 j)
      ∧ c < 4294967296 ∧ dig 4294967296 o ∧ o.length = a'.length + b'.length
      ∧ val 4294967296 (o.take (i + j)) + 4294967296 ^ (i + j) * c + 4294967296 ^ (i + j) * val 4294967296 ((o.take (i + b'.length)).drop (i + j)) = val 4294967296 (a'.take i) * val 4294967296 b' + 4294967296 ^ i * (p * val 4294967296 (b'.take j))) := ⟨_, rfl⟩
    refine wpc_up b'.length J ?_ ?_
    · rw [hJ]
      refine ⟨Nat.zero_le _, _, _, out, 0, rfl, ?_, by simp [h27], by simp, by simp, by simp, by simp, by simp, by simp, by omega, hd, ho, ?_⟩
      · rw [hF]
        exact ⟨by simp [h2], by simp [h3], by simp [h4], by simp [h5], by simp [h6], by simp [h7], by simp [h25], by simp [h26]⟩
      · rw [← hv]
        have := val_take_drop 4294967296 i (out.take (i + b'.length)) (by rw [List.length_take]; omega)
        rw [List.take_take, Nat.min_eq_left (by omega)] at this
        simp [val]
        omega
    intro j s hJs
    rw [hJ] at hJs
    obtain ⟨hj, e, L, o, c, rfl, hFe, h27, h8, h9, h10, h32, h33, h34, hc, hdo, hoo, hvj⟩ := hJs
    have hFe' := hFe
    rw [hF] at hFe'
    obtain ⟨h2, h3, h4, h5, h6, h7, h25, h26⟩ := hFe'
    by_cases hjt : j < b'.length
    · have hxb : b'[j]? = some b'[j] := List.getElem?_eq_getElem hjt
      have bx : b'[j] < 4294967296 := dig_at dtb hjt
      obtain ⟨q, hq⟩ : ∃ q, q = b'[j] := ⟨_, rfl⟩
      rw [← hq] at hxb bx
      have hio : i + j < o.length := by omega
      have hxo : o[i + j]? = some o[i + j] := List.getElem?_eq_getElem hio
      have ox : o[i + j] < 4294967296 := dig_at hdo hio
      obtain ⟨u, hu⟩ : ∃ u, u = o[i + j] := ⟨_, rfl⟩
      rw [← hu] at hxo ox
      have hpq : p * q ≤ 4294967295 * 4294967295 := Nat.mul_le_mul (by omega) (by omega)
      obtain ⟨m, hm⟩ : ∃ m, m = p * q := ⟨_, rfl⟩
      obtain ⟨m2, hm2⟩ : ∃ m2, m2 = m + u := ⟨_, rfl⟩
      obtain ⟨s, hs⟩ : ∃ s, s = c + m2 := ⟨_, rfl⟩
      obtain ⟨r, hr⟩ : ∃ r, r = s % 4294967296 := ⟨_, rfl⟩
      obtain ⟨c2, hc2⟩ : ∃ c2, c2 = s / 4294967296 := ⟨_, rfl⟩
      rw [← hm] at hpq
      have w1 : IntKind.u64.wrap (p : Int) = p := wu64 (by omega) (by omega)
      have w2 : IntKind.u64.wrap (q : Int) = q := wu64 (by omega) (by omega)
      have w3 : IntKind.u64.wrap ((p : Int) * q) = m := by rw [← Int.natCast_mul, ← hm, wu64 (by omega) (by omega)]
      have w4 : IntKind.i64.wrap ((i : Int) + j) = ((i + j : Nat) : Int) := by rw [w64 (by omega) (by omega)]; omega
      have w5 : IntKind.u64.wrap (u : Int) = u := wu64 (by omega) (by omega)
      have w6 : IntKind.u64.wrap ((m : Int) + u) = m2 := by rw [wu64 (by omega) (by omega)]; omega
      have w7 : IntKind.u64.wrap ((c : Int) + m2) = s := by rw [wu64 (by omega) (by omega)]; omega
      have w8 : IntKind.u32.wrap (s : Int) = r := by rw [wu32m]; omega
      have w9 : (s : Int) / 4294967296 = c2 := by omega
      have w10 : IntKind.i64.wrap ((j : Int) + 1) = ((j + 1 : Nat) : Int) := by rw [w64 (by omega) (by omega)]; omega
      have hia : opIaddr 1 W (nv .i64 (i + j)) [S0, .row (cK .u32 o) 0] = some (.ptr 1 0 (0 + (i + j))) := by rw [hW]; exact own_iaddr rfl (by omega)
      rw [Nat.zero_add] at hia
      have hld : opLoad 1 false (.ptr 1 0 (i + j)) [S0, .row (cK .u32 o) 0] = some (nv .u32 u) := own_load rfl hxo
      have hst : opStore 1 (.ptr 1 0 (i + j)) (nv .u32 r) [S0, .row (cK .u32 o) 0] = some [S0, .row (cK .u32 (o.set (i + j) r)) 0] := own_store rfl hio
      simp [k18_10, h32, h33, h34, hjt, k18_12, sl_iaddr hb' hxb, sl_load hxb, h10, h9, w1, w2, w3, h7, h8, w4, hia, hld, w5, w6, w7, w8, hst, w9, w10, -Int.natCast_add]
      rw [hJ]
      refine ⟨by omega, _, _, _, c2, rfl, ?_, by simp [h27], by simp [h8], by simp [h9], by simp, by simp [h32], by simp [h33], by simp, by omega, dig_set hdo (by omega), by simpa using hoo, ?_⟩
      · rw [hF]
        exact ⟨by simp [h2], by simp [h3], by simp [h4], by simp [h5], by simp [h6], by simp [h7], by simp [h25], by simp [h26]⟩
      · have hstep := val_step (B := 4294967296) (w := m2) hio (rfl : val 4294967296 (o.take (i + j)) + 4294967296 ^ (i + j) * c = _)
        rw [← hs, ← hr, ← hc2] at hstep
        have hdr : ((o.set (i + j) r).take (i + b'.length)).drop (i + (j + 1)) = (o.take (i + b'.length)).drop (i + (j + 1)) := by
          rw [List.drop_take, List.drop_take, List.drop_set_of_lt (by omega)]
        have hdc : (o.take (i + b'.length)).drop (i + j) = u :: (o.take (i + b'.length)).drop (i + (j + 1)) := by
          rw [List.drop_eq_getElem_cons (by rw [List.length_take]; omega)]
          congr 1
          rw [List.getElem_take]
          exact hu.symm
        rw [hdc, val] at hvj
        rw [hdr, show i + (j + 1) = i + j + 1 by omega, hstep, val_take_succ hjt, ← hq]
        rw [show i + (j + 1) = i + j + 1 by omega] at hvj
        generalize val 4294967296 ((o.take (i + b'.length)).drop (i + j + 1)) = R at hvj ⊢
        rw [Nat.mul_add] at hvj
        rw [Nat.mul_add p, Nat.mul_add (4294967296 ^ i), ← Nat.add_assoc, ← hvj, hm2, Nat.mul_add, hm, Nat.pow_succ, Nat.pow_add]
        generalize (4294967296 : Nat) ^ i = A
        generalize (4294967296 : Nat) ^ j = D
        have e1 : A * (p * (D * q)) = A * D * (p * q) := by
          rw [Nat.mul_left_comm p D q, Nat.mul_assoc]
        have e2 : A * D * 4294967296 * R = A * D * (4294967296 * R) := Nat.mul_assoc _ _ _
        omega
    · have hje : j = b'.length := by omega
      subst hje
      have w4 : IntKind.i64.wrap ((i : Int) + b'.length) = ((i + b'.length : Nat) : Int) := by rw [w64 (by omega) (by omega)]; omega
      have w8 : IntKind.u32.wrap (c : Int) = c := by rw [wu32m]; omega
      have w10 : IntKind.i64.wrap ((i : Int) + 1) = ((i + 1 : Nat) : Int) := by rw [w64 (by omega) (by omega)]; omega
      have hio : i + b'.length < o.length := by omega
      have hia : opIaddr 1 W (nv .i64 (i + b'.length)) [S0, .row (cK .u32 o) 0] = some (.ptr 1 0 (0 + (i + b'.length))) := by rw [hW]; exact own_iaddr rfl (by omega)
      rw [Nat.zero_add] at hia
      have hst : opStore 1 (.ptr 1 0 (i + b'.length)) (nv .u32 c) [S0, .row (cK .u32 o) 0] = some [S0, .row (cK .u32 (o.set (i + b'.length) c)) 0] := own_store rfl hio
      simp [k18_10, h32, h33, h34, k18_15, h7, h8, h6, hlb, w4, h10, w8, hia, hst, k18_16, h27, w10, -Int.natCast_add]
      rw [hI]
      refine ⟨by omega, _, _, _, rfl, ?_, by simp, dig_set hdo (by omega), by simpa using hoo, ?_⟩
      · rw [hF]
        exact ⟨by simp [h2], by simp [h3], by simp [h4], by simp [h5], by simp [h6], by simp [h7], by simp [h25], by simp [h26]⟩
      · rw [show i + 1 + b'.length = i + b'.length + 1 by omega, val_take_set hio, val_take_succ hlt, ← hp, Nat.add_mul]
        have hz : (o.take (i + b'.length)).drop (i + b'.length) = [] := List.drop_of_length_le (by rw [List.length_take]; omega)
        rw [hz, List.take_of_length_le (Nat.le_refl _)] at hvj
        simp only [val, Nat.mul_zero, Nat.add_zero] at hvj
        rw [hvj, Nat.mul_assoc]
  · have hie : i = a'.length := by omega
    subst hie
    rw [List.take_of_length_le (by omega), List.take_of_length_le (Nat.le_refl _)] at hv
    obtain ⟨r, σ', hm, hr, hσ⟩ := made_own (neg := !(x == y)) (σ := [S0, .row (cK .u32 out) 0]) (id := 1) (cap := some (a'.length + b'.length)) rfl ho.symm hd (by omega)
    rw [← hW] at hm
    have key : ival (!(x == y)) out = ival x a' * ival y b' := by
      unfold ival
      rw [hv]
      cases x <;> cases y <;> simp [Int.natCast_mul, Int.mul_neg, Int.neg_mul, Int.neg_neg]
    rw [key] at hr
    obtain ⟨ng, s, rfl, is⟩ := num_place hr
    have h0 : σ' = S0 :: σ'.tail := by
      rcases hσ with rfl | rfl <;> rfl
    rw [h0, hS0] at hm
    simp [k18_4, h25, h26, h27, k18_17, h2, h3, h7, hS0, hm, h4, opStore, obPut, opLoad, obCells, slice?, splice_all, is]
    exact num_le hr (by omega)
end Go.Proofs.Ytjacddclpcelmaa.AM.Bi
