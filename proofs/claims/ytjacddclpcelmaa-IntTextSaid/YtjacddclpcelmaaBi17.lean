/- IntText: part 17. -/
import Derived.Test.YtjacddclpcelmaaBi15
set_option maxRecDepth 1000000
set_option linter.unusedVariables false
set_option linter.unusedSimpArgs false
namespace Go.Proofs.Ytjacddclpcelmaa.AM.Bi
open Go.Proofs

theorem or_u64 (a b : Nat) (ha : a < 18446744073709551616) (hb : b < 18446744073709551616) : opBin .other .or (nv .u64 a) (nv .u64 b) = some (nv .u64 (a ||| b)) := by
  rw [bin_or]
  congr 4
  unfold orI
  have h1 : (BitVec.ofInt IntKind.u64.bits (a : Int) ||| BitVec.ofInt IntKind.u64.bits (b : Int)).toNat = a ||| b := by
    show (BitVec.ofInt 64 (a : Int) ||| BitVec.ofInt 64 (b : Int)).toNat = a ||| b
    rw [BitVec.toNat_or, BitVec.ofInt_natCast, BitVec.ofInt_natCast, BitVec.toNat_ofNat, BitVec.toNat_ofNat, Nat.mod_eq_of_lt ha, Nat.mod_eq_of_lt hb]
  have h2 : a ||| b < 2 ^ 64 := Nat.or_lt_two_pow ha hb
  rw [h1, wu64 (by omega) (by omega)]
theorem or_u32 (a b : Nat) (ha : a < 4294967296) (hb : b < 4294967296) : opBin .other .or (nv .u32 a) (nv .u32 b) = some (nv .u32 (a ||| b)) := by
  rw [bin_or]
  congr 4
  unfold orI
  have h1 : (BitVec.ofInt IntKind.u32.bits (a : Int) ||| BitVec.ofInt IntKind.u32.bits (b : Int)).toNat = a ||| b := by
    show (BitVec.ofInt 32 (a : Int) ||| BitVec.ofInt 32 (b : Int)).toNat = a ||| b
    rw [BitVec.toNat_or, BitVec.ofInt_natCast, BitVec.ofInt_natCast, BitVec.toNat_ofNat, BitVec.toNat_ofNat, Nat.mod_eq_of_lt ha, Nat.mod_eq_of_lt hb]
  have h2 : a ||| b < 2 ^ 32 := Nat.or_lt_two_pow ha hb
  rw [h1, wu32 (by omega) (by omega)]
theorem or_add (k q a : Nat) (h : a < 2 ^ k) : 2 ^ k * q ||| a = 2 ^ k * q + a := (Nat.two_pow_add_eq_or_of_lt h q).symm
/-- Two digits in one number of 64 bits. -/
theorem join_u64 (a b : Nat) (ha : a < 4294967296) (hb : b < 4294967296) : opBin .other .or (nv .u64 (a * 4294967296)) (nv .u64 b) = some (nv .u64 (a * 4294967296 + b)) := by
  rw [or_u64 _ _ (by omega) (by omega)]
  have := or_add 32 a b (by omega)
  rw [show (2 : Nat) ^ 32 = 4294967296 from rfl, Nat.mul_comm] at this
  rw [this]
theorem shl_u64_32 (a : Nat) (ha : a < 4294967296) : opBin .other .shl (nv .u64 a) (.tr (.sc (.int .u64 32))) = some (nv .u64 (a * 4294967296)) := by
  rw [bin_shl _ _ _ (by omega)]
  congr 4
  have : (a : Int) * 2 ^ (min (32 : Int).toNat IntKind.u64.bits) = ((a * 4294967296 : Nat) : Int) := by
    have : min (32 : Int).toNat IntKind.u64.bits = 32 := rfl
    rw [this]
    omega
  rw [this, wu64 (by omega) (by omega)]
theorem quo_u64 (a b : Nat) (hb : b ≠ 0) (ha : a < 18446744073709551616) : opBin .other .quo (nv .u64 a) (nv .u64 b) = some (nv .u64 (a / b)) := by
  rw [bin_quo _ _ _ (by omega)]
  have h1 : (a : Int).tdiv b = ((a / b : Nat) : Int) := rfl
  have h2 : a / b ≤ a := Nat.div_le_self a b
  rw [h1]
  generalize a / b = q at h2 ⊢
  rw [wu64 (by omega) (by omega)]
theorem rem_u64 (a b : Nat) (hb : b ≠ 0) : opBin .other .rem (nv .u64 a) (nv .u64 b) = some (nv .u64 (a % b)) := by
  rw [bin_rem _ _ _ (by omega)]
  congr 4

theorem set_id {α : Type} {σ : List α} {id : Nat} {o : α} (h : σ[id]? = some o) : σ.set id o = σ := by
  obtain ⟨hi, ho⟩ := List.getElem?_eq_some_iff.1 h
  rw [← ho]
  exact List.set_getElem_self hi
/-- What is beneath is left, what is divided is put above. -/
theorem shrink_ok {l : List Nat} {σ : Store} {id n by_ : Nat} {cap : Option Nat} (hs : σ[id]? = some (.row (cK .u32 l) 0)) (hn : n = l.length) (hd : dig 4294967296 l) (hl : l.length ≤ 100000) (hb : 0 < by_) (hb2 : by_ < 4294967296) :
    ∃ m, callL T 54 [.own id 0 0 n 1 cap, nv .u32 by_] σ = some (nv .u32 (val 4294967296 l % by_), σ.set id (.row (cK .u32 m) 0)) ∧ dig 4294967296 m ∧ m.length = l.length ∧ val 4294967296 m = val 4294967296 l / by_ := by
  subst hn
  suffices hh : ∃ v σ', callL T 54 [.own id 0 0 l.length 1 cap, nv .u32 by_] σ = some (v, σ') ∧ ∃ m, v = nv .u32 (val 4294967296 l % by_) ∧ σ' = σ.set id (.row (cK .u32 m) 0) ∧ dig 4294967296 m ∧ m.length = l.length ∧ val 4294967296 m = val 4294967296 l / by_ by
    obtain ⟨v, σ', h1, m, rfl, rfl, h2⟩ := hh
    exact ⟨m, h1, h2⟩
  have hid : id < σ.length := (List.getElem?_eq_some_iff.1 hs).1
  refine call_shared T54 rfl rfl ?_
  have hw : IntKind.i64.wrap ((l.length : Int) - 1) = (l.length : Int) - 1 := w64 (by omega) (by omega)
  simp [own_len, hw]
  obtain ⟨I, hI⟩ : ∃ I : Nat → St → Prop, I = (fun n s => n ≤ l.length ∧ ∃ e L m rest, s = ⟨e, L, σ.set id (.row (cK .u32 m) 0)⟩ ∧ look e 0 = some (.own id 0 0 l.length 1 cap) ∧ look e 1 = some (nv .u32 by_) ∧ look e 5 = some (nv .u64 rest) ∧ look e 6 = some (iv ((n : Int) - 1))
    ∧ rest < by_ ∧ dig 4294967296 m ∧ m.length = l.length ∧ m.take n = l.take n ∧ val 4294967296 (m.drop n) * by_ + rest = val 4294967296 (l.drop n)) := ⟨_, rfl⟩
  refine wpc_loop I l.length _ ?_ ?_
  · rw [hI]
    exact ⟨Nat.le_refl _, _, _, l, 0, by rw [set_id hs], by simp, by simp, by simp, by simp, hb, hd, rfl, rfl, by simp [val]⟩
  intro n s hIs
  rw [hI] at hIs
  obtain ⟨hn, e, L, m, rest, rfl, h0, h1, h5, h6, hr, hdm, hml, htk, hv⟩ := hIs
  have hs2 : (σ.set id (.row (cK .u32 m) 0))[id]? = some (.row (cK .u32 m) 0) := by rw [List.getElem?_set_self hid]
  by_cases hp : 0 < n
  · obtain ⟨n, rfl⟩ : ∃ k, n = k + 1 := ⟨n - 1, by omega⟩
    have e1 : ((n + 1 : Nat) : Int) - 1 = (n : Int) := by omega
    rw [e1] at h6
    have hx : m[n]? = some m[n] := List.getElem?_eq_getElem (by omega)
    have hxd : m[n] < 4294967296 := dig_at hdm (by omega)
    have hxl : m[n] = l[n] := by
      have := congrArg (fun q => q[n]?) htk
      simp only [List.getElem?_take_of_lt (show n < n + 1 by omega)] at this
      rw [List.getElem?_eq_getElem (by omega), List.getElem?_eq_getElem (by omega)] at this
      exact Option.some.inj this
    obtain ⟨x, hxx⟩ : ∃ x, x = m[n] := ⟨_, rfl⟩
    rw [← hxx] at hx hxd hxl
    obtain ⟨s, hs3⟩ : ∃ s, s = rest * 4294967296 + x := ⟨_, rfl⟩
    have hsb : s < by_ * 4294967296 := by omega
    have hq : s / by_ < 4294967296 := by rw [Nat.div_lt_iff_lt_mul hb, Nat.mul_comm]; exact hsb
    have hdm2 := Nat.div_add_mod s by_
    obtain ⟨sq, hsq⟩ : ∃ sq, sq = s / by_ := ⟨_, rfl⟩
    rw [← hsq] at hq hdm2
    have hia : opIaddr 1 (.own id 0 0 l.length 1 cap) (nv .i64 n) (σ.set id (.row (cK .u32 m) 0)) = some (.ptr id 0 (0 + n)) := own_iaddr hs2 (by omega)
    rw [Nat.zero_add] at hia
    have hld : opLoad 1 false (.ptr id 0 n) (σ.set id (.row (cK .u32 m) 0)) = some (nv .u32 x) := own_load hs2 hx
    have hst : ∀ y : Nat, opStore 1 (.ptr id 0 n) (nv .u32 y) (σ.set id (.row (cK .u32 m) 0)) = some (σ.set id (.row (cK .u32 (m.set n y)) 0)) := fun y => by
      rw [own_store hs2 (by omega), List.set_set]
    have w1 : IntKind.u64.wrap (x : Int) = x := wu64 (by omega) (by omega)
    have w2 : IntKind.u64.wrap (by_ : Int) = by_ := wu64 (by omega) (by omega)
    have w3 : IntKind.u32.wrap (sq : Int) = (sq : Int) := wu32 (by omega) (by omega)
    have w4 : IntKind.i64.wrap ((n : Int) - 1) = (n : Int) - 1 := w64 (by omega) (by omega)
    have hsh := shl_u64_32 rest (by omega)
    have hj := join_u64 rest x (by omega) hxd
    rw [← hs3] at hj
    have hqu := quo_u64 s by_ (by omega) (by omega)
    rw [← hsq] at hqu
    have hre := rem_u64 s by_ (by omega)
    simp [k54_3, h6, k54_5, h5, hsh, h0, hia, hld, w1, hj, h1, w2, hqu, w3, hst, hre, w4, -Int.natCast_ediv, -Int.natCast_emod, -Int.natCast_mul]
    refine ⟨n, by omega, ?_⟩
    rw [hI]
    refine ⟨by omega, _, _, m.set n sq, s % by_, rfl, by simp [h0], by simp [h1], by simp, by simp, Nat.mod_lt _ hb, dig_set hdm hq, by simpa using hml, ?_, ?_⟩
    · rw [List.take_set_of_le (Nat.le_refl _)]
      have := congrArg (List.take n) htk
      rwa [List.take_take, List.take_take, Nat.min_eq_left (by omega)] at this
    · rw [List.drop_eq_getElem_cons (by simp; omega), List.drop_eq_getElem_cons (show n < l.length by omega), List.getElem_set_self, List.drop_set_of_lt (by omega)]
      simp only [val]
      rw [← hxl, ← hv, Nat.add_mul]
      rw [Nat.mul_comm] at hdm2
      have e2 : 4294967296 * val 4294967296 (m.drop (n + 1)) * by_ = 4294967296 * (val 4294967296 (m.drop (n + 1)) * by_) := Nat.mul_assoc _ _ _
      omega
  · obtain rfl : n = 0 := by omega
    rw [List.drop_zero, List.drop_zero] at hv
    have hr2 : rest = val 4294967296 l % by_ := by
      rw [← hv, Nat.mul_comm, Nat.mul_add_mod_self_left, Nat.mod_eq_of_lt hr]
    have hq2 : val 4294967296 m = val 4294967296 l / by_ := by
      rw [← hv, Nat.mul_comm, Nat.mul_add_div hb, Nat.div_eq_of_lt hr, Nat.add_zero]
    have w5 : IntKind.u32.wrap (rest : Int) = rest := wu32 (by omega) (by omega)
    simp [k54_3, h6, k54_7, h5, w5, -Int.natCast_emod]
    exact ⟨hr2, m, rfl, hdm, hml, hq2⟩

/-- Digits moved up. -/
theorem shifted_ok {a : List Nat} {ta : Tree} {k : Nat} (ha : IsSl uE a (.tr ta)) (da : dig 4294967296 a) (la : a.length ≤ 100000) (hk : k < 32) (σ : Store) :
    ∃ out, callL T 66 [.tr ta, nv .i64 k] σ = some (.own σ.length 0 0 (a.length + 1) 1 (some (a.length + 1)), σ ++ [.row (cK .u32 out) 0]) ∧ dig 4294967296 out ∧ out.length = a.length + 1 ∧ val 4294967296 out = 2 ^ k * val 4294967296 a := by
  suffices hh : ∃ v σ', callL T 66 [.tr ta, nv .i64 k] σ = some (v, σ') ∧ ∃ out, v = .own σ.length 0 0 (a.length + 1) 1 (some (a.length + 1)) ∧ σ' = σ ++ [.row (cK .u32 out) 0] ∧ dig 4294967296 out ∧ out.length = a.length + 1 ∧ val 4294967296 out = 2 ^ k * val 4294967296 a by
    obtain ⟨v, σ', h1, m, rfl, rfl, h2⟩ := hh
    exact ⟨m, h1, h2⟩
  refine call_shared T66 rfl rfl ?_
  have hla : ∀ σ, opLen 1 (.tr ta) σ = some (nv .i64 a.length) := fun σ => isSl_len ha
  have hw : IntKind.i64.wrap ((a.length : Int) + 1) = ((a.length + 1 : Nat) : Int) := w64 (by omega) (by omega)
  have hmk := mk_own (σ := σ) (room_ok (n := a.length + 1) (b := 4) (by omega) (by omega))
  simp [hla, hw, hmk, -Int.natCast_add]
  obtain ⟨W, hW⟩ : ∃ W : V, W = .own σ.length 0 0 (a.length + 1) 1 (some (a.length + 1)) := ⟨_, rfl⟩
  rw [← hW]
  have hp2 : 0 < 2 ^ k := Nat.pow_pos (by decide)
  have hpk : 2 ^ k ≤ 2147483648 := by
    have := Nat.pow_le_pow_right (show 0 < 2 by decide) (show k ≤ 31 by omega)
    simpa using this
  obtain ⟨K, hK⟩ : ∃ K, K = 2 ^ k := ⟨_, rfl⟩
  obtain ⟨J, hJ⟩ : ∃ J, 4294967296 = K * J := ⟨2 ^ (32 - k), by rw [hK, ← Nat.pow_add, show k + (32 - k) = 32 by omega]⟩
  rw [← hK] at hp2 hpk ⊢
  obtain ⟨I, hI⟩ : ∃ I : Nat → St → Prop, I = (fun i s => i ≤ a.length ∧ ∃ e L out, s = ⟨e, L, σ ++ [.row (cK .u32 out) 0]⟩ ∧ look e 1 = some (nv .i64 k) ∧ look e 5 = some W ∧ look e 12 = some (.tr ta) ∧ look e 13 = some (nv .i64 a.length) ∧ look e 14 = some (nv .i64 i)
    ∧ dig 4294967296 out ∧ out.length = a.length + 1 ∧ at0 out i < K ∧ val 4294967296 (out.take (i + 1)) = K * val 4294967296 (a.take i)) := ⟨_, rfl⟩
  refine wpc_up a.length I ?_ ?_
  · rw [hI]
    refine ⟨Nat.zero_le _, _, _, List.replicate (a.length + 1) 0, rfl, by simp, by simp, by simp, by simp, by simp, dig_rep (by decide), by simp, ?_, ?_⟩
    · simp [at0, List.replicate_succ, hp2]
    · rw [List.take_replicate, val_rep]; simp [val]
  intro i s hIs
  rw [hI] at hIs
  obtain ⟨hi, e, L, out, rfl, h1, h5, h12, h13, h14, hd, ho, hlow, hv⟩ := hIs
  have hs : (σ ++ [Ob.row (cK .u32 out) 0])[σ.length]? = some (.row (cK .u32 out) 0) := by simp
  by_cases hlt : i < a.length
  · have hxa : a[i]? = some a[i] := List.getElem?_eq_getElem hlt
    have ax : a[i] < 4294967296 := dig_at da hlt
    obtain ⟨x, hx⟩ : ∃ x, x = a[i] := ⟨_, rfl⟩
    rw [← hx] at hxa ax
    have hxo : out[i]? = some out[i] := List.getElem?_eq_getElem (by omega)
    rw [at0_lt (by omega)] at hlow
    obtain ⟨h, hh⟩ : ∃ h, h = out[i] := ⟨_, rfl⟩
    rw [← hh] at hxo hlow
    obtain ⟨X, hX⟩ : ∃ X, X = x * K := ⟨_, rfl⟩
    have hXb : X < 4294967296 * K := by rw [hX]; exact Nat.mul_lt_mul_of_pos_right ax hp2
    have hXb2 : X < 9223372036854775808 := by
      have : 4294967296 * K ≤ 4294967296 * 2147483648 := Nat.mul_le_mul_left _ hpk
      omega
    have hhi : X / 4294967296 < K := by rw [Nat.div_lt_iff_lt_mul (by decide), Nat.mul_comm]; exact hXb
    have hlo : X % 4294967296 = K * (x % J) := by
      rw [hX, hJ, Nat.mul_comm x K, Nat.mul_mod_mul_left]
    have hor : h ||| X % 4294967296 = h + X % 4294967296 := by
      rw [hlo, Nat.or_comm, hK, or_add k (x % J) h (by rw [← hK]; exact hlow), Nat.add_comm]
    have hsum : h + X % 4294967296 < 4294967296 := by
      rw [← hor]
      exact Nat.or_lt_two_pow (n := 32) (by omega) (Nat.mod_lt _ (by decide))
    have sh32 : opBin .other .shl (nv .u32 x) (nv .i64 k) = some (nv .u32 (X % 4294967296)) := by
      rw [bin_shl _ _ _ (by omega)]
      congr 4
      have : (x : Int) * 2 ^ (min (k : Int).toNat IntKind.u32.bits) = (X : Int) := by
        have h1 : min (k : Int).toNat IntKind.u32.bits = k := by
          show min (k : Int).toNat 32 = k
          rw [Int.toNat_natCast]; exact Nat.min_eq_left (by omega)
        rw [h1, hX, hK]; simp
      rw [this, wu32m]
      simp
    have sh64 : opBin .other .shl (nv .u64 x) (nv .i64 k) = some (nv .u64 X) := by
      rw [bin_shl _ _ _ (by omega)]
      congr 4
      have : (x : Int) * 2 ^ (min (k : Int).toNat IntKind.u64.bits) = (X : Int) := by
        have h1 : min (k : Int).toNat IntKind.u64.bits = k := by
          show min (k : Int).toNat 64 = k
          rw [Int.toNat_natCast]; exact Nat.min_eq_left (by omega)
        rw [h1, hX, hK]; simp
      rw [this, wu64 (by omega) (by omega)]
    have hor2 : opBin .other .or (nv .u32 h) (nv .u32 (X % 4294967296)) = some (nv .u32 (h + X % 4294967296)) := by
      rw [or_u32 _ _ (by omega) (Nat.mod_lt _ (by decide)), hor]
    have hia : opIaddr 1 W (nv .i64 i) (σ ++ [.row (cK .u32 out) 0]) = some (.ptr σ.length 0 (0 + i)) := by rw [hW]; exact own_iaddr hs (by omega)
    rw [Nat.zero_add] at hia
    have hld : opLoad 1 false (.ptr σ.length 0 i) (σ ++ [.row (cK .u32 out) 0]) = some (nv .u32 h) := own_load hs hxo
    obtain ⟨o1, ho1⟩ : ∃ o1, o1 = out.set i (h + X % 4294967296) := ⟨_, rfl⟩
    have hst : opStore 1 (.ptr σ.length 0 i) (nv .u32 (h + X % 4294967296)) (σ ++ [.row (cK .u32 out) 0]) = some (σ ++ [.row (cK .u32 o1) 0]) := by
      rw [own_store hs (by omega), ho1]; simp
    have hs1 : (σ ++ [Ob.row (cK .u32 o1) 0])[σ.length]? = some (.row (cK .u32 o1) 0) := by simp
    have ho1l : o1.length = a.length + 1 := by rw [ho1]; simpa using ho
    have hia1 : opIaddr 1 W (nv .i64 (i + 1)) (σ ++ [.row (cK .u32 o1) 0]) = some (.ptr σ.length 0 (0 + (i + 1))) := by rw [hW]; exact own_iaddr hs1 (by omega)
    rw [Nat.zero_add] at hia1
    have hst1 : ∀ y : Nat, opStore 1 (.ptr σ.length 0 (i + 1)) (nv .u32 y) (σ ++ [.row (cK .u32 o1) 0]) = some (σ ++ [.row (cK .u32 (o1.set (i + 1) y)) 0]) := fun y => by
      rw [own_store hs1 (by omega)]; simp
    have w1 : IntKind.i64.wrap ((i : Int) + 1) = ((i + 1 : Nat) : Int) := w64 (by omega) (by omega)
    have w2 : IntKind.u64.wrap (x : Int) = x := wu64 (by omega) (by omega)
    have hq : (X : Int) / 4294967296 = ((X / 4294967296 : Nat) : Int) := by omega
    have w3 : IntKind.u32.wrap ((X / 4294967296 : Nat) : Int) = ((X / 4294967296 : Nat) : Int) := wu32 (by omega) (by omega)
    simp [k66_3, h14, h13, hlt, k66_5, h12, sl_iaddr ha hxa, sl_load hxa, h5, hia, hld, h1, sh32, hor2, hst, w1, w2, sh64, hq, w3, hia1, hst1, -Int.natCast_add, -Int.natCast_ediv, -Int.natCast_emod]
    rw [hI]
    refine ⟨by omega, _, _, o1.set (i + 1) (X / 4294967296), rfl, by simp [h1], by simp [h5], by simp [h12], by simp [h13], by simp, dig_set (by rw [ho1]; exact dig_set hd hsum) (by omega), by simpa using ho1l, ?_, ?_⟩
    · rw [at0_lt (by simp; omega), List.getElem_set_self]; exact hhi
    · rw [val_take_set (by omega), ho1, val_take_set (by omega), val_take_succ hlt, ← hx, Nat.mul_add K, ← hv, val_take_succ (show i < out.length by omega), ← hh, Nat.mul_add]
      have e1 : 4294967296 ^ i * (X % 4294967296) + 4294967296 ^ (i + 1) * (X / 4294967296) = 4294967296 ^ i * X := by
        rw [Nat.pow_succ, Nat.mul_assoc, ← Nat.mul_add, Nat.mod_add_div]
      have e2 : K * (4294967296 ^ i * x) = 4294967296 ^ i * X := by rw [hX, Nat.mul_left_comm, Nat.mul_comm x K]
      omega
  · have hie : i = a.length := by omega
    subst hie
    rw [List.take_of_length_le (by omega), List.take_of_length_le (Nat.le_refl _)] at hv
    simp [k66_3, h14, h13, k66_7, h5, -Int.natCast_add]
    exact ⟨out, rfl, hd, ho, hv⟩
end Go.Proofs.Ytjacddclpcelmaa.AM.Bi
