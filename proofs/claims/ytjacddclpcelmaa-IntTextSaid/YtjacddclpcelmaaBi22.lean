/- IntText: part 22. -/
import Derived.Test.YtjacddclpcelmaaBi21
set_option maxRecDepth 1000000
set_option linter.unusedVariables false
set_option linter.unusedSimpArgs false
namespace Go.Proofs.Ytjacddclpcelmaa.AM.Bi
open Go.Proofs

/-- A quotient and its rest. -/
def DivR (a b : List Nat) (t : Tree) : Prop := ∃ tq tr lq lr, t = .tup [tq, tr] ∧ IsSl uE lq (.tr tq) ∧ dig 4294967296 lq ∧ val 4294967296 lq = val 4294967296 a / val 4294967296 b ∧ lq.length ≤ a.length
      ∧ IsSl uE lr (.tr tr) ∧ dig 4294967296 lr ∧ val 4294967296 lr = val 4294967296 a % val 4294967296 b ∧ lr.length ≤ b.length
theorem divide_ok {a b : List Nat} {ta tb : Tree} (ha : IsSl uE a (.tr ta)) (hb : IsSl uE b (.tr tb)) (da : dig 4294967296 a) (db : dig 4294967296 b) (cb : can b) (hb0 : b ≠ []) (la : a.length ≤ 90000) (hle : b.length ≤ a.length) :
    ∃ tq tr lq lr, (∀ σ, callL T 55 [.tr ta, .tr tb] σ = some (.tr (.tup [tq, tr]), σ)) ∧ IsSl uE lq (.tr tq) ∧ dig 4294967296 lq ∧ val 4294967296 lq = val 4294967296 a / val 4294967296 b ∧ lq.length ≤ a.length
      ∧ IsSl uE lr (.tr tr) ∧ dig 4294967296 lr ∧ val 4294967296 lr = val 4294967296 a % val 4294967296 b ∧ lr.length ≤ b.length := by
  suffices hh : ∃ t, (∀ σ, callL T 55 ([ta, tb].map .tr) σ = some (.tr t, σ)) ∧ DivR a b t by
    obtain ⟨t, h, tq, tr, lq, lr, rfl, h2⟩ := hh
    exact ⟨tq, tr, lq, lr, h, h2⟩
  refine call_iso T55 rfl rfl ?_
  have hlb : ∀ σ, opLen 1 (.tr tb) σ = some (nv .i64 b.length) := fun σ => isSl_len hb
  obtain ⟨nb, hnb⟩ : ∃ nb, b.length = nb + 1 := ⟨b.length - 1, by have := List.length_pos_iff.2 hb0; omega⟩
  have hxt : b[nb]? = some b[nb] := List.getElem?_eq_getElem (by omega)
  have htb : b[nb] < 4294967296 := dig_at db (by omega)
  obtain ⟨top, htop⟩ : ∃ top, top = b[nb] := ⟨_, rfl⟩
  rw [← htop] at hxt htb
  have htop0 : top ≠ 0 := by
    intro h
    apply cb
    rw [List.getLast?_eq_getElem?, hnb]
    simp [hxt, h]
  obtain ⟨Lz, hLz, hLen, hlz⟩ := lz_ok htb
  have hLz0 : Lz ≠ 0 := by
    intro h
    have := hLen.1
    rw [h] at this
    omega
  obtain ⟨k, hk⟩ : ∃ k, k = 32 - Lz := ⟨_, rfl⟩
  rw [← hk] at hlz
  obtain ⟨r0, hsa, dr0, hr0l, hr0v⟩ := shifted_ok ha da (by omega) (show k < 32 by omega) []
  obtain ⟨d0, hsb, dd0, hd0l, hd0v⟩ := shifted_ok hb db (by omega) (show k < 32 by omega) [.row (cK .u32 r0) 0]
  simp only [List.length_nil, List.nil_append, List.length_singleton, List.singleton_append] at hsa hsb
  obtain ⟨d, hd⟩ : ∃ d, d = trim d0 := ⟨_, rfl⟩
  obtain ⟨n, hn⟩ : ∃ n, n = d.length := ⟨_, rfl⟩
  have dd : dig 4294967296 d := by rw [hd]; exact dig_trim dd0
  have cd : can d := by rw [hd]; exact can_trim d0
  have hdv : val 4294967296 d = 2 ^ k * val 4294967296 b := by rw [hd, val_trim, hd0v]
  have hbp : 0 < val 4294967296 b := by
    have := can_ge (B := 4294967296) (by decide) cb hb0
    have h2 : 0 < 4294967296 ^ (b.length - 1) := Nat.pow_pos (by decide)
    omega
  have hk2 : 0 < 2 ^ k := Nat.pow_pos (by decide)
  have hdp : 0 < val 4294967296 d := by rw [hdv]; exact Nat.mul_pos hk2 hbp
  have hn0 : 0 < n := by
    rw [hn]
    rcases Nat.eq_zero_or_pos d.length with h | h
    · rw [List.length_eq_zero_iff.1 h] at hdp; simp [val] at hdp
    · exact h
  have hdlt : val 4294967296 d < 4294967296 ^ b.length := by
    have e := val_take_succ (B := 4294967296) (l := b) (i := nb) (by omega)
    rw [List.take_of_length_le (by omega), ← htop] at e
    have hlo := val_lt (dig_take (n := nb) db)
    rw [List.length_take, Nat.min_eq_left (by omega)] at hlo
    have h1 : val 4294967296 b < 4294967296 ^ nb * (top + 1) := by rw [e, Nat.mul_add]; omega
    have h2 : 2 ^ k * (top + 1) ≤ 4294967296 := by
      have h3 : top + 1 ≤ 2 ^ Lz := hLen.1
      have h4 : 2 ^ k * 2 ^ Lz = 4294967296 := by rw [← Nat.pow_add, show k + Lz = 32 by omega]
      rw [← h4]
      exact Nat.mul_le_mul_left _ h3
    rw [hdv, hnb, Nat.pow_succ]
    have h5 : 2 ^ k * val 4294967296 b < 2 ^ k * (4294967296 ^ nb * (top + 1)) := Nat.mul_lt_mul_of_pos_left h1 hk2
    have h6 : 2 ^ k * (4294967296 ^ nb * (top + 1)) = 4294967296 ^ nb * (2 ^ k * (top + 1)) := Nat.mul_left_comm _ _ _
    have h7 : 4294967296 ^ nb * (2 ^ k * (top + 1)) ≤ 4294967296 ^ nb * 4294967296 := Nat.mul_le_mul_left _ h2
    omega
  have hnle : n ≤ b.length := by
    rcases Nat.lt_or_ge b.length n with h | h
    · exfalso
      have h1 := can_ge (B := 4294967296) (by decide) cd (by intro h0; rw [h0] at hdp; simp [val] at hdp)
      have h2 : 4294967296 ^ b.length ≤ 4294967296 ^ (d.length - 1) := Nat.pow_le_pow_right (by decide) (by omega)
      omega
    · exact h
  have ht := tlen_le d0 d0.length
  have hnt : tlen d0 d0.length = n := by rw [hn, hd]; unfold trim; rw [List.length_take, Nat.min_eq_left ht]
  have hdt : d = d0.take n := by rw [hd]; unfold trim; rw [hnt]
  obtain ⟨C, hC⟩ : ∃ C, C = cutCap (some (b.length + 1)) none 0 := ⟨_, rfl⟩
  have hnorm : callL T 48 [.own 1 0 0 (b.length + 1) 1 (some (b.length + 1))] [.row (cK .u32 r0) 0, .row (cK .u32 d0) 0] = some (.own 1 0 0 n 1 C, [.row (cK .u32 r0) 0, .row (cK .u32 d0) 0]) := by
    refine norm_gen (l := d0) ?_ (by omega) (fun i x hx => ⟨.ptr 1 0 (0 + i), own_iaddr rfl (by rw [← hd0l]; exact (List.getElem?_eq_some_iff.1 hx).1), by rw [Nat.zero_add]; exact own_load rfl hx⟩) ?_
    · rw [hd0l]; exact own_len
    · rw [hnt, hC]; exact cut_own (l := d0) rfl (by omega)
  have hBes : ∀ X S2, Beside [.row (cK .u32 X) 0, .row (cK .u32 d0) 0, S2] 0 d (.own 1 0 0 n 1 C) := by
    intro X S2
    refine ⟨fun σ' => by rw [← hn]; exact own_len, fun i x hx o => ⟨.ptr 1 0 (0 + i), own_iaddr rfl (by rw [hn]; exact (List.getElem?_eq_some_iff.1 hx).1), ?_⟩⟩
    rw [Nat.zero_add]
    refine own_load (l := d0) rfl ?_
    rw [hdt, List.getElem?_take] at hx
    split at hx
    · exact hx
    · cases hx
  have hlast : d[n - 1]? ≠ some 0 := by
    intro h
    apply cd
    rw [List.getLast?_eq_getElem?, ← hn]
    exact h
  obtain ⟨na, hna⟩ : ∃ na, na = a.length + 1 := ⟨_, rfl⟩
  obtain ⟨nq, hnq⟩ : ∃ nq, nq = na - n := ⟨_, rfl⟩
  have hmk := mk_own (σ := [.row (cK .u32 r0) 0, .row (cK .u32 d0) 0]) (room_ok (n := nq) (b := 4) (by omega) (by omega))
  simp only [List.length_cons, List.length_nil, Nat.zero_add, List.cons_append, List.nil_append, Nat.reduceAdd] at hmk
  have w1 : IntKind.i64.wrap (((nb + 1 : Nat) : Int) - 1) = (nb : Int) := by rw [w64 (by omega) (by omega)]; omega
  have w2 : IntKind.i64.wrap ((na : Int) - n) = (nq : Int) := by rw [w64 (by omega) (by omega)]; omega
  have w3 : IntKind.i64.wrap ((nq : Int) - 1) = (nq : Int) - 1 := w64 (by omega) (by omega)
  rw [← hna] at hsa hr0l
  rw [hnb] at hnorm hsb
  simp [hlb, hnb, w1, sl_iaddr hb hxt, sl_load hxt, hlz, hsa, hsb, hnorm, own_len, w2, hmk, w3, -Int.natCast_add]
  obtain ⟨I, hI⟩ : ∃ I : Nat → St → Prop, I = (fun m s => m ≤ nq ∧ ∃ e L R Q, s = ⟨e, L, [.row (cK .u32 R) 0, .row (cK .u32 d0) 0, .row (cK .u32 Q) 0]⟩ ∧ look e 6 = some (nv .i64 k) ∧ look e 7 = some (.own 0 0 0 na 1 (some na)) ∧ look e 8 = some (.own 1 0 0 n 1 C) ∧ look e 9 = some (nv .i64 n) ∧ look e 10 = some (.own 2 0 0 nq 1 (some nq)) ∧ look e 11 = some (iv ((m : Int) - 1))
    ∧ dig 4294967296 R ∧ R.length = na ∧ dig 4294967296 Q ∧ Q.length = nq ∧ val 4294967296 R + val 4294967296 d * (4294967296 ^ m * val 4294967296 (Q.drop m)) = val 4294967296 r0 ∧ val 4294967296 R < val 4294967296 d * 4294967296 ^ m) := ⟨_, rfl⟩
  refine wpc_loop I nq _ ?_ ?_
  · rw [hI]
    refine ⟨Nat.le_refl _, _, _, r0, List.replicate nq 0, rfl, by simp, by simp, by simp, by simp, by simp, by simp, dr0, hr0l, dig_rep (by decide), by simp, ?_, ?_⟩
    · rw [List.drop_of_length_le (by simp)]
      simp [val]
    · rw [hr0v]
      have h1 := val_lt da
      have h2 := can_ge (B := 4294967296) (by decide) cb hb0
      have h3 : 2 ^ k * val 4294967296 a < 2 ^ k * 4294967296 ^ a.length := Nat.mul_lt_mul_of_pos_left h1 hk2
      have h4 : 4294967296 ^ a.length ≤ val 4294967296 b * 4294967296 ^ nq := by
        have h5 : 4294967296 ^ a.length ≤ 4294967296 ^ (b.length - 1) * 4294967296 ^ nq := by
          rw [← Nat.pow_add]
          exact Nat.pow_le_pow_right (by decide) (by omega)
        exact Nat.le_trans h5 (Nat.mul_le_mul_right _ h2)
      have h6 : 2 ^ k * 4294967296 ^ a.length ≤ 2 ^ k * (val 4294967296 b * 4294967296 ^ nq) := Nat.mul_le_mul_left _ h4
      rw [hdv, Nat.mul_assoc]
      exact Nat.lt_of_lt_of_le h3 h6
  intro m s hIs
  rw [hI] at hIs
  obtain ⟨hm, e, L, R, Q, rfl, h6, h7, h8, h9, h10, h11, dR, hRl, dQ, hQl, hrel, hlt⟩ := hIs
  by_cases hp : 0 < m
  · obtain ⟨j, rfl⟩ : ∃ j, m = j + 1 := ⟨m - 1, by omega⟩
    have e1 : ((j + 1 : Nat) : Int) - 1 = (j : Int) := by omega
    rw [e1] at h11
    simp [k55_6, h11]
    refine div_digit dR hRl dd hn.symm hn0 hlast (by omega) (by omega) hBes hlt dQ hQl (by omega) h7 h8 h9 h10 h11 _ h6 ?_
    intro e' L' R' g dR' hRl' hg hrel' hlt' h6' h7' h8' h9' h10' h11'
    show ∃ k', k' < j + 1 ∧ I k' _
    refine ⟨j, by omega, ?_⟩
    rw [hI]
    refine ⟨by omega, _, _, R', Q.set j g, rfl, h6', h7', h8', h9', h10', h11', dR', hRl', dig_set dQ hg, by simpa using hQl, ?_, hlt'⟩
    rw [List.drop_eq_getElem_cons (by simp; omega), List.getElem_set_self, List.drop_set_of_lt (by omega)]
    simp only [val]
    rw [← hrel, ← hrel', Nat.mul_add (4294967296 ^ j), Nat.mul_add (val 4294967296 d), Nat.pow_succ, Nat.mul_assoc (4294967296 ^ j), Nat.add_assoc]
  · obtain rfl : m = 0 := by omega
    simp only [Nat.pow_zero, Nat.one_mul, List.drop_zero, Nat.mul_one] at hrel hlt
    simp [k55_6, h11]
    have hRn : val 4294967296 R < 4294967296 ^ n := Nat.lt_trans hlt (by rw [hn]; exact val_lt dd)
    refine wpc_mono _ _ _ _ (giv_mono ?_) (div_end (by_ := k) dR (by omega) hRl (by omega) (by omega) hRn h6 h7 h9 h10)
    rintro v σ ⟨out, rfl, rfl, dout, hol, hov⟩
    have hs2 := fun d' => snap_own (d := d') (σ := [.row (cK .u32 R) 0, .row (cK .u32 d0) 0, .row (cK .u32 Q) 0, .row (cK .u32 out) 0]) (id := 2) (n := nq) (cap := some nq) rfl hQl.symm
    have hs3 := fun d' => snap_own (d := d') (σ := [.row (cK .u32 R) 0, .row (cK .u32 d0) 0, .row (cK .u32 Q) 0, .row (cK .u32 out) 0]) (id := 3) (n := n) (cap := some n) rfl hol.symm
    refine ⟨.tup [_, _], ?_, _, _, Q, out, rfl, .inr ⟨some nq, rfl⟩, dQ, ?_, by omega, .inr ⟨some n, rfl⟩, dout, ?_, by omega⟩
    · rw [snap_deep]
      show snap _ _ (.tup [_, _]) = _
      rw [snap_tup]
      simp only [snapL, hs2, hs3]
    · have : val 4294967296 r0 / val 4294967296 d = val 4294967296 Q := by
        rw [← hrel, Nat.add_mul_div_left _ _ hdp, Nat.div_eq_of_lt hlt, Nat.zero_add]
      rw [← this, hr0v, hdv, Nat.mul_div_mul_left _ _ hk2]
    · have : val 4294967296 r0 % val 4294967296 d = val 4294967296 R := by
        rw [← hrel, Nat.add_mul_mod_self_left, Nat.mod_eq_of_lt hlt]
      rw [hov, ← this, hr0v, hdv, Nat.mul_mod_mul_left, Nat.mul_div_cancel_left _ hk2]
end Go.Proofs.Ytjacddclpcelmaa.AM.Bi
