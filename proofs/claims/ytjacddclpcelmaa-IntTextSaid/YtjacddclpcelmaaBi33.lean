/- IntText: part 33. -/
import Derived.Test.YtjacddclpcelmaaBi32
import Derived.Test.YtjacddclpcelmaaBi11
set_option maxRecDepth 1000000
set_option linter.unusedVariables false
set_option linter.unusedSimpArgs false
namespace Go.Proofs.Ytjacddclpcelmaa.AM.Bi
open Go.Proofs

/-- A quotient and its rest, of the reference. -/
def RDiv (M u v : Nat) (t : Tree) : Prop := ∃ tq tr, t = .tup [tq, tr] ∧ NatSl (M + 1) (u / v) tq ∧ NatSl (M + 1) (u % v) tr

theorem nat_sl {a : List Nat} {ta : Tree} {m : Nat} {M : Nat} (ha : IsSl iE a (.tr ta)) (da : dig 65536 a) (la : a.length ≤ M) (hM : M ≤ 100000) (hm : 0 < m) (hm2 : m ≤ 65536) (σ : Store) : ∃ tq, callL T 64 [.tr ta, nv .i64 m] σ = some (.tr (.tup [tq, .sc (.int .i64 ((val 65536 a % m : Nat) : Int))]), σ) ∧ NatSl M (val 65536 a / m) tq := by
  obtain ⟨t, h, tq, rfl, hn⟩ := small_ok ha da (by omega) hm hm2
  exact ⟨tq, h σ, nat_le hn la⟩

theorem rdiv_end {R Q : List Nat} {nr nq m M u v : Nat} {X1 X3 : Ob} {e L : List (Nat × V)} (dR : dig 65536 R) (hR : R.length = nr) (dQ : dig 65536 Q) (hQ : Q.length = nq) (hl : nr ≤ 100000) (hl2 : nq ≤ nr) (hM : nr = M + 1) (hm : 0 < m) (hm2 : m ≤ 65536)
    (hr : val 65536 R / m = u % v) (hq : val 65536 Q = u / v) (h8 : look e 8 = some (nv .i64 m)) (h9 : look e 9 = some (.own 0 0 0 nr 1 (some nr))) (h12 : look e 12 = some (.own 2 0 0 nq 1 (some nq))) :
    wpc T k56_26 ⟨e, L, [.row (cK .i64 R) 0, X1, .row (cK .i64 Q) 0, X3]⟩ (giv [.tmp 4, .tmp 5] fun v' σ' => ∃ t, v' = .tr t ∧ RDiv M u v t) := by
  obtain ⟨r, σ', ht, ⟨l, il, dl, cl, vl, ll⟩, hσ⟩ := rtrim_own (σ := [.row (cK .i64 R) 0, X1, .row (cK .i64 Q) 0, X3]) (id := 0) (n := nr) (cap := some nr) rfl hR.symm dR (by omega)
  obtain ⟨tq, hs, nq1⟩ := nat_sl (M := M + 1) il dl (by omega) (by omega) hm hm2 σ'
  rw [vl, hr] at nq1
  have h2 : σ'[2]? = some (.row (cK .i64 Q) 0) := by rcases hσ with rfl | rfl <;> rfl
  obtain ⟨r2, σ2, ht2, nq2, hσ2⟩ := rtrim_own (σ := σ') (id := 2) (n := nq) (cap := some nq) h2 hQ.symm dQ (by omega)
  simp [k56_26, h9, ht, h8, hs, h12, ht2, opExtract, mkTup]
  refine ⟨r2, tq, rfl, ?_, nq1⟩
  rw [← hq]
  exact nat_le nq2 (by omega)

theorem rquo_ok {M N u v : Nat} {ta tb : Tree} (ha : NatSl M u ta) (hb : NatSl N v tb) (hv : v ≠ 0) (la : M ≤ 9000) (lb : N ≤ 9000) : ∃ t, (∀ σ, callL T 56 [.tr ta, .tr tb] σ = some (.tr t, σ)) ∧ RDiv M u v t := by
  refine call_iso (ts := [ta, tb]) T56 rfl rfl ?_
  have hcmp := fun σ => rcmp_ok ha hb (by omega) (by omega) σ
  have ha0 := ha
  obtain ⟨a, ia, da, ca, hau, al⟩ := ha
  obtain ⟨b, ib, db, cb, hbv, bl⟩ := hb
  have hlb : ∀ σ, opLen 1 (.tr tb) σ = some (nv .i64 b.length) := fun σ => isSl_len ib
  have hb0 : b ≠ [] := by intro h; rw [h] at hbv; exact hv (by rw [← hbv]; rfl)
  by_cases h1 : b.length = 1
  · obtain ⟨d, hd⟩ : ∃ d, b = [d] := List.length_eq_one_iff.1 h1
    subst hd
    have hdv : d = v := by rw [← hbv]; simp [val]
    subst hdv
    have hd0 : d < 65536 := db d (by simp)
    have hx0 : ([d] : List Nat)[0]? = some d := rfl
    have hia : ∀ σ, opIaddr 1 (.tr tb) (.tr (.sc (.int .i64 0))) σ = some (.tr (.rptr ([d].flatMap iE) 0)) := fun σ => sl_iaddr (σ := σ) ib hx0 .i64
    have hld := fun σ => sl_load (k := .i64) (σ := σ) hx0
    obtain ⟨tq, hs, nq⟩ := nat_sl (M := M + 1) ia da (by omega) (by omega) (Nat.pos_of_ne_zero hv) (by omega) []
    rw [hau] at hs nq
    have hbs : ∀ (z : Nat) σ, opBslice false 1 1 [.sc (.int .i64 0)] [(0, 1, nv .i64 z)] σ = some (.tr (.row [.sc (.int .i64 (z : Int))] 1 (some 1)), σ) := fun z σ => rfl
    have hrb : u % d < 65536 := Nat.lt_trans (Nat.mod_lt _ (Nat.pos_of_ne_zero hv)) hd0
    obtain ⟨r, hr, nr⟩ := rtrim_ok (l := [u % d]) (t := .row [.sc (.int .i64 ((u % d : Nat) : Int))] 1 (some 1)) (.inr ⟨some 1, rfl⟩) (by
      intro z hz
      simp at hz
      omega) (by simp)
    have hvr : val 65536 [u % d] = u % d := by simp [val]
    rw [hvr] at nr
    simp [hlb, hia, hld, hs, opExtract, hbs, hr, mkTup, -List.flatMap_cons, -List.flatMap_nil, -Int.natCast_emod]
    exact ⟨tq, r, rfl, nq, nat_le nr (by simp)⟩
  have h1i : ¬ (b.length : Int) = 1 := by omega
  by_cases hlt : u < v
  · have hsg : sgn u v = -1 := by simp [sgn, hlt]
    simp [hlb, h1i, k56_4, hcmp, hsg, mkTup]
    exact ⟨_, _, rfl, by rw [Nat.div_eq_of_lt hlt]; exact ⟨[], .inl ⟨rfl, rfl⟩, dig_nil _, can_nil, rfl, Nat.zero_le _⟩, by rw [Nat.mod_eq_of_lt hlt]; exact nat_le ha0 (by omega)⟩
  have hsg : ¬ sgn u v < 0 := by
    unfold sgn; rw [if_neg hlt]; split <;> omega
  obtain ⟨nb, hnb⟩ : ∃ nb, b.length = nb + 1 := ⟨b.length - 1, by have := List.length_pos_iff.2 hb0; omega⟩
  have hlen : b.length ≤ a.length := by
    rcases Nat.lt_or_ge a.length b.length with h | h
    · have := len_lt (by decide) da cb h
      omega
    · exact h
  have hxt : b[nb]? = some b[nb] := List.getElem?_eq_getElem (by omega)
  have htb : b[nb] < 65536 := dig_at db (by omega)
  obtain ⟨top, htop⟩ : ∃ top, top = b[nb] := ⟨_, rfl⟩
  rw [← htop] at hxt htb
  obtain ⟨m, hm⟩ : ∃ m, m = 65536 / (top + 1) := ⟨_, rfl⟩
  have hm0 : 0 < m := by rw [hm]; exact Nat.div_pos (by omega) (by omega)
  have hm2 : m ≤ 65536 := by rw [hm]; exact Nat.div_le_self _ _
  have hmt : m * (top + 1) ≤ 65536 := by rw [hm]; exact Nat.div_mul_le_self _ _
  obtain ⟨r0, hsa, dr0, hr0l, hr0v⟩ := times_ok ia da (by omega) hm0 hm2 []
  obtain ⟨d0, hsb, dd0, hd0l, hd0v⟩ := times_ok ib db (by omega) hm0 hm2 [.row (cK .i64 r0) 0]
  simp only [List.length_nil, List.nil_append, List.length_singleton, List.singleton_append] at hsa hsb
  obtain ⟨td, σ1, htr, ⟨d, id, dd, cd, hdv, _⟩, hσ1⟩ := rtrim_own (σ := [.row (cK .i64 r0) 0, .row (cK .i64 d0) 0]) (id := 1) (n := b.length + 1) (cap := some (b.length + 1)) rfl hd0l.symm dd0 (by omega)
  obtain ⟨X1, hX1⟩ : ∃ X1, σ1 = [.row (cK .i64 r0) 0, X1] := by rcases hσ1 with rfl | rfl <;> exact ⟨_, rfl⟩
  subst hX1
  obtain ⟨n, hn⟩ : ∃ n, n = d.length := ⟨_, rfl⟩
  rw [hd0v] at hdv
  have hbp : 0 < val 65536 b := by omega
  have hdp : 0 < val 65536 d := by rw [hdv]; exact Nat.mul_pos hm0 hbp
  have hn0 : 0 < n := by
    rw [hn]
    rcases Nat.eq_zero_or_pos d.length with h | h
    · rw [List.length_eq_zero_iff.1 h] at hdp; simp [val] at hdp
    · exact h
  have hdlt : val 65536 d < 65536 ^ b.length := by
    have e := val_take_succ (B := 65536) (l := b) (i := nb) (by omega)
    rw [List.take_of_length_le (by omega), ← htop] at e
    have hlo := val_lt (dig_take (n := nb) db)
    rw [List.length_take, Nat.min_eq_left (by omega)] at hlo
    have h1 : val 65536 b < 65536 ^ nb * (top + 1) := by rw [e, Nat.mul_add]; omega
    rw [hdv, hnb, Nat.pow_succ]
    have h5 : m * val 65536 b < m * (65536 ^ nb * (top + 1)) := Nat.mul_lt_mul_of_pos_left h1 hm0
    have h6 : m * (65536 ^ nb * (top + 1)) = 65536 ^ nb * (m * (top + 1)) := Nat.mul_left_comm _ _ _
    have h7 : 65536 ^ nb * (m * (top + 1)) ≤ 65536 ^ nb * 65536 := Nat.mul_le_mul_left _ hmt
    omega
  have hnle : n ≤ b.length := by
    rcases Nat.lt_or_ge b.length n with h | h
    · exfalso
      have h1 := can_ge (B := 65536) (by decide) cd (by intro h0; rw [h0] at hdp; simp [val] at hdp)
      have h2 : 65536 ^ b.length ≤ 65536 ^ (d.length - 1) := Nat.pow_le_pow_right (by decide) (by omega)
      omega
    · exact h
  have hlast : d[n - 1]? ≠ some 0 := by
    intro h
    apply cd
    rw [List.getLast?_eq_getElem?, ← hn]
    exact h
  obtain ⟨na, hna⟩ : ∃ na, na = a.length + 1 := ⟨_, rfl⟩
  obtain ⟨nq, hnq⟩ : ∃ nq, nq = na - n := ⟨_, rfl⟩
  have hmk := mk_own8 (σ := [.row (cK .i64 r0) 0, X1]) (room_ok (n := nq) (b := 8) (by omega) (by omega))
  simp only [List.length_cons, List.length_nil, Nat.zero_add, List.cons_append, List.nil_append, Nat.reduceAdd] at hmk
  have hmk2 := mk_own8 (σ := [.row (cK .i64 r0) 0, X1, .row (cK .i64 (List.replicate nq 0)) 0]) (room_ok (n := n + 1) (b := 8) (by omega) (by omega))
  simp only [List.length_cons, List.length_nil, Nat.zero_add, List.cons_append, List.nil_append, Nat.reduceAdd] at hmk2
  have hld : ∀ σ, opLen 1 (.tr td) σ = some (nv .i64 n) := fun σ => by rw [hn]; exact isSl_len id
  have w1 : IntKind.i64.wrap (((nb + 1 : Nat) : Int) - 1) = (nb : Int) := by rw [w64 (by omega) (by omega)]; omega
  have w2 : IntKind.i64.wrap ((na : Int) - n) = (nq : Int) := by rw [w64 (by omega) (by omega)]; omega
  have w3 : IntKind.i64.wrap ((nq : Int) - 1) = (nq : Int) - 1 := w64 (by omega) (by omega)
  have w4 : IntKind.i64.wrap ((top : Int) + 1) = ((top + 1 : Nat) : Int) := by rw [w64 (by omega) (by omega)]; omega
  have w5 : IntKind.i64.wrap ((n : Int) + 1) = ((n + 1 : Nat) : Int) := by rw [w64 (by omega) (by omega)]; omega
  have hqm : opBin .other .quo (.tr (.sc (.int .i64 65536))) (nv .i64 (top + 1)) = some (nv .i64 m) := by rw [hm]; exact quo_nn 65536 (top + 1) (by omega) (by omega)
  have hia := fun σ => sl_iaddr (σ := σ) ib hxt .i64
  have hldb := fun σ => sl_load (k := .i64) (σ := σ) hxt
  rw [← hna] at hsa hr0l
  rw [hnb] at hsb htr
  have hlt0 : val 65536 r0 < val 65536 d * 65536 ^ nq := by
    rw [hr0v]
    have h1 := val_lt da
    have h2 := can_ge (B := 65536) (by decide) cb hb0
    have h3 : m * val 65536 a < m * 65536 ^ a.length := Nat.mul_lt_mul_of_pos_left h1 hm0
    have h4 : 65536 ^ a.length ≤ val 65536 b * 65536 ^ nq := by
      have h5 : 65536 ^ a.length ≤ 65536 ^ (b.length - 1) * 65536 ^ nq := by
        rw [← Nat.pow_add]
        exact Nat.pow_le_pow_right (by decide) (by omega)
      exact Nat.le_trans h5 (Nat.mul_le_mul_right _ h2)
    have h6 : m * 65536 ^ a.length ≤ m * (val 65536 b * 65536 ^ nq) := Nat.mul_le_mul_left _ h4
    rw [hdv, Nat.mul_assoc]
    exact Nat.lt_of_lt_of_le h3 h6
  have h1n : ¬ ((nb + 1 : Nat) : Int) = 1 := by omega
  simp [hlb, h1n, k56_4, hcmp, hsg, k56_7, hnb, w1, hia, hldb, w4, hqm, hsa, hsb, htr, hld, own_len, w2, hmk, w5, hmk2, w3, -Int.natCast_add]
  obtain ⟨I, hI⟩ : ∃ I : Nat → St → Prop, I = (fun c s => c ≤ nq ∧ ∃ e L R Q Wl, s = ⟨e, L, [.row (cK .i64 R) 0, X1, .row (cK .i64 Q) 0, .row (cK .i64 Wl) 0]⟩ ∧ look e 8 = some (nv .i64 m) ∧ look e 9 = some (.own 0 0 0 na 1 (some na)) ∧ look e 10 = some (.tr td) ∧ look e 11 = some (nv .i64 n) ∧ look e 12 = some (.own 2 0 0 nq 1 (some nq)) ∧ look e 13 = some (.own 3 0 0 (n + 1) 1 (some (n + 1))) ∧ look e 14 = some (iv ((c : Int) - 1))
    ∧ dig 65536 R ∧ R.length = na ∧ dig 65536 Q ∧ Q.length = nq ∧ dig 65536 Wl ∧ Wl.length = n + 1 ∧ val 65536 R + val 65536 d * (65536 ^ c * val 65536 (Q.drop c)) = val 65536 r0 ∧ val 65536 R < val 65536 d * 65536 ^ c) := ⟨_, rfl⟩
  refine wpc_loop I nq _ ?_ ?_
  · rw [hI]
    refine ⟨Nat.le_refl _, _, _, r0, List.replicate nq 0, List.replicate (n + 1) 0, rfl, by simp, by simp, by simp, by simp, by simp, by simp, by simp, dr0, hr0l, dig_rep (by decide), by simp, dig_rep (by decide), by simp, ?_, hlt0⟩
    rw [List.drop_of_length_le (by simp)]
    simp [val]
  intro c s hIs
  rw [hI] at hIs
  obtain ⟨hc, e, L, R, Q, Wl, rfl, h8, h9, h10, h11, h12, h13, h14, dR, hRl, dQ, hQl, dW, hWl, hrel, hlt'⟩ := hIs
  by_cases hp : 0 < c
  · obtain ⟨j, rfl⟩ : ∃ j, c = j + 1 := ⟨c - 1, by omega⟩
    have e1 : ((j + 1 : Nat) : Int) - 1 = (j : Int) := by omega
    rw [e1] at h14
    simp [k56_15, h14]
    refine rdiv_digit dR hRl id dd hn.symm hn0 hlast (by omega) (by omega) hlt' dQ hQl (by omega) dW hWl _ h8 h9 h10 h11 h12 h13 h14 ?_
    intro e' L' R' Wl' g dR' hRl' hg dW' hWl' hrel' hlt2 h8' h9' h10' h11' h12' h13' h14'
    show ∃ k', k' < j + 1 ∧ I k' _
    refine ⟨j, by omega, ?_⟩
    rw [hI]
    refine ⟨by omega, _, _, R', Q.set j g, Wl', rfl, h8', h9', h10', h11', h12', h13', h14', dR', hRl', dig_set dQ hg, by simpa using hQl, dW', hWl', ?_, hlt2⟩
    rw [List.drop_eq_getElem_cons (by simp; omega), List.getElem_set_self, List.drop_set_of_lt (by omega)]
    simp only [val]
    rw [← hrel, ← hrel', Nat.mul_add (65536 ^ j), Nat.mul_add (val 65536 d), Nat.pow_succ, Nat.mul_assoc (65536 ^ j), Nat.add_assoc]
  · obtain rfl : c = 0 := by omega
    simp only [Nat.pow_zero, Nat.one_mul, List.drop_zero, Nat.mul_one] at hrel hlt'
    simp [k56_15, h14]
    have hq : val 65536 Q = u / v := by
      have : val 65536 r0 / val 65536 d = val 65536 Q := by
        rw [← hrel, Nat.add_mul_div_left _ _ hdp, Nat.div_eq_of_lt hlt', Nat.zero_add]
      rw [← this, hr0v, hdv, Nat.mul_div_mul_left _ _ hm0, hau, hbv]
    have hr : val 65536 R / m = u % v := by
      have : val 65536 r0 % val 65536 d = val 65536 R := by
        rw [← hrel, Nat.add_mul_mod_self_left, Nat.mod_eq_of_lt hlt']
      rw [← this, hr0v, hdv, Nat.mul_mod_mul_left, Nat.mul_div_cancel_left _ hm0, hau, hbv]
    refine wpc_mono _ _ _ _ (giv_mono ?_) (rdiv_end (M := na - 1) (u := u) (v := v) dR hRl dQ hQl (by omega) (by omega) (by omega) hm0 hm2 hr hq h8 h9 h12)
    rintro v' σ ⟨t, rfl, tq, tr, rfl, n1, n2⟩
    exact ⟨_, rfl, _, _, rfl, nat_le n1 (by omega), nat_le n2 (by omega)⟩
end Go.Proofs.Ytjacddclpcelmaa.AM.Bi
