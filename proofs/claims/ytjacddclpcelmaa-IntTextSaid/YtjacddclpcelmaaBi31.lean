/- IntText: part 31. -/
import Derived.Test.YtjacddclpcelmaaBi22
set_option maxRecDepth 1000000
set_option linter.unusedVariables false
set_option linter.unusedSimpArgs false
namespace Go.Proofs.Ytjacddclpcelmaa.AM.Bi
open Go.Proofs

/-- A product by one digit, one digit longer. -/
theorem times_ok {a : List Nat} {ta : Tree} {m : Nat} (ha : IsSl iE a (.tr ta)) (da : dig 65536 a) (la : a.length ≤ 10000) (hm : 0 < m) (hm2 : m ≤ 65536) (σ : Store) :
    ∃ out, callL T 69 [.tr ta, nv .i64 m] σ = some (.own σ.length 0 0 (a.length + 1) 1 (some (a.length + 1)), σ ++ [.row (cK .i64 out) 0]) ∧ dig 65536 out ∧ out.length = a.length + 1 ∧ val 65536 out = m * val 65536 a := by
  suffices hh : ∃ v σ', callL T 69 [.tr ta, nv .i64 m] σ = some (v, σ') ∧ ∃ out, v = .own σ.length 0 0 (a.length + 1) 1 (some (a.length + 1)) ∧ σ' = σ ++ [.row (cK .i64 out) 0] ∧ dig 65536 out ∧ out.length = a.length + 1 ∧ val 65536 out = m * val 65536 a by
    obtain ⟨v, σ', h1, out, rfl, rfl, h2⟩ := hh
    exact ⟨out, h1, h2⟩
  refine call_shared T69 rfl rfl ?_
  have hla : ∀ σ, opLen 1 (.tr ta) σ = some (nv .i64 a.length) := fun σ => isSl_len ha
  have hw : IntKind.i64.wrap ((a.length : Int) + 1) = ((a.length + 1 : Nat) : Int) := w64 (by omega) (by omega)
  have hmk := mk_own8 (σ := σ) (room_ok (n := a.length + 1) (b := 8) (by omega) (by omega))
  simp [hla, hw, hmk, -Int.natCast_add]
  obtain ⟨W, hW⟩ : ∃ W : V, W = .own σ.length 0 0 (a.length + 1) 1 (some (a.length + 1)) := ⟨_, rfl⟩
  rw [← hW]
  obtain ⟨I, hI⟩ : ∃ I : Nat → St → Prop, I = (fun i s => i ≤ a.length ∧ ∃ e L out c, s = ⟨e, L, σ ++ [.row (cK .i64 out) 0]⟩ ∧ look e 0 = some (.tr ta) ∧ look e 1 = some (nv .i64 m) ∧ look e 5 = some W ∧ look e 6 = some (nv .i64 c) ∧ look e 7 = some (nv .i64 i)
    ∧ c < m ∧ dig 65536 out ∧ out.length = a.length + 1 ∧ val 65536 (out.take i) + 65536 ^ i * c = m * val 65536 (a.take i)) := ⟨_, rfl⟩
  refine wpc_up a.length I ?_ ?_
  · rw [hI]
    exact ⟨Nat.zero_le _, _, _, List.replicate (a.length + 1) 0, 0, rfl, by simp, by simp, by simp, by simp, by simp, hm, dig_rep (by decide), by simp, by simp [val]⟩
  intro i s hIs
  rw [hI] at hIs
  obtain ⟨hi, e, L, out, c, rfl, h0, h1, h5, h6, h7, hc, hd, ho, hv⟩ := hIs
  have hs : (σ ++ [Ob.row (cK .i64 out) 0])[σ.length]? = some (.row (cK .i64 out) 0) := by simp
  by_cases hlt : i < a.length
  · have hxa : a[i]? = some a[i] := List.getElem?_eq_getElem hlt
    have ax : a[i] < 65536 := dig_at da hlt
    obtain ⟨x, hx⟩ : ∃ x, x = a[i] := ⟨_, rfl⟩
    rw [← hx] at hxa ax
    have hxm : x * m ≤ 65535 * m := Nat.mul_le_mul_right _ (by omega)
    obtain ⟨y, hy⟩ : ∃ y, y = x * m := ⟨_, rfl⟩
    rw [← hy] at hxm
    obtain ⟨s, hs3⟩ : ∃ s, s = c + y := ⟨_, rfl⟩
    have w1 : IntKind.i64.wrap ((x : Int) * m) = y := by rw [← Int.natCast_mul, ← hy, w64 (by omega) (by omega)]
    have w2 : IntKind.i64.wrap ((c : Int) + y) = s := by rw [w64 (by omega) (by omega)]; omega
    have w5 : IntKind.i64.wrap ((i : Int) + 1) = ((i + 1 : Nat) : Int) := w64 (by omega) (by omega)
    have hrm : opBin .other .rem (nv .i64 s) (.tr (.sc (.int .i64 65536))) = some (nv .i64 (s % 65536)) := rem_nn s 65536 (by omega)
    have hqu : opBin .other .quo (nv .i64 s) (.tr (.sc (.int .i64 65536))) = some (nv .i64 (s / 65536)) := quo_nn s 65536 (by omega) (by omega)
    have hia : opIaddr 1 W (nv .i64 i) (σ ++ [.row (cK .i64 out) 0]) = some (.ptr σ.length 0 (0 + i)) := by rw [hW]; exact own_iaddr hs (by omega)
    rw [Nat.zero_add] at hia
    have hst : ∀ y : Nat, opStore 1 (.ptr σ.length 0 i) (nv .i64 y) (σ ++ [.row (cK .i64 out) 0]) = some (σ ++ [.row (cK .i64 (out.set i y)) 0]) := fun y => by
      rw [own_store hs (by omega)]; simp
    have goal : val 65536 ((out.set i (s % 65536)).take (i + 1)) + 65536 ^ (i + 1) * (s / 65536) = m * val 65536 (a.take (i + 1)) := by
      have := val_step (B := 65536) (w := y) (show i < out.length by omega) hv
      rw [← hs3] at this
      rw [this, val_take_succ hlt, ← hx, Nat.mul_add, hy, Nat.mul_comm x m, Nat.mul_left_comm]
    clear hv
    simp [k69_4, h7, h0, hla, hlt, k69_6, h6, sl_iaddr ha hxa, sl_load hxa, h1, w1, w2, h5, hrm, hia, hst, hqu, w5, -Int.natCast_add, -Int.natCast_ediv, -Int.natCast_emod, -Int.natCast_mul]
    rw [hI]
    exact ⟨by omega, _, _, _, s / 65536, rfl, by simp [h0], by simp [h1], by simp [h5], by simp, by simp, by omega, dig_set_mod (by decide) hd, by simpa using ho, goal⟩
  · have hie : i = a.length := by omega
    subst hie
    rw [List.take_of_length_le (Nat.le_refl _)] at hv
    have hia : opIaddr 1 W (nv .i64 a.length) (σ ++ [.row (cK .i64 out) 0]) = some (.ptr σ.length 0 (0 + a.length)) := by rw [hW]; exact own_iaddr hs (by omega)
    rw [Nat.zero_add] at hia
    have hst : opStore 1 (.ptr σ.length 0 a.length) (nv .i64 c) (σ ++ [.row (cK .i64 out) 0]) = some (σ ++ [.row (cK .i64 (out.set a.length c)) 0]) := by
      rw [own_store hs (by omega)]; simp
    simp [k69_4, h7, h0, hla, k69_8, h5, h6, hia, hst, -Int.natCast_add]
    refine ⟨out.set a.length c, rfl, dig_set hd (by omega), by simpa using ho, ?_⟩
    have h2 := val_take_set (B := 65536) (x := c) (show a.length < out.length by omega)
    rw [List.take_of_length_le (by simp; omega)] at h2
    rw [h2, hv]

/-- A magnitude by one digit, and the rest. -/
def SmallR (N u m : Nat) (t : Tree) : Prop := ∃ tq, t = .tup [tq, .sc (.int .i64 ((u % m : Nat) : Int))] ∧ NatSl N (u / m) tq
theorem small_ok {a : List Nat} {ta : Tree} {m : Nat} (ha : IsSl iE a (.tr ta)) (da : dig 65536 a) (la : a.length ≤ 100000) (hm : 0 < m) (hm2 : m ≤ 65536) : ∃ t, (∀ σ, callL T 64 [.tr ta, nv .i64 m] σ = some (.tr t, σ)) ∧ SmallR a.length (val 65536 a) m t := by
  refine call_iso (ts := [ta, .sc (.int .i64 (m : Int))]) T64 rfl rfl ?_
  have hla : ∀ σ, opLen 1 (.tr ta) σ = some (nv .i64 a.length) := fun σ => isSl_len ha
  have hw : IntKind.i64.wrap ((a.length : Int) - 1) = (a.length : Int) - 1 := w64 (by omega) (by omega)
  have hmk := mk_own8 (σ := []) (room_ok (n := a.length) (b := 8) (by omega) (by omega))
  simp only [List.length_nil, List.nil_append] at hmk
  simp [hla, hw, hmk]
  obtain ⟨I, hI⟩ : ∃ I : Nat → St → Prop, I = (fun n s => n ≤ a.length ∧ ∃ e L q c, s = ⟨e, L, [.row (cK .i64 q) 0]⟩ ∧ look e 0 = some (.tr ta) ∧ look e 1 = some (nv .i64 m) ∧ look e 6 = some (.own 0 0 0 a.length 1 (some a.length)) ∧ look e 7 = some (nv .i64 c) ∧ look e 8 = some (iv ((n : Int) - 1))
    ∧ c < m ∧ dig 65536 q ∧ q.length = a.length ∧ val 65536 (q.drop n) * m + c = val 65536 (a.drop n)) := ⟨_, rfl⟩
  refine wpc_loop I a.length _ ?_ ?_
  · rw [hI]
    exact ⟨Nat.le_refl _, _, _, List.replicate a.length 0, 0, rfl, by simp, by simp, by simp, by simp, by simp, hm, dig_rep (by decide), by simp, by rw [List.drop_of_length_le (by simp), List.drop_of_length_le (Nat.le_refl _)]; simp [val]⟩
  intro n s hIs
  rw [hI] at hIs
  obtain ⟨hn, e, L, q, c, rfl, h0, h1, h6, h7, h8, hc, hd, hql, hv⟩ := hIs
  by_cases hp : 0 < n
  · obtain ⟨n, rfl⟩ : ∃ k, n = k + 1 := ⟨n - 1, by omega⟩
    have e1 : ((n + 1 : Nat) : Int) - 1 = (n : Int) := by omega
    rw [e1] at h8
    have hxa : a[n]? = some a[n] := List.getElem?_eq_getElem (by omega)
    have ax : a[n] < 65536 := dig_at da (by omega)
    obtain ⟨x, hx⟩ : ∃ x, x = a[n] := ⟨_, rfl⟩
    rw [← hx] at hxa ax
    obtain ⟨s, hs3⟩ : ∃ s, s = c * 65536 + x := ⟨_, rfl⟩
    have hsb : s < m * 65536 := by omega
    have hq : s / m < 65536 := by rw [Nat.div_lt_iff_lt_mul hm, Nat.mul_comm]; exact hsb
    have hdm2 := Nat.div_add_mod s m
    obtain ⟨sq, hsq⟩ : ∃ sq, sq = s / m := ⟨_, rfl⟩
    rw [← hsq] at hq hdm2
    have w1 : IntKind.i64.wrap ((c : Int) * 65536) = ((c * 65536 : Nat) : Int) := by rw [w64 (by omega) (by omega)]; omega
    have w2 : IntKind.i64.wrap (((c * 65536 : Nat) : Int) + x) = s := by rw [w64 (by omega) (by omega)]; omega
    have w4 : IntKind.i64.wrap ((n : Int) - 1) = (n : Int) - 1 := w64 (by omega) (by omega)
    have hqu := quo_nn s m (by omega) (by omega)
    rw [← hsq] at hqu
    have hre := rem_nn s m (by omega)
    have hia : opIaddr 1 (.own 0 0 0 a.length 1 (some a.length)) (nv .i64 n) [.row (cK .i64 q) 0] = some (.ptr 0 0 (0 + n)) := own_iaddr rfl (by omega)
    rw [Nat.zero_add] at hia
    have hst : ∀ y : Nat, opStore 1 (.ptr 0 0 n) (nv .i64 y) [.row (cK .i64 q) 0] = some [.row (cK .i64 (q.set n y)) 0] := fun y => own_store rfl (by omega)
    simp [k64_4, h8, k64_6, h7, w1, h0, sl_iaddr ha hxa, sl_load hxa, w2, h6, h1, hqu, hia, hst, hre, w4, -Int.natCast_ediv, -Int.natCast_emod, -Int.natCast_mul]
    refine ⟨n, by omega, ?_⟩
    rw [hI]
    refine ⟨by omega, _, _, q.set n sq, s % m, rfl, by simp [h0], by simp [h1], by simp [h6], by simp, by simp, Nat.mod_lt _ hm, dig_set hd hq, by simpa using hql, ?_⟩
    rw [List.drop_eq_getElem_cons (by simp; omega), List.drop_eq_getElem_cons (show n < a.length by omega), List.getElem_set_self, List.drop_set_of_lt (by omega)]
    simp only [val]
    rw [← hx, ← hv, Nat.add_mul]
    rw [Nat.mul_comm] at hdm2
    have e2 : 65536 * val 65536 (q.drop (n + 1)) * m = 65536 * (val 65536 (q.drop (n + 1)) * m) := Nat.mul_assoc _ _ _
    omega
  · obtain rfl : n = 0 := by omega
    rw [List.drop_zero, List.drop_zero] at hv
    have hr2 : c = val 65536 a % m := by rw [← hv, Nat.mul_comm, Nat.mul_add_mod_self_left, Nat.mod_eq_of_lt hc]
    have hq2 : val 65536 q = val 65536 a / m := by rw [← hv, Nat.mul_comm, Nat.mul_add_div hm, Nat.div_eq_of_lt hc, Nat.add_zero]
    obtain ⟨r, σ', ht, hr, hσ⟩ := rtrim_own (σ := [.row (cK .i64 q) 0]) (id := 0) (n := a.length) (cap := some a.length) rfl hql.symm hd (by omega)
    simp [k64_4, h8, k64_8, h6, ht, h7, mkTup]
    exact ⟨r, by rw [hr2], by rw [← hq2]; exact nat_le hr (by omega)⟩

theorem less_step {B i c c' g w x u V W U : Nat} (h : W + g * V = U + B ^ i * c) (hx : x + (c + g * w) = u + B * c') : (W + B ^ i * x) + g * (V + B ^ i * w) = (U + B ^ i * u) + B ^ (i + 1) * c' := by
  have e1 : B ^ i * (x + (c + g * w)) = B ^ i * (u + B * c') := by rw [hx]
  have e3 : B ^ i * (x + (c + g * w)) = B ^ i * x + (B ^ i * c + B ^ i * (g * w)) := by rw [Nat.mul_add, Nat.mul_add]
  have e4 : B ^ i * (u + B * c') = B ^ i * u + B ^ (i + 1) * c' := by rw [Nat.mul_add, Nat.pow_succ, Nat.mul_assoc]
  have e2 : g * (V + B ^ i * w) = g * V + B ^ i * (g * w) := by rw [Nat.mul_add, Nat.mul_left_comm]
  rw [e3, e4] at e1
  rw [e2]
  generalize B ^ i * x = q1 at *
  generalize B ^ i * c = q2 at *
  generalize B ^ i * (g * w) = q3 at *
  generalize B ^ i * u = q4 at *
  generalize B ^ (i + 1) * c' = q5 at *
  generalize g * V = q6 at *
  omega

/-- A row's cells, copied over another row's. -/
theorem copy_own {σ : Store} {k : IntKind} {id jd n m off : Nat} {c1 c2 : Option Nat} {pre P W : List Nat} (hs : σ[id]? = some (.row (cK k (pre ++ P)) 0)) (hw : σ[jd]? = some (.row (cK k W) 0)) (hp : pre.length = off) (hW : W.length = n) (hn : n ≤ m) (hm : m ≤ P.length) (h0 : 0 < n) :
    opCopy 1 (.own id 0 off m 1 c1) (.own jd 0 0 n 1 c2) σ = some (int .i64 (n : Int), σ.set id (.row (cK k (pre ++ (W ++ P.drop n))) 0)) := by
  have he : elems σ 1 (.own jd 0 0 n 1 c2) = some (cK k W, n) := by
    simp only [elems, obCells, hw, if_true, slice?, Nat.mul_one, List.drop_zero]
    have : (cK k W).length = n := by simp [cK, hW]
    rw [List.take_of_length_le (by omega), if_pos this]
  have hmin : Nat.min n m = n := Nat.min_eq_left hn
  have hl : (cK k W).length = n := by simp [cK, hW]
  have hp2 : obPut σ id 0 off (cK k W) = some (σ.set id (.row (cK k (pre ++ (W ++ P.drop n))) 0)) := by
    unfold obPut
    rw [hs]
    simp only []
    rw [if_pos ⟨trivial, by simp [cK]; omega, by simp [cK, oneV]⟩]
    congr 3
    unfold splice
    rw [hl]
    simp [cK, ← hp, List.drop_append]
  unfold opCopy
  rw [he]
  simp only [ne_eq, not_true_eq_false, if_false, hmin, Nat.mul_one]
  rw [if_neg (by omega), List.take_of_length_le (by omega), hp2]

/-- Less a product, if it is not below that. -/
theorem less_ok {pre P v Wl : List Nat} {tv : Tree} {X1 X2 : Ob} {n nu nw k g : Nat} (hv : IsSl iE v (.tr tv)) (dv : dig 65536 v) (hvn : v.length = n) (hpre : pre.length = k) (hnu : nu = k + P.length) (hP : n + 1 ≤ P.length) (dP : dig 65536 P) (dW : dig 65536 Wl) (hW : Wl.length = n + 1) (hg : g < 65536) (hl : nu ≤ 10001) :
    ∃ W', dig 65536 W' ∧ W'.length = n + 1 ∧ ((callL T 70 [.own 0 0 0 nu 1 (some nu), .tr tv, .own 3 0 0 (n + 1) 1 (some (n + 1)), nv .i64 k, nv .i64 g] [.row (cK .i64 (pre ++ P)) 0, X1, X2, .row (cK .i64 Wl) 0] = some (bv false, [.row (cK .i64 (pre ++ P)) 0, X1, X2, .row (cK .i64 W') 0]) ∧ val 65536 (P.take (n + 1)) < g * val 65536 v) ∨
      (callL T 70 [.own 0 0 0 nu 1 (some nu), .tr tv, .own 3 0 0 (n + 1) 1 (some (n + 1)), nv .i64 k, nv .i64 g] [.row (cK .i64 (pre ++ P)) 0, X1, X2, .row (cK .i64 Wl) 0] = some (bv true, [.row (cK .i64 (pre ++ (W' ++ P.drop (n + 1)))) 0, X1, X2, .row (cK .i64 W') 0]) ∧ val 65536 W' + g * val 65536 v = val 65536 (P.take (n + 1)))) := by
  suffices hh : ∃ r σ', callL T 70 [.own 0 0 0 nu 1 (some nu), .tr tv, .own 3 0 0 (n + 1) 1 (some (n + 1)), nv .i64 k, nv .i64 g] [.row (cK .i64 (pre ++ P)) 0, X1, X2, .row (cK .i64 Wl) 0] = some (r, σ') ∧ ∃ W', dig 65536 W' ∧ W'.length = n + 1 ∧ ((r = bv false ∧ σ' = [.row (cK .i64 (pre ++ P)) 0, X1, X2, .row (cK .i64 W') 0] ∧ val 65536 (P.take (n + 1)) < g * val 65536 v) ∨
      (r = bv true ∧ σ' = [.row (cK .i64 (pre ++ (W' ++ P.drop (n + 1)))) 0, X1, X2, .row (cK .i64 W') 0] ∧ val 65536 W' + g * val 65536 v = val 65536 (P.take (n + 1)))) by
    obtain ⟨r, σ', h1, W', h2, h3, ⟨rfl, rfl, h4⟩ | ⟨rfl, rfl, h4⟩⟩ := hh
    · exact ⟨W', h2, h3, .inl ⟨h1, h4⟩⟩
    · exact ⟨W', h2, h3, .inr ⟨h1, h4⟩⟩
  refine call_shared T70 rfl rfl ?_
  have hlv : ∀ σ, opLen 1 (.tr tv) σ = some (nv .i64 n) := fun σ => by rw [← hvn]; exact isSl_len hv
  simp [hlv]
  obtain ⟨I, hI⟩ : ∃ I : Nat → St → Prop, I = (fun i s => i ≤ n + 1 ∧ ∃ e L W' c, s = ⟨e, L, [.row (cK .i64 (pre ++ P)) 0, X1, X2, .row (cK .i64 W') 0]⟩ ∧ look e 0 = some (.own 0 0 0 nu 1 (some nu)) ∧ look e 1 = some (.tr tv) ∧ look e 2 = some (.own 3 0 0 (n + 1) 1 (some (n + 1))) ∧ look e 3 = some (nv .i64 k) ∧ look e 4 = some (nv .i64 g)
    ∧ look e 11 = some (nv .i64 n) ∧ look e 12 = some (nv .i64 c) ∧ look e 13 = some (nv .i64 i) ∧ c ≤ 65536 ∧ dig 65536 W' ∧ W'.length = n + 1 ∧ val 65536 (W'.take i) + g * val 65536 (v.take i) = val 65536 (P.take i) + 65536 ^ i * c) := ⟨_, rfl⟩
  refine wpc_up (n + 1) I ?_ ?_
  · rw [hI]
    exact ⟨Nat.zero_le _, _, _, Wl, 0, rfl, by simp, by simp, by simp, by simp, by simp, by simp, by simp, by simp, by omega, dW, hW, by simp [val]⟩
  intro i s hIs
  rw [hI] at hIs
  obtain ⟨hi, e, L, W', c, rfl, h0, h1, h2, h3, h4, h11, h12, h13, hc, dW', hWl', hvi⟩ := hIs
  by_cases hlt : i < n + 1
  · have hle : (i : Int) ≤ n := by omega
    have hxp : P[i]? = some P[i] := List.getElem?_eq_getElem (by omega)
    have px : P[i] < 65536 := dig_at dP (by omega)
    obtain ⟨u, hu⟩ : ∃ u, u = P[i] := ⟨_, rfl⟩
    rw [← hu] at hxp px
    have vx : at0 v i < 65536 := at0_dig (by decide) dv i
    obtain ⟨w, hw⟩ : ∃ w, w = at0 v i := ⟨_, rfl⟩
    rw [← hw] at vx
    have hwg : w * g ≤ 65535 * 65535 := Nat.mul_le_mul (by omega) (by omega)
    obtain ⟨m, hm⟩ : ∃ m, m = w * g := ⟨_, rfl⟩
    rw [← hm] at hwg
    obtain ⟨c1, hc1⟩ : ∃ c1, c1 = c + m := ⟨_, rfl⟩
    have w1 : IntKind.i64.wrap ((w : Int) * g) = m := by rw [← Int.natCast_mul, ← hm, w64 (by omega) (by omega)]
    have w2 : IntKind.i64.wrap ((c : Int) + m) = c1 := by rw [w64 (by omega) (by omega)]; omega
    have w3 : IntKind.i64.wrap ((k : Int) + i) = ((k + i : Nat) : Int) := by rw [w64 (by omega) (by omega)]; omega
    have w5 : IntKind.i64.wrap ((i : Int) + 1) = ((i + 1 : Nat) : Int) := w64 (by omega) (by omega)
    have hrm : opBin .other .rem (nv .i64 c1) (.tr (.sc (.int .i64 65536))) = some (nv .i64 (c1 % 65536)) := rem_nn c1 65536 (by omega)
    have hqu : opBin .other .quo (nv .i64 c1) (.tr (.sc (.int .i64 65536))) = some (nv .i64 (c1 / 65536)) := quo_nn c1 65536 (by omega) (by omega)
    obtain ⟨lo, hlo⟩ : ∃ lo, lo = c1 % 65536 := ⟨_, rfl⟩
    obtain ⟨hi2, hhi⟩ : ∃ hi2, hi2 = c1 / 65536 := ⟨_, rfl⟩
    rw [← hlo] at hrm
    rw [← hhi] at hqu
    have hia : opIaddr 1 (.own 0 0 0 nu 1 (some nu)) (nv .i64 (k + i)) [.row (cK .i64 (pre ++ P)) 0, X1, X2, .row (cK .i64 W') 0] = some (.ptr 0 0 (0 + (k + i))) := own_iaddr rfl (by omega)
    rw [Nat.zero_add] at hia
    have hld : opLoad 1 false (.ptr 0 0 (k + i)) [.row (cK .i64 (pre ++ P)) 0, X1, X2, .row (cK .i64 W') 0] = some (nv .i64 u) := own_load rfl (by rw [← hpre, at_app]; exact hxp)
    have hia3 : opIaddr 1 (.own 3 0 0 (n + 1) 1 (some (n + 1))) (nv .i64 i) [.row (cK .i64 (pre ++ P)) 0, X1, X2, .row (cK .i64 W') 0] = some (.ptr 3 0 (0 + i)) := own_iaddr rfl hlt
    rw [Nat.zero_add] at hia3
    have hst : ∀ y : Nat, opStore 1 (.ptr 3 0 i) (nv .i64 y) [.row (cK .i64 (pre ++ P)) 0, X1, X2, .row (cK .i64 W') 0] = some [.row (cK .i64 (pre ++ P)) 0, X1, X2, .row (cK .i64 (W'.set i y)) 0] := fun y => own_store rfl (by omega)
    have w6 : IntKind.i64.wrap ((u : Int) - lo) = (u : Int) - lo := w64 (by omega) (by omega)
    have goal : ∀ x c' : Nat, x + c1 = u + 65536 * c' → val 65536 ((W'.set i x).take (i + 1)) + g * val 65536 (v.take (i + 1)) = val 65536 (P.take (i + 1)) + 65536 ^ (i + 1) * c' := by
      intro x c' hxc
      rw [val_take_set (by omega), val_take_at0 _ i v, ← hw, val_take_succ (show i < P.length by omega), ← hu]
      refine less_step hvi ?_
      rw [Nat.mul_comm g w, ← hm]
      omega
    clear hvi
    have stepc : ∀ (e' : List (Nat × V)) (L' : List (Nat × V)), look e' 0 = some (.own 0 0 0 nu 1 (some nu)) → look e' 1 = some (.tr tv) → look e' 2 = some (.own 3 0 0 (n + 1) 1 (some (n + 1))) → look e' 3 = some (nv .i64 k) → look e' 4 = some (nv .i64 g) → look e' 11 = some (nv .i64 n) → look e' 12 = some (nv .i64 c1) → look e' 13 = some (nv .i64 i) →
        wpc T k70_8 ⟨e', L', [.row (cK .i64 (pre ++ P)) 0, X1, X2, .row (cK .i64 W') 0]⟩ (blk 1 (AM.sq T k70_14 (thenN (fun s' => i < n + 1 ∧ I (i + 1) s') (blk 0 (AM.sq T k70_15 (giv [.tmp 10] fun r σ' => ∃ W', dig 65536 W' ∧ W'.length = n + 1 ∧ ((r = bv false ∧ σ' = [.row (cK .i64 (pre ++ P)) 0, X1, X2, .row (cK .i64 W') 0] ∧ val 65536 (P.take (n + 1)) < g * val 65536 v) ∨
      (r = bv true ∧ σ' = [.row (cK .i64 (pre ++ (W' ++ P.drop (n + 1)))) 0, X1, X2, .row (cK .i64 W') 0] ∧ val 65536 W' + g * val 65536 v = val 65536 (P.take (n + 1)))))))))) := by
      intro e' L' h0 h1 h2 h3 h4 h11 h12 h13
      by_cases hneg : (u : Int) - lo < 0
      · obtain ⟨x, hx⟩ : ∃ x : Nat, (x : Int) = (u : Int) - lo + 65536 := ⟨((u : Int) - lo + 65536).toNat, by omega⟩
        have w7 : IntKind.i64.wrap ((u : Int) - lo + 65536) = x := by rw [w64 (by omega) (by omega)]; omega
        have w8 : IntKind.i64.wrap ((hi2 : Int) + 1) = ((hi2 + 1 : Nat) : Int) := w64 (by omega) (by omega)
        simp [k70_8, h0, h3, h13, w3, hia, hld, h12, hrm, w6, hqu, hneg, w7, w8, k70_13, h2, hia3, hst, k70_14, w5, hlt, -Int.natCast_add]
        rw [hI]
        exact ⟨by omega, _, _, W'.set i x, hi2 + 1, rfl, by simp [h0], by simp [h1], by simp [h2], by simp [h3], by simp [h4], by simp [h11], by simp, by simp, by omega, dig_set dW' (by omega), by simpa using hWl', goal x (hi2 + 1) (by omega)⟩
      · obtain ⟨x, hx⟩ : ∃ x : Nat, (u : Int) - lo = x := ⟨((u : Int) - lo).toNat, by omega⟩
        rw [hx] at w6 hneg
        simp [k70_8, h0, h3, h13, w3, hia, hld, h12, hrm, w6, hx, hneg, hqu, k70_13, h2, hia3, hst, k70_14, w5, hlt, -Int.natCast_add]
        rw [hI]
        exact ⟨by omega, _, _, W'.set i x, hi2, rfl, by simp [h0], by simp [h1], by simp [h2], by simp [h3], by simp [h4], by simp [h11], by simp, by simp, by omega, dig_set dW' (by omega), by simpa using hWl', goal x hi2 (by omega)⟩
    by_cases hin : i < n
    · have hxv : v[i]? = some w := by rw [hw, at0_lt (by omega)]; exact List.getElem?_eq_getElem (by omega)
      simp [k70_4, h13, h11, hle, k70_6, hin, h12, h1, sl_iaddr hv hxv, sl_load hxv, h4, w1, w2, -Int.natCast_add, -Int.natCast_mul]
      exact stepc _ _ (by simp [h0]) (by simp [h1]) (by simp [h2]) (by simp [h3]) (by simp [h4]) (by simp [h11]) (by simp) (by simp [h13])
    · have hw0 : w = 0 := by rw [hw]; exact at0_ge (by omega)
      have hm0 : m = 0 := by rw [hm, hw0, Nat.zero_mul]
      have e1 : c1 = c := by omega
      simp [k70_4, h13, h11, hle, k70_6, hin]
      exact stepc _ _ (by simp [h0]) (by simp [h1]) (by simp [h2]) (by simp [h3]) (by simp [h4]) (by simp [h11]) (by rw [e1]; simp [h12]) (by simp [h13])
  · have hie : i = n + 1 := by omega
    subst hie
    have hle : ¬ ((n + 1 : Nat) : Int) ≤ n := by omega
    rw [List.take_of_length_le (show W'.length ≤ n + 1 by omega), List.take_of_length_le (show v.length ≤ n + 1 by omega)] at hvi
    have hWlt := val_lt dW'
    rw [hWl'] at hWlt
    by_cases hc0 : c = 0
    · subst hc0
      have hsl : opSlice 1 (.own 0 0 0 nu 1 (some nu)) (some (nv .i64 k)) none none [.row (cK .i64 (pre ++ P)) 0, X1, X2, .row (cK .i64 W') 0] = some (.own 0 0 k (nu - k) 1 (cutCap (some nu) none k)) := by
        unfold opSlice
        simp only [optIdx, asIdx_nat, Option.isSome_none, Bool.false_and, Bool.false_eq_true, if_false, Option.getD_some, Option.getD_none, ne_eq, not_true_eq_false, obCells, List.getElem?_cons_zero, if_true]
        rw [if_pos ⟨by omega, Nat.le_refl _, .inl (Nat.le_refl _)⟩]
        simp
      have hcp : opCopy 1 (.own 0 0 k (nu - k) 1 (cutCap (some nu) none k)) (.own 3 0 0 (n + 1) 1 (some (n + 1))) [.row (cK .i64 (pre ++ P)) 0, X1, X2, .row (cK .i64 W') 0] = some (int .i64 ((n + 1 : Nat) : Int), [.row (cK .i64 (pre ++ (W' ++ P.drop (n + 1)))) 0, X1, X2, .row (cK .i64 W') 0]) := by
        exact copy_own rfl rfl hpre hWl' (by omega) (by omega) (by omega)
      simp [k70_4, h13, h11, hle, k70_15, h12, k70_18, h0, h3, hsl, h2, hcp, -Int.natCast_add]
      refine ⟨W', dW', hWl', ⟨rfl, rfl⟩, ?_⟩
      omega
    · simp [k70_4, h13, h11, hle, k70_15, h12, hc0, -Int.natCast_add]
      refine ⟨W', dW', hWl', rfl, ?_⟩
      have : 65536 ^ (n + 1) * 1 ≤ 65536 ^ (n + 1) * c := Nat.mul_le_mul_left _ (Nat.pos_of_ne_zero hc0)
      omega
end Go.Proofs.Ytjacddclpcelmaa.AM.Bi
