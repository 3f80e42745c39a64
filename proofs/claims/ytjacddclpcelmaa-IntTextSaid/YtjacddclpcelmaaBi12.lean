/- IntText: part 12. -/
import Derived.Test.YtjacddclpcelmaaBi11
set_option maxRecDepth 1000000
set_option linter.unusedVariables false
set_option linter.unusedSimpArgs false
namespace Go.Proofs.Ytjacddclpcelmaa.AM.Bi
open Go.Proofs

theorem pow_16 (i : Nat) : (65536 : Nat) ^ (2 * i) = 4294967296 ^ i := by rw [Nat.pow_mul]
/-- The digits of a slice that grows. -/
def Grown (k : IntKind) (S0 : Ob) (l : List Nat) (w : V) (σ : Store) : Prop := (l = [] ∧ w = .tr (.sc (.slice none 0 0)) ∧ σ = [S0]) ∨ ∃ g, l ≠ [] ∧ w = .own 1 g 0 l.length 1 none ∧ σ = [S0, .row (cK k l) g]
theorem grown_app {k : IntKind} {S0 : Ob} {l m : List Nat} {w : V} {σ : Store} {b : Nat} (h : Grown k S0 l w σ) (hb : b ≤ 8) (hm : m ≠ []) (hl : l.length ≤ 1000000) (hl2 : m.length ≤ 1000000) (c : Option Nat) :
    ∃ w' σ', opAppend 1 b w (.tr (.row (m.flatMap (nE k)) m.length c)) σ = some (w', σ') ∧ Grown k S0 (l ++ m) w' σ' := by
  have hs : IsSl (nE k) m (.tr (.row (m.flatMap (nE k)) m.length c)) := .inr ⟨c, rfl⟩
  have hp := List.length_pos_iff.2 hm
  rcases h with ⟨rfl, rfl, rfl⟩ | ⟨g, h0, rfl, rfl⟩
  · exact ⟨_, _, app_nil hs hp (room_ok hl2 hb), .inr ⟨0, by simpa using hm, by simp, by simp⟩⟩
  · exact ⟨_, _, app_own rfl rfl hs hp (room_ok hl2 hb) (room_ok hl hb), .inr ⟨g + 1, by simp [h0], by simp, by simp⟩⟩
theorem grown_head {k : IntKind} {S0 : Ob} {l : List Nat} {w : V} {σ : Store} (h : Grown k S0 l w σ) : ∃ r, σ = S0 :: r := by
  rcases h with ⟨_, _, rfl⟩ | ⟨g, _, _, rfl⟩ <;> exact ⟨_, rfl⟩

theorem from_ok {x : Bool} {a : List Nat} {ta : Tree} (ha : IsBig x a ta) (la : a.length ≤ 10000) :
    ∃ r, (∀ σ, callL T 12 [.tr ta] σ = some (.tr r, σ)) ∧ RInt (2 * a.length) (ival x a) r := by
  refine call_iso (ts := [ta]) T12 rfl rfl ?_
  have da := ha.dg
  obtain ⟨sa, rfl, ia⟩ := ha.ex
  have hla : ∀ σ, opLen 1 (.tr sa) σ = some (nv .i64 a.length) := fun σ => isSl_len ia
  obtain ⟨S0, hS0⟩ : ∃ S0 : Ob, S0 = .row [.tr (.sc (.bool false)), .tr (.sc (.slice none 0 0))] 0 := ⟨_, rfl⟩
  simp [← hS0]
  obtain ⟨I, hI⟩ : ∃ I : Nat → St → Prop, I = (fun i s => i ≤ a.length ∧ ∃ e L σ w d, s = ⟨e, L, σ⟩ ∧ Grown .i64 S0 d w σ ∧ look e 1 = some (.tr (.rptr [.sc (.bool x), sa] 0)) ∧ look e 2 = some (.ptr 0 0 0) ∧ look e 3 = some w ∧ look e 4 = some (nv .i64 i)
    ∧ dig 65536 d ∧ d.length = 2 * i ∧ val 65536 d = val 4294967296 (a.take i)) := ⟨_, rfl⟩
  refine wpc_up a.length I ?_ ?_
  · rw [hI]
    exact ⟨Nat.zero_le _, _, _, _, _, [], rfl, .inl ⟨rfl, rfl, rfl⟩, by simp, by simp, by simp, by simp, dig_nil _, by simp, by simp [val]⟩
  intro i s hIs
  rw [hI] at hIs
  obtain ⟨hi, e, L, σ, w, d, rfl, hg, h1, h2, h3, h4, hd, hdl, hv⟩ := hIs
  by_cases hlt : i < a.length
  · have hxa : a[i]? = some a[i] := List.getElem?_eq_getElem hlt
    have ax : a[i] < 4294967296 := dig_at da hlt
    obtain ⟨p, hp⟩ : ∃ p, p = a[i] := ⟨_, rfl⟩
    rw [← hp] at hxa ax
    have w1 : IntKind.i64.wrap (p : Int) = p := w64 (by omega) (by omega)
    have hrm : opBin .other .rem (nv .i64 p) (.tr (.sc (.int .i64 65536))) = some (nv .i64 (p % 65536)) := rem_nn p 65536 (by omega)
    have hqu : opBin .other .quo (nv .i64 p) (.tr (.sc (.int .i64 65536))) = some (nv .i64 (p / 65536)) := quo_nn p 65536 (by omega) (by omega)
    have w5 : IntKind.i64.wrap ((i : Int) + 1) = ((i + 1 : Nat) : Int) := w64 (by omega) (by omega)
    have hbs : ∀ σ, opBslice false 2 1 [.sc (.int .i64 0)] [(0, 1, nv .i64 (p % 65536)), (1, 1, nv .i64 (p / 65536))] σ = some (.tr (.row ([p % 65536, p / 65536].flatMap iE) 2 (some 2)), σ) := fun σ => rfl
    obtain ⟨w', σ', happ, hg'⟩ := grown_app (m := [p % 65536, p / 65536]) (b := 8) hg (by omega) (by simp) (by omega) (by simp) (some 2)
    simp only [List.length_cons, List.length_nil, Nat.zero_add] at happ
    simp [k12_3, h1, h4, hla, hlt, k12_5, h3, sl_iaddr ia hxa, sl_load hxa, w1, hrm, hqu, hbs, happ, w5, -Int.natCast_add, -Int.natCast_emod, -Int.natCast_ediv, -List.flatMap_cons, -List.flatMap_nil]
    rw [hI]
    refine ⟨by omega, _, _, _, w', _, rfl, hg', by simp [h1], by simp [h2], by simp, by simp, ?_, ?_, ?_⟩
    · rw [dig_append]
      refine ⟨hd, ?_⟩
      intro y hy
      simp at hy
      rcases hy with rfl | rfl <;> omega
    · simp [hdl]; omega
    · rw [val_append, hv, hdl, pow_16, val_take_succ hlt, ← hp]
      simp only [val, Nat.mul_zero, Nat.add_zero]
      rw [Nat.mod_add_div]
  · have hie : i = a.length := by omega
    subst hie
    rw [List.take_of_length_le (Nat.le_refl _)] at hv
    have hz : (ival x a).natAbs = val 65536 d := by
      rw [hv]; unfold ival; cases x <;> simp
    have key : ∃ r s', callL T 39 [w] σ = some (.tr r, S0 :: s') ∧ NatSl (2 * a.length) (val 65536 d) r := by
      rcases hg with ⟨rfl, rfl, rfl⟩ | ⟨g, h0, rfl, rfl⟩
      · obtain ⟨r, hc, hr⟩ := rtrim_ok (l := []) (.inl ⟨rfl, rfl⟩) (dig_nil _) (by simp)
        exact ⟨r, [], hc _, nat_le hr (by simp)⟩
      · obtain ⟨r, σ', hc, hr, hσ⟩ := rtrim_own (σ := [S0, .row (cK .i64 d) g]) (id := 1) (cap := none) rfl rfl hd (by omega)
        rcases hσ with rfl | rfl
        · exact ⟨r, _, hc, nat_le hr (by omega)⟩
        · exact ⟨r, _, hc, nat_le hr (by omega)⟩
    obtain ⟨r, s', hc, hr⟩ := key
    obtain ⟨k, hl, hk, hkN⟩ := nat_len hr
    have h1r := nat_one hr
    have hdec : decide (ival x a < 0) = (x && decide (0 < k)) := by
      rw [Bool.eq_iff_iff]
      simp only [decide_eq_true_eq, Bool.and_eq_true, hk, ival_neg_iff, hv]
    cases x with
    | false =>
      simp at hdec
      simp [k12_3, h1, h4, hla, k12_6, h3, hc, hl, h1r, cells_one h1r, h2, hS0, opStore, obPut, opLoad, obCells, slice?, splice_all]
      exact ⟨r, by simp [hdec], by rw [hz]; exact hr⟩
    | true =>
      have hd2 : decide (0 < k) = decide (ival true a < 0) := by rw [hdec]; simp
      simp [k12_3, h1, h4, hla, k12_6, h3, hc, hl, h1r, cells_one h1r, h2, hS0, opStore, obPut, opLoad, obCells, slice?, splice_all]
      refine ⟨r, by rw [hd2], by rw [hz]; exact hr⟩

theorem can_of_ge {B : Nat} {l : List Nat} (hd : dig B l) (h : l ≠ [] → B ^ (l.length - 1) ≤ val B l) : can l := by
  unfold can
  intro hl
  cases hn : l.length with
  | zero => rw [List.length_eq_zero_iff.1 hn] at hl; simp at hl
  | succ n =>
    have hlt : n < l.length := by omega
    have h0 : l ≠ [] := by intro h0; rw [h0] at hn; simp at hn
    have h1 := h h0
    rw [List.getLast?_eq_getElem?, hn] at hl
    simp only [Nat.add_sub_cancel] at hl
    rw [List.getElem?_eq_getElem hlt] at hl
    have hz : l[n] = 0 := Option.some.inj hl
    have h2 := val_take_succ (B := B) hlt
    rw [List.take_of_length_le (by omega), hz, Nat.mul_zero, Nat.add_zero] at h2
    have h3 := val_lt (dig_take (n := n) hd)
    rw [List.length_take, Nat.min_eq_left (by omega), ← h2] at h3
    rw [hn] at h1
    simp only [Nat.add_sub_cancel] at h1
    omega

theorem to_ok {N : Nat} {z : Int} {ta : Tree} (ha : RInt N z ta) (la : N ≤ 10000) :
    ∃ r, (∀ σ, callL T 40 [.tr ta] σ = some (.tr r, σ)) ∧ IsNum N z r := by
  obtain ⟨sa, rfl, na⟩ := ha
  have nal := nat_len na
  obtain ⟨a, ia, da, ca, hz, hN⟩ := na
  refine call_iso (ts := [.agg [.sc (.bool (decide (z < 0))), sa]]) T40 rfl rfl ?_
  have hla : ∀ σ, opLen 1 (.tr sa) σ = some (nv .i64 a.length) := fun σ => isSl_len ia
  obtain ⟨S0, hS0⟩ : ∃ S0 : Ob, S0 = .row [.tr (.sc (.bool false)), .tr (.sc (.slice none 0 0))] 0 := ⟨_, rfl⟩
  simp [← hS0]
  obtain ⟨I, hI⟩ : ∃ I : Nat → St → Prop, I = (fun i s => 2 * i ≤ a.length + 1 ∧ ∃ e L σ w d, s = ⟨e, L, σ⟩ ∧ Grown .u32 S0 d w σ ∧ look e 1 = some (.tr (.rptr [.sc (.bool (decide (z < 0))), sa] 0)) ∧ look e 2 = some (.ptr 0 0 0) ∧ look e 3 = some w ∧ look e 4 = some (nv .i64 (2 * i))
    ∧ dig 4294967296 d ∧ d.length = i ∧ val 4294967296 d = val 65536 (a.take (2 * i))) := ⟨_, rfl⟩
  refine wpc_up (a.length + 1) I ?_ ?_
  · rw [hI]
    exact ⟨Nat.zero_le _, _, _, _, _, [], rfl, .inl ⟨rfl, rfl, rfl⟩, by simp, by simp, by simp, by simp, dig_nil _, by simp, by simp [val]⟩
  intro i s hIs
  rw [hI] at hIs
  obtain ⟨hi, e, L, σ, w, d, rfl, hg, h1, h2, h3, h4, hd, hdl, hv⟩ := hIs
  by_cases hlt : 2 * i < a.length
  · have hxa : a[2 * i]? = some a[2 * i] := List.getElem?_eq_getElem hlt
    have ax : a[2 * i] < 65536 := dig_at da hlt
    obtain ⟨p, hp⟩ : ∃ p, p = a[2 * i] := ⟨_, rfl⟩
    rw [← hp] at hxa ax
    have bx : at0 a (2 * i + 1) < 65536 := at0_dig (by decide) da _
    obtain ⟨q, hq⟩ : ∃ q, q = at0 a (2 * i + 1) := ⟨_, rfl⟩
    rw [← hq] at bx
    obtain ⟨y, hy⟩ : ∃ y, y = p + 65536 * q := ⟨_, rfl⟩
    have hlt' : (2 * i : Int) < a.length := by omega
    have w1 : IntKind.i64.wrap (((2 * i : Nat) : Int) + 1) = ((2 * i + 1 : Nat) : Int) := w64 (by omega) (by omega)
    have w2 : IntKind.i64.wrap (65536 * (q : Int)) = ((65536 * q : Nat) : Int) := by rw [w64 (by omega) (by omega)]; omega
    have w3 : IntKind.i64.wrap ((p : Int) + ((65536 * q : Nat) : Int)) = (y : Int) := by rw [w64 (by omega) (by omega)]; omega
    have w4 : IntKind.u32.wrap (y : Int) = (y : Int) := wu32 (by omega) (by omega)
    have w5 : IntKind.i64.wrap (((2 * i : Nat) : Int) + 2) = ((2 * (i + 1) : Nat) : Int) := w64 (by omega) (by omega)
    have hbs : ∀ σ, opBslice false 1 1 [.sc (.int .u32 0)] [(0, 1, nv .u32 y)] σ = some (.tr (.row ([y].flatMap uE) 1 (some 1)), σ) := fun σ => rfl
    obtain ⟨w', σ', happ, hg'⟩ := grown_app (m := [y]) (b := 4) hg (by omega) (by simp) (by omega) (by simp) (some 1)
    simp only [List.length_cons, List.length_nil, Nat.zero_add] at happ
    have fin : I (i + 1) ⟨e, L, σ⟩ → True := fun _ => trivial
    have hval : val 4294967296 (d ++ [y]) = val 65536 (a.take (2 * (i + 1))) := by
      rw [val_append, hv, hdl, ← pow_16, show 2 * (i + 1) = 2 * i + 1 + 1 by omega, val_take_at0 _ (2 * i + 1), val_take_at0 _ (2 * i), at0_lt hlt, ← hp, ← hq, hy]
      simp only [val, Nat.mul_zero, Nat.add_zero]
      rw [Nat.pow_succ, Nat.mul_add, Nat.mul_assoc, Nat.add_assoc]
    have hdd : dig 4294967296 (d ++ [y]) := by
      rw [dig_append]
      refine ⟨hd, ?_⟩
      intro u hu
      simp at hu
      omega
    by_cases h1' : 2 * i + 1 < a.length
    · have hxb : a[2 * i + 1]? = some a[2 * i + 1] := List.getElem?_eq_getElem h1'
      rw [at0_lt h1'] at hq
      rw [← hq] at hxb
      simp [k40_3, h1, h4, hla, hlt, k40_5, sl_iaddr ia hxa, sl_load hxa, w1, h1', sl_iaddr ia hxb, sl_load hxb, w2, w3, k40_8, h3, w4, hbs, happ, k40_9, w5, -Int.natCast_add, -Int.natCast_mul, -List.flatMap_cons, -List.flatMap_nil]
      rw [hI]
      exact ⟨by omega, by omega, _, _, _, w', _, rfl, hg', by simp [h1], by simp [h2], by simp, by simp, hdd, by simp [hdl], hval⟩
    · rw [at0_ge (by omega)] at hq
      have e1 : p = y := by omega
      rw [e1] at hxa
      simp [k40_3, h1, h4, hla, hlt, k40_5, sl_iaddr ia hxa, sl_load hxa, w1, h1', k40_8, h3, w4, hbs, happ, k40_9, w5, -Int.natCast_add, -Int.natCast_mul, -List.flatMap_cons, -List.flatMap_nil]
      rw [hI]
      exact ⟨by omega, by omega, _, _, _, w', _, rfl, hg', by simp [h1], by simp [h2], by simp, by simp, hdd, by simp [hdl], hval⟩
  · rw [List.take_of_length_le (by omega)] at hv
    obtain ⟨k, hl, hk, hkN⟩ := nal
    have hka : k = a.length := by
      have := (hl []).symm.trans (hla [])
      simpa using this
    have hcan : can d := by
      refine can_of_ge hd fun h0 => ?_
      have hp := List.length_pos_iff.2 h0
      rw [hv, ← pow_16]
      have ha0 : a ≠ [] := by
        intro h0
        have : a.length = 0 := by rw [h0]; rfl
        omega
      have := can_ge (B := 65536) (by decide) ca ha0
      have h2 : 65536 ^ (2 * (d.length - 1)) ≤ 65536 ^ (a.length - 1) := Nat.pow_le_pow_right (by decide) (by omega)
      omega
    have hlt' : ¬ (2 * (i : Int)) < a.length := by omega
    have hval : val 4294967296 d = z.natAbs := by rw [hv, hz]
    have key : ∀ t, IsSl uE d (.tr t) → IsNum N z (.agg [.sc (.bool (decide (z < 0))), t]) := by
      intro t ht
      refine ⟨decide (z < 0), d, ⟨⟨t, rfl, ht⟩, hd⟩, hcan, ?_, ?_, by omega⟩
      · intro hneg h0
        rw [h0] at hval
        simp [val] at hval
        simp at hneg
        omega
      · unfold ival
        rw [hval]
        by_cases hneg : z < 0 <;> simp [hneg] <;> omega
    have hdec : decide (z < 0) = (decide (z < 0) && decide (0 < a.length)) := by
      rw [Bool.eq_iff_iff]
      simp only [Bool.and_eq_true, decide_eq_true_eq, ← hka, hk]
      omega
    obtain ⟨neg, hneg⟩ : ∃ neg, neg = decide (z < 0) := ⟨_, rfl⟩
    rw [← hneg] at hdec key h1
    rcases hg with ⟨h0, rfl, rfl⟩ | ⟨g, h0, rfl, rfl⟩
    · have key := key _ (.inl ⟨h0, rfl⟩)
      cases neg with
      | false =>
        simp [k40_3, h1, h4, hla, hlt', k40_10, h3, h2, hS0, opStore, obPut, opLoad, obCells, slice?, splice_all]
        exact key
      | true =>
        have hpos : 0 < a.length := by simpa using hdec
        simp [k40_3, h1, h4, hla, hlt', k40_10, h3, h2, hpos, hS0, opStore, obPut, opLoad, obCells, slice?, splice_all]
        exact key
    · have hsn : ∀ σ d2, σ[1]? = some (.row (cK .u32 d) g) → snap σ (d2 + 1) (.own 1 g 0 d.length 1 none) = _ := fun σ d2 h => snap_own h rfl
      have key := key _ (.inr ⟨none, rfl⟩)
      cases neg with
      | false =>
        simp [k40_3, h1, h4, hla, hlt', k40_10, h3, h2, hS0, opStore, obPut, opLoad, obCells, slice?, splice_all, snap_deep, snap_agg, hsn]
        exact key
      | true =>
        have hpos : 0 < a.length := by simpa using hdec
        simp [k40_3, h1, h4, hla, hlt', k40_10, h3, h2, hpos, hS0, opStore, obPut, opLoad, obCells, slice?, splice_all, snap_deep, snap_agg, hsn]
        exact key

theorem num_uniq {N M : Nat} {z : Int} {a b : Tree} (ha : IsNum N z a) (hb : IsNum M z b) : ∃ neg s t l, a = .agg [.sc (.bool neg), s] ∧ b = .agg [.sc (.bool neg), t] ∧ IsSl uE l (.tr s) ∧ IsSl uE l (.tr t) ∧ l.length ≤ N := by
  obtain ⟨x, l, h1, h2, h3, h4, h5⟩ := ha
  obtain ⟨y, m, g1, g2, g3, g4, g5⟩ := hb
  obtain ⟨s, rfl, is⟩ := h1.ex
  obtain ⟨t, rfl, it⟩ := g1.ex
  have hv : val 4294967296 l = val 4294967296 m := by
    unfold ival at h4 g4
    cases x <;> cases y <;> simp at h4 g4 <;> omega
  have hlm : l = m := can_inj (by decide) h1.dg g1.dg h2 g2 hv
  subst hlm
  have hxy : x = y := by
    have hp : l ≠ [] → 0 < val 4294967296 l := by
      intro h0
      have := can_ge (B := 4294967296) (by decide) h2 h0
      have : 0 < 4294967296 ^ (l.length - 1) := Nat.pow_pos (by decide)
      omega
    unfold ival at h4 g4
    cases x <;> cases y <;> simp at h3 g3 h4 g4 ⊢
    · have := hp g3; omega
    · have := hp h3; omega
  subst hxy
  exact ⟨x, s, t, l, rfl, rfl, is, it, h5⟩

theorem is_ok {N M : Nat} {z : Int} {ta tb : Tree} (ha : IsNum N z ta) (hb : RInt M z tb) (la : N ≤ 10000) (lb : M ≤ 10000) (σ : Store) :
    callL T 13 [.tr ta, .tr tb] σ = some (bv true, σ) := by
  suffices hh : ∃ t, (∀ σ, callL T 13 ([ta, tb].map .tr) σ = some (.tr t, σ)) ∧ (t = .sc (.bool true)) by
    obtain ⟨t, h, rfl⟩ := hh
    exact h σ
  refine call_iso T13 rfl rfl ?_
  obtain ⟨r, hc, hr⟩ := to_ok hb lb
  obtain ⟨_, sb, rfl, _⟩ := rint_place hb
  obtain ⟨neg, s, t, l, rfl, rfl, is, it, hl⟩ := num_uniq ha hr
  have hls : ∀ σ, opLen 1 (.tr s) σ = some (nv .i64 l.length) := fun σ => isSl_len is
  have hlt : ∀ σ, opLen 1 (.tr t) σ = some (nv .i64 l.length) := fun σ => isSl_len it
  have h1 := one_sl it
  obtain ⟨σ1, hσ1⟩ : ∃ σ1 : Store, σ1 = [.row [bv neg, .tr t] 0] := ⟨_, rfl⟩
  have l0 : opLoad 1 false (.ptr 0 0 0) [.row [bv neg, .tr t] 0] = some (bv neg) := rfl
  have l1 : opLoad 1 false (.ptr 0 0 1) [.row [bv neg, .tr t] 0] = some (.tr t) := rfl
  simp [hc, h1, l0, l1, hls, hlt, k13_4]
  obtain ⟨I, hI⟩ : ∃ I : Nat → St → Prop, I = (fun i s' => i ≤ l.length ∧ ∃ e L, s' = ⟨e, L, [.row [bv neg, .tr t] 0]⟩ ∧ look e 2 = some (.tr (.rptr [.sc (.bool neg), s] 0)) ∧ look e 5 = some (.ptr 0 0 0) ∧ look e 6 = some (nv .i64 i)) := ⟨_, rfl⟩
  refine wpc_up l.length I ?_ ?_
  · rw [hI]
    exact ⟨Nat.zero_le _, _, _, rfl, by simp, by simp, by simp⟩
  intro i s' hIs
  rw [hI] at hIs
  obtain ⟨hi, e, L, rfl, h2, h5, h6⟩ := hIs
  by_cases hlt2 : i < l.length
  · have hx : l[i]? = some l[i] := List.getElem?_eq_getElem hlt2
    have w5 : IntKind.i64.wrap ((i : Int) + 1) = ((i + 1 : Nat) : Int) := w64 (by omega) (by omega)
    simp [k13_6, h2, h5, h6, hls, hlt2, k13_8, sl_iaddr is hx, sl_load hx, l1, sl_iaddr it hx, k13_11, w5, -Int.natCast_add]
    rw [hI]
    exact ⟨by omega, _, _, rfl, by simp [h2], by simp [h5], by simp⟩
  · have hie : i = l.length := by omega
    subst hie
    simp [k13_6, h2, h6, hls, k13_12]
end Go.Proofs.Ytjacddclpcelmaa.AM.Bi
