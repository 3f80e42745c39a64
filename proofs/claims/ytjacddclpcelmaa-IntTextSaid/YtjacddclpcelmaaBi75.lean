/- IntText: part 75. -/
import Derived.Test.YtjacddclpcelmaaBi74
set_option maxRecDepth 1000000
set_option linter.unusedVariables false
set_option linter.unusedSimpArgs false
namespace Go.Proofs.Ytjacddclpcelmaa.AM.Bi
open Go.Proofs

/-- A text's digits alone. -/
def txd (ds : List Nat) : List UInt8 := if ds = [] then [48] else ds.reverse.map decB
theorem txd_ne (ds : List Nat) : txd ds ≠ [] := by
  unfold txd
  by_cases h : ds = [] <;> simp [h]
theorem txd_parse {ds : List Nat} (h : dig 10 ds) : parseV (txd ds) 10 = some (val 10 ds) := by
  unfold parseV
  rw [if_neg (txd_ne ds), if_pos (by simp)]
  unfold txd
  by_cases h0 : ds = []
  · subst h0; rfl
  · rw [if_neg h0]; exact horner_dec ds h
theorem txd_len {ds : List Nat} : (txd ds).length ≤ ds.length + 1 := by
  unfold txd
  by_cases h : ds = [] <;> simp [h]
theorem bytesEq_refl : ∀ l : List UInt8, bytesEq l l = true
  | [] => rfl
  | a :: l => by simp [bytesEq, bytesEq_refl l]
/-- Both parses of one text, held against each other. -/
theorem parses_eq {N M : Nat} {x : Option Nat} {t t' : Tree} (h : ParseR N x t) (h' : RParseR M x t') (hN : N ≤ 10000) (hM : M ≤ 10000) :
    ∃ ok a b a' b', t = .tup [.agg [.sc (.bool a), b], .sc (.bool ok)] ∧ t' = .tup [.agg [.sc (.bool a'), b'], .sc (.bool ok)] ∧ oneV (.tr b) = true ∧ oneV (.tr b') = true ∧ ∀ σ, callL T 13 [.tr (.agg [.sc (.bool a), b]), .tr (.agg [.sc (.bool a'), b'])] σ = some (bv true, σ) := by
  cases x with
  | none =>
    have n0 : IsNum 0 0 (.agg [.sc (.bool false), .sc (.slice none 0 0)]) := ⟨false, [], ⟨⟨_, rfl, .inl ⟨rfl, rfl⟩⟩, dig_nil _⟩, can_nil, by simp, rfl, by simp⟩
    have r0 : RInt 0 0 (.agg [.sc (.bool false), .sc (.slice none 0 0)]) := ⟨_, rfl, [], .inl ⟨rfl, rfl⟩, dig_nil _, can_nil, rfl, by simp⟩
    exact ⟨false, _, _, _, _, h, h', rfl, rfl, fun σ => is_ok n0 r0 (by omega) (by omega) σ⟩
  | some n =>
    obtain ⟨r, rfl, hr⟩ := h
    obtain ⟨r', rfl, hr'⟩ := h'
    have i := is_ok hr hr' hN hM
    obtain ⟨_, b, rfl, o⟩ := num_place hr
    obtain ⟨_, b', rfl, o'⟩ := rint_place hr'
    exact ⟨true, _, _, _, _, rfl, rfl, o, o', i⟩
theorem i64_parts {z : Int} {t : Tree} (h : I64R z t) : ∃ m ok, t = .tup [.sc (.int .i64 m), .sc (.bool ok)] ∧ ∀ t', I64R z t' → t' = t := by
  have hu : ∀ t', I64R z t' → t' = t := fun t' h' => by unfold I64R at h h'; rw [h, h']
  unfold I64R at h
  by_cases hz : -9223372036854775808 ≤ z ∧ z ≤ 9223372036854775807
  · rw [if_pos hz] at h; exact ⟨_, _, h, hu⟩
  · rw [if_neg hz] at h; exact ⟨_, _, h, hu⟩

theorem law_text {x : Bool} {a : List Nat} {ta : Tree} (ha : IsBig x a ta) (s : ByteArray) (base n : Int) (h1 : -9223372036854775808 ≤ n) (h2 : n ≤ 9223372036854775807) :
    ∃ v σ', callL T 9 [.tr ta, .tr (.sc (.string s)), iv base, iv n] [] = some (v, σ') ∧ v = bv true := by
  refine call_shared T9 rfl rfl ?_
  obtain ⟨ra, c1, ca⟩ := cut_ok ha 12 (by omega)
  obtain ⟨sa, rfl, ia⟩ := ha.ex
  have la : (a.take 12).length ≤ 12 := by rw [List.length_take]; omega
  generalize a.take 12 = a' at *
  obtain ⟨fa, f1, hfa⟩ := from_ok ca (by omega)
  obtain ⟨tt, t1, ds, dd, cd, hdv, rfl⟩ := text_ok ca (by omega)
  obtain ⟨_, t2, ds2, dd2, cd2, hdv2, rfl⟩ := rtext_ok hfa (by omega)
  obtain rfl : ds = ds2 := can_inj (B := 10) (by decide) dd dd2 cd cd2 (by rw [hdv, hdv2])
  clear hdv2 dd2 cd2
  obtain ⟨m1, i1, hi1⟩ := int64_ok ca (by omega)
  obtain ⟨m2, i2, hi2⟩ := rint64_ok hfa (by omega)
  obtain ⟨mm, mok, rfl, huq⟩ := i64_parts hi1
  obtain rfl := huq _ hi2
  obtain ⟨so, o1, ho⟩ := of_ok h1 h2
  obtain ⟨so', o2, ho'⟩ := rof_ok h1 h2
  obtain ⟨gq, lq, bq, _, _, vq, llq⟩ := id ho
  obtain ⟨_, i3, hi3⟩ := int64_ok bq (by omega)
  rw [vq] at hi3
  unfold I64R at hi3
  rw [if_pos ⟨h1, h2⟩] at hi3
  subst hi3
  have io := is_ok ho ho' (by omega) (by omega)
  -- the first hundred bytes
  obtain ⟨s', hs', hcut⟩ : ∃ s' : ByteArray, s'.data.toList.length ≤ 100 ∧ (100 < s.data.toList.length → opSliceStr (.tr (.sc (.string s))) none (some (.tr (.sc (.int .i64 100)))) = some (.tr (.sc (.string s')))) ∧ (¬ 100 < s.data.toList.length → s' = s) := by
    by_cases hl : 100 < s.data.toList.length
    · refine ⟨⟨⟨s.data.toList.take 100⟩⟩, by simp; omega, fun _ => ?_, fun h => absurd hl h⟩
      have e : optIdx (some (.tr (.sc (.int .i64 100)))) = some (some 100) := rfl
      have e2 : optIdx none = some none := rfl
      unfold opSliceStr
      simp only [e, e2, Option.getD_some, Option.getD_none, List.drop_zero]
      rw [if_pos ⟨by omega, Nat.zero_le _⟩]
    · exact ⟨s, by omega, fun h => absurd h hl, fun _ => rfl⟩
  obtain ⟨p1, q1, hp1⟩ := parse_ok s' base (by omega)
  obtain ⟨p2, q2, hp2⟩ := rparse_ok s' base (by omega)
  obtain ⟨ok, pa, pb, pa', pb', rfl, rfl, op1, op2, ip⟩ := parses_eq hp1 hp2 (by omega) (by omega)
  -- the text without its sign
  have hdl : ds.length ≤ 400 := by
    by_cases hd0 : ds = []
    · subst hd0; simp
    · have h5 := can_ge (B := 10) (by decide) cd hd0
      have h6 : 2 ^ (ds.length - 1) ≤ 10 ^ (ds.length - 1) := Nat.pow_le_pow_left (by decide) _
      obtain ⟨m, hm⟩ : ∃ m : Nat, m = 12 := ⟨_, rfl⟩
      rw [← hm] at la
      have h7 : val 10 ds < 2 ^ (32 * m) := by
        rw [hdv]
        have h8 := val_lt ca.dg
        have h9 : (4294967296 : Nat) ^ a'.length ≤ 4294967296 ^ m := Nat.pow_le_pow_right (by decide) la
        have h10 : (ival x a').natAbs = val 4294967296 a' := by unfold ival; cases x <;> simp
        rw [h10]
        rw [pow32 m] at h9
        omega
      rcases Nat.lt_or_ge (ds.length - 1) (32 * m) with h | h
      · omega
      · have : 2 ^ (32 * m) ≤ 2 ^ (ds.length - 1) := Nat.pow_le_pow_right (by decide) h
        omega
  have htl := txd_len (ds := ds)
  obtain ⟨p3, q3, hp3⟩ := parse_ok ⟨⟨txd ds⟩⟩ 10 (by show (txd ds).length ≤ 10000; omega)
  rw [show (⟨⟨txd ds⟩⟩ : ByteArray).data.toList = txd ds from rfl, txd_parse dd, hdv] at hp3
  obtain ⟨b, rfl, hb⟩ := hp3
  obtain ⟨ng, fsl, rfl, hng, hfs⟩ : ∃ ng fsl, fa = .agg [.sc (.bool ng), fsl] ∧ ng = decide (ival x a' < 0) ∧ NatSl (2 * a'.length) (ival x a').natAbs fsl := by
    obtain ⟨fsl, h, hfs⟩ := id hfa
    exact ⟨_, fsl, h, rfl, hfs⟩
  rw [← hng] at t1 t2
  have hx : RInt (2 * a'.length) ((ival x a').natAbs : Int) (.agg [.sc (.bool false), fsl]) := by
    refine ⟨fsl, ?_, by simpa using hfs⟩
    congr 3
  have ib := is_ok hb hx (by omega) (by omega)
  have ba := one_sl (hfs.choose_spec.1)
  obtain ⟨sa', rfl, oa⟩ : ∃ sa', ra = .agg [.sc (.bool x), sa'] ∧ oneV (.tr sa') = true := by
    obtain ⟨s, rfl, is⟩ := ca.ex
    exact ⟨_, rfl, one_sl is⟩
  obtain ⟨_, sb, rfl, ob⟩ := num_place hb
  obtain ⟨_, sso, rfl, oo⟩ := num_place ho
  obtain ⟨_, sso', rfl, oo'⟩ := rint_place ho'
  have one_sa : oneV (.tr sa) = true := one_sl ia
  have e10 : ∀ σ, callL T 10 [] σ = some (bv true, σ) := begun
  have c1' : ∀ σ, callL T 11 [.tr (.agg [.sc (.bool x), sa]), .tr (.sc (.int .i64 12))] σ = _ := c1
  have q3' : ∀ σ, callL T 34 [.tr (.sc (.string ⟨⟨txd ds⟩⟩)), .tr (.sc (.int .i64 10))] σ = _ := q3
  obtain ⟨k, hk, hkl⟩ : ∃ k : Nat, ¬ k = 0 ∧ ∀ σ, opLen 0 (.tr (.sc (.string (txt ng ds)))) σ = some (nv .i64 k) := by
    refine ⟨(txt ng ds).data.toList.length, ?_, fun σ => rfl⟩
    have := List.length_pos_iff.2 (txd_ne ds)
    have e : (txt ng ds).data.toList = (if ng then [45] else []) ++ txd ds := rfl
    rw [e, List.length_append]
    omega
  have qt1 := fun σ => quiet_tr (σ := σ) (ts := [_]) t1
  have qf1 := fun σ => quiet_tr (σ := σ) (ts := [_]) f1
  have qt2 := fun σ => quiet_tr (σ := σ) (ts := [_]) t2
  have qo1 := fun σ => quiet_tr (σ := σ) (ts := [.sc (.int .i64 n)]) o1
  have qo2 := fun σ => quiet_tr (σ := σ) (ts := [.sc (.int .i64 n)]) o2
  simp only [List.map_cons, List.map_nil] at qt1 qf1 qt2 qo1 qo2
  have tail2 : ∀ e L, look e 1 = some (.tr (.sc (.string s'))) → look e 2 = some (iv base) → look e 3 = some (iv n) → look e 4 = some (.ptr 0 0 0) → look e 9 = some (bv true) → look e 10 = some (.ptr 1 0 0) → look e 11 = some (.tr (.sc (.string ⟨⟨txd ds⟩⟩))) →
      wpc T k9_11 ⟨e, L, [.row [bv x, .tr sa'] 0, .row [bv ng, .tr fsl] 0]⟩ (giv [.tmp 8] fun v σ' => v = bv true) := by
    intro e L g1 g2 g3 g4 g9 g10 g11
    simp [k9_11, g1, g2, g3, g4, g9, g10, g11, opLoad, obCells, slice?, opStore, obPut, splice_all, ba, cells_one ba, ob, cells_one ob, oo, oo', cells_one oo, cells_one oo', op1, op2, cells_one op1, cells_one op2, q1, q2, q3', opExtract, i1, i2, i3, o1, o2, f1, t1, t2, ib, ip, io, bytesEq_refl, qt1, qf1, qt2, qo1, qo2]
  have tail : ∀ e L, look e 1 = some (.tr (.sc (.string s'))) → look e 2 = some (iv base) → look e 3 = some (iv n) → look e 4 = some (.ptr 0 0 0) → look e 9 = some (bv true) →
      wpc T k9_4 ⟨e, L, [.row [bv x, .tr sa'] 0]⟩ (giv [.tmp 8] fun v σ' => v = bv true) := by
    intro e L g1 g2 g3 g4 g9
    have hss : ng = true → opSliceStr (.tr (.sc (.string (txt ng ds)))) (some (.tr (.sc (.int .i64 1)))) none = some (.tr (.sc (.string ⟨⟨txd ds⟩⟩))) := by
      rintro rfl
      have e : optIdx (some (.tr (.sc (.int .i64 1)))) = some (some 1) := rfl
      have e2 : optIdx none = some none := rfl
      have e3 : (txt true ds).data.toList = 45 :: txd ds := rfl
      unfold opSliceStr
      simp only [e, e2, Option.getD_some, Option.getD_none, e3, List.length_cons]
      rw [if_pos ⟨Nat.le_refl _, by omega⟩]
      simp
    cases ng with
    | true =>
      simp [k9_4, g1, g2, g3, g4, g9, opLoad, obCells, slice?, f1, opStore, obPut, splice_all, ba, cells_one ba, t1, hkl, hk, k9_9, hss rfl]
      exact tail2 _ _ (by simp [g1]) (by simp [g2]) (by simp [g3]) (by simp [g4]) (by simp [g9]) (by simp) (by simp)
    | false =>
      simp [k9_4, g1, g2, g3, g4, g9, opLoad, obCells, slice?, f1, opStore, obPut, splice_all, ba, cells_one ba, t1, hkl, hk, k9_9]
      exact tail2 _ _ (by simp [g1]) (by simp [g2]) (by simp [g3]) (by simp [g4]) (by simp [g9]) (by simp) (by simp; rfl)
  have hsl : ∀ σ, opLen 0 (.tr (.sc (.string s))) σ = some (nv .i64 s.data.toList.length) := fun σ => rfl
  obtain ⟨k0, hk0⟩ : ∃ k0 : Nat, k0 = s.data.toList.length := ⟨_, rfl⟩
  rw [← hk0] at hsl hcut
  by_cases hl : 100 < k0
  · have hl' : (100 : Int) < k0 := by omega
    simp [opBoxB, opBox, e10, opLoad, obCells, slice?, c1', opStore, obPut, splice_all, one_sa, oa, cells_one oa, hsl, hl, hl', hcut.1 hl]
    exact tail _ _ (by simp) (by simp) (by simp) (by simp) (by simp)
  · have hl' : ¬ (100 : Int) < k0 := by omega
    have hse := hcut.2 hl
    subst hse
    simp [opBoxB, opBox, e10, opLoad, obCells, slice?, c1', opStore, obPut, splice_all, one_sa, oa, cells_one oa, hsl, hl, hl']
    exact tail _ _ (by simp) (by simp) (by simp) (by simp) (by simp)
end Go.Proofs.Ytjacddclpcelmaa.AM.Bi
