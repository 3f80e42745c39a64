/- IntText: part 63. -/
import Derived.Test.YtjacddclpcelmaaBi62
set_option maxRecDepth 1000000
set_option linter.unusedVariables false
set_option linter.unusedSimpArgs false
namespace Go.Proofs.Ytjacddclpcelmaa.AM.Bi
open Go.Proofs

/-- Digits read from the left. -/
def horner (base : Nat) : Nat → List UInt8 → Option Nat
  | acc, [] => some acc
  | acc, b :: r => match digitV b.toNat with
    | some d => if d < base then horner base (acc * base + d) r else none
    | none => none
def parseV (s : List UInt8) (base : Int) : Option Nat := if s = [] then none else if base = 2 ∨ base = 8 ∨ base = 10 ∨ base = 16 then horner base.toNat 0 s else none
/-- What Parse gives. -/
def ParseR (N : Nat) (x : Option Nat) (t : Tree) : Prop := match x with
  | none => t = .tup [.agg [.sc (.bool false), .sc (.slice none 0 0)], .sc (.bool false)]
  | some n => ∃ r, t = .tup [r, .sc (.bool true)] ∧ IsNum N (n : Int) r

theorem made_grown {S0 : Ob} {l : List Nat} {w : V} {σ : Store} {neg : Bool} (hg : Grown .u32 S0 l w σ) (hd : dig 4294967296 l) (hl : l.length ≤ 1000000) :
    ∃ r σ', callL T 41 [bv neg, w] σ = some (.tr r, σ') ∧ IsNum l.length (ival neg l) r ∧ σ'[0]? = some S0 := by
  rcases hg with ⟨rfl, rfl, rfl⟩ | ⟨g, h0, rfl, rfl⟩
  · obtain ⟨r, h, hn⟩ := made_ok (neg := neg) (l := []) (t := .sc (.slice none 0 0)) (.inl ⟨rfl, rfl⟩) (dig_nil _) (by simp)
    exact ⟨r, _, h _, hn, rfl⟩
  · have hsl : IsSl uE l (.tr (.row (l.flatMap uE) l.length none)) := .inr ⟨none, rfl⟩
    have hs : ([S0, .row (cK .u32 l) g] : Store)[1]? = some (.row (cK .u32 l) g) := rfl
    obtain ⟨r, σ', h, hn, hσ⟩ := T_iso (vs := [bv neg, .own 1 g 0 l.length 1 none]) T41 rfl rfl (ts := [.sc (.bool neg), .row (l.flatMap uE) l.length none]) (by simp [snap_deep, snap_own hs rfl]) (freeze_own hs _) (made_ok hsl hd hl)
    exact ⟨r, σ', h, hn, by rcases hσ with rfl | rfl <;> rfl⟩

theorem parse_main {s : ByteArray} {m : Nat} {e L : List (Nat × V)} (hm : m ≤ 16) (hm1 : 1 ≤ m) (hs : s.data.toList.length ≤ 10000) (h0 : look e 0 = some (.tr (.sc (.string s)))) (h1 : look e 1 = some (nv .i64 m)) (h4 : look e 4 = some (.ptr 0 0 0)) :
    wpc T k34_3 ⟨e, L, [.row [.tr (.sc (.bool false)), .tr (.sc (.slice none 0 0))] 0]⟩ (giv [.cell 4 2 true, .tmp 5] fun v σ' => ∃ t, v = .tr t ∧ ParseR (s.data.toList.length) (horner m 0 s.data.toList) t) := by
  obtain ⟨S0, hS0⟩ : ∃ S0 : Ob, S0 = .row [.tr (.sc (.bool false)), .tr (.sc (.slice none 0 0))] 0 := ⟨_, rfl⟩
  rw [← hS0]
  obtain ⟨l, hl⟩ : ∃ l, l = s.data.toList := ⟨_, rfl⟩
  have hln : ∀ σ, opLen 0 (.tr (.sc (.string s))) σ = some (nv .i64 l.length) := fun σ => by rw [hl]; rfl
  rw [← hl] at hs ⊢
  obtain ⟨H, hH⟩ : ∃ H, H = horner m 0 l := ⟨_, rfl⟩
  rw [← hH]
  simp [k34_3, h0, hln]
  obtain ⟨I, hI⟩ : ∃ I : Nat → St → Prop, I = (fun i s' => i ≤ l.length ∧ ∃ e L d w σ, s' = ⟨e, L, σ⟩ ∧ Grown .u32 S0 d w σ ∧ dig 4294967296 d ∧ d.length ≤ i ∧ H = horner m (val 4294967296 d) (l.drop i) ∧ look e 0 = some (.tr (.sc (.string s))) ∧ look e 1 = some (nv .i64 m) ∧ look e 4 = some (.ptr 0 0 0) ∧ look e 6 = some w ∧ look e 29 = some (nv .i64 l.length) ∧ look e 30 = some (nv .i64 i)) := ⟨_, rfl⟩
  refine wpc_up l.length I ?_ ?_
  · rw [hI]
    exact ⟨Nat.zero_le _, _, _, [], _, _, rfl, .inl ⟨rfl, rfl, rfl⟩, dig_nil _, by simp, by simp [val, hH], by simp [h0], by simp [h1], by simp [h4], by simp, by simp, by simp⟩
  clear h0 h1 h4
  intro i s' hIs
  rw [hI] at hIs
  obtain ⟨hi, e, L, d, w, σ, rfl, hg, dd, hdl, hh, h0, h1, h4, h6, h29, h30⟩ := hIs
  obtain ⟨rest, hrest⟩ := grown_head hg
  have hσ0 : σ[0]? = some (.row [.tr (.sc (.bool false)), .tr (.sc (.slice none 0 0))] 0) := by rw [hrest, hS0]; rfl
  by_cases hlt : i < l.length
  · have hb : l[i]? = some l[i] := List.getElem?_eq_getElem hlt
    rw [List.drop_eq_getElem_cons hlt] at hh
    obtain ⟨b, hbe⟩ : ∃ b, b = l[i] := ⟨_, rfl⟩
    rw [← hbe] at hb hh
    have hist : opIndexStr (.tr (.sc (.string s))) (nv .i64 i) = some (.tr (.sc (.int .u8 b.toNat))) := istr_at (by rw [← hl]; exact hb)
    have hdg := digit_ok (b := b.toNat) b.toNat_lt
    have w5 : IntKind.i64.wrap ((i : Int) + 1) = ((i + 1 : Nat) : Int) := w64 (by omega) (by omega)
    have wm : IntKind.u32.wrap (m : Int) = m := wu32 (by omega) (by omega)
    unfold horner at hh
    have hfail : (digitV b.toNat).getD 99 ≥ m → H = none := by
      intro hge
      rw [hh]
      cases hv : digitV b.toNat with
      | none => rfl
      | some x =>
        rw [hv] at hge
        simp only [Option.getD_some] at hge
        simp only []
        rw [if_neg (by omega)]
    obtain ⟨x, hx⟩ : ∃ x, x = (digitV b.toNat).getD 99 := ⟨_, rfl⟩
    rw [← hx] at hdg hfail
    by_cases hge : m ≤ x
    · have hn := hfail hge
      have hge' : (m : Int) ≤ x := by omega
      have st : opStore 2 (.ptr 0 0 0) (.tr (.agg [.sc (.bool false), .sc (.slice none 0 0)])) σ = some σ := by
        rw [st_row (a := bv false) (b := .tr (.sc (.slice none 0 0))) hσ0 rfl, set_id hσ0]
      have ld : opLoad 2 true (.ptr 0 0 0) σ = some (.tr (.agg [.sc (.bool false), .sc (.slice none 0 0)])) := ld_row hσ0
      simp [k34_6, h30, h29, hlt, k34_8, h0, hist, hdg, h1, hge', hge, h4, st, ld, mkTup]
      rw [hn]
      rfl
    · have hv : digitV b.toNat = some x := by
        cases hv : digitV b.toNat with
        | none => rw [hv] at hx; simp at hx; omega
        | some y => rw [hv] at hx; simp at hx; rw [hx]
      have wx : IntKind.u32.wrap (x : Int) = x := wu32 (by omega) (by omega)
      have hge' : ¬ (m : Int) ≤ x := by omega
      obtain ⟨w', σ', hgr, d', hg', dd', vd', ld'⟩ := grow_ok (m := m) (d := x) hg dd (by omega) hm (by omega)
      simp [k34_6, h30, h29, hlt, k34_8, h0, hist, hdg, h1, hge', hge, k34_13, h6, wm, wx, hgr, k34_14, w5, -Int.natCast_add]
      rw [hI]
      refine ⟨by omega, _, _, d', w', σ', rfl, hg', dd', by omega, ?_, by simp [h0], by simp [h1], by simp [h4], by simp, by simp [h29], by simp⟩
      rw [hv] at hh
      simp only [] at hh
      rw [if_pos (by omega)] at hh
      rw [vd']
      exact hh
  · have hie : i = l.length := by omega
    subst hie
    rw [List.drop_of_length_le (Nat.le_refl _)] at hh
    obtain ⟨r, σ', hmd, hn, hs0⟩ := made_grown (neg := false) hg dd (by omega)
    rw [hS0] at hs0
    obtain ⟨q, s1, rfl, o1⟩ := num_place hn
    have st : opStore 2 (.ptr 0 0 0) (.tr (.agg [.sc (.bool q), s1])) σ' = some (σ'.set 0 (.row [bv q, .tr s1] 0)) := st_row hs0 o1
    have ld : opLoad 2 true (.ptr 0 0 0) (σ'.set 0 (.row [bv q, .tr s1] 0)) = some (.tr (.agg [.sc (.bool q), s1])) := ld_row (set_same hs0)
    simp [k34_6, h30, h29, k34_15, h6, hmd, h4, st, ld, mkTup]
    rw [hh]
    exact ⟨_, rfl, num_le hn hdl⟩

theorem bytes_nil (l : List UInt8) : bytesEq l [] = decide (l = []) := by cases l <;> rfl
theorem parse_ok (s : ByteArray) (base : Int) (hs : s.data.toList.length ≤ 10000) : ∃ t, (∀ σ, callL T 34 [.tr (.sc (.string s)), iv base] σ = some (.tr t, σ)) ∧ ParseR (s.data.toList.length) (parseV s.data.toList base) t := by
  refine call_iso (ts := [.sc (.string s), .sc (.int .i64 base)]) T34 rfl rfl ?_
  have es : ∀ (s t : ByteArray), opBin .other .eql (.tr (.sc (.string s))) (.tr (.sc (.string t))) = some (.tr (.sc (.bool (bytesEq s.data.toList t.data.toList)))) := bin_str
  have hpost : ∀ (v : V) (σ : Store), (∃ t, v = .tr t ∧ ParseR (s.data.toList.length) (parseV s.data.toList base) t) → ∃ t, snap σ deepN v = some t ∧ ParseR (s.data.toList.length) (parseV s.data.toList base) t := by
    rintro v σ ⟨t, rfl, h⟩
    exact ⟨t, by simp, h⟩
  by_cases he : s.data.toList = []
  · have e1 : parseV s.data.toList base = none := by unfold parseV; rw [if_pos he]
    have hb : bytesEq s.data.toList [] = true := by rw [bytes_nil]; simp [he]
    rw [e1]
    simp [es, hb, opStore, obPut, opLoad, obCells, slice?, splice_all, mkTup]
    rfl
  have hb : bytesEq s.data.toList [] = false := by rw [bytes_nil]; simp [he]
  by_cases hv : base = 2 ∨ base = 8 ∨ base = 10 ∨ base = 16
  · have e1 : parseV s.data.toList base = horner base.toNat 0 s.data.toList := by unfold parseV; rw [if_neg he, if_pos hv]
    rw [e1] at hpost
    rw [e1]
    rcases hv with rfl | rfl | rfl | rfl
    · simp [es, hb]
      exact wpc_mono _ _ _ _ (giv_mono hpost) (parse_main (m := 2) (by omega) (by omega) hs (by simp) (by simp) (by simp))
    · simp [es, hb]
      exact wpc_mono _ _ _ _ (giv_mono hpost) (parse_main (m := 8) (by omega) (by omega) hs (by simp) (by simp) (by simp))
    · simp [es, hb]
      exact wpc_mono _ _ _ _ (giv_mono hpost) (parse_main (m := 10) (by omega) (by omega) hs (by simp) (by simp) (by simp))
    · simp [es, hb]
      exact wpc_mono _ _ _ _ (giv_mono hpost) (parse_main (m := 16) (by omega) (by omega) hs (by simp) (by simp) (by simp))
  · have e1 : parseV s.data.toList base = none := by unfold parseV; rw [if_neg he, if_neg hv]
    have n2 : ¬ base = 2 := fun h => hv (.inl h)
    have n8 : ¬ base = 8 := fun h => hv (.inr (.inl h))
    have n10 : ¬ base = 10 := fun h => hv (.inr (.inr (.inl h)))
    have n16 : ¬ base = 16 := fun h => hv (.inr (.inr (.inr h)))
    rw [e1]
    simp [es, hb, n2, n8, n10, n16, opStore, obPut, opLoad, obCells, slice?, splice_all, mkTup]
    rfl
end Go.Proofs.Ytjacddclpcelmaa.AM.Bi
