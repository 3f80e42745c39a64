/- IntText: part 64. -/
import Derived.Test.YtjacddclpcelmaaBi63
set_option maxRecDepth 1000000
set_option linter.unusedVariables false
set_option linter.unusedSimpArgs false
namespace Go.Proofs.Ytjacddclpcelmaa.AM.Bi
open Go.Proofs

/-- What the reference's Parse gives. -/
def RParseR (N : Nat) (x : Option Nat) (t : Tree) : Prop := match x with
  | none => t = .tup [.agg [.sc (.bool false), .sc (.slice none 0 0)], .sc (.bool false)]
  | some n => ∃ r, t = .tup [r, .sc (.bool true)] ∧ RInt N (n : Int) r

theorem rparse_main {s : ByteArray} {m : Nat} {e L : List (Nat × V)} (hm : m ≤ 16) (hm1 : 2 ≤ m) (hs : s.data.toList.length ≤ 1000) (h0 : look e 0 = some (.tr (.sc (.string s)))) (h1 : look e 1 = some (nv .i64 m)) (h4 : look e 4 = some (.ptr 0 0 0)) :
    wpc T k35_3 ⟨e, L, [.row [.tr (.sc (.bool false)), .tr (.sc (.slice none 0 0))] 0]⟩ (giv [.cell 4 2 true, .tmp 5] fun v σ' => ∃ t, v = .tr t ∧ RParseR (5 * s.data.toList.length) (horner m 0 s.data.toList) t) := by
  obtain ⟨S0, hS0⟩ : ∃ S0 : Ob, S0 = .row [.tr (.sc (.bool false)), .tr (.sc (.slice none 0 0))] 0 := ⟨_, rfl⟩
  rw [← hS0]
  obtain ⟨l, hl⟩ : ∃ l, l = s.data.toList := ⟨_, rfl⟩
  have hln : ∀ σ, opLen 0 (.tr (.sc (.string s))) σ = some (nv .i64 l.length) := fun σ => by rw [hl]; rfl
  rw [← hl] at hs ⊢
  obtain ⟨H, hH⟩ : ∃ H, H = horner m 0 l := ⟨_, rfl⟩
  rw [← hH]
  simp [k35_3]
  obtain ⟨I, hI⟩ : ∃ I : Nat → St → Prop, I = (fun i s' => i ≤ l.length ∧ ∃ e L t n, s' = ⟨e, L, [S0]⟩ ∧ NatSl (5 * i) n t ∧ H = horner m n (l.drop i) ∧ look e 0 = some (.tr (.sc (.string s))) ∧ look e 1 = some (nv .i64 m) ∧ look e 4 = some (.ptr 0 0 0) ∧ look e 6 = some (.tr t) ∧ look e 7 = some (nv .i64 i)) := ⟨_, rfl⟩
  refine wpc_up l.length I ?_ ?_
  · rw [hI]
    exact ⟨Nat.zero_le _, _, _, .sc (.slice none 0 0), 0, rfl, ⟨[], .inl ⟨rfl, rfl⟩, dig_nil _, can_nil, rfl, by simp⟩, by simp [hH], by simp [h0], by simp [h1], by simp [h4], by simp, by simp⟩
  clear h0 h1 h4
  intro i s' hIs
  rw [hI] at hIs
  obtain ⟨hi, e, L, t, n, rfl, hn, hh, h0, h1, h4, h6, h7⟩ := hIs
  have hσ0 : ([S0] : Store)[0]? = some (.row [.tr (.sc (.bool false)), .tr (.sc (.slice none 0 0))] 0) := by rw [hS0]; rfl
  by_cases hlt : i < l.length
  · have hb : l[i]? = some l[i] := List.getElem?_eq_getElem hlt
    rw [List.drop_eq_getElem_cons hlt] at hh
    obtain ⟨b, hbe⟩ : ∃ b, b = l[i] := ⟨_, rfl⟩
    rw [← hbe] at hb hh
    have hist : opIndexStr (.tr (.sc (.string s))) (nv .i64 i) = some (.tr (.sc (.int .u8 b.toNat))) := istr_at (by rw [← hl]; exact hb)
    have hdg := rdigit_ok (b := b.toNat) b.toNat_lt
    have w5 : IntKind.i64.wrap ((i : Int) + 1) = ((i + 1 : Nat) : Int) := w64 (by omega) (by omega)
    unfold horner at hh
    have hbs : ∀ (z : Nat) σ, opBslice false 1 1 [.sc (.int .i64 0)] [(0, 1, nv .i64 z)] σ = some (.tr (.row [.sc (.int .i64 (z : Int))] 1 (some 1)), σ) := fun z σ => rfl
    have st : opStore 2 (.ptr 0 0 0) (.tr (.agg [.sc (.bool false), .sc (.slice none 0 0)])) [S0] = some [S0] := by
      rw [st_row (a := bv false) (b := .tr (.sc (.slice none 0 0))) hσ0 rfl, set_id hσ0]
    have ld : opLoad 2 true (.ptr 0 0 0) [S0] = some (.tr (.agg [.sc (.bool false), .sc (.slice none 0 0)])) := ld_row hσ0
    cases hv : digitV b.toNat with
    | none =>
      rw [hv] at hdg hh
      simp only [] at hdg hh
      simp [k35_6, h7, h0, hln, hlt, k35_8, hist, hdg, h4, st, ld, mkTup]
      rw [hh]; rfl
    | some x =>
      rw [hv] at hdg hh
      simp only [] at hdg hh
      have hx16 := digitV_lt hv
      have hx0 : ¬ (x : Int) < 0 := by omega
      by_cases hge : m ≤ x
      · have hge' : (m : Int) ≤ x := by omega
        rw [if_neg (by omega)] at hh
        simp [k35_6, h7, h0, hln, hlt, k35_8, hist, hdg, hx0, h1, hge, hge', h4, st, ld, mkTup]
        rw [hh]; rfl
      · have hge' : ¬ (m : Int) ≤ x := by omega
        rw [if_pos (by omega)] at hh
        have hm1' : NatSl 1 m (.row [.sc (.int .i64 (m : Int))] 1 (some 1)) := ⟨[m], .inr ⟨some 1, rfl⟩, fun z hz => by simp at hz; omega, by intro h; simp at h; omega, by simp [val], by simp⟩
        obtain ⟨p, hmul, hp⟩ := rmul_ok hn hm1' (by omega) (by omega)
        obtain ⟨q, htr, hq⟩ := rtrim_ok (l := [x]) (t := .row [.sc (.int .i64 (x : Int))] 1 (some 1)) (.inr ⟨some 1, rfl⟩) (fun z hz => by simp at hz; omega) (by simp)
        have hvx : val 65536 [x] = x := by simp [val]
        rw [hvx] at hq
        obtain ⟨r, hadd, hr⟩ := radd_ok hp hq (by omega) (by simp)
        simp [k35_6, h7, h0, hln, hlt, k35_8, hist, hdg, hx0, h1, hge, hge', k35_12, h6, hbs, hmul, htr, hadd, k35_13, w5, -Int.natCast_add]
        rw [hI]
        exact ⟨by omega, _, _, r, _, rfl, nat_le hr (by simp; omega), hh, by simp [h0], by simp [h1], by simp [h4], by simp, by simp⟩
  · have hie : i = l.length := by omega
    subst hie
    rw [List.drop_of_length_le (Nat.le_refl _)] at hh
    have o1 := nat_one hn
    have st : opStore 2 (.ptr 0 0 0) (.tr (.agg [.sc (.bool false), t])) [S0] = some [.row [bv false, .tr t] 0] := by rw [st_row hσ0 o1]; rfl
    have ld : opLoad 2 true (.ptr 0 0 0) [.row [bv false, .tr t] 0] = some (.tr (.agg [.sc (.bool false), t])) := ld_row rfl
    simp [k35_6, h7, h0, hln, k35_14, h6, o1, cells_one o1, h4, st, ld, mkTup]
    rw [hh]
    exact ⟨_, rfl, rint_mk (neg := false) hn (by simp) (by intro h; cases h)⟩

theorem rparse_ok (s : ByteArray) (base : Int) (hs : s.data.toList.length ≤ 1000) : ∃ t, (∀ σ, callL T 35 [.tr (.sc (.string s)), iv base] σ = some (.tr t, σ)) ∧ RParseR (5 * s.data.toList.length) (parseV s.data.toList base) t := by
  refine call_iso (ts := [.sc (.string s), .sc (.int .i64 base)]) T35 rfl rfl ?_
  have es : ∀ (s t : ByteArray), opBin .other .eql (.tr (.sc (.string s))) (.tr (.sc (.string t))) = some (.tr (.sc (.bool (bytesEq s.data.toList t.data.toList)))) := bin_str
  have hpost : ∀ (v : V) (σ : Store), (∃ t, v = .tr t ∧ RParseR (5 * s.data.toList.length) (parseV s.data.toList base) t) → ∃ t, snap σ deepN v = some t ∧ RParseR (5 * s.data.toList.length) (parseV s.data.toList base) t := by
    rintro v σ ⟨t, rfl, h⟩
    exact ⟨t, by simp, h⟩
  by_cases he : s.data.toList = []
  · have e1 : parseV s.data.toList base = none := by unfold parseV; rw [if_pos he]
    have hb : bytesEq s.data.toList [] = true := by rw [bytes_nil]; simp [he]
    rw [e1]
    simp [es, hb, opStore, obPut, opLoad, obCells, slice?, splice_all, mkTup]
    rfl
  have hb : bytesEq s.data.toList [] = false := by rw [bytes_nil]; simp [he]
  by_cases hv : base = 2 ∨ base = 8 ∨ base = 10 ∨ base = 16
  · have e1 : parseV s.data.toList base = horner base.toNat 0 s.data.toList := by unfold parseV; rw [if_neg he, if_pos hv]
    rw [e1] at hpost
    rw [e1]
    rcases hv with rfl | rfl | rfl | rfl
    · simp [es, hb]
      exact wpc_mono _ _ _ _ (giv_mono hpost) (rparse_main (m := 2) (by omega) (by omega) hs (by simp) (by simp) (by simp))
    · simp [es, hb]
      exact wpc_mono _ _ _ _ (giv_mono hpost) (rparse_main (m := 8) (by omega) (by omega) hs (by simp) (by simp) (by simp))
    · simp [es, hb]
      exact wpc_mono _ _ _ _ (giv_mono hpost) (rparse_main (m := 10) (by omega) (by omega) hs (by simp) (by simp) (by simp))
    · simp [es, hb]
      exact wpc_mono _ _ _ _ (giv_mono hpost) (rparse_main (m := 16) (by omega) (by omega) hs (by simp) (by simp) (by simp))
  · have e1 : parseV s.data.toList base = none := by unfold parseV; rw [if_neg he, if_neg hv]
    have n2 : ¬ base = 2 := fun h => hv (.inl h)
    have n8 : ¬ base = 8 := fun h => hv (.inr (.inl h))
    have n10 : ¬ base = 10 := fun h => hv (.inr (.inr (.inl h)))
    have n16 : ¬ base = 16 := fun h => hv (.inr (.inr (.inr h)))
    rw [e1]
    simp [es, hb, n2, n8, n10, n16, opStore, obPut, opLoad, obCells, slice?, splice_all, mkTup]
    rfl
end Go.Proofs.Ytjacddclpcelmaa.AM.Bi
