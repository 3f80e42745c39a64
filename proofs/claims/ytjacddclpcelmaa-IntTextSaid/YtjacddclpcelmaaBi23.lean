/- IntText: part 23. -/
import Derived.Test.YtjacddclpcelmaaBi22
set_option maxRecDepth 1000000
set_option linter.unusedVariables false
set_option linter.unusedSimpArgs false
namespace Go.Proofs.Ytjacddclpcelmaa.AM.Bi
open Go.Proofs

theorem place_ld {i : Nat} {a b : V} {σ : Store} (h : σ[i]? = some (.row [a, b] 0)) : opLoad 2 true (.ptr i 0 0) σ = some (mkAgg [a, b]) := by
  simp only [opLoad, obCells, h]
  rfl
theorem quo_end {x y : Bool} {sa sb : Tree} {e L : List (Nat × V)} {s s1 : Store} {qv : V} {rv qt rt : Tree} {N M : Nat} {u w : Int} (h2 : look e 2 = some (.tr (.rptr [.sc (.bool x), sa] 0))) (h3 : look e 3 = some (.tr (.rptr [.sc (.bool y), sb] 0)))
    (h4 : look e 4 = some (.ptr 0 0 0)) (h5 : look e 5 = some (.ptr 1 0 0)) (h9 : look e 9 = some qv) (h10 : look e 10 = some (.tr rv))
    (hq : callL T 41 [bv (!(x == y)), qv] (.row [.tr (.sc (.bool false)), .tr (.sc (.slice none 0 0))] 0 :: .row [.tr (.sc (.bool false)), .tr (.sc (.slice none 0 0))] 0 :: s) = some (.tr qt, .row [.tr (.sc (.bool false)), .tr (.sc (.slice none 0 0))] 0 :: .row [.tr (.sc (.bool false)), .tr (.sc (.slice none 0 0))] 0 :: s1))
    (hr : ∀ σ, callL T 41 [bv x, .tr rv] σ = some (.tr rt, σ)) (nq : IsNum N u qt) (nr : IsNum M w rt) :
    wpc T k26_10 ⟨e, L, .row [.tr (.sc (.bool false)), .tr (.sc (.slice none 0 0))] 0 :: .row [.tr (.sc (.bool false)), .tr (.sc (.slice none 0 0))] 0 :: s⟩ (giv [.cell 4 2 true, .cell 5 2 true, .tmp 6] fun v σ' => v = .tr (.tup [qt, rt, .sc (.bool true)])) := by
  obtain ⟨qn, qs, rfl, iq⟩ := num_place nq
  obtain ⟨rn, rs, rfl, ir⟩ := num_place nr
  simp [k26_10, h2, h3, h4, h5, h9, h10, hq, hr, opStore, obPut, opLoad, obCells, slice?, splice_all, iq, ir, mkTup]

def sg (neg : Bool) (n : Nat) : Int := if neg then -(n : Int) else n
theorem ival_sg {neg : Bool} {l : List Nat} : ival neg l = sg neg (val 4294967296 l) := rfl
theorem sg_div {x y : Bool} {m n : Nat} : sg (!(x == y)) (m / n) = (sg x m).tdiv (sg y n) := by
  have h : ((m / n : Nat) : Int) = (m : Int).tdiv n := rfl
  unfold sg
  cases x <;> cases y <;> simp only [beq_self_eq_true, Bool.not_true, Bool.false_eq_true, if_false, if_true, Bool.not_false, show (false == true) = false from rfl, show (true == false) = false from rfl, h, Int.neg_tdiv, Int.tdiv_neg, Int.neg_neg]
theorem sg_mod {x y : Bool} {m n : Nat} : sg x (m % n) = (sg x m).tmod (sg y n) := by
  have h : ((m % n : Nat) : Int) = (m : Int).tmod n := rfl
  unfold sg
  cases x <;> cases y <;> simp only [Bool.false_eq_true, if_false, if_true, h, Int.neg_tmod, Int.tmod_neg]

/-- What Quo gives. -/
def QuoR (N M : Nat) (u w : Int) (t : Tree) : Prop := (w = 0 ∧ t = .tup [.agg [.sc (.bool false), .sc (.slice none 0 0)], .agg [.sc (.bool false), .sc (.slice none 0 0)], .sc (.bool false)]) ∨
  (w ≠ 0 ∧ ∃ q r, t = .tup [q, r, .sc (.bool true)] ∧ IsNum N (u.tdiv w) q ∧ IsNum M (u.tmod w) r)

theorem quo_ok {x y : Bool} {a b : List Nat} {ta tb : Tree} (ha : IsBig x a ta) (hb : IsBig y b tb) (la : a.length ≤ 80000) (lb : b.length ≤ 80000) :
    ∃ t, (∀ σ, callL T 26 [.tr ta, .tr tb] σ = some (.tr t, σ)) ∧ QuoR a.length (max a.length b.length) (ival x a) (ival y b) t := by
  refine call_iso (ts := [ta, tb]) T26 rfl rfl ?_
  have dta := dig_trim ha.dg
  have dtb := dig_trim hb.dg
  have ctb := can_trim b
  have cta := can_trim a
  have hlea := trim_le a
  have hleb := trim_le b
  obtain ⟨sa, rfl, ia⟩ := ha.ex
  obtain ⟨sb, rfl, ib⟩ := hb.ex
  obtain ⟨ta', hna, ha'⟩ := norm_tr ia (by omega)
  obtain ⟨tb', hnb, hb'⟩ := norm_tr ib (by omega)
  have ea : ival x a = ival x (trim a) := by unfold ival; rw [val_trim]
  have eb : ival y b = ival y (trim b) := by unfold ival; rw [val_trim]
  rw [ea, eb]
  obtain ⟨na, hna'⟩ : ∃ na, na = a.length := ⟨_, rfl⟩
  obtain ⟨nb, hnb'⟩ : ∃ nb, nb = b.length := ⟨_, rfl⟩
  rw [← hna', ← hnb']
  rw [← hna'] at hlea la
  rw [← hnb'] at hleb lb
  generalize trim a = a' at *
  generalize trim b = b' at *
  have hlb : ∀ σ, opLen 1 (.tr tb') σ = some (nv .i64 b'.length) := fun σ => isSl_len hb'
  have hord := order_ok ha' hb' dta dtb (by omega) (by omega)
  obtain ⟨S0, hS0⟩ : ∃ S0 : Ob, S0 = .row [.tr (.sc (.bool false)), .tr (.sc (.slice none 0 0))] 0 := ⟨_, rfl⟩
  by_cases hb0 : b' = []
  · have hl0 : b'.length = 0 := by rw [hb0]; rfl
    simp [hna, hnb, hlb, hl0, opStore, obPut, opLoad, obCells, slice?, splice_all, mkTup]
    exact .inl ⟨by rw [hb0]; unfold ival; cases y <;> rfl, rfl⟩
  · have hl0 : ¬ b'.length = 0 := by rwa [List.length_eq_zero_iff]
    have hbp : 0 < val 4294967296 b' := by
      have := can_ge (B := 4294967296) (by decide) ctb hb0
      have h2 : 0 < 4294967296 ^ (b'.length - 1) := Nat.pow_pos (by decide)
      omega
    have hbz : ival y b' ≠ 0 := by unfold ival; cases y <;> simp <;> omega
    have fin : ∀ qt rt, IsNum na (sg (!(x == y)) (val 4294967296 a' / val 4294967296 b')) qt → IsNum (max na nb) (sg x (val 4294967296 a' % val 4294967296 b')) rt → QuoR na (max na nb) (ival x a') (ival y b') (.tup [qt, rt, .sc (.bool true)]) := by
      intro qt rt hq hr
      refine .inr ⟨hbz, qt, rt, rfl, ?_, ?_⟩
      · rw [ival_sg, ival_sg, ← sg_div]; exact hq
      · rw [ival_sg, ival_sg, ← sg_mod]; exact hr
    by_cases hlt : val 4294967296 a' < val 4294967296 b'
    · have hsg : sgn (val 4294967296 a') (val 4294967296 b') = -1 := by simp [sgn, hlt]
      obtain ⟨qt, hq, nq⟩ := made_ok (neg := !(x == y)) (l := []) (t := .sc (.slice none 0 0)) (.inl ⟨rfl, rfl⟩) (dig_nil _) (by simp)
      obtain ⟨rt, hr, nr⟩ := made_ok (neg := x) ha' dta (by omega)
      rw [ival_sg] at nq nr
      have := fin qt rt (by rw [Nat.div_eq_of_lt hlt]; exact num_le nq (by simp)) (by rw [Nat.mod_eq_of_lt hlt]; exact num_le nr (by omega))
      simp [hna, hnb, hlb, hl0, hord, hsg]
      refine wpc_mono _ _ _ _ (giv_mono ?_) (quo_end (sa := sa) (sb := sb) (s := []) (by simp) (by simp) (by simp) (by simp) (by simp) (by simp) (hq _) hr nq nr)
      rintro v σ' rfl
      exact ⟨_, rfl, this⟩
    · have hsg : ¬ sgn (val 4294967296 a') (val 4294967296 b') < 0 := by
        unfold sgn; rw [if_neg hlt]; split <;> omega
      have ha0 : a' ≠ [] := by intro h; rw [h] at hlt; simp [val] at hlt; omega
      have hal : 0 < a'.length := List.length_pos_iff.2 ha0
      by_cases h1 : b'.length = 1
      · obtain ⟨d, hd⟩ : ∃ d, b' = [d] := List.length_eq_one_iff.1 h1
        subst hd
        have hd0 : d < 4294967296 := dtb d (by simp)
        have hv : val 4294967296 [d] = d := by simp [val]
        rw [hv] at hbp hlt hsg hord fin
        obtain ⟨w, σc, hc, hw⟩ := clone_tr ha' (by omega) [S0, S0]
        rcases hw with ⟨h, _⟩ | ⟨_, rfl, rfl⟩
        · exact absurd h ha0
        obtain ⟨m, hsh, dm, hml, hmv⟩ := shrink_ok (l := a') (σ := [S0, S0, .row (cK .u32 a') 0]) (id := 2) (by_ := d) (cap := none) rfl rfl dta (by omega) hbp hd0
        obtain ⟨qt, σ', hq, nq, hσ⟩ := made_own (neg := !(x == y)) (l := m) (σ := [S0, S0, .row (cK .u32 m) 0]) (id := 2) (cap := none) rfl rfl dm (by omega)
        rw [hml] at hq
        obtain ⟨rt, hr, nr⟩ := made_ok (neg := x) (l := [val 4294967296 a' % d]) (t := .row [.sc (.int .u32 ((val 4294967296 a' % d : Nat) : Int))] 1 (some 1)) (.inr ⟨some 1, rfl⟩) (by
          have := Nat.mod_lt (val 4294967296 a') hbp
          intro z hz
          simp at hz
          omega) (by simp)
        rw [ival_sg] at nq nr
        have e1 : val 4294967296 [val 4294967296 a' % d] = val 4294967296 a' % d := by simp [val]
        rw [e1] at nr
        rw [hmv] at nq
        have := fin qt rt (num_le nq (by omega)) (num_le nr (by simp; omega))
        have hσ' : ∃ s1, σ' = S0 :: S0 :: s1 := by rcases hσ with rfl | rfl <;> exact ⟨_, rfl⟩
        obtain ⟨s1, rfl⟩ := hσ'
        have hx0 : ([d] : List Nat)[0]? = some d := rfl
        have hia := fun σ => sl_iaddr (σ := σ) hb' hx0 .i64
        have hld := fun σ => sl_load (k := .u32) (σ := σ) hx0
        have hbs : ∀ (z : Nat) σ, opBslice false 1 1 [.sc (.int .u32 0)] [(0, 1, nv .u32 z)] σ = some (.tr (.row [.sc (.int .u32 (z : Int))] 1 (some 1)), σ) := fun z σ => rfl
        simp only [List.length_cons, List.length_nil, Nat.zero_add, Nat.reduceAdd, List.cons_append, List.nil_append] at hc
        have hia0 : ∀ σ, opIaddr 1 (.tr tb') (.tr (.sc (.int .i64 0))) σ = some (.tr (.rptr ([d].flatMap (nE .u32)) 0)) := hia
        simp only [List.set_cons_succ, List.set_cons_zero] at hsh
        rw [hS0] at hc hsh hq
        simp [hna, hnb, hlb, hord, hsg, hc, hia0, hld, hsh, hbs, -List.flatMap_cons, -List.flatMap_nil, -Int.natCast_emod]
        refine wpc_mono _ _ _ _ (giv_mono ?_) (quo_end (sa := sa) (sb := sb) (by simp) (by simp) (by simp) (by simp) (by simp) (by simp) hq hr nq nr)
        rintro v σ' rfl
        exact ⟨_, rfl, this⟩
      · have hlen : b'.length ≤ a'.length := by
          rcases Nat.lt_or_ge a'.length b'.length with h | h
          · have := len_lt (by decide) dta ctb h
            omega
          · exact h
        obtain ⟨tq, tr, lq, lr, hdv, iq, dq, vq, nq', ir, dr, vr, nr'⟩ := divide_ok ha' hb' dta dtb ctb hb0 (by omega) hlen
        obtain ⟨qt, hq, nq⟩ := made_ok (neg := !(x == y)) iq dq (by omega)
        obtain ⟨rt, hr, nr⟩ := made_ok (neg := x) ir dr (by omega)
        rw [ival_sg] at nq nr
        rw [vq] at nq
        rw [vr] at nr
        have := fin qt rt (num_le nq (by omega)) (num_le nr (by omega))
        have h1' : ¬ (b'.length : Int) = 1 := by omega
        simp [hna, hnb, hlb, hl0, hord, hsg, h1', hdv, opExtract]
        refine wpc_mono _ _ _ _ (giv_mono ?_) (quo_end (sa := sa) (sb := sb) (s := []) (by simp) (by simp) (by simp) (by simp) (by simp) (by simp) (hq _) hr nq nr)
        rintro v σ' rfl
        exact ⟨_, rfl, this⟩
end Go.Proofs.Ytjacddclpcelmaa.AM.Bi
