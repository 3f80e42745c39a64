/- the packages: parts 30, 31, 32. -/
import Derived.Test.YtodgdmhifbnofaaSn26
set_option linter.unusedSectionVars false
section
set_option maxRecDepth 1000000
set_option linter.unusedVariables false
set_option linter.unusedSimpArgs false
namespace Go.Proofs.Ytodgdmhifbnofaa.AM.Sn
open Go.Proofs
theorem leq_s (a b : List UInt8) : opBin .other .leq (sv a) (sv b) = some (bv (bytesLt a b || bytesEq a b)) := rfl
theorem al_pkg (x : FV) (σ : Store) : opAlloc [.sc (.string ⟨⟨[]⟩⟩), .sc (.slice none 0 0)] σ = some (.ptr σ.length 0 0, σ ++ [.row [.tr (.sc (.string ⟨⟨[]⟩⟩)), .tr (.sc (.slice none 0 0))] 0]) ∧
    opStore 2 (.ptr σ.length 0 0) (.tr (.agg (fT x))) (σ ++ [.row [.tr (.sc (.string ⟨⟨[]⟩⟩)), .tr (.sc (.slice none 0 0))] 0]) = some (σ ++ [.row (fV x) 0]) := by
  refine ⟨rfl, ?_⟩
  have hc : cellsOf (.tr (.agg (fT x))) = fV x := rfl
  have ho := fV_one x
  unfold opStore
  simp only [hc, fV_len, if_true]
  unfold obPut
  simp [splice, ho, fV_len]
theorem path_inj {pk : List AP} (h : (pk.map (·.1)).Nodup) {p q : AP} (hp : p ∈ pk) (hq : q ∈ pk) (he : p.1 = q.1) : p = q := by
  obtain ⟨i, hi⟩ := List.getElem?_of_mem hp
  obtain ⟨j, hj⟩ := List.getElem?_of_mem hq
  have h1 : i < (pk.map (·.1)).length := by
    have := (List.getElem?_eq_some_iff.1 hi).1
    simpa using this
  have h2 : (pk.map (·.1))[i]? = (pk.map (·.1))[j]? := by
    rw [List.getElem?_map, List.getElem?_map, hi, hj]
    exact congrArg some he
  have := (List.getElem?_inj h1 h).1 h2
  subst this
  rw [hi] at hj
  exact Option.some.inj hj
theorem which_loop {gp : List FV} {pk : List AP} {tp tfo : Tree} {fo : List FV} {fso : List AF} {p0 : AP} {q3 : Nat} {σ : Store} {e Lo : List (Nat × V)} {Q : Out → St → Prop}
    (hp : IsSl fT gp (.tr tp)) (hpr : AllR PkgR gp pk) (hn : gp.length ≤ 8) (hsm : ∀ p ∈ pk, p.2.length ≤ 30) (hap : (pk.map (·.1)).Nodup) (hp0 : p0 ∈ pk)
    (ho : IsSl fT fo (.tr tfo)) (hor : AllR FileR fo fso) (hperm : fso.Perm p0.2) (hst : Str (fun f : AF => f.1) fso)
    (h0 : σ[0]? = some (.row [.tr tp] 0)) (h3 : σ[q3]? = some (.row [sv p0.1, .tr tfo] 0))
    (g1 : look e 1 = some (.ptr 0 0 0)) (g13 : look e 13 = some (.ptr q3 0 0)) (g14 : look e 14 = some (bv false)) (g15 : look e 15 = some (iv 0))
    (hQ : ∀ e' L' σ', look e' 14 = some (bv true) → (∀ k, k < 14 → look e' k = look e k) → σ.length ≤ σ'.length → (∀ i, i < σ.length → σ'[i]? = σ[i]?) → Q (.exit 10) ⟨e', L', σ'⟩) :
    Wp T (.loop k3_49) ⟨e, Lo, σ⟩ Q := by
  have h3l := (List.getElem?_eq_some_iff.1 h3).1
  have h0l := (List.getElem?_eq_some_iff.1 h0).1
  obtain ⟨I, hI⟩ : ∃ I : Nat → St → Prop, I = (fun r st => r ≤ gp.length ∧ ∃ e' Lo' σ', st = ⟨e', Lo', σ'⟩ ∧ look e' 14 = some (bv (decide (p0.1 ∈ (pk.take r).map (·.1)))) ∧ (∀ k, k < 14 → look e' k = look e k) ∧ look e' 15 = some (iv (r : Int)) ∧ σ.length ≤ σ'.length ∧ (∀ i, i < σ.length → σ'[i]? = σ[i]?)) := ⟨_, rfl⟩
  refine wpc_up gp.length I ?_ ?_
  · rw [hI]
    exact ⟨by omega, e, Lo, σ, rfl, by simpa using g14, fun k _ => rfl, g15, Nat.le_refl _, fun _ _ => rfl⟩
  intro r st hIs
  rw [hI] at hIs
  obtain ⟨hr, e', Lo', σ', rfl, f14, hlk, f15, hle, hkeep⟩ := hIs
  have f1 : look e' 1 = some (.ptr 0 0 0) := by rw [hlk 1 (by decide)]; exact g1
  have f13 : look e' 13 = some (.ptr q3 0 0) := by rw [hlk 13 (by decide)]; exact g13
  have h0' : σ'[0]? = some (.row [.tr tp] 0) := by rw [hkeep 0 h0l]; exact h0
  have h3' : σ'[q3]? = some (.row [sv p0.1, .tr tfo] 0) := by rw [hkeep q3 h3l]; exact h3
  have hl0 := single_load h0'
  have fl := fun σ => isSl_len (σ := σ) hp
  by_cases hlt : r < gp.length
  · have hlt' : (r : Int) < (gp.length : Int) := by omega
    obtain ⟨x, hx⟩ := some_at (l := gp) (i := r) hlt
    obtain ⟨p, hpp⟩ := some_at (l := pk) (i := r) (by rw [← hpr.1]; exact hlt)
    have hpm := List.mem_of_getElem? hpp
    obtain ⟨hpx, fgs, hfg, hfr⟩ := hpr.2 r x p hx hpp
    have ia1 := fun σ => isSl_iaddr (σ := σ) hp fT_len (by omega) (k := .i64) hx
    have ld := sl_ld2 hx
    obtain ⟨hal, hst6⟩ := al_pkg x σ'
    obtain ⟨σ9, hσ9⟩ : ∃ σ9, σ9 = σ' ++ [.row (fV x) 0] := ⟨_, rfl⟩
    rw [← hσ9] at hst6
    have h6 : σ9[σ'.length]? = some (.row [sv x.1, .tr x.2.1] 0) := by rw [hσ9]; simp [fV]
    have k9 : ∀ i, i < σ.length → σ9[i]? = σ[i]? := fun i hi => by rw [hσ9, List.getElem?_append_left (by omega)]; exact hkeep i hi
    have l9 : σ.length ≤ σ9.length := by rw [hσ9]; simp; omega
    have h39 : σ9[q3]? = some (.row [sv p0.1, .tr tfo] 0) := by rw [k9 q3 h3l]; exact h3
    have hl6 := pair_load h6
    have hl3 := pair_load h39
    have fl1 := fun σ => isSl_len (σ := σ) hfg
    have fl2 := fun σ => isSl_len (σ := σ) ho
    have w2 : IntKind.i64.wrap ((r : Int) + 1) = ((r + 1 : Nat) : Int) := wrapN _ (by omega) (by omega)
    have hb : decide (p0.1 ∈ (pk.take (r + 1)).map (·.1)) = (decide (p0.1 ∈ (pk.take r).map (·.1)) || decide (x.1 = p0.1)) := by
      rw [take_snoc hpp, Bool.eq_iff_iff, hpx]
      simp only [List.map_append, List.mem_append, List.map_cons, List.map_nil, List.mem_singleton, Bool.or_eq_true, decide_eq_true_eq]
      exact ⟨fun h => h.imp id Eq.symm, fun h => h.imp id Eq.symm⟩
    have key : ∀ e2 L2 b, b = decide (p0.1 ∈ (pk.take (r + 1)).map (·.1)) → look e2 14 = some (bv b) → (∀ k, k < 14 → look e2 k = look e k) → look e2 15 = some (iv ((r + 1 : Nat) : Int)) → I (r + 1) ⟨e2, L2, σ9⟩ := by
      intro e2 L2 b hb q14 q q15
      subst hb
      rw [hI]
      exact ⟨by omega, e2, L2, σ9, rfl, q14, q, q15, l9, k9⟩
    generalize decide (p0.1 ∈ (pk.take r).map (·.1)) = b1 at *
    generalize ((r + 1 : Nat) : Int) = r1 at *
    generalize hq6 : σ'.length = q6 at *
    by_cases hxp : x.1 = p0.1
    · have hpp0 : p = p0 := path_inj hap hpm hp0 (by rw [← hpx]; exact hxp)
      have hlen : fgs.length = fo.length := by rw [hfr.1, hor.1, hpp0, hperm.length_eq]
      have hfn : fgs.length ≤ 30 := by rw [hfr.1]; exact hsm p hpm
      have hle : (fgs.length : Int) = (fo.length : Int) := by omega
      simp [k3_49, f1, f13, f14, f15, fa_p, hl0, fl, hlt', k3_51, ia1, ld, hal, hst6, hq6, hl6, hl3, bytesEq_iff', hxp, k3_54, fl1, fl2, hlen]
      refine outs_loop ho hor (by omega) hst hfg hfr (by omega) (fun y hy => by rw [hpp0]; exact hperm.mem_iff.1 hy) h39 h6 ?_ ?_ ?_ ?_ ?_
      rotate_right
      · intro e2 L2 q14 q
        have q15 : look e2 15 = some (iv (r : Int)) := by rw [q 15 (by decide) (by decide) (by decide) (by decide)]; simp [f15]
        simp [k3_68, q15, w2]
        refine ⟨hlt, key _ _ true (by rw [hb]; simp [hxp]) ?_ ?_ ?_⟩
        · simp [q14]
        · intro k hk
          have a1 : k ≠ 14 := by omega
          have a2 : k ≠ 15 := by omega
          have a3 : k ≠ 16 := by omega
          have a4 : k ≠ 17 := by omega
          have a5 : k ≠ 18 := by omega
          have a6 : k ≠ 19 := by omega
          simp [a2]
          rw [q k a1 a4 a5 a6]
          simp [a1, a3, a4]
          exact hlk k hk
        · simp
      all_goals simp [f13, hlen]
    · simp [k3_49, f1, f13, f14, f15, fa_p, hl0, fl, hlt', k3_51, ia1, ld, hal, hst6, hq6, hl6, hl3, bytesEq_iff', hxp, k3_68, w2]
      refine ⟨hlt, key _ _ b1 (by rw [hb]; simp [hxp]) ?_ ?_ ?_⟩
      · simp [f14]
      · intro k hk
        have a1 : k ≠ 15 := by omega
        have a2 : k ≠ 16 := by omega
        simp [a1, a2]
        exact hlk k hk
      · simp
  · have hlt' : ¬ (r : Int) < (gp.length : Int) := by omega
    rw [List.take_of_length_le (show pk.length ≤ r by rw [← hpr.1]; omega), decide_eq_true (List.mem_map_of_mem hp0)] at f14
    generalize (r : Int) = rr at *
    simp [k3_49, f1, f15, fa_p, hl0, fl, hlt']
    exact hQ _ _ _ f14 hlk hle hkeep
end Go.Proofs.Ytodgdmhifbnofaa.AM.Sn
end
section
set_option maxRecDepth 1000000
set_option linter.unusedVariables false
set_option linter.unusedSimpArgs false
namespace Go.Proofs.Ytodgdmhifbnofaa.AM.Sn
open Go.Proofs
theorem all_loop {gp : List FV} {pk : List AP} {tp tw : Tree} {zo : List (FV × AP)} {q1 : Nat} {σ : Store} {e Lo : List (Nat × V)} {Q : Out → St → Prop}
    (hp : IsSl fT gp (.tr tp)) (hpr : AllR PkgR gp pk) (hn : gp.length ≤ 8) (hsm : ∀ p ∈ pk, p.2.length ≤ 30) (hap : (pk.map (·.1)).Nodup)
    (hz : IsSl fT (zo.map (·.1)) (.tr tw)) (hzp : (zo.map (·.2)).Perm pk) (hzo : ∀ a ∈ zo, OutR a.1 a.2) (hzs : Str (fun a : FV × AP => a.1.1) zo)
    (h0 : σ[0]? = some (.row [.tr tp] 0)) (h1 : σ[q1]? = some (.row [.tr tw] 0))
    (g1 : look e 1 = some (.ptr 0 0 0)) (g10 : look e 10 = some (.ptr q1 0 0)) (g12 : look e 12 = some (iv 0))
    (hQ : ∀ e' L' σ', (∀ k, k < 12 → look e' k = look e k) → Q (.exit 8) ⟨e', L', σ'⟩) :
    Wp T (.loop k3_40) ⟨e, Lo, σ⟩ Q := by
  have h1l := (List.getElem?_eq_some_iff.1 h1).1
  have h0l := (List.getElem?_eq_some_iff.1 h0).1
  have hzl : zo.length = pk.length := by rw [← hzp.length_eq]; simp
  have hz8 : zo.length ≤ 8 := by rw [hzl, ← hpr.1]; exact hn
  obtain ⟨I, hI⟩ : ∃ I : Nat → St → Prop, I = (fun r st => r ≤ zo.length ∧ ∃ e' Lo' σ', st = ⟨e', Lo', σ'⟩ ∧ (∀ k, k < 12 → look e' k = look e k) ∧ look e' 12 = some (iv (r : Int)) ∧ σ.length ≤ σ'.length ∧ (∀ i, i < σ.length → σ'[i]? = σ[i]?)) := ⟨_, rfl⟩
  refine wpc_up zo.length I ?_ ?_
  · rw [hI]
    exact ⟨by omega, e, Lo, σ, rfl, fun k _ => rfl, g12, Nat.le_refl _, fun _ _ => rfl⟩
  intro r st hIs
  rw [hI] at hIs
  obtain ⟨hr, e', Lo', σ', rfl, hlk, f12, hle, hkeep⟩ := hIs
  have f1 : look e' 1 = some (.ptr 0 0 0) := by rw [hlk 1 (by decide)]; exact g1
  have f10 : look e' 10 = some (.ptr q1 0 0) := by rw [hlk 10 (by decide)]; exact g10
  have h1' : σ'[q1]? = some (.row [.tr tw] 0) := by rw [hkeep q1 h1l]; exact h1
  have hl1 := single_load h1'
  have fl := fun σ => isSl_len (σ := σ) hz
  rw [List.length_map] at fl
  by_cases hlt : r < zo.length
  · have hlt' : (r : Int) < (zo.length : Int) := by omega
    obtain ⟨a, ha⟩ := some_at (l := zo) (i := r) hlt
    have ham := List.mem_of_getElem? ha
    have hx : (zo.map (·.1))[r]? = some a.1 := by rw [List.getElem?_map, ha]; rfl
    obtain ⟨hpa, fo, fso, ho, hor, hperm, hfst⟩ := hzo a ham
    have hp0 : a.2 ∈ pk := hzp.mem_iff.1 (List.mem_map_of_mem ham)
    have ia1 := fun σ => isSl_iaddr (σ := σ) hz fT_len (by omega) (k := .i64) hx
    have ld := sl_ld2 hx
    obtain ⟨hal, hst6⟩ := al_pkg a.1 σ'
    obtain ⟨σ9, hσ9⟩ : ∃ σ9, σ9 = σ' ++ [.row (fV a.1) 0] := ⟨_, rfl⟩
    rw [← hσ9] at hst6
    have h3 : σ9[σ'.length]? = some (.row [sv a.2.1, .tr a.1.2.1] 0) := by rw [hσ9, ← hpa]; simp [fV]
    have k9 : ∀ i, i < σ.length → σ9[i]? = σ[i]? := fun i hi => by rw [hσ9, List.getElem?_append_left (by omega)]; exact hkeep i hi
    have l9 : σ.length ≤ σ9.length := by rw [hσ9]; simp; omega
    have h09 : σ9[0]? = some (.row [.tr tp] 0) := by rw [k9 0 h0l]; exact h0
    have h19 : σ9[q1]? = some (.row [.tr tw] 0) := by rw [k9 q1 h1l]; exact h1
    have hl3 := pair_load h3
    have hl19 := single_load h19
    have w2 : IntKind.i64.wrap ((r : Int) + 1) = ((r + 1 : Nat) : Int) := wrapN _ (by omega) (by omega)
    have key : ∀ e2 L2 σ2, (∀ k, k < 12 → look e2 k = look e k) → look e2 12 = some (iv ((r + 1 : Nat) : Int)) → σ9.length ≤ σ2.length → (∀ i, i < σ9.length → σ2[i]? = σ9[i]?) → I (r + 1) ⟨e2, L2, σ2⟩ := by
      intro e2 L2 σ2 q q12 h5 h6
      rw [hI]
      exact ⟨by omega, e2, L2, σ2, rfl, q, q12, by omega, fun i hi => by rw [h6 i (by omega)]; exact k9 i hi⟩
    have fin : ∀ e1 L1 Q', look e1 1 = some (.ptr 0 0 0) → look e1 13 = some (.ptr σ'.length 0 0) → look e1 14 = some (bv false) → look e1 15 = some (iv 0) →
        (∀ e2 L2 σ2, look e2 14 = some (bv true) → (∀ k, k < 14 → look e2 k = look e1 k) → σ9.length ≤ σ2.length → (∀ i, i < σ9.length → σ2[i]? = σ9[i]?) → Q' (.exit 10) ⟨e2, L2, σ2⟩) → Wp T (.loop k3_49) ⟨e1, L1, σ9⟩ Q' :=
      fun e1 L1 Q' a1 a2 a3 a4 a5 => which_loop hp hpr hn hsm hap hp0 ho hor hperm hfst h09 h3 a1 a2 a3 a4 a5
    generalize ((r + 1 : Nat) : Int) = r1 at *
    generalize hq3 : σ'.length = q3 at *
    by_cases hr0 : r = 0
    · have hr0' : (r : Int) = 0 := by omega
      have hpos : 0 < zo.length := by omega
      simp only [hr0'] at f12 hlt' w2 ia1
      simp [k3_40, f10, f12, fa_p, hl1, fl, hlt', hpos, k3_42, ia1, ld, hal, hst6, hq3, k3_46]
      refine fin _ _ _ ?_ ?_ ?_ ?_ ?_
      rotate_right
      · intro e2 L2 σ2 q14 q hl2 hk2
        have q12 : look e2 12 = some (iv 0) := by rw [q 12 (by decide)]; simp [f12]
        simp [k3_69, q14, k3_72, q12, w2]
        simp at w2
        refine ⟨hlt, key _ _ _ ?_ ?_ hl2 hk2⟩
        · intro k hk
          have a1 : k ≠ 12 := by omega
          have a2 : k ≠ 13 := by omega
          have a3 : k ≠ 14 := by omega
          have a4 : k ≠ 15 := by omega
          simp [a1]
          rw [q k (by omega)]
          simp [a2, a3, a4]
          exact hlk k hk
        · simp [w2]
      all_goals simp [f1]
    · obtain ⟨a0, ha0⟩ := some_at (l := zo) (i := r - 1) (by omega)
      have hx0 : (zo.map (·.1))[r - 1]? = some a0.1 := by rw [List.getElem?_map, ha0]; rfl
      have hless : bytesLt a0.1.1 a.1.1 = true := by
        unfold Str at hzs
        rw [List.pairwise_iff_getElem] at hzs
        have hb0 := (List.getElem?_eq_some_iff.1 ha0)
        have hb := (List.getElem?_eq_some_iff.1 ha)
        have := hzs (r - 1) r hb0.1 hb.1 (by omega)
        rw [hb0.2, hb.2] at this
        exact this
      have hnl : (bytesLt a.1.1 a0.1.1 || bytesEq a.1.1 a0.1.1) = false := by
        rw [bytesLt_lt] at hless
        rw [Bool.eq_false_iff]
        intro h
        rw [Bool.or_eq_true, bytesLt_lt, bytesEq_iff', decide_eq_true_eq] at h
        rcases h with h | h
        · exact List.lt_irrefl _ (List.lt_trans h hless)
        · rw [h] at hless
          exact List.lt_irrefl _ hless
      rw [hpa] at hnl
      have ia0 := fun σ => isSl_iaddr (σ := σ) hz fT_len (by omega) (k := .i64) hx0
      have l0 := fld0 hx0
      have w1 : IntKind.i64.wrap ((r : Int) - 1) = ((r - 1 : Nat) : Int) := wrapN _ (by omega) (by omega)
      have hr0' : (0 : Int) < (r : Int) := by omega
      have hrp : 0 < r := by omega
      generalize hrm : ((r - 1 : Nat) : Int) = rm at *
      simp [k3_40, f10, f12, fa_p, fa_r, hl1, fl, hlt', k3_42, ia1, ld, hal, hst6, hq3, hr0', hrp, w1, hl3, hl19, ia0, l0, leq_s, hnl, k3_46]
      refine fin _ _ _ ?_ ?_ ?_ ?_ ?_
      rotate_right
      · intro e2 L2 σ2 q14 q hl2 hk2
        have q12 : look e2 12 = some (iv (r : Int)) := by rw [q 12 (by decide)]; simp [f12]
        simp [k3_69, q14, k3_72, q12, w2]
        refine ⟨hlt, key _ _ _ ?_ ?_ hl2 hk2⟩
        · intro k hk
          have a1 : k ≠ 12 := by omega
          have a2 : k ≠ 13 := by omega
          have a3 : k ≠ 14 := by omega
          have a4 : k ≠ 15 := by omega
          simp [a1]
          rw [q k (by omega)]
          simp [a2, a3, a4]
          exact hlk k hk
        · simp
      all_goals simp [f1]
  · have hlt' : ¬ (r : Int) < (zo.length : Int) := by omega
    generalize (r : Int) = rr at *
    simp [k3_40, f10, f12, fa_p, hl1, fl, hlt']
    exact hQ _ _ _ hlk
end Go.Proofs.Ytodgdmhifbnofaa.AM.Sn
end
section
set_option maxRecDepth 1000000
set_option linter.unusedVariables false
set_option linter.unusedSimpArgs false
namespace Go.Proofs.Ytodgdmhifbnofaa.AM.Sn
open Go.Proofs
theorem begun_ok (σ : Store) : callL T 5 [] σ = some (bv true, σ) := callL_extV T5 rfl rfl rfl
theorem sl_one {l : List FV} {v : V} (h : IsSl fT l v) : ∃ t, v = .tr t ∧ cellsOf v = [v] ∧ oneV v = true := by
  rcases h with ⟨_, rfl⟩ | ⟨cap, rfl⟩
  · exact ⟨_, rfl, rfl, rfl⟩
  · exact ⟨_, rfl, rfl, rfl⟩
theorem ext_b0 (a b : Tree) : opExtract (.tr (.tup [a, b])) 0 = some (.tr a) := rfl
theorem ext_b1 (a b : Tree) : opExtract (.tr (.tup [a, b])) 1 = some (.tr b) := rfl
theorem neq_b (a b : Bool) : opBin .bool .neq (bv a) (bv b) = some (bv (a != b)) := by cases a <;> cases b <;> rfl
theorem norm_law {gp : List FV} {pk : List AP} {tp : Tree} {e Lo : List (Nat × V)} {Q : Out → St → Prop}
    (hp : IsSl fT gp (.tr tp)) (hpr : AllR PkgR gp pk) (hfb : ∀ p ∈ pk, ∀ f ∈ p.2, f.2.length ≤ 140737488355328) (hn : gp.length ≤ 8)
    (g1 : look e 1 = some (.ptr 0 0 0)) (g3 : look e 3 = some (bv true))
    (hQ : ∀ e' L' σ', look e' 2 = some (bv true) → Q .ret ⟨e', L', σ'⟩) :
    wpc T k3_3 ⟨e, Lo, [.row [.tr tp] 0]⟩ Q := by
  obtain ⟨σ, hσ⟩ : ∃ σ : Store, σ = [.row [.tr tp] 0] := ⟨_, rfl⟩
  rw [← hσ]
  have h0 : σ[0]? = some (.row [.tr tp] 0) := by rw [hσ]; rfl
  have hσl : σ.length = 1 := by rw [hσ]; rfl
  have fl := fun σ => isSl_len (σ := σ) hp
  simp [k3_3]
  refine apart_loop hp hpr hn h0 ?_ ?_ ?_ ?_ ?_ ?_
  · simp [g1]
  · simp [g3]
  · simp
  · simp
  · intro e1 L1 h2
    exact hQ _ _ _ h2
  intro e1 L1 hsm f4 hlk
  have f1 : look e1 1 = some (.ptr 0 0 0) := by rw [hlk 1 (by decide)]; simp [g1]
  have f3 : look e1 3 = some (bv true) := by rw [hlk 3 (by decide)]; simp [g3]
  obtain ⟨t, hcall, hnr⟩ := norm_ok hp hpr (fun p hpm => ⟨hsm p hpm, hfb p hpm⟩) hn
  have hl0 := single_load h0
  have hob : obCells σ 0 0 = some [.tr tp] := by simp [obCells, h0]
  have hld : opLoad 1 true (.ptr 0 0 0) σ = some (.tr (.agg [tp])) := by
    simp only [opLoad, hob]
    rfl
  have hal : opAlloc [.sc (.slice none 0 0)] σ = some (.ptr 1 0 0, σ ++ [.row [.tr (.sc (.slice none 0 0))] 0]) := by rw [← hσl]; rfl
  rcases hnr with ⟨hna, rfl⟩ | ⟨hap, zo, tw, rfl, hz, hzp, hzo, hzs⟩
  · rw [decide_eq_false hna] at f4
    obtain ⟨σ1, hσ1⟩ : ∃ σ1 : Store, σ1 = σ ++ [.row [.tr (.sc (.slice none 0 0))] 0] := ⟨_, rfl⟩
    have h1 : σ1[1]? = some (.row [.tr (.sc (.slice none 0 0))] 0) := by rw [hσ1, hσ]; rfl
    have hst : opStore 1 (.ptr 1 0 0) (.tr (.agg [.sc (.slice none 0 0)])) (σ ++ [.row [.tr (.sc (.slice none 0 0))] 0]) = some σ1 := by
      rw [hσ1, hσ]; rfl
    have hl1 := single_load h1
    have hlen : ∀ σ, opLen 1 (.tr (.sc (.slice none 0 0))) σ = some (iv 0) := fun σ => rfl
    simp [k3_28, f1, f3, f4, hld, hcall, ext_b0, ext_b1, hal, hσl, hst, neq_b, k3_32, fa_p, hl1, hlen]
    refine hQ _ _ _ ?_
    simp
  · rw [decide_eq_true hap] at f4
    obtain ⟨_, hcw, how⟩ := sl_one hz
    obtain ⟨σ1, hσ1⟩ : ∃ σ1 : Store, σ1 = σ ++ [.row [.tr tw] 0] := ⟨_, rfl⟩
    have h1 : σ1[1]? = some (.row [.tr tw] 0) := by rw [hσ1, hσ]; rfl
    have h01 : σ1[0]? = some (.row [.tr tp] 0) := by rw [hσ1, hσ]; rfl
    have hst : opStore 1 (.ptr 1 0 0) (.tr (.agg [tw])) (σ ++ [.row [.tr (.sc (.slice none 0 0))] 0]) = some σ1 := by
      rw [hσ1, hσ]
      have hc : cellsOf (.tr (.agg [tw])) = [.tr tw] := rfl
      unfold opStore
      simp only [hc, List.length_singleton, if_true]
      unfold obPut
      simp [how, splice]
    have hl1 := single_load h1
    have hl01 := single_load h01
    have fz := fun σ => isSl_len (σ := σ) hz
    rw [List.length_map] at fz
    have hzl : zo.length = gp.length := by rw [hpr.1, ← hzp.length_eq]; simp
    rw [hzl] at fz
    have heq : ∀ n : Int, opBin .other .neq (iv n) (iv n) = some (bv false) := fun n => by
      have : opBin .other .neq (iv n) (iv n) = some (bv (!(n == n))) := rfl
      rw [this]; simp
    generalize (gp.length : Int) = n at *
    simp [k3_28, f1, f3, f4, hld, hcall, ext_b0, ext_b1, hal, hσl, hst, neq_b, k3_32, fa_p, hl1, hl01, k3_35, fz, fl, k3_38]
    refine all_loop (q1 := 1) hp hpr hn hsm hap.1 hz hzp hzo hzs h01 h1 ?_ ?_ ?_ ?_
    rotate_right
    · intro e2 L2 σ2 q
      have q3 : look e2 3 = some (bv true) := by rw [q 3 (by decide)]; simp [f3]
      simp [k3_73, q3]
      refine hQ _ _ _ ?_
      simp
    all_goals simp [f1]
theorem law_norm {gp : List FV} {pk : List AP} {tp : Tree} (hp : IsSl fT gp (.tr tp)) (hpr : AllR PkgR gp pk) (hfb : ∀ p ∈ pk, ∀ f ∈ p.2, f.2.length ≤ 140737488355328) :
    ∃ σ', callL T 3 [.tr (.agg [tp])] [] = some (bv true, σ') := by
  have hh : ∃ w σ', callL T 3 [.tr (.agg [tp])] [] = some (w, σ') ∧ w = bv true := by
    refine call_shared T3 rfl rfl ?_
    have hl := fun σ => isSl_len (σ := σ) hp
    obtain ⟨_, hc, ho⟩ := sl_one hp
    have hbx : opBoxB false (.tr (.agg [tp])) [] = some (.ptr 0 0 0, [.row [.tr tp] 0]) := rfl
    have hld := single_load (σ := [.row [.tr tp] 0]) (q := 0) (x := .tr tp) rfl
    by_cases hlt : 8 < gp.length
    · have hlt' : (8 : Int) < (gp.length : Int) := by omega
      obtain ⟨v', h1, h2⟩ := isSl_cut_hi (σ := [.row [.tr tp] 0]) hp fT_len (k' := .i64) (hi := 8) (by omega)
      have h1 : opSlice 2 (.tr tp) none (some (iv 8)) none [.row [.tr tp] 0] = some v' := h1
      obtain ⟨tp', rfl, hc', ho'⟩ := sl_one h2
      have hst := single_store (σ := [.row [.tr tp] 0]) (q := 0) (x := .tr tp) (z := .tr tp') rfl hc' ho'
      simp only [List.set_cons_zero] at hst
      have hpr' : AllR PkgR (gp.take 8) (pk.take 8) := by
        refine ⟨by rw [List.length_take, List.length_take, hpr.1], fun i a b ha hb => ?_⟩
        rw [List.getElem?_take] at ha hb
        split at ha
        · rename_i h
          rw [if_pos h] at hb
          exact hpr.2 i a b ha hb
        · cases ha
      simp [begun_ok, hbx, fa_p, hld, hl, hlt', h1, hst]
      refine norm_law h2 hpr' (fun p hpm => hfb p (List.mem_of_mem_take hpm)) (by rw [List.length_take]; omega) (by simp) (by simp) ?_
      intro e' L' σ' f2
      simp [f2]
    · have hlt' : ¬ (8 : Int) < (gp.length : Int) := by omega
      simp [begun_ok, hbx, fa_p, hld, hl, hlt']
      refine norm_law hp hpr hfb (by omega) (by simp) (by simp) ?_
      intro e' L' σ' f2
      simp [f2]
  obtain ⟨w, σ', h1, rfl⟩ := hh
  exact ⟨σ', h1⟩
end Go.Proofs.Ytodgdmhifbnofaa.AM.Sn
end
