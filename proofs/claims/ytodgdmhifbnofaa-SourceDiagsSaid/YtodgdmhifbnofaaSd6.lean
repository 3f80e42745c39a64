/- the places: parts 6, 7, 8, 9. -/
import Derived.Test.YtodgdmhifbnofaaSd2
set_option linter.unusedSectionVars false
section
set_option maxRecDepth 1000000
set_option linter.unusedVariables false
set_option linter.unusedSimpArgs false
namespace Go.Proofs.Ytodgdmhifbnofaa.AM.Sd
open Go.Proofs
theorem clone_some {ds : List Dg} {v : V} (h : IsSl dT ds v) (h0 : 0 < ds.length) (hn : ds.length ≤ 1000) (σ : Store) : callL T 17 [v] σ = some (own3 σ.length 0 ds.length none, σ ++ [.row (cE dT ds) 0]) := by
  suffices hh : ∃ w σ', callL T 17 [v] σ = some (w, σ') ∧ w = own3 σ.length 0 ds.length none ∧ σ' = σ ++ [.row (cE dT ds) 0] by
    obtain ⟨w, σ', h, rfl, rfl⟩ := hh
    exact h
  refine call_shared T17 rfl rfl ?_
  have hr : Go.Proofs.Ytodgdmhifbnofaa.AM.room ds.length 40 = true := by
    unfold Go.Proofs.Ytodgdmhifbnofaa.AM.room
    have : ds.length * 41 ≤ 1000 * 41 := Nat.mul_le_mul_right _ hn
    exact Nat.ble_eq_true_of_le (by omega)
  have ha := fun σ => appE_row (σ := σ) (b := 40) dT_len h h0 hr
  have hb : ∀ σ, opBslice false 0 3 [.sc (.string ⟨⟨[]⟩⟩), .sc (.string ⟨⟨[]⟩⟩), .sc (.int .i64 0)] [] σ = some (.tr (.row [] 0 (some 0)), σ) := fun σ => rfl
  rcases h with ⟨rfl, _⟩ | ⟨cap, rfl⟩
  · simp at h0
  · simp [hb, ha, k17_3]
theorem clone_none {v : V} (h : IsSl dT [] v) (σ : Store) : ∃ w, callL T 17 [v] σ = some (w, σ) ∧ (w = nilSl ∨ ∃ c, w = .tr (.row [] 0 c)) := by
  suffices hh : ∃ w σ', callL T 17 [v] σ = some (w, σ') ∧ (w = nilSl ∨ ∃ c, w = .tr (.row [] 0 c)) ∧ σ' = σ by
    obtain ⟨w, σ', h, h2, rfl⟩ := hh
    exact ⟨w, h, h2⟩
  refine call_shared T17 rfl rfl ?_
  have ha := fun σ => appE_none (σ := σ) (b := 40) dT_len h (.inr ⟨some 0, rfl⟩)
  have hb : ∀ σ, opBslice false 0 3 [.sc (.string ⟨⟨[]⟩⟩), .sc (.string ⟨⟨[]⟩⟩), .sc (.int .i64 0)] [] σ = some (.tr (.row [] 0 (some 0)), σ) := fun σ => rfl
  rcases h with ⟨_, rfl⟩ | ⟨cap, rfl⟩
  · simp [nilSl]
  · have ha' : ∀ σ, opAppend 3 40 (.tr (.row [] 0 (some 0))) (.tr (.row [] 0 cap)) σ = some (.tr (.row [] 0 (some 0)), σ) := ha
    simp [hb, ha', k17_3]
theorem dT_enc (l : List Dg) : (l.flatMap encD).map (fun x => V.tr (.sc x)) = cE dT l := by
  induction l with
  | nil => rfl
  | cons x l ih =>
    have h1 : cE dT (x :: l) = (dT x).map .tr ++ cE dT l := by simp [cE]
    rw [h1, ← ih]
    rfl
theorem dgsOf_c : ∀ l : List Dg, dgsOf (cE dT l) = some l
  | [] => rfl
  | x :: l => by
    have h1 : cE dT (x :: l) = .tr (.sc (.string ⟨⟨x.1⟩⟩)) :: .tr (.sc (.string ⟨⟨x.2.1⟩⟩)) :: .tr (.sc (.int .i64 x.2.2)) :: cE dT l := by simp [cE, dT]
    rw [h1, dgsOf, dgsOf_c l]
theorem sortD_len (l : List Dg) : (sortD l).length = l.length := by rw [sortD_eq]; simp
theorem extV_59 {vs : List V} {σ : Store} : extV 59 vs σ = none := by
  unfold extV
  cases argsOf 59 vs σ <;> rfl
theorem sort_some {ds : List Dg} {σ : Store} {id : Nat} (hs : σ[id]? = some (.row (cE dT ds) 0)) (h0 : 0 < ds.length) (hn : ds.length ≤ 1000) :
    callL T 18 [own3 id 0 ds.length none, .tr (.fn (.func 19) [] [])] σ = some (.tr (.tup []), σ.set id (.row (cE dT (sortD ds)) 0)) := by
  refine callL_extF T18 rfl rfl extV_59 ?_
  have h1 : (Nat.beq 59 (40 + 19) && (Nat.blt 19 60 && (Nat.beq 3 3 && (Nat.blt 0 ds.length && Nat.ble ds.length 100000)))) = true := by
    have e1 : Nat.blt 0 ds.length = true := Nat.ble_eq_true_of_le h0
    have e2 : Nat.ble ds.length 100000 = true := Nat.ble_eq_true_of_le (by omega)
    rw [e1, e2]; rfl
  have h2 : obCells σ id 0 = some (cE dT ds) := by simp [obCells, hs]
  have h3 : slice? (cE dT ds) 0 (ds.length * 3) = some (cE dT ds) := by
    have := cE_slice dT_len (l := ds) (i := 0) (k := ds.length) (by omega)
    rwa [Nat.zero_mul, List.drop_zero, List.take_of_length_le (Nat.le_refl _)] at this
  have h4 : obPut σ id 0 0 (cE dT (sortD ds)) = some (σ.set id (.row (cE dT (sortD ds)) 0)) := by
    unfold obPut
    rw [hs]
    simp only
    rw [if_pos ⟨trivial, by rw [cE_len dT_len, cE_len dT_len, sortD_len]; omega, cE_one _⟩]
    rw [splice_all _ _ (by rw [cE_len dT_len, cE_len dT_len, sortD_len])]
  unfold extF
  simp only [own3, h1, h2, h3, dgsOf_c, dT_enc, h4]
theorem sort_none {w : V} {σ : Store} (h : w = nilSl ∨ ∃ c, w = .tr (.row [] 0 c)) : callL T 18 [w, .tr (.fn (.func 19) [] [])] σ = some (.tr (.tup []), σ) := by
  refine callL_extF T18 rfl rfl extV_59 ?_
  rcases h with rfl | ⟨c, rfl⟩ <;> rfl
theorem compact_none {w : V} {σ : Store} (h : w = nilSl ∨ ∃ c, w = .tr (.row [] 0 c)) : callL T 21 [w] σ = some (w, σ) := by
  suffices hh : ∃ v σ', callL T 21 [w] σ = some (v, σ') ∧ v = w ∧ σ' = σ by
    obtain ⟨v, σ', h, rfl, rfl⟩ := hh
    exact h
  refine call_shared T21 rfl rfl ?_
  have hl : ∀ σ, opLen 1 w σ = some (iv 0) := by
    intro σ
    rcases h with rfl | ⟨c, rfl⟩ <;> rfl
  simp [hl]
theorem clip_none {w : V} {σ : Store} (h : w = nilSl ∨ ∃ c, w = .tr (.row [] 0 c)) : ∃ t, callL T 20 [w] σ = some (.tr t, σ) ∧ IsSl dT [] (.tr t) := by
  suffices hh : ∃ v σ', callL T 20 [w] σ = some (v, σ') ∧ (∃ t, v = .tr t ∧ IsSl dT [] (.tr t)) ∧ σ' = σ by
    obtain ⟨v, σ', h, ⟨t, rfl, h2⟩, rfl⟩ := hh
    exact ⟨t, h, h2⟩
  refine call_shared T20 rfl rfl ?_
  rcases h with rfl | ⟨c, rfl⟩
  · have hl : ∀ σ, opLen 1 nilSl σ = some (iv 0) := fun σ => rfl
    have hc : ∀ σ, opSlice 3 nilSl none (some (iv 0)) (some (iv 0)) σ = some nilSl := fun σ => rfl
    simp [hl, hc]
    exact ⟨_, rfl, .inl ⟨rfl, rfl⟩⟩
  · have hl : ∀ σ, opLen 1 (.tr (.row [] 0 c)) σ = some (iv 0) := fun σ => rfl
    have hc : ∀ σ, opSlice 3 (.tr (.row [] 0 c)) none (some (iv 0)) (some (iv 0)) σ = some (.tr (.row [] 0 (some 0))) := fun σ => rfl
    simp [hl, hc]
    exact .inr ⟨some 0, rfl⟩
theorem clip_some {A : List Dg} {id n : Nat} {σ : Store} (hs : σ[id]? = some (.row (cE dT A) 0)) : callL T 20 [own3 id 0 n none] σ = some (own3 id 0 n (some n), σ) := by
  suffices hh : ∃ v σ', callL T 20 [own3 id 0 n none] σ = some (v, σ') ∧ v = own3 id 0 n (some n) ∧ σ' = σ by
    obtain ⟨v, σ', h, rfl, rfl⟩ := hh
    exact h
  refine call_shared T20 rfl rfl ?_
  have hob : obCells σ id 0 = some (cE dT A) := by simp [obCells, hs]
  have hc : opSlice 3 (own3 id 0 n none) none (some (iv (n : Int))) (some (iv (n : Int))) σ = some (own3 id 0 n (some n)) := by
    unfold opSlice
    simp only [optIdx, asIdx_nat, Option.getD_some, Option.getD_none, hob, ne_eq, not_true_eq_false, if_false, cutCap, Option.isSome_some, Option.isNone_some, Bool.and_false, Bool.false_eq_true, Nat.zero_add, Nat.zero_mul, Nat.sub_zero]
    rw [if_pos ⟨Nat.zero_le _, Nat.le_refl _, .inl (Nat.le_refl _)⟩]
  simp [own3_len, hc]
theorem diags_ok {ds : List Dg} {tb : Tree} (h : IsSl dT ds (.tr tb)) (hn : ds.length ≤ 1000) : ∃ t, (∀ σ, callL T 7 [.tr tb] σ = some (.tr t, σ)) ∧ IsSl dT (cpt (sortD ds)) (.tr t) := by
  have hh : ∃ t, (∀ σ, callL T 7 ([tb].map .tr) σ = some (.tr t, σ)) ∧ IsSl dT (cpt (sortD ds)) (.tr t) := by
    refine call_iso T7 rfl rfl ?_
    rcases Nat.eq_zero_or_pos ds.length with h0 | h0
    · obtain rfl := List.length_eq_zero_iff.1 h0
      obtain ⟨w, h1, hw⟩ := clone_none h []
      have h2 := sort_none (σ := []) hw
      have h3 := compact_none (σ := []) hw
      obtain ⟨t, h4, h5⟩ := clip_none (σ := []) hw
      simp [h1, h2, h3, h4]
      exact h5
    · have h1 := clone_some h h0 hn []
      have h2 := sort_some (ds := ds) (σ := [.row (cE dT ds) 0]) (id := 0) rfl h0 hn
      have h2' : ([.row (cE dT ds) 0] : Store).set 0 (.row (cE dT (sortD ds)) 0) = [.row (cE dT (sortD ds)) 0] := rfl
      rw [h2'] at h2
      obtain ⟨v, σ', h3, rfl, A, h4, h5, h6⟩ := compact_ok (L := sortD ds) (σ := [.row (cE dT (sortD ds)) 0]) (id := 0) (by simp) rfl (by rw [sortD_len]; exact hn)
      rw [sortD_len] at h3
      have h7 := clip_some (n := (cpt (sortD ds)).length) h4
      have h8 := snapE (d := 399) (cap := some (cpt (sortD ds)).length) (n := (cpt (sortD ds)).length) (k := 0) dT_len h4 (by omega)
      rw [Nat.zero_mul, List.drop_zero, h6] at h8
      simp only [List.length_nil, List.nil_append] at h1
      simp [h1, h2, h3, h7]
      exact ⟨_, h8, .inr ⟨_, rfl⟩⟩
  exact hh
end Go.Proofs.Ytodgdmhifbnofaa.AM.Sd
end
section
set_option maxRecDepth 1000000
set_option linter.unusedVariables false
set_option linter.unusedSimpArgs false
namespace Go.Proofs.Ytodgdmhifbnofaa.AM.Sd
open Go.Proofs
abbrev fv8 : V := .tr (.fn (.func 8) [] [])
theorem lessV (a b : Dg) (σ : Store) : callV (callL T) fv8 [.tr (.agg (dT a)), .tr (.agg (dT b))] σ = some (bv (dLt a b), σ) := less_ok a b σ
theorem eq_of_not {a b : Dg} : (!dLt a b && !dLt b a) = decide (a = b) := by
  rcases dLt_tri a b with h | rfl | h
  · rw [h]
    have : a ≠ b := by rintro rfl; rw [dLt_irr] at h; cases h
    simp [this]
  · simp [dLt_irr]
  · rw [h]
    have : a ≠ b := by rintro rfl; rw [dLt_irr] at h; cases h
    simp [this]
def outD (d : List Dg) : List Dg := cpt (sortD d)
theorem out_mem (d : List Dg) (x : Dg) : x ∈ outD d ↔ x ∈ d := by
  unfold outD
  rw [cpt_mem, sortD_eq, List.mem_mergeSort]
theorem out_len (d : List Dg) : (outD d).length ≤ d.length := by
  have := cpt_len (sortD d)
  rw [sortD_len] at this
  exact this
theorem out_rise (d : List Dg) : (outD d).Pairwise fun a b => dLt a b = true := by
  have h := cpt_sorted (le := fun a b => !dLt b a) (fun a b h1 h2 => ?_) (sortD d) ?_
  · refine h.imp ?_
    rintro a b ⟨h1, h2⟩
    rcases dLt_tri a b with h | h | h
    · exact h
    · exact absurd h h2
    · rw [h] at h1; cases h1
  · rcases dLt_tri a b with h | h | h
    · rw [h] at h2; cases h2
    · exact h
    · rw [h] at h1; cases h1
  · rw [sortD_eq]
    exact List.pairwise_mergeSort dLe_trans dLe_total d
theorem sl_ld {l : List Dg} {i : Nat} {x : Dg} (hi : l[i]? = some x) (σ : Store) : opLoad 3 true (.tr (.rptr (l.flatMap dT) (i * 3))) σ = some (.tr (.agg (dT x))) := by
  have := rptr_load0 (σ := σ) (agg := true) (s := 3) dT_len hi (Nat.le_refl _)
  rw [this, List.take_of_length_le (by rw [dT_len]; exact Nat.le_refl _)]
  simp only [ofCells, mkAgg, allTr_map]
theorem sl_tr3 {l : List Dg} {v : V} (h : IsSl dT l v) : ∃ t, v = .tr t := by
  rcases h with ⟨rfl, rfl⟩ | ⟨cap, rfl⟩
  · exact ⟨_, rfl⟩
  · exact ⟨_, rfl⟩
theorem in_loop2 {d L : List Dg} {vd vl : V} {x : Dg} {i : Nat} {σ : Store} {e Lo : List (Nat × V)} {Q : Out → St → Prop} (hd : IsSl dT d vd) (hL : IsSl dT L vl) (hdn : d.length ≤ 1000) (hLn : L.length ≤ 1000) (hi : d[i]? = some x) {u3 : V}
    (g0 : look e 0 = some vd) (g3 : look e 3 = some u3) (g4 : look e 4 = some vl) (g5 : look e 5 = some fv8) (g7 : look e 7 = some (iv i)) (g8 : look e 8 = some (bv false)) (g9 : look e 9 = some (iv 0))
    (hQ : ∀ e' L', look e' 0 = some vd → look e' 3 = some u3 → look e' 4 = some vl → look e' 5 = some fv8 → look e' 7 = some (iv i) → look e' 8 = some (bv (decide (x ∈ L))) → Q (.exit 4) ⟨e', L', σ⟩) :
    Wp T (.loop k4_20) ⟨e, Lo, σ⟩ Q := by
  obtain ⟨I, hI⟩ : ∃ I : Nat → St → Prop, I = (fun r st => r ≤ L.length ∧ ∃ e Lo, st = ⟨e, Lo, σ⟩ ∧ look e 0 = some vd ∧ look e 3 = some u3 ∧ look e 4 = some vl ∧ look e 5 = some fv8 ∧ look e 7 = some (iv i) ∧ look e 8 = some (bv (decide (x ∈ L.take r))) ∧ look e 9 = some (iv (r : Int))) := ⟨_, rfl⟩
  refine wpc_up L.length I ?_ ?_
  · rw [hI]
    exact ⟨by omega, e, Lo, rfl, g0, g3, g4, g5, g7, by simpa using g8, g9⟩
  clear g0 g3 g4 g5 g7 g8 g9
  intro r st hIs
  rw [hI] at hIs
  obtain ⟨hr, e, Lo, rfl, g0, g3, g4, g5, g7, g8, g9⟩ := hIs
  have hl1 := fun σ => isSl_len (σ := σ) hL
  by_cases hlt : r < L.length
  · have hlt' : (r : Int) < (L.length : Int) := by omega
    obtain ⟨y, hy⟩ := some_at (l := L) (i := r) hlt
    have ia1 := fun σ => isSl_iaddr (σ := σ) hd dT_len (by omega) (k := .i64) hi
    have ia2 := fun σ => isSl_iaddr (σ := σ) hL dT_len (by omega) (k := .i64) hy
    have l1 := sl_ld hi
    have l2 := sl_ld hy
    have w2 : IntKind.i64.wrap ((r : Int) + 1) = ((r + 1 : Nat) : Int) := by rw [show (r : Int) + 1 = ((r + 1 : Nat) : Int) by omega]; exact w64 (by omega) (by omega)
    have ex := eq_of_not (a := x) (b := y)
    have hb : decide (x ∈ L.take (r + 1)) = (decide (x ∈ L.take r) || decide (x = y)) := by
      rw [take_snoc hy, Bool.eq_iff_iff]
      simp
    have key : ∀ e' Lo' b, b = decide (x ∈ L.take (r + 1)) → look e' 0 = some vd → look e' 3 = some u3 → look e' 4 = some vl → look e' 5 = some fv8 → look e' 7 = some (iv i) → look e' 8 = some (bv b) → look e' 9 = some (iv ((r + 1 : Nat) : Int)) → I (r + 1) ⟨e', Lo', σ⟩ := by
      intro e' Lo' b hb f0 f3 f4 f5 f7 f8 f9
      subst hb
      rw [hI]
      exact ⟨by omega, e', Lo', rfl, f0, f3, f4, f5, f7, f8, f9⟩
    generalize decide (x ∈ L.take r) = b0 at *
    generalize ((r + 1 : Nat) : Int) = r1 at *
    cases b0 with
    | true =>
      simp [k4_20, g0, g3, g4, g5, g7, g8, g9, hlt', hl1, k4_22, w2]
      refine ⟨hlt, key _ _ true (by rw [hb]; rfl) ?_ ?_ ?_ ?_ ?_ ?_ ?_⟩
      all_goals simp [g0, g3, g4, g5, g7]
    | false =>
      cases h1 : dLt x y with
      | true =>
        rw [h1] at ex
        simp [k4_20, g0, g3, g4, g5, g7, g8, g9, hlt', hl1, k4_22, w2, ia1, ia2, l1, l2, lessV, h1]
        refine ⟨hlt, key _ _ false (by rw [hb, ← ex]; rfl) ?_ ?_ ?_ ?_ ?_ ?_ ?_⟩
        all_goals simp [g0, g3, g4, g5, g7]
      | false =>
        rw [h1] at ex
        cases h2 : dLt y x with
        | true =>
          rw [h2] at ex
          simp [k4_20, g0, g3, g4, g5, g7, g8, g9, hlt', hl1, k4_22, w2, ia1, ia2, l1, l2, lessV, h1, h2]
          refine ⟨hlt, key _ _ false (by rw [hb, ← ex]; rfl) ?_ ?_ ?_ ?_ ?_ ?_ ?_⟩
          all_goals simp [g0, g3, g4, g5, g7]
        | false =>
          rw [h2] at ex
          simp [k4_20, g0, g3, g4, g5, g7, g8, g9, hlt', hl1, k4_22, w2, ia1, ia2, l1, l2, lessV, h1, h2]
          refine ⟨hlt, key _ _ true (by rw [hb, ← ex]; rfl) ?_ ?_ ?_ ?_ ?_ ?_ ?_⟩
          all_goals simp [g0, g3, g4, g5, g7]
  · have hlt' : ¬ (r : Int) < (L.length : Int) := by omega
    have hall : L.take r = L := List.take_of_length_le (by omega)
    rw [hall] at g8
    generalize (r : Int) = rr at *
    simp [k4_20, g0, g3, g4, g5, g7, g9, hlt', hl1]
    exact hQ _ _ g0 g3 g4 g5 g7 g8
end Go.Proofs.Ytodgdmhifbnofaa.AM.Sd
end
section
set_option maxRecDepth 1000000
set_option linter.unusedVariables false
set_option linter.unusedSimpArgs false
namespace Go.Proofs.Ytodgdmhifbnofaa.AM.Sd
open Go.Proofs
theorem in_loop3 {d L : List Dg} {vd vl : V} {x : Dg} {i : Nat} {σ : Store} {e Lo : List (Nat × V)} {Q : Out → St → Prop} (hd : IsSl dT d vd) (hL : IsSl dT L vl) (hdn : d.length ≤ 1000) (hLn : L.length ≤ 1000) (hi : L[i]? = some x) {u3 : V}
    (g0 : look e 0 = some vd) (g3 : look e 3 = some u3) (g4 : look e 4 = some vl) (g5 : look e 5 = some fv8) (gA : look e 10 = some (iv i)) (gB : look e 11 = some (bv false)) (gC : look e 12 = some (iv 0))
    (hQ : ∀ e' L', look e' 0 = some vd → look e' 3 = some u3 → look e' 4 = some vl → look e' 5 = some fv8 → look e' 10 = some (iv i) → look e' 11 = some (bv (decide (x ∈ d))) → Q (.exit 8) ⟨e', L', σ⟩) :
    Wp T (.loop k4_34) ⟨e, Lo, σ⟩ Q := by
  obtain ⟨I, hI⟩ : ∃ I : Nat → St → Prop, I = (fun r st => r ≤ d.length ∧ ∃ e Lo, st = ⟨e, Lo, σ⟩ ∧ look e 0 = some vd ∧ look e 3 = some u3 ∧ look e 4 = some vl ∧ look e 5 = some fv8 ∧ look e 10 = some (iv i) ∧ look e 11 = some (bv (decide (x ∈ d.take r))) ∧ look e 12 = some (iv (r : Int))) := ⟨_, rfl⟩
  refine wpc_up d.length I ?_ ?_
  · rw [hI]
    exact ⟨by omega, e, Lo, rfl, g0, g3, g4, g5, gA, by simpa using gB, gC⟩
  clear g0 g3 g4 g5 gA gB gC
  intro r st hIs
  rw [hI] at hIs
  obtain ⟨hr, e, Lo, rfl, g0, g3, g4, g5, gA, gB, gC⟩ := hIs
  have hl1 := fun σ => isSl_len (σ := σ) hd
  by_cases hlt : r < d.length
  · have hlt' : (r : Int) < (d.length : Int) := by omega
    obtain ⟨y, hy⟩ := some_at (l := d) (i := r) hlt
    have ia1 := fun σ => isSl_iaddr (σ := σ) hL dT_len (by omega) (k := .i64) hi
    have ia2 := fun σ => isSl_iaddr (σ := σ) hd dT_len (by omega) (k := .i64) hy
    have l1 := sl_ld hi
    have l2 := sl_ld hy
    have w2 : IntKind.i64.wrap ((r : Int) + 1) = ((r + 1 : Nat) : Int) := by rw [show (r : Int) + 1 = ((r + 1 : Nat) : Int) by omega]; exact w64 (by omega) (by omega)
    have ex : (!dLt y x && !dLt x y) = decide (x = y) := by rw [eq_of_not, Bool.eq_iff_iff]; simp [eq_comm]
    have hb : decide (x ∈ d.take (r + 1)) = (decide (x ∈ d.take r) || decide (x = y)) := by
      rw [take_snoc hy, Bool.eq_iff_iff]
      simp
    have key : ∀ e' Lo' b, b = decide (x ∈ d.take (r + 1)) → look e' 0 = some vd → look e' 3 = some u3 → look e' 4 = some vl → look e' 5 = some fv8 → look e' 10 = some (iv i) → look e' 11 = some (bv b) → look e' 12 = some (iv ((r + 1 : Nat) : Int)) → I (r + 1) ⟨e', Lo', σ⟩ := by
      intro e' Lo' b hb f0 f3 f4 f5 fA fB fC
      subst hb
      rw [hI]
      exact ⟨by omega, e', Lo', rfl, f0, f3, f4, f5, fA, fB, fC⟩
    generalize decide (x ∈ d.take r) = b0 at *
    generalize ((r + 1 : Nat) : Int) = r1 at *
    cases b0 with
    | true =>
      simp [k4_34, g0, g3, g4, g5, gA, gB, gC, hlt', hl1, k4_36, w2]
      refine ⟨hlt, key _ _ true (by rw [hb]; rfl) ?_ ?_ ?_ ?_ ?_ ?_ ?_⟩
      all_goals simp [g0, g3, g4, g5, gA]
    | false =>
      cases h1 : dLt y x with
      | true =>
        rw [h1] at ex
        simp [k4_34, g0, g3, g4, g5, gA, gB, gC, hlt', hl1, k4_36, w2, ia1, ia2, l1, l2, lessV, h1]
        refine ⟨hlt, key _ _ false (by rw [hb, ← ex]; rfl) ?_ ?_ ?_ ?_ ?_ ?_ ?_⟩
        all_goals simp [g0, g3, g4, g5, gA]
      | false =>
        rw [h1] at ex
        cases h2 : dLt x y with
        | true =>
          rw [h2] at ex
          simp [k4_34, g0, g3, g4, g5, gA, gB, gC, hlt', hl1, k4_36, w2, ia1, ia2, l1, l2, lessV, h1, h2]
          refine ⟨hlt, key _ _ false (by rw [hb, ← ex]; rfl) ?_ ?_ ?_ ?_ ?_ ?_ ?_⟩
          all_goals simp [g0, g3, g4, g5, gA]
        | false =>
          rw [h2] at ex
          simp [k4_34, g0, g3, g4, g5, gA, gB, gC, hlt', hl1, k4_36, w2, ia1, ia2, l1, l2, lessV, h1, h2]
          refine ⟨hlt, key _ _ true (by rw [hb, ← ex]; rfl) ?_ ?_ ?_ ?_ ?_ ?_ ?_⟩
          all_goals simp [g0, g3, g4, g5, gA]
  · have hlt' : ¬ (r : Int) < (d.length : Int) := by omega
    have hall : d.take r = d := List.take_of_length_le (by omega)
    rw [hall] at gB
    generalize (r : Int) = rr at *
    simp [k4_34, g0, g3, g4, g5, gA, gC, hlt', hl1]
    exact hQ _ _ g0 g3 g4 g5 gA gB
end Go.Proofs.Ytodgdmhifbnofaa.AM.Sd
end
section
set_option maxRecDepth 1000000
set_option linter.unusedVariables false
set_option linter.unusedSimpArgs false
namespace Go.Proofs.Ytodgdmhifbnofaa.AM.Sd
open Go.Proofs
section
variable {d : List Dg} {vd vl : V} {σ : Store} {e Lo : List (Nat × V)} {Q : Out → St → Prop} {u3 : V}
theorem loopA {L : List Dg} (hL : IsSl dT L vl) (hLn : L.length ≤ 1000) (hr : L.Pairwise fun a b => dLt a b = true)
    (g0 : look e 0 = some vd) (g3 : look e 3 = some u3) (g4 : look e 4 = some vl) (g5 : look e 5 = some fv8) (g6 : look e 6 = some (iv 1))
    (hQ : ∀ e' L', look e' 0 = some vd → look e' 3 = some u3 → look e' 4 = some vl → look e' 5 = some fv8 → Q (.exit 0) ⟨e', L', σ⟩) :
    Wp T (.loop k4_7) ⟨e, Lo, σ⟩ Q := by
  obtain ⟨I, hI⟩ : ∃ I : Nat → St → Prop, I = (fun r st => ∃ e Lo, st = ⟨e, Lo, σ⟩ ∧ look e 0 = some vd ∧ look e 3 = some u3 ∧ look e 4 = some vl ∧ look e 5 = some fv8 ∧ look e 6 = some (iv ((r + 1 : Nat) : Int))) := ⟨_, rfl⟩
  refine wpc_up L.length I ?_ ?_
  · rw [hI]
    exact ⟨e, Lo, rfl, g0, g3, g4, g5, g6⟩
  clear g0 g3 g4 g5 g6
  intro r st hIs
  rw [hI] at hIs
  obtain ⟨e, Lo, rfl, g0, g3, g4, g5, g6⟩ := hIs
  have hl1 := fun σ => isSl_len (σ := σ) hL
  by_cases hlt : r + 1 < L.length
  · have hlt' : ((r + 1 : Nat) : Int) < (L.length : Int) := by omega
    obtain ⟨x, hx⟩ := some_at (l := L) (i := r) (by omega)
    obtain ⟨y, hy⟩ := some_at (l := L) (i := r + 1) (by omega)
    have ia1 := fun σ => isSl_iaddr (σ := σ) hL dT_len (by omega) (k := .i64) hx
    have ia2 := fun σ => isSl_iaddr (σ := σ) hL dT_len (by omega) (k := .i64) hy
    have l1 := sl_ld hx
    have l2 := sl_ld hy
    have hxy : dLt x y = true := by
      rw [List.pairwise_iff_getElem] at hr
      have := hr r (r + 1) (by omega) (by omega) (by omega)
      rwa [(List.getElem?_eq_some_iff.1 hx).2, (List.getElem?_eq_some_iff.1 hy).2] at this
    have w1 : IntKind.i64.wrap (((r + 1 : Nat) : Int) - 1) = (r : Int) := by rw [show ((r + 1 : Nat) : Int) - 1 = (r : Int) by omega]; exact w64 (by omega) (by omega)
    have w2 : IntKind.i64.wrap (((r + 1 : Nat) : Int) + 1) = ((r + 1 + 1 : Nat) : Int) := by rw [show ((r + 1 : Nat) : Int) + 1 = ((r + 1 + 1 : Nat) : Int) by omega]; exact w64 (by omega) (by omega)
    generalize hrr : ((r + 1 : Nat) : Int) = rr at *
    simp [k4_7, g0, g3, g4, g5, g6, hlt', hl1, k4_9, w1, ia1, ia2, l1, l2, lessV, hxy, k4_12, w2]
    refine ⟨by omega, ?_⟩
    rw [hI]
    refine ⟨_, _, rfl, ?_, ?_, ?_, ?_, ?_⟩ <;> simp [g0, g3, g4, g5]
  · have hlt' : ¬ ((r + 1 : Nat) : Int) < (L.length : Int) := by omega
    generalize ((r + 1 : Nat) : Int) = rr at *
    simp [k4_7, g0, g3, g4, g5, g6, hlt', hl1]
    exact hQ _ _ g0 g3 g4 g5
theorem loopB {L : List Dg} (hd : IsSl dT d vd) (hL : IsSl dT L vl) (hdn : d.length ≤ 1000) (hLn : L.length ≤ 1000) (hin : ∀ x ∈ d, x ∈ L)
    (g0 : look e 0 = some vd) (g3 : look e 3 = some u3) (g4 : look e 4 = some vl) (g5 : look e 5 = some fv8) (g7 : look e 7 = some (iv 0))
    (hQ : ∀ e' L', look e' 0 = some vd → look e' 3 = some u3 → look e' 4 = some vl → look e' 5 = some fv8 → Q (.exit 2) ⟨e', L', σ⟩) :
    Wp T (.loop k4_15) ⟨e, Lo, σ⟩ Q := by
  obtain ⟨I, hI⟩ : ∃ I : Nat → St → Prop, I = (fun r st => r ≤ d.length ∧ ∃ e Lo, st = ⟨e, Lo, σ⟩ ∧ look e 0 = some vd ∧ look e 3 = some u3 ∧ look e 4 = some vl ∧ look e 5 = some fv8 ∧ look e 7 = some (iv (r : Int))) := ⟨_, rfl⟩
  refine wpc_up d.length I ?_ ?_
  · rw [hI]
    exact ⟨by omega, e, Lo, rfl, g0, g3, g4, g5, g7⟩
  clear g0 g3 g4 g5 g7
  intro r st hIs
  rw [hI] at hIs
  obtain ⟨hr, e, Lo, rfl, g0, g3, g4, g5, g7⟩ := hIs
  have hl1 := fun σ => isSl_len (σ := σ) hd
  by_cases hlt : r < d.length
  · have hlt' : (r : Int) < (d.length : Int) := by omega
    obtain ⟨x, hx⟩ := some_at (l := d) (i := r) hlt
    have hmem : x ∈ L := hin x (List.mem_of_getElem? hx)
    have w2 : IntKind.i64.wrap ((r : Int) + 1) = ((r + 1 : Nat) : Int) := by rw [show (r : Int) + 1 = ((r + 1 : Nat) : Int) by omega]; exact w64 (by omega) (by omega)
    have key : ∀ e' Lo', look e' 0 = some vd → look e' 3 = some u3 → look e' 4 = some vl → look e' 5 = some fv8 → look e' 7 = some (iv ((r + 1 : Nat) : Int)) → I (r + 1) ⟨e', Lo', σ⟩ := by
      intro e' Lo' f0 f3 f4 f5 f7
      rw [hI]
      exact ⟨by omega, e', Lo', rfl, f0, f3, f4, f5, f7⟩
    generalize ((r + 1 : Nat) : Int) = r1 at *
    simp [k4_15, g0, g3, g4, g5, g7, hlt', hl1, k4_17]
    refine in_loop2 (u3 := u3) (i := r) hd hL hdn hLn hx ?_ ?_ ?_ ?_ ?_ ?_ ?_ ?_
    rotate_right
    · intro e' L' f0 f3 f4 f5 f7 f8
      rw [decide_eq_true hmem] at f8
      simp [k4_23, f8, k4_26, f7, w2]
      refine ⟨hlt, key _ _ ?_ ?_ ?_ ?_ ?_⟩ <;> simp [f0, f3, f4, f5]
    all_goals simp [g0, g3, g4, g5, g7]
  · have hlt' : ¬ (r : Int) < (d.length : Int) := by omega
    generalize (r : Int) = rr at *
    simp [k4_15, g0, g3, g4, g5, g7, hlt', hl1]
    exact hQ _ _ g0 g3 g4 g5
theorem loopC {L : List Dg} (hd : IsSl dT d vd) (hL : IsSl dT L vl) (hdn : d.length ≤ 1000) (hLn : L.length ≤ 1000) (hin : ∀ x ∈ L, x ∈ d)
    (g0 : look e 0 = some vd) (g3 : look e 3 = some u3) (g4 : look e 4 = some vl) (g5 : look e 5 = some fv8) (gA : look e 10 = some (iv 0))
    (hQ : ∀ e' L', look e' 0 = some vd → look e' 3 = some u3 → look e' 4 = some vl → look e' 5 = some fv8 → Q (.exit 6) ⟨e', L', σ⟩) :
    Wp T (.loop k4_29) ⟨e, Lo, σ⟩ Q := by
  obtain ⟨I, hI⟩ : ∃ I : Nat → St → Prop, I = (fun r st => r ≤ L.length ∧ ∃ e Lo, st = ⟨e, Lo, σ⟩ ∧ look e 0 = some vd ∧ look e 3 = some u3 ∧ look e 4 = some vl ∧ look e 5 = some fv8 ∧ look e 10 = some (iv (r : Int))) := ⟨_, rfl⟩
  refine wpc_up L.length I ?_ ?_
  · rw [hI]
    exact ⟨by omega, e, Lo, rfl, g0, g3, g4, g5, gA⟩
  clear g0 g3 g4 g5 gA
  intro r st hIs
  rw [hI] at hIs
  obtain ⟨hr, e, Lo, rfl, g0, g3, g4, g5, gA⟩ := hIs
  have hl1 := fun σ => isSl_len (σ := σ) hL
  by_cases hlt : r < L.length
  · have hlt' : (r : Int) < (L.length : Int) := by omega
    obtain ⟨x, hx⟩ := some_at (l := L) (i := r) hlt
    have hmem : x ∈ d := hin x (List.mem_of_getElem? hx)
    have w2 : IntKind.i64.wrap ((r : Int) + 1) = ((r + 1 : Nat) : Int) := by rw [show (r : Int) + 1 = ((r + 1 : Nat) : Int) by omega]; exact w64 (by omega) (by omega)
    have key : ∀ e' Lo', look e' 0 = some vd → look e' 3 = some u3 → look e' 4 = some vl → look e' 5 = some fv8 → look e' 10 = some (iv ((r + 1 : Nat) : Int)) → I (r + 1) ⟨e', Lo', σ⟩ := by
      intro e' Lo' f0 f3 f4 f5 fA
      rw [hI]
      exact ⟨by omega, e', Lo', rfl, f0, f3, f4, f5, fA⟩
    generalize ((r + 1 : Nat) : Int) = r1 at *
    simp [k4_29, g0, g3, g4, g5, gA, hlt', hl1, k4_31]
    refine in_loop3 (u3 := u3) (i := r) hd hL hdn hLn hx ?_ ?_ ?_ ?_ ?_ ?_ ?_ ?_
    rotate_right
    · intro e' L' f0 f3 f4 f5 fA fB
      rw [decide_eq_true hmem] at fB
      simp [k4_37, fB, k4_40, fA, w2]
      refine ⟨hlt, key _ _ ?_ ?_ ?_ ?_ ?_⟩ <;> simp [f0, f3, f4, f5]
    all_goals simp [g0, g3, g4, g5, gA]
  · have hlt' : ¬ (r : Int) < (L.length : Int) := by omega
    generalize (r : Int) = rr at *
    simp [k4_29, g0, g3, g4, g5, gA, hlt', hl1]
    exact hQ _ _ g0 g3 g4 g5
theorem begun_ok (σ : Store) : callL T 5 [] σ = some (bv true, σ) := callL_extV T5 rfl rfl rfl
theorem tail_ok (hd : IsSl dT d vd) (hdn : d.length ≤ 1000) (g0 : look e 0 = some vd) (g3 : look e 3 = some (bv true))
    (hQ : ∀ e' L', look e' 2 = some (bv true) → Q .ret ⟨e', L', σ⟩) : wpc T k4_3 ⟨e, Lo, σ⟩ Q := by
  obtain ⟨tb, rfl⟩ := sl_tr3 hd
  obtain ⟨tl, h1, h2⟩ := diags_ok hd hdn
  have hln := out_len d
  have hlr := out_rise d
  have hm := out_mem d
  change IsSl dT (outD d) (.tr tl) at h2
  generalize outD d = L at *
  simp [k4_3, g0, h1]
  refine loopA (vd := .tr tb) (vl := .tr tl) (u3 := bv true) h2 (by omega) hlr ?_ ?_ ?_ ?_ ?_ ?_
  rotate_right
  · intro e' L' f0 f3 f4 f5
    simp [k4_13]
    refine loopB (vd := .tr tb) (vl := .tr tl) (u3 := bv true) hd h2 hdn (by omega) (fun x hx => (hm x).2 hx) ?_ ?_ ?_ ?_ ?_ ?_
    rotate_right
    · intro e' L' f0 f3 f4 f5
      simp [k4_27]
      refine loopC (vd := .tr tb) (vl := .tr tl) (u3 := bv true) hd h2 hdn (by omega) (fun x hx => (hm x).1 hx) ?_ ?_ ?_ ?_ ?_ ?_
      rotate_right
      · intro e' L' f0 f3 f4 f5
        simp [k4_41, f3]
        exact hQ _ _ (by simp)
      all_goals simp [f0, f3, f4, f5]
    all_goals simp [f0, f3, f4, f5]
  all_goals simp [g0, g3]
end
theorem law_diags {ds : List Dg} {v : V} (h : IsSl dT ds v) : ∃ σ', callL T 4 [v] [] = some (bv true, σ') := by
  have hh : ∃ w σ', callL T 4 [v] [] = some (w, σ') ∧ w = bv true := by
    refine call_shared T4 rfl rfl ?_
    have hl := fun σ => isSl_len (σ := σ) h
    by_cases hlt : 30 < ds.length
    · have hlt' : (30 : Int) < (ds.length : Int) := by omega
      obtain ⟨v', h1, h2⟩ := isSl_cut_hi (σ := []) h dT_len (k' := .i64) (hi := 30) (by omega)
      have h1 : opSlice 3 v none (some (iv 30)) none [] = some v' := h1
      simp [begun_ok, hl, hlt', h1]
      refine tail_ok h2 (by rw [List.length_take]; omega) (by simp) (by simp) ?_
      intro e' L' f2
      simp [f2]
    · have hlt' : ¬ (30 : Int) < (ds.length : Int) := by omega
      simp [begun_ok, hl, hlt']
      refine tail_ok h (by omega) (by simp) (by simp) ?_
      intro e' L' f2
      simp [f2]
  obtain ⟨w, σ', h1, rfl⟩ := hh
  exact ⟨σ', h1⟩
end Go.Proofs.Ytodgdmhifbnofaa.AM.Sd
end
