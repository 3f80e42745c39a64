/- the packages: parts 26, 27, 28, 29. -/
import Derived.Test.YtodgdmhifbnofaaSn24
set_option linter.unusedSectionVars false
section
set_option maxRecDepth 1000000
set_option linter.unusedVariables false
set_option linter.unusedSimpArgs false
namespace Go.Proofs.Ytodgdmhifbnofaa.AM.Sn
open Go.Proofs
theorem fa_r (o n : Nat) (ts : List Tree) : opFaddr o (.tr (.rptr ts n)) = some (.tr (.rptr ts (n + o))) := rfl
theorem fld0 {l : List FV} {i : Nat} {x : FV} (hi : l[i]? = some x) (σ : Store) : opLoad 1 false (.tr (.rptr (l.flatMap fT) (i * 2))) σ = some (sv x.1) := by
  have := rptr_load0 (σ := σ) (agg := false) (s := 1) fT_len hi (by omega)
  rw [this]
  rfl
theorem fld1 {l : List FV} {i : Nat} {x : FV} (hi : l[i]? = some x) (σ : Store) : opLoad 1 false (.tr (.rptr (l.flatMap fT) (i * 2 + 1))) σ = some (.tr x.2.1) := by
  have := rptr_load (σ := σ) (agg := false) (o := 1) (s := 1) fT_len hi (by omega)
  rw [this]
  rfl
theorem paths_in {gp : List FV} {tp : Tree} {i : Nat} {x : FV} {b0 : Bool} {σ : Store} {e Lo : List (Nat × V)} {Q : Out → St → Prop}
    (hp : IsSl fT gp (.tr tp)) (hn : gp.length ≤ 100) (hi : gp[i]? = some x) (h0 : σ[0]? = some (.row [.tr tp] 0))
    (g1 : look e 1 = some (.ptr 0 0 0)) (g4 : look e 4 = some (bv b0)) (g5 : look e 5 = some (iv (i : Int))) (g6 : look e 6 = some (iv 0))
    (hQ : ∀ e' L', look e' 4 = some (bv (b0 && decide (x.1 ∉ (gp.take i).map (·.1)))) → (∀ k, k ≠ 4 → k ≠ 6 → look e' k = look e k) → Q (.exit 2) ⟨e', L', σ⟩) :
    Wp T (.loop k3_10) ⟨e, Lo, σ⟩ Q := by
  have hl0 := single_load h0
  have hil := (List.getElem?_eq_some_iff.1 hi).1
  obtain ⟨I, hI⟩ : ∃ I : Nat → St → Prop, I = (fun r st => r ≤ i ∧ ∃ e' Lo', st = ⟨e', Lo', σ⟩ ∧ look e' 4 = some (bv (b0 && decide (x.1 ∉ (gp.take r).map (·.1)))) ∧ (∀ k, k ≠ 4 → k ≠ 6 → look e' k = look e k) ∧ look e' 6 = some (iv (r : Int))) := ⟨_, rfl⟩
  refine wpc_up i I ?_ ?_
  · rw [hI]
    exact ⟨by omega, e, Lo, rfl, by simpa using g4, fun k _ _ => rfl, g6⟩
  intro r st hIs
  rw [hI] at hIs
  obtain ⟨hr, e', Lo', rfl, f4, hlk, f6⟩ := hIs
  have f1 : look e' 1 = some (.ptr 0 0 0) := by rw [hlk 1 (by decide) (by decide)]; exact g1
  have f5 : look e' 5 = some (iv (i : Int)) := by rw [hlk 5 (by decide) (by decide)]; exact g5
  by_cases hlt : r < i
  · have hlt' : (r : Int) < (i : Int) := by omega
    obtain ⟨y, hy⟩ := some_at (l := gp) (i := r) (by omega)
    have ia1 := fun σ => isSl_iaddr (σ := σ) hp fT_len (by omega) (k := .i64) hi
    have ia2 := fun σ => isSl_iaddr (σ := σ) hp fT_len (by omega) (k := .i64) hy
    have l1 := fld0 hi
    have l2 := fld0 hy
    have w2 : IntKind.i64.wrap ((r : Int) + 1) = ((r + 1 : Nat) : Int) := wrapN _ (by omega) (by omega)
    have hb : (b0 && decide (x.1 ∉ (gp.take (r + 1)).map (·.1))) = ((b0 && decide (x.1 ∉ (gp.take r).map (·.1))) && decide (x.1 ≠ y.1)) := by
      rw [take_snoc hy, Bool.eq_iff_iff]
      simp only [Bool.and_eq_true, decide_eq_true_eq, List.map_append, List.mem_append, List.map_cons, List.map_nil, List.mem_singleton, not_or, ne_eq, and_assoc]
    have key : ∀ e2 L2 b, b = (b0 && decide (x.1 ∉ (gp.take (r + 1)).map (·.1))) → look e2 4 = some (bv b) → (∀ k, k ≠ 4 → k ≠ 6 → look e2 k = look e k) → look e2 6 = some (iv ((r + 1 : Nat) : Int)) → I (r + 1) ⟨e2, L2, σ⟩ := by
      intro e2 L2 b hb q4 q q6
      subst hb
      rw [hI]
      exact ⟨by omega, e2, L2, rfl, q4, q, q6⟩
    generalize (b0 && decide (x.1 ∉ (gp.take r).map (·.1))) = b1 at *
    generalize ((r + 1 : Nat) : Int) = r1 at *
    cases b1 with
    | false =>
      simp [k3_10, f1, f4, f5, f6, hlt', k3_12, w2, fa_p, hl0]
      refine ⟨hlt, key _ _ false (by rw [hb]; rfl) ?_ ?_ ?_⟩
      · simp
      · intro k h1 h2; simp [h1, h2]; exact hlk k h1 h2
      · simp
    | true =>
      by_cases hxy : x.1 = y.1
      · simp [k3_10, f1, f4, f5, f6, hlt', k3_12, w2, fa_p, fa_r, hl0, ia1, ia2, l1, l2, bytesEq_iff', hxy]
        refine ⟨hlt, key _ _ false (by rw [hb]; simp [hxy]) ?_ ?_ ?_⟩
        · simp
        · intro k h1 h2; simp [h1, h2]; exact hlk k h1 h2
        · simp
      · simp [k3_10, f1, f4, f5, f6, hlt', k3_12, w2, fa_p, fa_r, hl0, ia1, ia2, l1, l2, bytesEq_iff', hxy]
        refine ⟨hlt, key _ _ true (by rw [hb]; simp [hxy]) ?_ ?_ ?_⟩
        · simp
        · intro k h1 h2; simp [h1, h2]; exact hlk k h1 h2
        · simp
  · have hlt' : ¬ (r : Int) < (i : Int) := by omega
    obtain rfl : r = i := by omega
    simp [k3_10, f5, f6]
    exact hQ _ _ f4 hlk
theorem names_in {gp : List FV} {tp : Tree} {i : Nat} {x : FV} {b0 : Bool} {σ : Store} {e Lo : List (Nat × V)} {Q : Out → St → Prop}
    (hp : IsSl fT gp (.tr tp)) (hn : i ≤ 100) (hi : gp[i]? = some x)
    (g1 : look e 7 = some (.tr tp)) (g4 : look e 4 = some (bv b0)) (g5 : look e 8 = some (iv (i : Int))) (g6 : look e 9 = some (iv 0))
    (hQ : ∀ e' L', look e' 4 = some (bv (b0 && decide (x.1 ∉ (gp.take i).map (·.1)))) → (∀ k, k ≠ 4 → k ≠ 9 → look e' k = look e k) → Q (.exit 6) ⟨e', L', σ⟩) :
    Wp T (.loop k3_20) ⟨e, Lo, σ⟩ Q := by
  have hil := (List.getElem?_eq_some_iff.1 hi).1
  obtain ⟨I, hI⟩ : ∃ I : Nat → St → Prop, I = (fun r st => r ≤ i ∧ ∃ e' Lo', st = ⟨e', Lo', σ⟩ ∧ look e' 4 = some (bv (b0 && decide (x.1 ∉ (gp.take r).map (·.1)))) ∧ (∀ k, k ≠ 4 → k ≠ 9 → look e' k = look e k) ∧ look e' 9 = some (iv (r : Int))) := ⟨_, rfl⟩
  refine wpc_up i I ?_ ?_
  · rw [hI]
    exact ⟨by omega, e, Lo, rfl, by simpa using g4, fun k _ _ => rfl, g6⟩
  intro r st hIs
  rw [hI] at hIs
  obtain ⟨hr, e', Lo', rfl, f4, hlk, f6⟩ := hIs
  have f1 : look e' 7 = some (.tr tp) := by rw [hlk 7 (by decide) (by decide)]; exact g1
  have f5 : look e' 8 = some (iv (i : Int)) := by rw [hlk 8 (by decide) (by decide)]; exact g5
  by_cases hlt : r < i
  · have hlt' : (r : Int) < (i : Int) := by omega
    obtain ⟨y, hy⟩ := some_at (l := gp) (i := r) (by omega)
    have ia1 := fun σ => isSl_iaddr (σ := σ) hp fT_len (by omega) (k := .i64) hi
    have ia2 := fun σ => isSl_iaddr (σ := σ) hp fT_len (by omega) (k := .i64) hy
    have l1 := fld0 hi
    have l2 := fld0 hy
    have w2 : IntKind.i64.wrap ((r : Int) + 1) = ((r + 1 : Nat) : Int) := wrapN _ (by omega) (by omega)
    have hb : (b0 && decide (x.1 ∉ (gp.take (r + 1)).map (·.1))) = ((b0 && decide (x.1 ∉ (gp.take r).map (·.1))) && decide (x.1 ≠ y.1)) := by
      rw [take_snoc hy, Bool.eq_iff_iff]
      simp only [Bool.and_eq_true, decide_eq_true_eq, List.map_append, List.mem_append, List.map_cons, List.map_nil, List.mem_singleton, not_or, ne_eq, and_assoc]
    have key : ∀ e2 L2 b, b = (b0 && decide (x.1 ∉ (gp.take (r + 1)).map (·.1))) → look e2 4 = some (bv b) → (∀ k, k ≠ 4 → k ≠ 9 → look e2 k = look e k) → look e2 9 = some (iv ((r + 1 : Nat) : Int)) → I (r + 1) ⟨e2, L2, σ⟩ := by
      intro e2 L2 b hb q4 q q6
      subst hb
      rw [hI]
      exact ⟨by omega, e2, L2, rfl, q4, q, q6⟩
    generalize (b0 && decide (x.1 ∉ (gp.take r).map (·.1))) = b1 at *
    generalize ((r + 1 : Nat) : Int) = r1 at *
    cases b1 with
    | false =>
      simp [k3_20, f1, f4, f5, f6, hlt', k3_22, w2]
      refine ⟨hlt, key _ _ false (by rw [hb]; rfl) ?_ ?_ ?_⟩
      · simp
      · intro k h1 h2; simp [h1, h2]; exact hlk k h1 h2
      · simp
    | true =>
      by_cases hxy : x.1 = y.1
      · simp [k3_20, f1, f4, f5, f6, hlt', k3_22, w2, fa_r, ia1, ia2, l1, l2, bytesEq_iff', hxy]
        refine ⟨hlt, key _ _ false (by rw [hb]; simp [hxy]) ?_ ?_ ?_⟩
        · simp
        · intro k h1 h2; simp [h1, h2]; exact hlk k h1 h2
        · simp
      · simp [k3_20, f1, f4, f5, f6, hlt', k3_22, w2, fa_r, ia1, ia2, l1, l2, bytesEq_iff', hxy]
        refine ⟨hlt, key _ _ true (by rw [hb]; simp [hxy]) ?_ ?_ ?_⟩
        · simp
        · intro k h1 h2; simp [h1, h2]; exact hlk k h1 h2
        · simp
  · have hlt' : ¬ (r : Int) < (i : Int) := by omega
    obtain rfl : r = i := by omega
    simp [k3_20, f5, f6]
    exact hQ _ _ f4 hlk
end Go.Proofs.Ytodgdmhifbnofaa.AM.Sn
end
section
set_option maxRecDepth 1000000
set_option linter.unusedVariables false
set_option linter.unusedSimpArgs false
namespace Go.Proofs.Ytodgdmhifbnofaa.AM.Sn
open Go.Proofs
theorem nodup_snoc {l : List FV} {r : Nat} {x : FV} (hx : l[r]? = some x) : ((l.take (r + 1)).map (·.1)).Nodup ↔ (((l.take r).map (·.1)).Nodup ∧ x.1 ∉ (l.take r).map (·.1)) := by
  rw [take_snoc hx, List.map_append, List.map_cons, List.map_nil, List.nodup_append]
  constructor
  · rintro ⟨h1, _, h2⟩
    exact ⟨h1, fun h => h2 _ h _ (List.mem_singleton.2 rfl) rfl⟩
  · rintro ⟨h1, h2⟩
    refine ⟨h1, by simp, fun a ha b hb e => ?_⟩
    rw [List.mem_singleton] at hb
    exact h2 (by rw [← hb, ← e]; exact ha)
theorem names_loop {gp : List FV} {tp : Tree} {b0 : Bool} {σ : Store} {e Lo : List (Nat × V)} {Q : Out → St → Prop}
    (hp : IsSl fT gp (.tr tp))
    (g1 : look e 7 = some (.tr tp)) (g4 : look e 4 = some (bv b0)) (g5 : look e 8 = some (iv 0))
    (hQ : ∀ e' L', (gp.length ≤ 30 → look e' 4 = some (bv (b0 && decide (gp.map (·.1)).Nodup))) → (∀ k, k ≠ 4 → k ≠ 8 → k ≠ 9 → look e' k = look e k) → Q (.exit 4) ⟨e', L', σ⟩) :
    Wp T (.loop k3_16) ⟨e, Lo, σ⟩ Q := by
  obtain ⟨I, hI⟩ : ∃ I : Nat → St → Prop, I = (fun r st => r ≤ 30 ∧ r ≤ gp.length ∧ ∃ e' Lo', st = ⟨e', Lo', σ⟩ ∧ look e' 4 = some (bv (b0 && decide ((gp.take r).map (·.1)).Nodup)) ∧ (∀ k, k ≠ 4 → k ≠ 8 → k ≠ 9 → look e' k = look e k) ∧ look e' 8 = some (iv (r : Int))) := ⟨_, rfl⟩
  refine wpc_up gp.length I ?_ ?_
  · rw [hI]
    exact ⟨by omega, by omega, e, Lo, rfl, by simpa using g4, fun k _ _ _ => rfl, g5⟩
  intro r st hIs
  rw [hI] at hIs
  obtain ⟨hr30, hr, e', Lo', rfl, f4, hlk, f5⟩ := hIs
  have f1 : look e' 7 = some (.tr tp) := by rw [hlk 7 (by decide) (by decide) (by decide)]; exact g1
  have hl1 := fun σ => isSl_len (σ := σ) hp
  by_cases hlt : r < gp.length
  · have hlt' : (r : Int) < (gp.length : Int) := by omega
    by_cases h30 : r < 30
    · have h30' : (r : Int) < 30 := by omega
      obtain ⟨x, hx⟩ := some_at (l := gp) (i := r) hlt
      have w2 : IntKind.i64.wrap ((r : Int) + 1) = ((r + 1 : Nat) : Int) := wrapN _ (by omega) (by omega)
      have hb : (b0 && decide ((gp.take (r + 1)).map (·.1)).Nodup) = ((b0 && decide ((gp.take r).map (·.1)).Nodup) && decide (x.1 ∉ (gp.take r).map (·.1))) := by
        rw [Bool.eq_iff_iff]
        simp only [Bool.and_eq_true, decide_eq_true_eq, nodup_snoc hx, and_assoc]
      have key : ∀ e2 L2, look e2 4 = some (bv ((b0 && decide ((gp.take r).map (·.1)).Nodup) && decide (x.1 ∉ (gp.take r).map (·.1)))) → (∀ k, k ≠ 4 → k ≠ 8 → k ≠ 9 → look e2 k = look e k) → look e2 8 = some (iv ((r + 1 : Nat) : Int)) → I (r + 1) ⟨e2, L2, σ⟩ := by
        intro e2 L2 q4 q q5
        rw [hI]
        refine ⟨by omega, by omega, e2, L2, rfl, ?_, q, q5⟩
        rw [hb]
        exact q4
      generalize (b0 && decide ((gp.take r).map (·.1)).Nodup) = b1 at *
      generalize ((r + 1 : Nat) : Int) = r1 at *
      simp [k3_16, f1, f5, hlt', h30', hl1, k3_18]
      refine names_in (b0 := b1) hp (by omega) hx ?_ ?_ ?_ ?_ ?_
      rotate_right
      · intro e2 L2 q4 q
        have q8 : look e2 8 = some (iv (r : Int)) := by rw [q 8 (by decide) (by decide)]; simp [f5]
        simp [k3_23, q8, w2]
        refine ⟨hlt, key _ _ ?_ ?_ ?_⟩
        · simp [q4]
        · intro k h1 h2 h3
          simp [h2]
          rw [q k h1 h3]
          simp [h3]
          exact hlk k h1 h2 h3
        · simp
      all_goals simp [f1, f4, f5]
    · have h30' : ¬ (r : Int) < 30 := by omega
      have := hQ
      generalize (r : Int) = rr at *
      simp [k3_16, f1, f5, hlt', h30', hl1]
      exact hQ _ _ (fun h => by omega) hlk
  · have hlt' : ¬ (r : Int) < (gp.length : Int) := by omega
    rw [List.take_of_length_le (by omega)] at f4
    generalize (r : Int) = rr at *
    simp [k3_16, f1, f5, hlt', hl1]
    exact hQ _ _ (fun _ => f4) hlk
instance (pk : List AP) : Decidable (Apart pk) := by unfold Apart; infer_instance
theorem apart_loop {gp : List FV} {pk : List AP} {tp : Tree} {σ : Store} {e Lo : List (Nat × V)} {Q : Out → St → Prop}
    (hp : IsSl fT gp (.tr tp)) (hpr : AllR PkgR gp pk) (hn : gp.length ≤ 8) (h0 : σ[0]? = some (.row [.tr tp] 0))
    (g1 : look e 1 = some (.ptr 0 0 0)) (g3 : look e 3 = some (bv true)) (g4 : look e 4 = some (bv true)) (g5 : look e 5 = some (iv 0))
    (hbig : ∀ e' L', look e' 2 = some (bv true) → Q .ret ⟨e', L', σ⟩)
    (hQ : ∀ e' L', (∀ p ∈ pk, p.2.length ≤ 30) → look e' 4 = some (bv (decide (Apart pk))) → (∀ k, k < 4 → look e' k = look e k) → Q (.exit 0) ⟨e', L', σ⟩) :
    Wp T (.loop k3_6) ⟨e, Lo, σ⟩ Q := by
  have hl0 := single_load h0
  have hl1 := fun σ => isSl_len (σ := σ) hp
  have hmp : ∀ r, (gp.take r).map (·.1) = (pk.take r).map (·.1) := by
    intro r
    refine List.ext_getElem? fun i => ?_
    rw [List.getElem?_map, List.getElem?_map]
    by_cases hi : i < r
    · rw [List.getElem?_take_of_lt hi, List.getElem?_take_of_lt hi]
      rcases Nat.lt_or_ge i gp.length with h | h
      · obtain ⟨x, hx⟩ := some_at h
        obtain ⟨y, hy⟩ := some_at (l := pk) (i := i) (by rw [← hpr.1]; exact h)
        rw [hx, hy]
        exact congrArg some (hpr.2 i x y hx hy).1
      · rw [List.getElem?_eq_none h, List.getElem?_eq_none (by rw [← hpr.1]; exact h)]
        rfl
    · rw [List.getElem?_eq_none (by simp; omega), List.getElem?_eq_none (by simp; omega)]
      rfl
  obtain ⟨I, hI⟩ : ∃ I : Nat → St → Prop, I = (fun r st => r ≤ gp.length ∧ ∃ e' Lo', st = ⟨e', Lo', σ⟩ ∧ (∀ p ∈ pk.take r, p.2.length ≤ 30) ∧ look e' 4 = some (bv (decide (((gp.take r).map (·.1)).Nodup ∧ ∀ p ∈ pk.take r, (p.2.map (·.1)).Nodup))) ∧ (∀ k, k < 4 → look e' k = look e k) ∧ look e' 5 = some (iv (r : Int))) := ⟨_, rfl⟩
  refine wpc_up gp.length I ?_ ?_
  · rw [hI]
    exact ⟨by omega, e, Lo, rfl, by simp, by simpa using g4, fun k _ => rfl, g5⟩
  intro r st hIs
  rw [hI] at hIs
  obtain ⟨hr, e', Lo', rfl, hsm, f4, hlk, f5⟩ := hIs
  have f1 : look e' 1 = some (.ptr 0 0 0) := by rw [hlk 1 (by decide)]; exact g1
  have f3 : look e' 3 = some (bv true) := by rw [hlk 3 (by decide)]; exact g3
  by_cases hlt : r < gp.length
  · have hlt' : (r : Int) < (gp.length : Int) := by omega
    obtain ⟨x, hx⟩ := some_at (l := gp) (i := r) hlt
    obtain ⟨p, hpp⟩ := some_at (l := pk) (i := r) (by rw [← hpr.1]; exact hlt)
    obtain ⟨hpx, fgs, hfg, hfr⟩ := hpr.2 r x p hx hpp
    have hnm : fgs.map (·.1) = p.2.map (·.1) := by
      refine List.ext_getElem? fun i => ?_
      rw [List.getElem?_map, List.getElem?_map]
      rcases Nat.lt_or_ge i fgs.length with h | h
      · obtain ⟨x, hx⟩ := some_at h
        obtain ⟨y, hy⟩ := some_at (l := p.2) (i := i) (by rw [← hfr.1]; exact h)
        rw [hx, hy]
        exact congrArg some (hfr.2 i x y hx hy).1
      · rw [List.getElem?_eq_none h, List.getElem?_eq_none (by rw [← hfr.1]; exact h)]
        rfl
    have ia1 := fun σ => isSl_iaddr (σ := σ) hp fT_len (by omega) (k := .i64) hx
    have l1 := fld1 hx
    have fl := fun σ => isSl_len (σ := σ) hfg
    have w2 : IntKind.i64.wrap ((r : Int) + 1) = ((r + 1 : Nat) : Int) := wrapN _ (by omega) (by omega)
    have hb : decide (((gp.take (r + 1)).map (·.1)).Nodup ∧ ∀ p ∈ pk.take (r + 1), (p.2.map (·.1)).Nodup) = ((decide (((gp.take r).map (·.1)).Nodup ∧ ∀ p ∈ pk.take r, (p.2.map (·.1)).Nodup) && decide (x.1 ∉ (gp.take r).map (·.1))) && decide (fgs.map (·.1)).Nodup) := by
      rw [Bool.eq_iff_iff, hnm]
      simp only [Bool.and_eq_true, decide_eq_true_eq, nodup_snoc hx, take_snoc hpp, List.mem_append, List.mem_singleton]
      constructor
      · rintro ⟨⟨h1, h2⟩, h3⟩
        exact ⟨⟨⟨h1, fun q hq => h3 q (.inl hq)⟩, h2⟩, h3 p (.inr rfl)⟩
      · rintro ⟨⟨⟨h1, h3⟩, h2⟩, h4⟩
        refine ⟨⟨h1, h2⟩, ?_⟩
        rintro q (hq | rfl)
        · exact h3 q hq
        · exact h4
    have key : ∀ e2 L2 b, p.2.length ≤ 30 → b = decide (((gp.take (r + 1)).map (·.1)).Nodup ∧ ∀ p ∈ pk.take (r + 1), (p.2.map (·.1)).Nodup) → look e2 4 = some (bv b) → (∀ k, k < 4 → look e2 k = look e k) → look e2 5 = some (iv ((r + 1 : Nat) : Int)) → I (r + 1) ⟨e2, L2, σ⟩ := by
      intro e2 L2 b hp30 hb q4 q q5
      subst hb
      rw [hI]
      refine ⟨by omega, e2, L2, rfl, ?_, q4, q, q5⟩
      rw [take_snoc hpp]
      intro q hq
      rcases List.mem_append.1 hq with hq | hq
      · exact hsm q hq
      · rw [List.mem_singleton] at hq
        rw [hq]; exact hp30
    generalize decide (((gp.take r).map (·.1)).Nodup ∧ ∀ p ∈ pk.take r, (p.2.map (·.1)).Nodup) = b1 at *
    generalize hr1 : ((r + 1 : Nat) : Int) = r1 at *
    simp [k3_6, f1, f5, fa_p, hl0, hlt', hl1, k3_8]
    refine paths_in (b0 := b1) hp (by omega) hx h0 ?_ ?_ ?_ ?_ ?_
    rotate_right
    · intro e2 L2 q4 q
      have q1 : look e2 1 = some (.ptr 0 0 0) := by rw [q 1 (by decide) (by decide)]; simp [f1]
      have q5 : look e2 5 = some (iv (r : Int)) := by rw [q 5 (by decide) (by decide)]; simp [f5]
      have q3 : look e2 3 = some (bv true) := by rw [q 3 (by decide) (by decide)]; simp [f3]
      generalize (b1 && decide (x.1 ∉ (gp.take r).map (·.1))) = b2 at *
      simp [k3_13, q1, q5, fa_p, fa_r, hl0, ia1, l1]
      refine names_loop (b0 := b2) hfg ?_ ?_ ?_ ?_
      rotate_right
      · intro e3 L3 z4 z
        have z7 : look e3 7 = some (.tr x.2.1) := by rw [z 7 (by decide) (by decide) (by decide)]; simp
        have z5 : look e3 5 = some (iv (r : Int)) := by rw [z 5 (by decide) (by decide) (by decide)]; simp [q5]
        have z3 : look e3 3 = some (bv true) := by rw [z 3 (by decide) (by decide) (by decide)]; simp [q3]
        by_cases hbg : 30 < fgs.length
        · have hbg' : (30 : Int) < (fgs.length : Int) := by omega
          simp [k3_24, z7, fl, hbg', z3]
          refine hbig _ _ ?_
          simp
        · have hbg' : ¬ (30 : Int) < (fgs.length : Int) := by omega
          have z4 := z4 (by omega)
          simp [k3_24, z7, fl, hbg', k3_27, z5, w2]
          refine ⟨hlt, key _ _ _ (by rw [← hfr.1]; omega) hb.symm ?_ ?_ ?_⟩
          · simp [z4]
          · intro k hk
            have hk4 : k ≠ 4 := by omega
            have hk5 : k ≠ 5 := by omega
            have hk6 : k ≠ 6 := by omega
            have hk7 : k ≠ 7 := by omega
            have hk8 : k ≠ 8 := by omega
            have hk9 : k ≠ 9 := by omega
            simp [hk5]
            rw [z k hk4 hk8 hk9]
            simp [hk7, hk8]
            rw [q k hk4 hk6]
            simp [hk6]
            exact hlk k hk
          · simp
      all_goals simp [q4]
    all_goals simp [f1, f4, f5]
  · have hlt' : ¬ (r : Int) < (gp.length : Int) := by omega
    have hmr := hmp r
    rw [List.take_of_length_le (show pk.length ≤ r by rw [← hpr.1]; omega)] at hsm f4 hmr
    rw [hmr] at f4
    generalize (r : Int) = rr at *
    simp [k3_6, f1, f5, fa_p, hl0, hlt', hl1]
    exact hQ _ _ hsm f4 hlk
end Go.Proofs.Ytodgdmhifbnofaa.AM.Sn
end
section
set_option maxRecDepth 1000000
set_option linter.unusedVariables false
set_option linter.unusedSimpArgs false
namespace Go.Proofs.Ytodgdmhifbnofaa.AM.Sn
open Go.Proofs
theorem conv_by {b : List UInt8} {v : V} (h : IsSl byE b v) (σ : Store) : opConv .bytesStr v σ = some (sv b, σ) := by
  rcases h with ⟨rfl, rfl⟩ | ⟨cap, rfl⟩
  · rfl
  · rw [conv_bytesStr_eq]
    have hl : (b.flatMap byE).length = b.length := by
      have : ∀ b : List UInt8, (b.flatMap byE).length = b.length := by
        intro b
        induction b with
        | nil => rfl
        | cons x b ih => rw [List.flatMap_cons, List.length_append, ih]; simp [byE]; omega
      exact this b
    have he : elems σ 1 (.tr (.row (b.flatMap byE) b.length cap)) = some ((b.flatMap byE).map .tr, b.length) := by simp [elems, hl]
    rw [he]
    simp only [byE_bytes]
theorem found_loop {fo fi : List FV} {fsi : List AF} {tfo tfi : Tree} {a q3 q6 : Nat} {x : FV} {y : AF} {s3 s6 : List UInt8} {σ : Store} {e Lo : List (Nat × V)} {Q : Out → St → Prop}
    (ho : IsSl fT fo (.tr tfo)) (hi : IsSl fT fi (.tr tfi)) (hir : AllR FileR fi fsi) (hin : fi.length ≤ 100) (hx : fo[a]? = some x) (hxy : FileR x y)
    (h3 : σ[q3]? = some (.row [sv s3, .tr tfo] 0)) (h6 : σ[q6]? = some (.row [sv s6, .tr tfi] 0))
    (g13 : look e 13 = some (.ptr q3 0 0)) (g16 : look e 16 = some (.ptr q6 0 0)) (g17 : look e 17 = some (iv (a : Int))) (g18 : look e 18 = some (bv false)) (g19 : look e 19 = some (iv 0))
    (hQ : ∀ e' L', look e' 18 = some (bv (decide (y ∈ fsi))) → (∀ k, k ≠ 18 → k ≠ 19 → look e' k = look e k) → Q (.exit 14) ⟨e', L', σ⟩) :
    Wp T (.loop k3_63) ⟨e, Lo, σ⟩ Q := by
  have hl3 := pair_load h3
  have hl6 := pair_load h6
  obtain ⟨I, hI⟩ : ∃ I : Nat → St → Prop, I = (fun r st => r ≤ fi.length ∧ ∃ e' Lo', st = ⟨e', Lo', σ⟩ ∧ look e' 18 = some (bv (decide (y ∈ fsi.take r))) ∧ (∀ k, k ≠ 18 → k ≠ 19 → look e' k = look e k) ∧ look e' 19 = some (iv (r : Int))) := ⟨_, rfl⟩
  refine wpc_up fi.length I ?_ ?_
  · rw [hI]
    exact ⟨by omega, e, Lo, rfl, by simpa using g18, fun k _ _ => rfl, g19⟩
  intro r st hIs
  rw [hI] at hIs
  obtain ⟨hr, e', Lo', rfl, f18, hlk, f19⟩ := hIs
  have f13 : look e' 13 = some (.ptr q3 0 0) := by rw [hlk 13 (by decide) (by decide)]; exact g13
  have f16 : look e' 16 = some (.ptr q6 0 0) := by rw [hlk 16 (by decide) (by decide)]; exact g16
  have f17 : look e' 17 = some (iv (a : Int)) := by rw [hlk 17 (by decide) (by decide)]; exact g17
  have fl := fun σ => isSl_len (σ := σ) hi
  by_cases hlt : r < fi.length
  · have hlt' : (r : Int) < (fi.length : Int) := by omega
    obtain ⟨z, hz⟩ := some_at (l := fi) (i := r) hlt
    obtain ⟨w, hw⟩ := some_at (l := fsi) (i := r) (by rw [← hir.1]; exact hlt)
    have hzw := hir.2 r z w hz hw
    have ia1 := fun σ => isSl_iaddr (σ := σ) ho fT_len (by omega) (k := .i64) hx
    have ia2 := fun σ => isSl_iaddr (σ := σ) hi fT_len (by omega) (k := .i64) hz
    have l1 := fld0 hx
    have l2 := fld0 hz
    have m1 := fld1 hx
    have m2 := fld1 hz
    have c1 := conv_by hxy.2
    have c2 := conv_by hzw.2
    have w2 : IntKind.i64.wrap ((r : Int) + 1) = ((r + 1 : Nat) : Int) := wrapN _ (by omega) (by omega)
    have hb : decide (y ∈ fsi.take (r + 1)) = (decide (y ∈ fsi.take r) || (decide (z.1 = x.1) && decide (w.2 = y.2))) := by
      rw [take_snoc hw, Bool.eq_iff_iff, hxy.1, hzw.1]
      obtain ⟨y1, y2⟩ := y
      obtain ⟨w1, w2⟩ := w
      simp only [List.mem_append, List.mem_singleton, Bool.or_eq_true, Bool.and_eq_true, decide_eq_true_eq, Prod.mk.injEq]
      constructor
      · rintro (h | ⟨h1, h2⟩)
        · exact .inl h
        · exact .inr ⟨h1.symm, h2.symm⟩
      · rintro (h | ⟨h1, h2⟩)
        · exact .inl h
        · exact .inr ⟨h1.symm, h2.symm⟩
    have key : ∀ e2 L2 b, b = decide (y ∈ fsi.take (r + 1)) → look e2 18 = some (bv b) → (∀ k, k ≠ 18 → k ≠ 19 → look e2 k = look e k) → look e2 19 = some (iv ((r + 1 : Nat) : Int)) → I (r + 1) ⟨e2, L2, σ⟩ := by
      intro e2 L2 b hb q18 q q19
      subst hb
      rw [hI]
      exact ⟨by omega, e2, L2, rfl, q18, q, q19⟩
    generalize decide (y ∈ fsi.take r) = b1 at *
    generalize ((r + 1 : Nat) : Int) = r1 at *
    cases b1 with
    | true =>
      simp [k3_63, f13, f16, f17, f18, f19, fa_p, hl6, fl, hlt', k3_65, w2]
      refine ⟨hlt, key _ _ true (by rw [hb]; rfl) ?_ ?_ ?_⟩
      · simp
      · intro k h1 h2; simp [h1, h2]; exact hlk k h1 h2
      · simp
    | false =>
      by_cases hn : z.1 = x.1
      · by_cases hd : w.2 = y.2
        · simp [k3_63, f13, f16, f17, f18, f19, fa_p, fa_r, hl3, hl6, fl, hlt', k3_65, w2, ia1, ia2, l1, l2, m1, m2, c1, c2, bytesEq_iff', hn, hd]
          refine ⟨hlt, key _ _ true (by rw [hb]; simp [hn, hd]) ?_ ?_ ?_⟩
          · simp
          · intro k h1 h2; simp [h1, h2]; exact hlk k h1 h2
          · simp
        · simp [k3_63, f13, f16, f17, f18, f19, fa_p, fa_r, hl3, hl6, fl, hlt', k3_65, w2, ia1, ia2, l1, l2, m1, m2, c1, c2, bytesEq_iff', hn, hd]
          refine ⟨hlt, key _ _ false (by rw [hb]; simp [hn, hd]) ?_ ?_ ?_⟩
          · simp
          · intro k h1 h2; simp [h1, h2]; exact hlk k h1 h2
          · simp
      · simp [k3_63, f13, f16, f17, f18, f19, fa_p, fa_r, hl3, hl6, fl, hlt', k3_65, w2, ia1, ia2, l1, l2, m1, m2, c1, c2, bytesEq_iff', hn]
        refine ⟨hlt, key _ _ false (by rw [hb]; simp [hn]) ?_ ?_ ?_⟩
        · simp
        · intro k h1 h2; simp [h1, h2]; exact hlk k h1 h2
        · simp
  · have hlt' : ¬ (r : Int) < (fi.length : Int) := by omega
    rw [List.take_of_length_le (show fsi.length ≤ r by rw [← hir.1]; omega)] at f18
    generalize (r : Int) = rr at *
    simp [k3_63, f16, f19, fa_p, hl6, fl, hlt']
    exact hQ _ _ f18 hlk
end Go.Proofs.Ytodgdmhifbnofaa.AM.Sn
end
section
set_option maxRecDepth 1000000
set_option linter.unusedVariables false
set_option linter.unusedSimpArgs false
namespace Go.Proofs.Ytodgdmhifbnofaa.AM.Sn
open Go.Proofs
theorem lss_s (a b : List UInt8) : opBin .other .lss (sv a) (sv b) = some (bv (bytesLt a b)) := rfl
theorem outs_loop {fo fi : List FV} {fso fsi : List AF} {tfo tfi : Tree} {q3 q6 : Nat} {s3 s6 : List UInt8} {σ : Store} {e Lo : List (Nat × V)} {Q : Out → St → Prop}
    (ho : IsSl fT fo (.tr tfo)) (hor : AllR FileR fo fso) (hon : fo.length ≤ 100) (hst : Str (fun f : AF => f.1) fso) (hi : IsSl fT fi (.tr tfi)) (hir : AllR FileR fi fsi) (hin : fi.length ≤ 100) (hsub : ∀ y ∈ fso, y ∈ fsi)
    (h3 : σ[q3]? = some (.row [sv s3, .tr tfo] 0)) (h6 : σ[q6]? = some (.row [sv s6, .tr tfi] 0))
    (g13 : look e 13 = some (.ptr q3 0 0)) (g14 : look e 14 = some (bv true)) (g16 : look e 16 = some (.ptr q6 0 0)) (g17 : look e 17 = some (iv 0))
    (hQ : ∀ e' L', look e' 14 = some (bv true) → (∀ k, k ≠ 14 → k ≠ 17 → k ≠ 18 → k ≠ 19 → look e' k = look e k) → Q (.exit 12) ⟨e', L', σ⟩) :
    Wp T (.loop k3_57) ⟨e, Lo, σ⟩ Q := by
  have hl3 := pair_load h3
  have hl6 := pair_load h6
  obtain ⟨I, hI⟩ : ∃ I : Nat → St → Prop, I = (fun r st => r ≤ fo.length ∧ ∃ e' Lo', st = ⟨e', Lo', σ⟩ ∧ look e' 14 = some (bv true) ∧ (∀ k, k ≠ 14 → k ≠ 17 → k ≠ 18 → k ≠ 19 → look e' k = look e k) ∧ look e' 17 = some (iv (r : Int))) := ⟨_, rfl⟩
  refine wpc_up fo.length I ?_ ?_
  · rw [hI]
    exact ⟨by omega, e, Lo, rfl, g14, fun k _ _ _ _ => rfl, g17⟩
  intro r st hIs
  rw [hI] at hIs
  obtain ⟨hr, e', Lo', rfl, f14, hlk, f17⟩ := hIs
  have f13 : look e' 13 = some (.ptr q3 0 0) := by rw [hlk 13 (by decide) (by decide) (by decide) (by decide)]; exact g13
  have f16 : look e' 16 = some (.ptr q6 0 0) := by rw [hlk 16 (by decide) (by decide) (by decide) (by decide)]; exact g16
  have fl := fun σ => isSl_len (σ := σ) ho
  by_cases hlt : r < fo.length
  · have hlt' : (r : Int) < (fo.length : Int) := by omega
    obtain ⟨x, hx⟩ := some_at (l := fo) (i := r) hlt
    obtain ⟨y, hy⟩ := some_at (l := fso) (i := r) (by rw [← hor.1]; exact hlt)
    have hxy := hor.2 r x y hx hy
    have hmem : y ∈ fsi := hsub y (List.mem_of_getElem? hy)
    have ia1 := fun σ => isSl_iaddr (σ := σ) ho fT_len (by omega) (k := .i64) hx
    have l1 := fld0 hx
    have w2 : IntKind.i64.wrap ((r : Int) + 1) = ((r + 1 : Nat) : Int) := wrapN _ (by omega) (by omega)
    have key : ∀ e2 L2, look e2 14 = some (bv true) → (∀ k, k ≠ 14 → k ≠ 17 → k ≠ 18 → k ≠ 19 → look e2 k = look e k) → look e2 17 = some (iv ((r + 1 : Nat) : Int)) → I (r + 1) ⟨e2, L2, σ⟩ := by
      intro e2 L2 q14 q q17
      rw [hI]
      exact ⟨by omega, e2, L2, rfl, q14, q, q17⟩
    by_cases hr0 : r = 0
    · have hr0' : (r : Int) = 0 := by omega
      generalize ((r + 1 : Nat) : Int) = r1 at *
      rw [hr0'] at f17 hlt' w2
      have hpos : 0 < fo.length := by omega
      simp [k3_57, f13, f14, f17, fa_p, hl3, fl, hlt', hpos, k3_59]
      refine found_loop (a := r) ho hi hir hin hx hxy h3 h6 ?_ ?_ ?_ ?_ ?_ ?_
      rotate_right
      · intro e2 L2 q18 q
        rw [decide_eq_true hmem] at q18
        have q14 : look e2 14 = some (bv true) := by rw [q 14 (by decide) (by decide)]; simp
        have q17 : look e2 17 = some (iv 0) := by rw [q 17 (by decide) (by decide)]; simp [f17]
        simp [k3_66, q14, q18, k3_67, q17, w2]
        simp at w2
        refine ⟨hlt, key _ _ ?_ ?_ ?_⟩
        · simp
        · intro k h1 h2 h3 h4
          simp [h1, h2]
          rw [q k h3 h4]
          simp [h1, h3, h4]
          exact hlk k h1 h2 h3 h4
        · simp [w2]
      all_goals simp [f13, f16, f17, hr0']
    · obtain ⟨x0, hx0⟩ := some_at (l := fo) (i := r - 1) (by omega)
      obtain ⟨y0, hy0⟩ := some_at (l := fso) (i := r - 1) (by rw [← hor.1]; omega)
      have hxy0 := hor.2 (r - 1) x0 y0 hx0 hy0
      have hless : bytesLt x0.1 x.1 = true := by
        unfold Str at hst
        rw [List.pairwise_iff_getElem] at hst
        have ha := (List.getElem?_eq_some_iff.1 hy0)
        have hb := (List.getElem?_eq_some_iff.1 hy)
        have := hst (r - 1) r ha.1 hb.1 (by omega)
        rw [ha.2, hb.2] at this
        rw [hxy.1, hxy0.1]
        exact this
      have ia0 := fun σ => isSl_iaddr (σ := σ) ho fT_len (by omega) (k := .i64) hx0
      have l0 := fld0 hx0
      have w1 : IntKind.i64.wrap ((r : Int) - 1) = ((r - 1 : Nat) : Int) := wrapN _ (by omega) (by omega)
      have hr0' : ¬ (r : Int) = 0 := by omega
      generalize ((r + 1 : Nat) : Int) = r1 at *
      generalize hrm : ((r - 1 : Nat) : Int) = rm at *
      simp [k3_57, f13, f14, f17, fa_p, fa_r, hl3, fl, hlt', k3_59, hr0', hr0, w1, ia0, ia1, l0, l1, lss_s, hless]
      refine found_loop (a := r) ho hi hir hin hx hxy h3 h6 ?_ ?_ ?_ ?_ ?_ ?_
      rotate_right
      · intro e2 L2 q18 q
        rw [decide_eq_true hmem] at q18
        have q14 : look e2 14 = some (bv true) := by rw [q 14 (by decide) (by decide)]; simp
        have q17 : look e2 17 = some (iv (r : Int)) := by rw [q 17 (by decide) (by decide)]; simp [f17]
        simp [k3_66, q14, q18, k3_67, q17, w2]
        refine ⟨hlt, key _ _ ?_ ?_ ?_⟩
        · simp
        · intro k h1 h2 h3 h4
          simp [h1, h2]
          rw [q k h3 h4]
          simp [h1, h3, h4]
          exact hlk k h1 h2 h3 h4
        · simp
      all_goals simp [f13, f16, f17]
  · have hlt' : ¬ (r : Int) < (fo.length : Int) := by omega
    generalize (r : Int) = rr at *
    simp [k3_57, f13, f14, f17, fa_p, hl3, fl, hlt']
    exact hQ _ _ f14 hlk
end Go.Proofs.Ytodgdmhifbnofaa.AM.Sn
end
