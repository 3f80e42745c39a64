/- SourcePlace, part 7: see the law's own text. -/
import Derived.Test.YtmgjhnengikbhaaPl6
set_option maxRecDepth 1000000
set_option linter.unusedVariables false
set_option linter.unusedSimpArgs false
namespace Go.Proofs.Ytmgjhnengikbhaa.AM.Pl
open Go.Proofs Go.RowKit

/-- The law at any bytes and any place. -/
theorem answer {l : List UInt8} {v : V} (hv : IsSl byE l v) (hbig : l.length ≤ maxLen) (p : Int) : ∃ σ, Cl T 4 [v, iv p] [] (bv true) σ := by
  obtain ⟨σ, m, hb⟩ := begun
  refine ⟨σ, cl_wp T4 rfl rfl ?_⟩
  have hb' : callA T m 6 [] [] = some (bv true, σ) := hb
  have hlen : opLen 1 v σ = some (iv l.length) := isSl_len hv
  refine wp_seq (wp_region 0 ?_)
  simp [r4_0, opsRun, opStep, guardA, opA, o_mv, St.get, St.set, pure1, bind1, put, argsEnv, okP_some, thenN_n]
  refine wp_seq (wp_region m ?_)
  simp [r4_1, opsRun, opStep, guardA, opA, o_mv, o_callf, hb', St.get, St.gets, look, St.set, pure1, bind1, put, okP_some, thenN_n]
  refine wp_seq (wp_seq (wp_region 0 ?_))
  simp [r4_2, opsRun, opStep, guardA, opA, o_mv, o_len, o_bin, bin_gtr, hlen, St.get, look, St.set, pure1, bind1, put, okP_some, thenN_n]
  by_cases h : 500 < l.length
  · obtain ⟨v', hcut, hv'⟩ := isSl_cut_hi (σ := σ) hv byE_len (k' := .i64) (hi := 500) (by omega)
    have hcut : opSlice 1 v none (some (iv 500)) none σ = some v' := hcut
    refine wp_true (by simp [St.get, look]; omega) (wp_region 0 ?_)
    simp [r4_3, opsRun, opStep, guardA, opA, o_mv, o_slice, hcut, St.get, St.geto, look, St.set, pure1, bind1, put, okP_some, thenN_n]
    exact rest hv' (by simp; omega) p _ σ
  · refine wp_false (by simp [St.get, look]; omega) (wp_skip ?_)
    simp only [thenN_n]
    exact rest hv (by omega) p _ σ

theorem walk {x : Option (List UInt8 × Nat)} {s : Value} {w : World} (hx : slOk (fun _ => True) x) (hr : RTL w.heap (fun b => b < w.heap.size) (slE byE x) [s]) (p : Int) (hg : 0 < w.heap.size) (hm : ∃ m, w.cell? ⟨0, 0, none⟩ = some (.int .i64 m)) :
    Calls Try.prog 4 #[s, .int .i64 p] w fun e w' => e = .returned (.bool true) ∧ Below w.heap.size w w' := by
  have key : ∃ l t, IsSl byE l (.tr t) ∧ l.length ≤ maxLen ∧ RT w.heap (fun b => b < w.heap.size) t s := by
    cases x with
    | none =>
      simp only [slE, RTL] at hr
      obtain ⟨y, ys, e, r, rfl⟩ := hr
      cases e
      exact ⟨[], _, .inl ⟨rfl, rfl⟩, by simp, r⟩
    | some q =>
      obtain ⟨l, c⟩ := q
      obtain ⟨h1, h2, _⟩ := hx
      simp only [slE, RTL] at hr
      obtain ⟨y, ys, e, r, rfl⟩ := hr
      cases e
      exact ⟨l, _, .inr ⟨some c, rfl⟩, by omega, r⟩
  obtain ⟨l, t, hv, hbig, r⟩ := key
  obtain ⟨σ, m, h⟩ := answer hv hbig p
  rcases (am_ok mixed tab m).2 w.heap.size w ⟨hg, hm⟩ _ _ _ _ _ h (fun b => b < w.heap.size) (fun _ => none) w [s, .int .i64 p] (Inv.empty _ (fun b hb => hb)) (by
    simp only [RVL, RV]
    exact ⟨_, _, rfl, RT_mono (fun b hb => ⟨.inl hb, rfl⟩) _ _ r, _, _, rfl, rfl, rfl⟩) with ⟨_, hc⟩ | ⟨x, w', hc, _⟩
  · refine hc.mono ?_
    rintro e w' ⟨x, rfl, ρ, hI, _, hr⟩
    simp only [RV, RT] at hr
    subst hr
    exact ⟨rfl, hI.below⟩
  · rw [run_callFunc (fnOk Try.func4 (by kernel_rfl) (by kernel_rfl))] at hc
    cases hc
end Go.Proofs.Ytmgjhnengikbhaa.AM.Pl
