/- The law's own body: at any string it answers true. -/
import Derived.Test.YtjjbglmnbmpegaaSp6
set_option maxRecDepth 1000000
set_option linter.unusedVariables false
set_option linter.unusedSimpArgs false
namespace Go.Proofs.Ytjjbglmnbmpegaa.AM.Sp
open Go.Proofs Go.RowKit

theorem no_eq_all : (List.range 256).all (fun n => no5 (UInt8.ofNat n) == no6 (UInt8.ofNat n)) = true := by decide +kernel
theorem no_eq (b : UInt8) : no5 b = no6 b := by
  have := List.all_eq_true.1 no_eq_all b.toNat (by rw [List.mem_range]; exact b.toNat_lt)
  simpa using this
theorem path_eq (l : List UInt8) : path5 l = path6 l := by
  unfold path5 path6
  congr 2
  funext b
  rw [no_eq]

/-- The law at any string. -/
theorem answer (l : List UInt8) : ∃ σ, Cl T 3 [sv l] [] (bv true) σ := by
  obtain ⟨σ, m4, hb⟩ := begun
  have t0 : opsRun (callA T 0) r5_0 ⟨[(0, sv l)], [], []⟩ = some ⟨[(0, sv l), (2, bv false)], [], []⟩ := by
    simp [r5_0, opsRun, opStep, guardA, opA, o_mv, St.get, look, St.set, pure1, bind1, put]
  have hb' : callA T m4 4 [] [] = some (bv true, σ) := hb
  have t1 : opsRun (callA T m4) r3_1 ⟨[(0, sv l), (2, bv false)], [], []⟩ = some ⟨[(0, sv l), (2, bv false), (3, bv true)], [(4, bv true)], σ⟩ := by
    simp [r3_1, opsRun, opStep, guardA, opA, o_mv, o_callf, St.get, St.gets, look, St.set, pure1, bind1, put, hb']
  have t2 : opsRun (callA T 0) r3_2 ⟨[(0, sv l), (2, bv false), (3, bv true)], [], σ⟩ = some ⟨[(0, sv l), (2, bv false), (3, bv true)], [(7, bv (decide ((l.length : Int) > 120))), (6, iv l.length), (5, sv l)], σ⟩ := by
    simp [r3_2, opsRun, opStep, guardA, opA, o_mv, o_bin, o_len, opLen, opLenStr, int, St.get, look, St.set, pure1, bind1, bin_gtr]
  have last : ∀ (k : List UInt8), k.length ≤ 120 → ∀ L, ∃ L', Ex T (.seq (.region r3_4 none) .ret) ⟨[(0, sv k), (2, bv false), (3, bv true)], L, σ⟩ .ret ⟨[(0, sv k), (2, bv true), (3, bv true)], L', σ⟩ := by
    intro k hk L
    obtain ⟨m5, h5⟩ := cl5 hk σ
    obtain ⟨m6, h6⟩ := cl6 hk σ
    have h5 := callA_mono T m5 (max m5 m6) (Nat.le_max_left ..) _ _ _ _ h5
    have h6 := callA_mono T m6 (max m5 m6) (Nat.le_max_right ..) _ _ _ _ h6
    have t : ∃ L', opsRun (callA T (max m5 m6)) r3_4 ⟨[(0, sv k), (2, bv false), (3, bv true)], [], σ⟩ = some ⟨[(0, sv k), (2, bv true), (3, bv true)], L', σ⟩ := by
      simp [r3_4, opsRun, opStep, guardA, opA, o_mv, o_bin, o_callf, o_pick, St.get, St.gets, look, St.set, pure1, bind1, put, asBool?, h5, h6, bin_bool, path_eq]
    obtain ⟨L', t⟩ := t
    exact ⟨L', ex_seq (ex_region ⟨_, t⟩) ex_ret⟩
  have pre : ∀ {st1 : St}, Ex T (.seq (.seq (.region r3_2 none) (.cond (.loc 7) (.region r3_3 none) .skip)) (.seq (.region r3_4 none) .ret)) ⟨[(0, sv l), (2, bv false), (3, bv true)], [(4, bv true)], σ⟩ .ret st1 → Ex T fn3.code ⟨[(0, sv l)], [], []⟩ .ret st1 := fun h =>
    ex_seq (ex_region ⟨0, t0⟩) (ex_seq (ex_region ⟨m4, t1⟩) h)
  refine ⟨σ, ?_⟩
  by_cases hlen : (l.length : Int) > 120
  · have h7 : bv (decide ((l.length : Int) > 120)) = bv true := by simp [hlen]
    rw [h7] at t2
    have hs : opSliceStr (sv l) none (some (iv 120)) = some (sv (l.take 120)) := by
      have h2 : asIdx? (iv 120) = some 120 := rfl
      simp only [opSliceStr, optIdx, h2, Option.getD_some, Option.getD_none]
      rw [if_pos ⟨show 120 ≤ l.length by omega, by omega⟩]
      rfl
    have t3 : ∃ L', opsRun (callA T 0) r3_3 ⟨[(0, sv l), (2, bv false), (3, bv true)], [], σ⟩ = some ⟨[(0, sv (l.take 120)), (2, bv false), (3, bv true)], L', σ⟩ := by
      simp [r3_3, opsRun, opStep, guardA, opA, o_mv, o_slicestr, St.get, St.geto, look, St.set, pure1, bind1, put, hs]
    obtain ⟨L3, t3⟩ := t3
    obtain ⟨L', h⟩ := last (l.take 120) (by simp; omega) L3
    exact cl_of (vs := [sv l]) (σ := []) (v := bv true) (st := ⟨[(0, sv (l.take 120)), (2, bv true), (3, bv true)], L', σ⟩) T3 rfl rfl (pre (ex_seq (ex_seq (ex_region ⟨0, t2⟩) (ex_true (by rfl) (ex_region ⟨0, t3⟩))) h)) (.inr rfl) rfl
  · have h7 : bv (decide ((l.length : Int) > 120)) = bv false := by simp; omega
    rw [h7] at t2
    obtain ⟨L', h⟩ := last l (by omega) [(7, bv false), (6, iv l.length), (5, sv l)]
    exact cl_of (vs := [sv l]) (σ := []) (v := bv true) (st := ⟨[(0, sv l), (2, bv true), (3, bv true)], L', σ⟩) T3 rfl rfl (pre (ex_seq (ex_seq (ex_region ⟨0, t2⟩) (ex_false (by rfl) ex_skip)) h)) (.inr rfl) rfl

theorem walk (s : ByteArray) (w : World) (hg : 0 < w.heap.size) (hm : ∃ m, w.cell? ⟨0, 0, none⟩ = some (.int .i64 m)) : Calls Try.prog 3 #[.string s] w fun e w' => e = .returned (.bool true) ∧ Below w.heap.size w w' := by
  obtain ⟨⟨l⟩⟩ := s
  obtain ⟨σ, m, h⟩ := answer l
  rcases (am_ok mixed tab m).2 w.heap.size w ⟨hg, hm⟩ _ _ _ _ _ h (fun _ => False) (fun _ => none) w [.string ⟨⟨l⟩⟩] (Inv.empty _ (fun _ h => h.elim)) (by
    simp only [RVL, RV, RT]
    exact ⟨_, _, rfl, rfl, rfl⟩) with ⟨_, hc⟩ | ⟨x, w', hc, _⟩
  · refine hc.mono ?_
    rintro e w' ⟨x, rfl, ρ, hI, _, hr⟩
    simp only [RV, RT] at hr
    subst hr
    exact ⟨rfl, hI.below⟩
  · rw [run_callFunc (fnOk Try.func3 (by kernel_rfl) (by kernel_rfl))] at hc
    cases hc
end Go.Proofs.Ytjjbglmnbmpegaa.AM.Sp
