/- SourcePlace, part 6: see the law's own text. -/
import Derived.Test.YtmgjhnengikbhaaPl5
set_option maxRecDepth 1000000
set_option linter.unusedVariables false
set_option linter.unusedSimpArgs false
namespace Go.Proofs.Ytmgjhnengikbhaa.AM.Pl
open Go.Proofs

/-- The law behind its cut. -/
def rest4 : HCode := (.seq (.region r4_4 none)
  (.seq (.seq (.region r4_5 none)
   (.block 0
    (.loop
     (.seq (.seq (.region r4_6 none)
      (.cond (.loc 25)
       .skip
       (.exit 0)))
     (.seq (.block 1
       (.seq (.seq (.region r4_7 none)
        (.cond (.loc 32)
         (.seq (.region r4_8 none)
         (.region r4_9 none))
         .skip))
       (.region r4_10 none)))
     (.region r4_11 none))))))
  (.seq (.region r4_12 none)
  (.seq (.region r4_13 none)
  .ret))))

theorem rest {l : List UInt8} {v : V} (hv : IsSl byE l v) (hl : l.length ≤ 500) (p : Int) (L : List (Nat × V)) (σ : Store) :
    Wp T rest4 ⟨[(0, v), (1, iv p), (4, bv false), (5, bv true)], L, σ⟩ (fun o s => (o = .normal ∨ o = .ret) ∧ resultA s fn4.results = some (bv true) ∧ s.σ = σ) := by
  have hlen : opLen 1 v σ = some (iv l.length) := isSl_len hv
  obtain ⟨h, hle, hh, m, hpl⟩ := cl8 hv hl p σ
  refine wp_seq (wp_region 0 ?_)
  simp [r4_4, opsRun, opStep, guardA, opA, o_mv, St.get, St.set, pure1, bind1, put, argsEnv, okP_some, thenN_n]
  refine wp_seq (wp_seq (wp_region 0 ?_))
  simp [r4_5, opsRun, opStep, guardA, opA, o_mv, St.get, St.set, pure1, bind1, put, argsEnv, okP_some, thenN_n]
  refine wp_block (wp_loop (fun n s => n ≤ h ∧ ∃ L, s = ⟨[(0, v), (1, iv p), (4, bv false), (5, bv true), (6, iv (1 + countL 10 (l.take (h - n)) 0)), (7, iv (((h - n : Nat) : Int) - lastN l 10 (h - n))), (8, iv ((h - n : Nat) : Int))], L, σ⟩) ?_ h _ ⟨Nat.le_refl _, [], by simp [countL, lastN]⟩)
  rintro n s ⟨hn, L, rfl⟩
  have hlt : ((decide (((h - n : Nat) : Int) < l.length)) && (decide (((h - n : Nat) : Int) < p))) = decide (0 < n) := by
    rw [Bool.eq_iff_iff]
    simp only [Bool.and_eq_true, decide_eq_true_eq]
    omega
  refine wp_seq (wp_seq (wp_region 0 ?_))
  have hpick : okP (opsRun (callA T 0) r4_6 ⟨[(0, v), (1, iv p), (4, bv false), (5, bv true), (6, iv (1 + countL 10 (l.take (h - n)) 0)), (7, iv (((h - n : Nat) : Int) - lastN l 10 (h - n))), (8, iv ((h - n : Nat) : Int))], [], σ⟩)
      (fun s => ∃ L, s = ⟨[(0, v), (1, iv p), (4, bv false), (5, bv true), (6, iv (1 + countL 10 (l.take (h - n)) 0)), (7, iv (((h - n : Nat) : Int) - lastN l 10 (h - n))), (8, iv ((h - n : Nat) : Int))], L, σ⟩ ∧ look L 25 = some (bv (decide (0 < n)))) := by
    rw [← hlt]
    by_cases h1 : h - n < l.length
    · simp [r4_6, opsRun, opStep, guardA, opA, o_mv, o_len, o_bin, o_pick, asBool?, hlen, bin_lss, h1, St.get, look, St.set, pure1, bind1, put, okP_some, thenN_n]
    · simp [r4_6, opsRun, opStep, guardA, opA, o_mv, o_len, o_bin, o_pick, asBool?, hlen, bin_lss, h1, St.get, look, St.set, pure1, bind1, put, okP_some, thenN_n, undefV]
  refine okP_mono hpick ?_
  rintro s ⟨L, rfl, h25⟩
  simp only [thenN_n]
  cases n with
  | zero =>
    refine wp_false h25 (wp_exit ?_)
    simp only [thenN_e, blk_e, thenN_n, Nat.sub_zero]
    have he : opExtract (.tr (.tup [.sc (.int .i64 (1 + countL 10 (l.take h) 0)), .sc (.int .i64 (h - lastN l 10 h))])) 0 = some (iv (1 + countL 10 (l.take h) 0)) := by rfl
    have he1 : opExtract (.tr (.tup [.sc (.int .i64 (1 + countL 10 (l.take h) 0)), .sc (.int .i64 (h - lastN l 10 h))])) 1 = some (iv (h - lastN l 10 h)) := by rfl
    refine wp_seq (wp_region m ?_)
    simp [r4_12, opsRun, opStep, guardA, opA, o_mv, o_callf, o_extract, hpl, he, he1, St.get, St.gets, look, St.set, pure1, bind1, put, okP_some, thenN_n]
    refine wp_seq (wp_region 0 ?_)
    simp [r4_13, opsRun, opStep, guardA, opA, o_mv, o_bin, o_pick, asBool?, bin_eql, St.get, St.gets, look, St.set, pure1, bind1, put, okP_some, thenN_n]
    refine wp_ret ?_
    simp [fn4, resultA, resultsA, look]
  | succ n =>
    have hi : h - (n + 1) < l.length := by omega
    have e1 : h - n = h - (n + 1) + 1 := by omega
    generalize h - (n + 1) = i at *
    have hb : l[i]? = some l[i] := List.getElem?_eq_getElem hi
    have hia : opIaddr 1 v (iv (i : Int)) σ = some (.tr (.rptr (l.flatMap byE) (i * 1))) := isSl_iaddr hv byE_len (by omega) hb
    have hld : opLoad 1 false (.tr (.rptr (l.flatMap byE) i)) σ = some (uv l[i]) := by
      have := rptr_load0 (σ := σ) (agg := false) byE_len hb (s := 1) (by omega)
      rw [Nat.mul_one] at this
      rw [this, byE_at]
    have b1 := countL_bound 10 (l.take i)
    have b2 := lastN_bound l 10 i
    have w1 : IntKind.i64.wrap (1 + countL 10 (l.take i) 0 + 1) = 1 + countL 10 (l.take i) 0 + 1 := i64_small (by omega) (by simp at b1; omega)
    have w2 : IntKind.i64.wrap ((i : Int) - lastN l 10 i + 1) = (i : Int) - lastN l 10 i + 1 := i64_small (by omega) (by omega)
    have w3 : IntKind.i64.wrap ((i : Int) + 1) = (i : Int) + 1 := i64_small (by omega) (by omega)
    have w4 : IntKind.i64.wrap ((0 : Int) + 1) = 1 := i64_small (by omega) (by omega)
    have hsn : countL 10 (l.take (i + 1)) 0 = countL 10 (l.take i) 0 + (if Nat.beq l[i].toNat 10 then 1 else 0) := by
      rw [List.take_succ_eq_append_getElem hi, countL_snoc]
    refine wp_true h25 (wp_skip ?_)
    simp only [thenN_n]
    refine wp_seq (wp_block (wp_seq (wp_seq (wp_region 0 ?_))))
    simp [r4_7, opsRun, opStep, guardA, opA, o_mv, o_iaddr, o_load, o_bin, bin_eql, hia, hld, St.get, look, St.set, pure1, bind1, put, okP_some, thenN_n]
    by_cases hc : l[i] = 10
    · refine wp_true (by simp [St.get, look, hc]) (wp_seq (wp_region 0 ?_))
      simp [r4_8, opsRun, opStep, guardA, opA, o_mv, o_bin, bin_add, w1, St.get, look, St.set, pure1, bind1, put, okP_some, thenN_n]
      refine wp_region 0 ?_
      simp [r4_9, opsRun, opStep, guardA, opA, o_mv, St.get, look, St.set, pure1, bind1, put, okP_some, thenN_n]
      refine wp_region 0 ?_
      simp [r4_10, opsRun, opStep, guardA, opA, o_mv, o_bin, bin_add, w4, St.get, look, St.set, pure1, bind1, put, okP_some, thenN_n, blk_n]
      refine wp_region 0 ?_
      simp [r4_11, opsRun, opStep, guardA, opA, o_mv, o_bin, bin_add, w3, St.get, look, St.set, pure1, bind1, put, okP_some, thenN_n, blk_n]
      refine ⟨n, by omega, by omega, ?_⟩
      rw [e1, hsn]
      simp [hc, lastN, hb]
      have w4 : IntKind.i64.wrap (1 : Int) = 1 := i64_small (by omega) (by omega)
      omega
    · have hc' : ((l[i].toNat : Int) == 10) = false := by
        simp only [beq_eq_false_iff_ne, ne_eq]
        intro h
        exact hc (UInt8.toNat_inj.1 (by show l[i].toNat = 10; omega))
      have hc2 : Nat.beq l[i].toNat 10 = false := by
        cases h : Nat.beq l[i].toNat 10 with
        | true =>
          exfalso
          have := Nat.eq_of_beq_eq_true h
          exact hc (UInt8.toNat_inj.1 this)
        | false => rfl
      refine wp_false (by simp [St.get, look, hc']) (wp_skip ?_)
      simp only [thenN_n]
      refine wp_region 0 ?_
      simp [r4_10, opsRun, opStep, guardA, opA, o_mv, o_bin, bin_add, w2, St.get, look, St.set, pure1, bind1, put, okP_some, thenN_n, blk_n]
      refine wp_region 0 ?_
      simp [r4_11, opsRun, opStep, guardA, opA, o_mv, o_bin, bin_add, w3, St.get, look, St.set, pure1, bind1, put, okP_some, thenN_n, blk_n]
      refine ⟨n, by omega, by omega, ?_⟩
      rw [e1, hsn]
      simp [hc2, hc, lastN, hb]
      omega
end Go.Proofs.Ytmgjhnengikbhaa.AM.Pl
