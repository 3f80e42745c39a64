/- SourcePlace, part 4: see the law's own text. -/
import Derived.Test.YtmgjhnengikbhaaPl3
import Derived.Test.YtmgjhnengikbhaaAm3
set_option maxRecDepth 1000000
set_option linter.unusedVariables false
set_option linter.unusedSimpArgs false
namespace Go.Proofs.Ytmgjhnengikbhaa.AM.Pl
open Go.Proofs

abbrev bv (b : Bool) : V := .tr (.sc (.bool b))
abbrev iv (n : Int) : V := .tr (.sc (.int .i64 n))
abbrev uv (b : UInt8) : V := .tr (.sc (.int .u8 (b.toNat : Int)))

/-- The last place of a byte below n. -/
def lastN (l : List UInt8) (c : UInt8) : Nat → Int
  | 0 => -1
  | n + 1 => if l[n]? = some c then n else lastN l c n

theorem cl32 {l : List UInt8} {v : V} (hv : IsSl byE l v) (hl : l.length ≤ 1000) (c : UInt8) (σ : Store) : Cl T 32 [v, uv c] σ (iv (lastN l c l.length)) σ := by
  refine cl_wp T32 rfl rfl ?_
  have hlen : opLen 1 v σ = some (iv l.length) := isSl_len hv
  have hw : IntKind.i64.wrap ((l.length : Int) - 1) = (l.length : Int) - 1 := i64_small (by omega) (by omega)
  refine wp_seq (wp_region 0 ?_)
  simp [r32_0, opsRun, opStep, guardA, opA, o_mv, St.get, St.set, pure1, bind1, put, argsEnv, okP_some, thenN_n]
  refine wp_seq (wp_seq (wp_region 0 ?_))
  simp [r32_1, opsRun, opStep, guardA, opA, o_mv, o_len, o_bin, hlen, bin_sub, hw, St.get, look, St.set, pure1, bind1, put, okP_some, thenN_n]
  refine wp_block (wp_loop (fun n s => n ≤ l.length ∧ lastN l c n = lastN l c l.length ∧ ∃ L, s = ⟨[(0, v), (1, uv c), (4, iv 0), (5, iv ((n : Int) - 1))], L, σ⟩) ?_ l.length _ ⟨Nat.le_refl _, rfl, _, rfl⟩)
  rintro n s ⟨hn, hlast, L, rfl⟩
  refine wp_seq (wp_seq (wp_region 0 ?_))
  simp [r32_2, opsRun, opStep, guardA, opA, o_mv, o_bin, bin_geq, St.get, look, St.set, pure1, bind1, put, okP_some, thenN_n]
  cases n with
  | zero =>
    refine wp_false (by rfl) (wp_exit ?_)
    simp only [thenN_e, blk_e, thenN_n]
    refine wp_seq (wp_region 0 ?_)
    simp [r32_6, opsRun, opStep, guardA, opA, o_mv, St.get, look, St.set, pure1, bind1, put, okP_some, thenN_n]
    refine wp_ret ?_
    simp [fn32, resultA, resultsA, look, ← hlast, lastN]
  | succ n =>
    have hb : l[n]? = some l[n] := List.getElem?_eq_getElem (by omega)
    have hi : opIaddr 1 v (iv (n : Int)) σ = some (.tr (.rptr (l.flatMap byE) (n * 1))) := isSl_iaddr hv byE_len (by omega) hb
    have hld : opLoad 1 false (.tr (.rptr (l.flatMap byE) n)) σ = some (uv l[n]) := by
      have := rptr_load0 (σ := σ) (agg := false) byE_len hb (s := 1) (by omega)
      rw [Nat.mul_one] at this
      rw [this, byE_at]
    have hw2 : IntKind.i64.wrap ((n : Int) - 1) = (n : Int) - 1 := i64_small (by omega) (by omega)
    have e1 : ((n + 1 : Nat) : Int) - 1 = n := by omega
    refine wp_true (by simp [St.get, look]; omega) (wp_skip ?_)
    simp only [thenN_n]
    refine wp_seq (wp_block (wp_seq (wp_region 0 ?_)))
    simp [r32_3, opsRun, opStep, guardA, opA, o_mv, o_iaddr, o_load, o_bin, bin_eql, e1, hi, hld, St.get, look, St.set, pure1, bind1, put, okP_some, thenN_n]
    by_cases hc : l[n] = c
    · refine wp_true (by simp [St.get, look, hc]) (wp_seq (wp_region 0 ?_))
      simp [r32_4, opsRun, opStep, guardA, opA, o_mv, St.get, look, St.set, pure1, bind1, put, okP_some, thenN_n]
      refine wp_ret ?_
      simp [thenN_r, blk_r, fn32, resultA, resultsA, look, ← hlast, lastN, hb, hc]
    · have hc' : ((l[n].toNat : Int) == (c.toNat : Int)) = false := by
        simp only [beq_eq_false_iff_ne, ne_eq]
        intro h
        exact hc (UInt8.toNat_inj.1 (by omega))
      refine wp_false (by simp [St.get, look, hc']) (wp_skip ?_)
      simp only [blk_n, thenN_n]
      refine wp_region 0 ?_
      simp [r32_5, opsRun, opStep, guardA, opA, o_mv, o_bin, bin_sub, hw2, St.get, look, St.set, pure1, bind1, put, okP_some, thenN_n]
      refine ⟨n, by omega, by omega, ?_, rfl⟩
      rw [← hlast]
      simp [lastN, hb, hc]
end Go.Proofs.Ytmgjhnengikbhaa.AM.Pl
