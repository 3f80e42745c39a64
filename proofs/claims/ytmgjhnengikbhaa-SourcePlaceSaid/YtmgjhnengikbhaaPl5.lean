/- SourcePlace, part 5: see the law's own text. -/
import Derived.Test.YtmgjhnengikbhaaPl4
set_option maxRecDepth 1000000
set_option linter.unusedVariables false
set_option linter.unusedSimpArgs false
namespace Go.Proofs.Ytmgjhnengikbhaa.AM.Pl
open Go.Proofs

theorem cl19 {l : List UInt8} {v : V} (hv : IsSl byE l v) (hl : l.length ≤ 1000) (c : UInt8) (σ : Store) : Cl T 19 [v, uv c] σ (iv (lastN l c l.length)) σ := by
  refine cl_wp T19 rfl rfl ?_
  obtain ⟨m, h⟩ := cl32 hv hl c σ
  refine wp_seq (wp_region 0 ?_)
  simp [r19_0, opsRun, opStep, guardA, opA, o_mv, St.get, St.set, pure1, bind1, put, argsEnv, okP_some, thenN_n]
  refine wp_seq (wp_region m ?_)
  simp [r19_1, opsRun, opStep, guardA, opA, o_mv, o_callf, h, St.get, St.gets, look, St.set, pure1, bind1, put, okP_some, thenN_n]
  refine wp_ret ?_
  simp [fn19, resultA, resultsA, look]

theorem rd_bytes {l : List UInt8} {v : V} (hv : IsSl byE l v) (c : UInt8) (σ : Store) : rdArgs σ [v, uv c] = some [.string ⟨⟨l⟩⟩, .int .u8 (c.toNat : Int)] := by
  rcases hv with ⟨rfl, rfl⟩ | ⟨cap, rfl⟩
  · rfl
  · have h1 : elems σ 1 (.tr (.row (l.flatMap byE) l.length cap)) = some ((l.flatMap byE).map .tr, l.length) := by
      simp only [elems]
      rw [if_pos (flat_len byE_len l)]
    simp only [rdArgs, h1, byE_bytes]
theorem count_call {l : List UInt8} {v : V} (hv : IsSl byE l v) (σ : Store) (m : Nat) : callA T (m + 1) 30 [v, uv 10] σ = some (iv (countL 10 l 0), σ) := by
  have hT : T 30 = some { nargs := 2, code := .bad, results := [], mode := .ext 5 } := rfl
  refine cl_ext hT rfl rfl ?_ m
  have : argsOf 5 [v, uv 10] σ = some [.string ⟨⟨l⟩⟩, .int .u8 ((10 : UInt8).toNat : Int)] := rd_bytes hv 10 σ
  simp only [extV, this]
  rfl

theorem cl18 {l : List UInt8} {v : V} (hv : IsSl byE l v) (σ : Store) : Cl T 18 [v, .tr (.row [.sc (.int .u8 10)] 1 (some 1))] σ (iv (countL 10 l 0)) σ := by
  refine cl_wp T18 rfl rfl ?_
  have hs : IsSl byE [10] (.tr (.row [.sc (.int .u8 10)] 1 (some 1))) := .inr ⟨some 1, rfl⟩
  have hlen : opLen 1 (.tr (.row [.sc (.int .u8 10)] 1 (some 1))) σ = some (iv 1) := isSl_len hs
  refine wp_seq (wp_region 0 ?_)
  simp [r18_0, opsRun, opStep, guardA, opA, o_mv, St.get, St.set, pure1, bind1, put, argsEnv, okP_some, thenN_n]
  refine wp_seq (wp_seq (wp_region 0 ?_))
  simp [r18_1, opsRun, opStep, guardA, opA, o_mv, o_len, o_bin, hlen, bin_eql, St.get, look, St.set, pure1, bind1, put, okP_some, thenN_n]
  refine wp_false (by rfl) (wp_skip ?_)
  simp only [thenN_n]
  refine wp_seq (wp_seq (wp_region 0 ?_))
  simp [r18_3, opsRun, opStep, guardA, opA, o_mv, o_len, o_bin, hlen, bin_eql, St.get, look, St.set, pure1, bind1, put, okP_some, thenN_n]
  have hi : opIaddr 1 (.tr (.row [.sc (.int .u8 10)] 1 (some 1))) (iv 0) σ = some (.tr (.rptr [.sc (.int .u8 10)] 0)) := by rfl
  have hld : opLoad 1 false (.tr (.rptr [.sc (.int .u8 10)] 0)) σ = some (.tr (.sc (.int .u8 10))) := by rfl
  have hcnt : callA T 1 30 [v, .tr (.sc (.int .u8 10))] σ = some (iv (countL 10 l 0), σ) := count_call hv σ 0
  refine wp_true (by rfl) (wp_seq (wp_region 1 ?_))
  simp [r18_4, opsRun, opStep, guardA, opA, o_mv, o_iaddr, o_load, o_callf, hi, hld, hcnt, St.get, St.gets, look, St.set, pure1, bind1, put, okP_some, thenN_n]
  refine wp_ret ?_
  simp [thenN_r, fn18, resultA, resultsA, look]

theorem countL_add (c : Nat) : ∀ (l : List UInt8) (n : Nat), countL c l n = countL c l 0 + n
  | [], n => by simp [countL]
  | b :: l, n => by
    simp only [countL]
    cases Nat.beq b.toNat c with
    | true => rw [countL_add c l (if true = true then n + 1 else n), countL_add c l (if true = true then 0 + 1 else 0)]; simp; omega
    | false => rw [countL_add c l (if false = true then n + 1 else n), countL_add c l (if false = true then 0 + 1 else 0)]; simp
theorem countL_snoc (c : Nat) (b : UInt8) : ∀ (l : List UInt8) (n : Nat), countL c (l ++ [b]) n = countL c l n + (if Nat.beq b.toNat c then 1 else 0)
  | [], n => by
    simp only [List.nil_append, countL]
    cases Nat.beq b.toNat c with
    | true => simp
    | false => simp
  | a :: l, n => by
    simp only [List.cons_append, countL]
    exact countL_snoc c b l _
theorem countL_bound (c : Nat) : ∀ (l : List UInt8), 0 ≤ countL c l 0 ∧ countL c l 0 ≤ l.length
  | [] => by simp [countL]
  | b :: l => by
    have := countL_bound c l
    simp only [countL, List.length_cons]
    rw [countL_add]
    cases Nat.beq b.toNat c with
    | true => simp; omega
    | false => simp; omega
theorem lastN_bound (l : List UInt8) (c : UInt8) : ∀ n, -1 ≤ lastN l c n ∧ lastN l c n < n
  | 0 => by simp [lastN]
  | n + 1 => by
    have := lastN_bound l c n
    unfold lastN
    split <;> omega
theorem lastN_take (l : List UInt8) (c : UInt8) (h : Nat) : ∀ n, n ≤ h → lastN (l.take h) c n = lastN l c n
  | 0, _ => rfl
  | n + 1, hn => by
    unfold lastN
    rw [lastN_take l c h n (by omega), List.getElem?_take_of_lt (by omega)]

theorem cl8 {l : List UInt8} {v : V} (hv : IsSl byE l v) (hl : l.length ≤ 500) (p : Int) (σ : Store) : ∃ h : Nat, h ≤ l.length ∧ (h : Int) = max (min p l.length) 0 ∧
    Cl T 8 [v, iv p] σ (.tr (.tup [.sc (.int .i64 (1 + countL 10 (l.take h) 0)), .sc (.int .i64 (h - lastN l 10 h))])) σ := by
  refine ⟨(max (min p l.length) 0).toNat, by omega, by omega, ?_⟩
  have hh : ((max (min p l.length) 0).toNat : Int) = max (min p l.length) 0 := by omega
  have hle : (max (min p l.length) 0).toNat ≤ l.length := by omega
  generalize (max (min p (l.length : Int)) 0).toNat = h at hh hle
  refine cl_wp T8 rfl rfl ?_
  have hlen : opLen 1 v σ = some (iv l.length) := isSl_len hv
  obtain ⟨v', hcut, hv'⟩ := isSl_cut_hi (σ := σ) hv byE_len (k' := .i64) hle
  have h1 : minmaxAll false (iv p) [iv l.length] = some (iv (min p l.length)) := by
    simp only [minmaxAll, opMinMax, int]
    congr 4
    simp
    split <;> omega
  have h2 : minmaxAll true (iv (min p l.length)) [iv 0] = some (iv h) := by
    simp only [minmaxAll, opMinMax, int]
    congr 4
    rw [hh]
    simp
    split <;> omega
  refine wp_seq (wp_region 0 ?_)
  simp [r8_0, opsRun, opStep, guardA, opA, o_mv, St.get, St.set, pure1, bind1, put, argsEnv, okP_some, thenN_n]
  refine wp_seq (wp_region 0 ?_)
  simp [r8_1, opsRun, opStep, guardA, opA, o_mv, o_len, o_minmax, o_slice, hlen, h1, h2, hcut, St.get, St.gets, St.geto, look, St.set, pure1, bind1, put, okP_some, thenN_n]
  have hl' : (l.take h).length = h := by simp; omega
  have hlen' : opLen 1 v' σ = some (iv h) := by
    have := isSl_len (σ := σ) hv'
    rw [hl'] at this
    exact this
  have hbs : opBslice false 1 1 [.sc (.int .u8 0)] [(0, 1, .tr (.sc (.int .u8 10)))] σ = some (.tr (.row [.sc (.int .u8 10)] 1 (some 1)), σ) := by rfl
  obtain ⟨m1, k1⟩ := cl18 hv' σ
  obtain ⟨m2, k2⟩ := cl19 hv' (by omega) 10 σ
  have k1 := callA_mono T m1 (max m1 m2) (Nat.le_max_left ..) _ _ _ _ k1
  have k2 := callA_mono T m2 (max m1 m2) (Nat.le_max_right ..) _ _ _ _ k2
  have k2 : callA T (max m1 m2) 19 [v', .tr (.sc (.int .u8 10))] σ = some (iv (lastN l 10 h), σ) := by
    rw [hl', lastN_take l 10 h h (Nat.le_refl _)] at k2
    exact k2
  have b1 := countL_bound 10 (l.take h)
  have b2 := lastN_bound l 10 h
  have w1 : IntKind.i64.wrap (1 + countL 10 (l.take h) 0) = 1 + countL 10 (l.take h) 0 := i64_small (by omega) (by omega)
  have w2 : IntKind.i64.wrap ((h : Int) - lastN l 10 h) = (h : Int) - lastN l 10 h := i64_small (by omega) (by omega)
  refine wp_seq (wp_region (max m1 m2) ?_)
  simp [r8_2, opsRun, opStep, guardA, opA, o_mv, o_len, o_bslice, o_callf, o_bin, bin_add, bin_sub, hlen', hbs, k1, k2, w1, w2, St.get, St.gets, St.getp, look, St.set, pure1, bind1, put, okP_some, thenN_n]
  refine wp_ret ?_
  simp [fn8, resultA, resultsA, look, mkTup, allTr]
end Go.Proofs.Ytmgjhnengikbhaa.AM.Pl
