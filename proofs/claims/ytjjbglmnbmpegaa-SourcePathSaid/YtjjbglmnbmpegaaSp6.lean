/- The loops, and both ways to the normal form. -/
import Derived.Test.YtjjbglmnbmpegaaSp5
set_option maxRecDepth 1000000
set_option linter.unusedVariables false
set_option linter.unusedSimpArgs false
namespace Go.Proofs.Ytjjbglmnbmpegaa.AM.Sp
open Go.Proofs

def chk5 : HCode := .block 1 (.seq (.region r5_5 none) (.seq (.region r5_6 none) (.seq (.region r5_7 none) (.cond (.loc 57) (.seq (.region r5_0 none) .ret) .skip))))
def body5 : HCode := .seq (.region r5_4 none) (.seq (.cond (.loc 28) .skip (.exit 0)) (.seq chk5 (.region r5_9 none)))
def chk6 : HCode := .block 1 (.seq (.region r6_5 none) (.seq (.region r6_6 none) (.cond (.loc 72) (.seq (.region r5_0 none) .ret) .skip)))
def body6 : HCode := .seq (.seq (.region r6_4 none) (.cond (.loc 28) .skip (.exit 0))) (.seq chk6 (.region r6_8 none))

def I5 (l : List UInt8) (E : List (Nat × V)) (i : Nat) : Prop := look E 0 = some (sv l) ∧ look E 26 = some (iv l.length) ∧ look E 27 = some (iv i)
def I6 (l : List UInt8) (E : List (Nat × V)) (i : Nat) : Prop := look E 0 = some (sv l) ∧ look E 3 = some (iv i)

theorem of_gives {c : CallA} {ops : List HOp} {E : List (Nat × V)} {σ : Store} {k : Nat} {v : V} (h : Gives (opsRun c ops ⟨E, [], σ⟩) E σ k v) : ∃ L, opsRun c ops ⟨E, [], σ⟩ = some ⟨E, L, σ⟩ ∧ look L k = some v := h

theorem step5 {l : List UInt8} {i : Nat} {b : UInt8} (hi : i < 120) (hb : l[i]? = some b) {E : List (Nat × V)} (hE : I5 l E i) (L : List (Nat × V)) (σ : Store) :
    (no5 b = false → ∃ E' L', I5 l E' (i + 1) ∧ Ex T body5 ⟨E, L, σ⟩ .normal ⟨E', L', σ⟩) ∧ (no5 b = true → ∃ E' L', look E' 2 = some (bv false) ∧ Ex T body5 ⟨E, L, σ⟩ .ret ⟨E', L', σ⟩) := by
  obtain ⟨h0, h26, h27⟩ := hE
  have hil : i < l.length := (List.getElem?_eq_some_iff.1 hb).1
  have t1 : opsRun (callA T 0) r5_4 ⟨E, [], σ⟩ = some ⟨E, [(28, bv true)], σ⟩ := by
    simp [r5_4, opsRun, opStep, guardA, opA, o_bin, St.get, St.set, pure1, bind1, h26, h27, bin_lss, hil]
  have t2 : opsRun (callA T 0) r5_5 ⟨E, [], σ⟩ = some ⟨put E 3 (iv i), [(29, iv i)], σ⟩ := by
    simp [r5_5, opsRun, opStep, guardA, opA, o_mv, St.get, look, St.set, pure1, bind1, h27]
  have hist := istr_at (s := ⟨⟨l⟩⟩) (k := .i64) hb
  have t3 : opsRun (callA T 0) r5_6 ⟨put E 3 (iv i), [], σ⟩ = some ⟨put (put E 3 (iv i)) 4 (uv b), [(32, uv b), (31, iv i), (30, sv l)], σ⟩ := by
    simp [r5_6, opsRun, opStep, guardA, opA, o_mv, o_istr, St.get, look, St.set, pure1, bind1, look_put, h0, hist]
  obtain ⟨L4, t4, h57⟩ := of_gives (no5_region hi hb (put (put E 3 (iv i)) 4 (uv b)) σ (by simp [look_put, h0]) (by simp [look_put]) (by simp [look_put]) 0)
  have hw : IntKind.i64.wrap ((i : Int) + 1) = (i : Int) + 1 := i64_small (by omega) (by omega)
  have pre : ∀ {out : Out} {st2 : St}, Ex T (.seq chk5 (.region r5_9 none)) ⟨E, [(28, bv true)], σ⟩ out st2 → Ex T body5 ⟨E, L, σ⟩ out st2 := fun h =>
    ex_seq (ex_region ⟨0, t1⟩) (ex_seq (ex_true (by rfl) ex_skip) h)
  have chk : ∀ {out : Out} {st2 : St}, Ex T (.cond (.loc 57) (.seq (.region r5_0 none) .ret) .skip) ⟨put (put E 3 (iv i)) 4 (uv b), L4, σ⟩ out st2 →
      Ex T (.seq (.region r5_5 none) (.seq (.region r5_6 none) (.seq (.region r5_7 none) (.cond (.loc 57) (.seq (.region r5_0 none) .ret) .skip)))) ⟨E, [(28, bv true)], σ⟩ out st2 := fun h =>
    ex_seq (ex_region ⟨0, t2⟩) (ex_seq (ex_region ⟨0, t3⟩) (ex_seq (ex_region ⟨1, t4⟩) h))
  constructor
  · intro hno
    rw [hno] at h57
    refine ⟨put (put (put E 3 (iv i)) 4 (uv b)) 27 (iv ((i : Int) + 1)), [(58, iv ((i : Int) + 1))], ⟨by simp [look_put, h0], by simp [look_put, h26], by simp [look_put]⟩, pre ?_⟩
    refine ex_seq (ex_block (chk (ex_false h57 ex_skip))) (ex_region ⟨0, ?_⟩)
    simp [r5_9, opsRun, opStep, guardA, opA, o_mv, o_bin, St.get, look, St.set, pure1, bind1, look_put, h27, bin_add, hw]
  · intro hno
    rw [hno] at h57
    refine ⟨put (put (put E 3 (iv i)) 4 (uv b)) 2 (bv false), [], by simp [look_put], pre ?_⟩
    refine ex_stop (ex_block_ret (chk (ex_true h57 (ex_seq (ex_region ⟨0, ?_⟩) ex_ret)))) (by simp)
    simp [r5_0, opsRun, opStep, guardA, opA, o_mv, St.get, look, St.set, pure1, bind1]

theorem loop5 {l : List UInt8} (hl : l.length ≤ 100) (σ : Store) : ∀ (n i : Nat) (E L : List (Nat × V)), i + n = l.length → I5 l E i →
    ((l.drop i).all (fun b => !no5 b) = true → ∃ E' L', Ex T (.loop body5) ⟨E, L, σ⟩ (.exit 0) ⟨E', L', σ⟩) ∧ ((l.drop i).all (fun b => !no5 b) = false → ∃ E' L', look E' 2 = some (bv false) ∧ Ex T (.loop body5) ⟨E, L, σ⟩ .ret ⟨E', L', σ⟩)
  | 0, i, E, L, hn, hE => by
    obtain ⟨h0, h26, h27⟩ := hE
    have hi : i = l.length := by omega
    subst hi
    rw [List.drop_length]
    refine ⟨fun _ => ⟨E, [(28, bv false)], ex_loop_out (ex_seq (ex_region ⟨0, ?_⟩) (ex_stop (ex_false (by rfl) (ex_exit 0)) (by simp))) (by simp)⟩, fun h => by simp at h⟩
    simp [r5_4, opsRun, opStep, guardA, opA, o_bin, St.get, St.set, pure1, bind1, h26, h27, bin_lss]
  | n + 1, i, E, L, hn, hE => by
    have hi : i < l.length := by omega
    have hb : l[i]? = some l[i] := List.getElem?_eq_getElem hi
    have hd : l.drop i = l[i] :: l.drop (i + 1) := List.drop_eq_getElem_cons hi
    obtain ⟨s1, s2⟩ := step5 (by omega) hb hE L σ
    rw [hd, List.all_cons]
    cases hno : no5 l[i] with
    | true =>
      refine ⟨fun h => by simp at h, fun _ => ?_⟩
      obtain ⟨E', L', h2, h⟩ := s2 hno
      exact ⟨E', L', h2, ex_loop_out h (by simp)⟩
    | false =>
      obtain ⟨E', L', hE', h⟩ := s1 hno
      obtain ⟨r1, r2⟩ := loop5 hl σ n (i + 1) E' L' (by omega) hE'
      simp only [Bool.not_false, Bool.true_and]
      refine ⟨fun hall => ?_, fun hall => ?_⟩
      · obtain ⟨E2, L2, h2⟩ := r1 hall
        exact ⟨E2, L2, ex_loop h h2⟩
      · obtain ⟨E2, L2, h3, h2⟩ := r2 hall
        exact ⟨E2, L2, h3, ex_loop h h2⟩

def path5 (l : List UInt8) : Bool := !bad l && l.all fun b => !no5 b
theorem bad_len {l : List UInt8} (h : bad l = false) : l.length ≤ 100 := by
  cases l with
  | nil => simp
  | cons a t =>
    simp only [bad, Bool.or_eq_false_iff, decide_eq_false_iff_not] at h
    simp only [List.length_cons]
    omega
theorem cl5 {l : List UInt8} (hl : l.length ≤ 120) (σ : Store) : Cl T 5 [sv l] σ (bv (path5 l)) σ := by
  have a0 : argsEnv [sv l] 0 = [(0, sv l)] := rfl
  have t0 : opsRun (callA T 0) r5_0 ⟨[(0, sv l)], [], σ⟩ = some ⟨[(0, sv l), (2, bv false)], [], σ⟩ := by
    simp [r5_0, opsRun, opStep, guardA, opA, o_mv, St.get, look, St.set, pure1, bind1, put]
  obtain ⟨L1, t1, h24⟩ := of_gives (bad_region l hl [(0, sv l), (2, bv false)] σ rfl (callA T 0))
  unfold path5
  cases hbad : bad l with
  | true =>
    rw [hbad] at h24
    have : Ex T fn5.code ⟨[(0, sv l)], [], σ⟩ .ret ⟨[(0, sv l), (2, bv false)], [], σ⟩ := by
      refine ex_seq (ex_region ⟨0, t0⟩) (ex_stop (ex_seq (ex_region ⟨0, t1⟩) (ex_true h24 (ex_seq (ex_region ⟨0, ?_⟩) ex_ret))) (by simp))
      simp [r5_0, opsRun, opStep, guardA, opA, o_mv, St.get, look, St.set, pure1, bind1, put]
    exact cl_of (vs := [sv l]) (σ := σ) (v := bv false) (st := ⟨[(0, sv l), (2, bv false)], [], σ⟩) T5 rfl rfl this (.inr rfl) rfl
  | false =>
    rw [hbad] at h24
    have t3 : opsRun (callA T 0) r5_3 ⟨[(0, sv l), (2, bv false)], [], σ⟩ = some ⟨[(0, sv l), (2, bv false), (26, iv l.length), (27, iv 0)], [(25, sv l)], σ⟩ := by
      simp [r5_3, opsRun, opStep, guardA, opA, o_mv, o_len, opLen, opLenStr, int, St.get, look, St.set, pure1, bind1, put]
    obtain ⟨r1, r2⟩ := loop5 (bad_len hbad) σ l.length 0 [(0, sv l), (2, bv false), (26, iv l.length), (27, iv 0)] [(25, sv l)] (by omega) ⟨rfl, rfl, rfl⟩
    rw [List.drop_zero] at r1 r2
    have pre : ∀ {out : Out} {st2 : St}, Ex T (.seq (.seq (.region r5_3 none) (.block 0 (.loop body5))) (.seq (.region r5_10 none) .ret)) ⟨[(0, sv l), (2, bv false)], L1, σ⟩ out st2 → Ex T fn5.code ⟨[(0, sv l)], [], σ⟩ out st2 := fun h =>
      ex_seq (ex_region ⟨0, t0⟩) (ex_seq (ex_seq (ex_region ⟨0, t1⟩) (ex_false h24 ex_skip)) h)
    simp only [Bool.not_false, Bool.true_and]
    cases hall : l.all (fun b => !no5 b) with
    | true =>
      obtain ⟨E', L', h⟩ := r1 hall
      have : Ex T fn5.code ⟨[(0, sv l)], [], σ⟩ .ret ⟨put E' 2 (bv true), [], σ⟩ := by
        refine pre (ex_seq (ex_seq (ex_region ⟨0, t3⟩) (ex_block_exit h)) (ex_seq (ex_region ⟨0, ?_⟩) ex_ret))
        simp [r5_10, opsRun, opStep, guardA, opA, o_mv, St.get, look, St.set, pure1, bind1]
      exact cl_of (vs := [sv l]) (σ := σ) (v := bv true) (st := ⟨put E' 2 (bv true), [], σ⟩) T5 rfl rfl this (.inr rfl) (by simp [fn5, resultA, resultsA, look_put])
    | false =>
      obtain ⟨E', L', h2, h⟩ := r2 hall
      have : Ex T fn5.code ⟨[(0, sv l)], [], σ⟩ .ret ⟨E', L', σ⟩ := pre (ex_stop (ex_seq (ex_region ⟨0, t3⟩) (ex_block_ret h)) (by simp))
      exact cl_of (vs := [sv l]) (σ := σ) (v := bv false) (st := ⟨E', L', σ⟩) T5 rfl rfl this (.inr rfl) (by simp [fn5, resultA, resultsA, h2])
theorem step6 {l : List UInt8} {i : Nat} {b : UInt8} (hi : i < 120) (hb : l[i]? = some b) {E : List (Nat × V)} (hE : I6 l E i) (L : List (Nat × V)) (σ : Store) :
    (no6 b = false → ∃ E' L', I6 l E' (i + 1) ∧ Ex T body6 ⟨E, L, σ⟩ .normal ⟨E', L', σ⟩) ∧ (no6 b = true → ∃ E' L', look E' 2 = some (bv false) ∧ Ex T body6 ⟨E, L, σ⟩ .ret ⟨E', L', σ⟩) := by
  obtain ⟨h0, h3⟩ := hE
  have hil : i < l.length := (List.getElem?_eq_some_iff.1 hb).1
  have t1 : opsRun (callA T 0) r6_4 ⟨E, [], σ⟩ = some ⟨E, [(28, bv true), (27, iv l.length), (26, sv l), (25, iv i)], σ⟩ := by
    simp [r6_4, opsRun, opStep, guardA, opA, o_mv, o_bin, o_len, opLen, opLenStr, int, St.get, look, St.set, pure1, bind1, h0, h3, bin_lss, hil]
  have hist := istr_at (s := ⟨⟨l⟩⟩) (k := .i64) hb
  have t3 : opsRun (callA T 0) r6_5 ⟨E, [], σ⟩ = some ⟨put E 4 (uv b), [(33, uv b), (32, iv i), (31, sv l)], σ⟩ := by
    simp [r6_5, opsRun, opStep, guardA, opA, o_mv, o_istr, St.get, look, St.set, pure1, bind1, h0, h3, hist]
  obtain ⟨L4, t4, h72⟩ := of_gives (no6_region (b := b) (put E 4 (uv b)) σ (by simp [look_put]) (callA T 0))
  have hw : IntKind.i64.wrap ((i : Int) + 1) = (i : Int) + 1 := i64_small (by omega) (by omega)
  have pre : ∀ {out : Out} {st2 : St}, Ex T (.seq chk6 (.region r6_8 none)) ⟨E, [(28, bv true), (27, iv l.length), (26, sv l), (25, iv i)], σ⟩ out st2 → Ex T body6 ⟨E, L, σ⟩ out st2 := fun h =>
    ex_seq (ex_seq (ex_region ⟨0, t1⟩) (ex_true (by rfl) ex_skip)) h
  have chk : ∀ {out : Out} {st2 : St}, Ex T (.cond (.loc 72) (.seq (.region r5_0 none) .ret) .skip) ⟨put E 4 (uv b), L4, σ⟩ out st2 →
      Ex T (.seq (.region r6_5 none) (.seq (.region r6_6 none) (.cond (.loc 72) (.seq (.region r5_0 none) .ret) .skip))) ⟨E, [(28, bv true), (27, iv l.length), (26, sv l), (25, iv i)], σ⟩ out st2 := fun h =>
    ex_seq (ex_region ⟨0, t3⟩) (ex_seq (ex_region ⟨0, t4⟩) h)
  constructor
  · intro hno
    rw [hno] at h72
    refine ⟨put (put E 4 (uv b)) 3 (iv ((i : Int) + 1)), [(30, iv ((i : Int) + 1)), (29, iv i)], ⟨by simp [look_put, h0], by simp [look_put]⟩, pre ?_⟩
    refine ex_seq (ex_block (chk (ex_false h72 ex_skip))) (ex_region ⟨0, ?_⟩)
    simp [r6_8, opsRun, opStep, guardA, opA, o_mv, o_bin, St.get, look, St.set, pure1, bind1, look_put, h3, bin_add, hw]
  · intro hno
    rw [hno] at h72
    refine ⟨put (put E 4 (uv b)) 2 (bv false), [], by simp [look_put], pre ?_⟩
    refine ex_stop (ex_block_ret (chk (ex_true h72 (ex_seq (ex_region ⟨0, ?_⟩) ex_ret)))) (by simp)
    simp [r5_0, opsRun, opStep, guardA, opA, o_mv, St.get, look, St.set, pure1, bind1]

theorem loop6 {l : List UInt8} (hl : l.length ≤ 100) (σ : Store) : ∀ (n i : Nat) (E L : List (Nat × V)), i + n = l.length → I6 l E i →
    ((l.drop i).all (fun b => !no6 b) = true → ∃ E' L', Ex T (.loop body6) ⟨E, L, σ⟩ (.exit 0) ⟨E', L', σ⟩) ∧ ((l.drop i).all (fun b => !no6 b) = false → ∃ E' L', look E' 2 = some (bv false) ∧ Ex T (.loop body6) ⟨E, L, σ⟩ .ret ⟨E', L', σ⟩)
  | 0, i, E, L, hn, hE => by
    obtain ⟨h0, h3⟩ := hE
    have hi : i = l.length := by omega
    subst hi
    rw [List.drop_length]
    refine ⟨fun _ => ⟨E, [(28, bv false), (27, iv l.length), (26, sv l), (25, iv l.length)], ex_loop_out (ex_stop (ex_seq (ex_region ⟨0, ?_⟩) (ex_false (by rfl) (ex_exit 0))) (by simp)) (by simp)⟩, fun h => by simp at h⟩
    simp [r6_4, opsRun, opStep, guardA, opA, o_mv, o_bin, o_len, opLen, opLenStr, int, St.get, look, St.set, pure1, bind1, h0, h3, bin_lss]
  | n + 1, i, E, L, hn, hE => by
    have hi : i < l.length := by omega
    have hb : l[i]? = some l[i] := List.getElem?_eq_getElem hi
    have hd : l.drop i = l[i] :: l.drop (i + 1) := List.drop_eq_getElem_cons hi
    obtain ⟨s1, s2⟩ := step6 (by omega) hb hE L σ
    rw [hd, List.all_cons]
    cases hno : no6 l[i] with
    | true =>
      refine ⟨fun h => by simp at h, fun _ => ?_⟩
      obtain ⟨E', L', h2, h⟩ := s2 hno
      exact ⟨E', L', h2, ex_loop_out h (by simp)⟩
    | false =>
      obtain ⟨E', L', hE', h⟩ := s1 hno
      obtain ⟨r1, r2⟩ := loop6 hl σ n (i + 1) E' L' (by omega) hE'
      simp only [Bool.not_false, Bool.true_and]
      refine ⟨fun hall => ?_, fun hall => ?_⟩
      · obtain ⟨E2, L2, h2⟩ := r1 hall
        exact ⟨E2, L2, ex_loop h h2⟩
      · obtain ⟨E2, L2, h3, h2⟩ := r2 hall
        exact ⟨E2, L2, h3, ex_loop h h2⟩

def path6 (l : List UInt8) : Bool := !bad l && l.all fun b => !no6 b
theorem cl6 {l : List UInt8} (hl : l.length ≤ 120) (σ : Store) : Cl T 6 [sv l] σ (bv (path6 l)) σ := by
  have a0 : argsEnv [sv l] 0 = [(0, sv l)] := rfl
  have t0 : opsRun (callA T 0) r5_0 ⟨[(0, sv l)], [], σ⟩ = some ⟨[(0, sv l), (2, bv false)], [], σ⟩ := by
    simp [r5_0, opsRun, opStep, guardA, opA, o_mv, St.get, look, St.set, pure1, bind1, put]
  obtain ⟨L1, t1, h24⟩ := of_gives (bad_region l hl [(0, sv l), (2, bv false)] σ rfl (callA T 0))
  unfold path6
  cases hbad : bad l with
  | true =>
    rw [hbad] at h24
    have : Ex T fn6.code ⟨[(0, sv l)], [], σ⟩ .ret ⟨[(0, sv l), (2, bv false)], [], σ⟩ := by
      refine ex_seq (ex_region ⟨0, t0⟩) (ex_stop (ex_seq (ex_region ⟨0, t1⟩) (ex_true h24 (ex_seq (ex_region ⟨0, ?_⟩) ex_ret))) (by simp))
      simp [r5_0, opsRun, opStep, guardA, opA, o_mv, St.get, look, St.set, pure1, bind1, put]
    exact cl_of (vs := [sv l]) (σ := σ) (v := bv false) (st := ⟨[(0, sv l), (2, bv false)], [], σ⟩) T6 rfl rfl this (.inr rfl) rfl
  | false =>
    rw [hbad] at h24
    have t3 : opsRun (callA T 0) r6_3 ⟨[(0, sv l), (2, bv false)], [], σ⟩ = some ⟨[(0, sv l), (2, bv false), (3, iv 0)], [], σ⟩ := by
      simp [r6_3, opsRun, opStep, guardA, opA, o_mv, o_len, opLen, opLenStr, int, St.get, look, St.set, pure1, bind1, put]
    obtain ⟨r1, r2⟩ := loop6 (bad_len hbad) σ l.length 0 [(0, sv l), (2, bv false), (3, iv 0)] [] (by omega) ⟨rfl, rfl⟩
    rw [List.drop_zero] at r1 r2
    have pre : ∀ {out : Out} {st2 : St}, Ex T (.seq (.seq (.region r6_3 none) (.block 0 (.loop body6))) (.seq (.region r5_10 none) .ret)) ⟨[(0, sv l), (2, bv false)], L1, σ⟩ out st2 → Ex T fn6.code ⟨[(0, sv l)], [], σ⟩ out st2 := fun h =>
      ex_seq (ex_region ⟨0, t0⟩) (ex_seq (ex_seq (ex_region ⟨0, t1⟩) (ex_false h24 ex_skip)) h)
    simp only [Bool.not_false, Bool.true_and]
    cases hall : l.all (fun b => !no6 b) with
    | true =>
      obtain ⟨E', L', h⟩ := r1 hall
      have : Ex T fn6.code ⟨[(0, sv l)], [], σ⟩ .ret ⟨put E' 2 (bv true), [], σ⟩ := by
        refine pre (ex_seq (ex_seq (ex_region ⟨0, t3⟩) (ex_block_exit h)) (ex_seq (ex_region ⟨0, ?_⟩) ex_ret))
        simp [r5_10, opsRun, opStep, guardA, opA, o_mv, St.get, look, St.set, pure1, bind1]
      exact cl_of (vs := [sv l]) (σ := σ) (v := bv true) (st := ⟨put E' 2 (bv true), [], σ⟩) T6 rfl rfl this (.inr rfl) (by simp [fn6, resultA, resultsA, look_put])
    | false =>
      obtain ⟨E', L', h2, h⟩ := r2 hall
      have : Ex T fn6.code ⟨[(0, sv l)], [], σ⟩ .ret ⟨E', L', σ⟩ := pre (ex_stop (ex_seq (ex_region ⟨0, t3⟩) (ex_block_ret h)) (by simp))
      exact cl_of (vs := [sv l]) (σ := σ) (v := bv false) (st := ⟨E', L', σ⟩) T6 rfl rfl this (.inr rfl) (by simp [fn6, resultA, resultsA, h2])
end Go.Proofs.Ytjjbglmnbmpegaa.AM.Sp
