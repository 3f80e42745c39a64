/- IntRing: part 10. -/
import Derived.Test.YtjacddclpcelmaaBr9
import Derived.Test.YtjacddclpcelmaaBrB
set_option maxRecDepth 1000000
set_option linter.unusedVariables false
set_option linter.unusedSimpArgs false
namespace Go.Proofs.Ytjacddclpcelmaa.AM.Br
open Go.Proofs

theorem ring_end {x y z : Bool} {a b c m : List Nat} {sa sb sc : Tree} {σ : Store} {pe : Nat} {w : V} {e L : List (Nat × V)} (ha : IsBig x a (.agg [.sc (.bool x), sa])) (hb : IsBig y b (.agg [.sc (.bool y), sb])) (hc : IsBig z c (.agg [.sc (.bool z), sc]))
    (la : a.length ≤ 10) (lb : b.length ≤ 10) (lc : c.length ≤ 10) (lm : m.length ≤ 14) (hm : ival x m = ival x a) (hdm : dig 4294967296 m)
    (hD : Dst (.row [bv x, .tr sa] 0) (.row [bv y, .tr sb] 0) (.row [bv z, .tr sc] 0) x σ pe w m)
    (h4 : look e 4 = some (.ptr 0 0 0)) (h5 : look e 5 = some (.ptr 1 0 0)) (h6 : look e 6 = some (.ptr 2 0 0)) (h9 : look e 9 = some (bv true)) (h10 : look e 10 = some (.ptr pe 0 0)) :
    wpc T k6_8 ⟨e, L, σ⟩ (giv [.tmp 8] fun v σ => v = bv true) := by
  obtain ⟨dv, hdv⟩ : ∃ dv, dv = mkAgg [bv x, w] := ⟨_, rfl⟩
  -- x := d (b + c)
  obtain ⟨r1, f1, n1⟩ := add_ok hb hc (by omega) (by omega)
  obtain ⟨l0, td, sn0, ib0⟩ := hD.val hdm
  rw [← hdv] at l0 sn0
  obtain ⟨ng1, bl1, ibig1, hcan1, hne1, hv1, hl1⟩ := n1
  obtain ⟨v2, σ2, c2, r2, s2, n2⟩ := mul_ok ib0 ibig1 (by omega) (by omega)
  have q1 : ∀ σ, quietCall (callL T) 14 [.tr (.agg [.sc (.bool y), sb]), .tr (.agg [.sc (.bool z), sc])] σ = some (.tr r1, σ) := fun σ => quiet_tr (ts := [_, _]) f1
  have q2 : quietCall (callL T) 18 [dv, .tr r1] σ = some (.tr r2, σ) := quiet_gen (ts := [td, r1]) (by simp [sn0]) c2 s2
  obtain ⟨o2n, o2, rfl, i2⟩ := num_place n2
  have L0 : ∀ s, opLoad 2 true (.ptr 0 0 0) (σ ++ s) = some (.tr (.agg [.sc (.bool x), sa])) := fun s => ld_row (push_at hD.h0)
  have L1 : ∀ s, opLoad 2 true (.ptr 1 0 0) (σ ++ s) = some (.tr (.agg [.sc (.bool y), sb])) := fun s => ld_row (push_at hD.h1)
  have L2 : ∀ s, opLoad 2 true (.ptr 2 0 0) (σ ++ s) = some (.tr (.agg [.sc (.bool z), sc])) := fun s => ld_row (push_at hD.h2)
  have Ld : ∀ s, opLoad 2 true (.ptr pe 0 0) (σ ++ s) = some dv := fun s => by rw [((hD.push s).val hdm).1, ← hdv]
  have L1' := L1 []
  have L2' := L2 []
  rw [List.append_nil] at L1' L2'
  have st1 : opStore 2 (.ptr σ.length 0 0) (.tr (.agg [.sc (.bool o2n), o2])) (σ ++ [.row [.tr (.sc (.bool false)), .tr (.sc (.slice none 0 0))] 0]) = some (σ ++ [.row [bv o2n, .tr o2] 0]) := by
    rw [st_row at_len i2]; simp
  -- y := a b + a c
  obtain ⟨v3, σ3, c3, r3, s3, n3⟩ := mul_ok ha hb (by omega) (by omega)
  obtain ⟨v4, σ4, c4, r4, s4, n4⟩ := mul_ok ha hc (by omega) (by omega)
  have q3 : ∀ σ, quietCall (callL T) 18 [.tr (.agg [.sc (.bool x), sa]), .tr (.agg [.sc (.bool y), sb])] σ = some (.tr r3, σ) := fun σ => quiet_gen (ts := [_, _]) (by simp) c3 s3
  have q4 : ∀ σ, quietCall (callL T) 18 [.tr (.agg [.sc (.bool x), sa]), .tr (.agg [.sc (.bool z), sc])] σ = some (.tr r4, σ) := fun σ => quiet_gen (ts := [_, _]) (by simp) c4 s4
  obtain ⟨ng3, bl3, ibig3, _, _, hv3, hl3⟩ := n3
  obtain ⟨ng4, bl4, ibig4, _, _, hv4, hl4⟩ := n4
  obtain ⟨r5, f5, n5⟩ := add_ok ibig3 ibig4 (by omega) (by omega)
  have q5 : ∀ σ, quietCall (callL T) 14 [.tr r3, .tr r4] σ = some (.tr r5, σ) := fun σ => quiet_tr (ts := [_, _]) f5
  obtain ⟨o5n, o5, rfl, i5⟩ := num_place n5
  obtain ⟨X1, hX1⟩ : ∃ X1 : Ob, X1 = .row [bv o2n, .tr o2] 0 := ⟨_, rfl⟩
  have st2 : opStore 2 (.ptr (σ.length + 1) 0 0) (.tr (.agg [.sc (.bool o5n), o5])) (σ ++ [X1, .row [.tr (.sc (.bool false)), .tr (.sc (.slice none 0 0))] 0]) = some (σ ++ [X1, .row [bv o5n, .tr o5] 0]) := by
    have : (σ ++ [X1, Ob.row [.tr (.sc (.bool false)), .tr (.sc (.slice none 0 0))] 0])[σ.length + 1]? = some (.row [.tr (.sc (.bool false)), .tr (.sc (.slice none 0 0))] 0) := by simp
    rw [st_row this i5]; simp
  obtain ⟨X2, hX2⟩ : ∃ X2 : Ob, X2 = .row [bv o5n, .tr o5] 0 := ⟨_, rfl⟩
  -- z := d - a
  obtain ⟨td2, sn2, ib2⟩ := ((hD.push [X1, X2]).val hdm).2
  rw [← hdv] at sn2
  obtain ⟨r6, f6, n6⟩ := sub_ok ib2 ha (by omega) (by omega)
  rw [hm, Int.sub_self] at n6
  obtain ⟨o6, rfl, i6, nr6⟩ := num_zero n6
  have c6 : callL T 16 [dv, .tr (.agg [.sc (.bool x), sa])] (σ ++ [X1, X2]) = some (.tr (.agg [.sc (.bool false), o6]), σ ++ [X1, X2]) := T_iso0 (ts := [td2, .agg [.sc (.bool x), sa]]) T16 rfl rfl (by simp [sn2]) (f6 []) nr6
  have j6 := one_sl i6
  have st3 : opStore 2 (.ptr (σ.length + 2) 0 0) (.tr (.agg [.sc (.bool false), o6])) (σ ++ [X1, X2, .row [.tr (.sc (.bool false)), .tr (.sc (.slice none 0 0))] 0]) = some (σ ++ [X1, X2, .row [bv false, .tr o6] 0]) := by
    have : (σ ++ [X1, X2, Ob.row [.tr (.sc (.bool false)), .tr (.sc (.slice none 0 0))] 0])[σ.length + 2]? = some (.row [.tr (.sc (.bool false)), .tr (.sc (.slice none 0 0))] 0) := by simp
    rw [st_row this j6]; simp
  obtain ⟨X3, hX3⟩ : ∃ X3 : Ob, X3 = .row [bv false, .tr o6] 0 := ⟨_, rfl⟩
  -- the end
  obtain ⟨g2, k2, jb2, _, _, hw2, hk2⟩ := n2
  obtain ⟨g5, k5, jb5, _, _, hw5, hk5⟩ := n5
  have eq25 : ival g2 k2 = ival g5 k5 := by
    rw [hw2, hw5, hm, hv1, hv3, hv4, Int.mul_add]
  have cm1 := cmp_ok jb2 jb5 (by omega) (by omega)
  rw [eq25] at cm1
  have sg : ∀ u : Int, sgnI u u = 0 := by intro u; simp [sgnI]
  rw [sg] at cm1
  obtain ⟨td3, sn3, ib3⟩ := ((hD.push [X1, X2, X3]).val hdm).2
  rw [← hdv] at sn3
  have cm2 := cmp_ok ha ib3 (by omega) (by omega) []
  rw [hm, sg] at cm2
  have cm3 : callL T 22 [.tr (.agg [.sc (.bool x), sa]), dv] (σ ++ [X1, X2, X3]) = some (iv 0, σ ++ [X1, X2, X3]) := T_iso0 (ts := [.agg [.sc (.bool x), sa], td3]) T22 rfl rfl (by simp [sn3]) cm2 rfl
  have la1 : opLoad 2 true (.ptr σ.length 0 0) (σ ++ [X1, X2, X3]) = some (.tr (.agg [.sc (.bool o2n), o2])) := ld_row (by rw [at_len, hX1])
  have la2 : opLoad 2 true (.ptr (σ.length + 1) 0 0) (σ ++ [X1, X2, X3]) = some (.tr (.agg [.sc (.bool o5n), o5])) := ld_row (by rw [← hX2]; simp)
  have la3 : opLoad 1 false (.ptr (σ.length + 2) 0 1) (σ ++ [X1, X2, X3]) = some (.tr o6) := ld_row1 (a := bv false) (by rw [← hX3]; simp)
  have la4 : opLoad 1 false (.ptr (σ.length + 2) 0 0) (σ ++ [X1, X2, X3]) = some (bv false) := ld_row0 (b := .tr o6) (by rw [← hX3]; simp)
  have hl6 : ∀ σ, opLen 1 (.tr o6) σ = some (nv .i64 0) := fun σ => isSl_len i6
  have fr1 : freshOk σ (σ ++ [.row [.tr (.sc (.bool false)), .tr (.sc (.slice none 0 0))] 0]) = true := fresh_row
  have fr2 : freshOk (σ ++ [X1]) (σ ++ [X1, .row [.tr (.sc (.bool false)), .tr (.sc (.slice none 0 0))] 0]) = true := by
    have := fresh_row (σ := σ ++ [X1]) (a := .sc (.bool false)) (b := .sc (.slice none 0 0))
    rwa [List.append_assoc] at this
  rw [← hX1] at st1
  rw [← hX2] at st2
  rw [← hX3] at st3
  simp [k6_8, h10, h5, h6, h4, h9, l0, L1', L2', q1, q2, fr1, st1, okF, fresh_same, L0, L1, L2, Ld, q3, q4, q5, fr2, st2, c6, st3, la1, la2, la3, la4, cm1, cm3, hl6]

theorem law_ring {x y z : Bool} {a b c : List Nat} {ta tb tc : Tree} (ha : IsBig x a ta) (hb : IsBig y b tb) (hc : IsBig z c tc) (k : Int) : ∃ v σ', callL T 6 [.tr ta, .tr tb, .tr tc, iv k] [] = some (v, σ') ∧ v = bv true := by
  refine call_shared T6 rfl rfl ?_
  obtain ⟨ra, c1, ca⟩ := cut_ok ha 10 (by omega)
  obtain ⟨rb, c2, cb⟩ := cut_ok hb 10 (by omega)
  obtain ⟨rc, c3, cc⟩ := cut_ok hc 10 (by omega)
  obtain ⟨sa, rfl, ia⟩ := ha.ex
  obtain ⟨sb, rfl, ib⟩ := hb.ex
  obtain ⟨sc, rfl, ic⟩ := hc.ex
  have la : (a.take 10).length ≤ 10 := by rw [List.length_take]; omega
  have lb : (b.take 10).length ≤ 10 := by rw [List.length_take]; omega
  have lc : (c.take 10).length ≤ 10 := by rw [List.length_take]; omega
  generalize a.take 10 = a' at *
  generalize b.take 10 = b' at *
  generalize c.take 10 = c' at *
  obtain ⟨sa', rfl, ia'⟩ := ca.ex
  obtain ⟨sb', rfl, ib'⟩ := cb.ex
  obtain ⟨sc', rfl, ic'⟩ := cc.ex
  have oa := one_sl ia'
  have ob := one_sl ib'
  have oc := one_sl ic'
  have e10 : ∀ σ, callL T 10 [] σ = some (bv true, σ) := begun
  have qc1 := fun σ => quiet_tr (σ := σ) (ts := [_, .sc (.int .i64 10)]) c1
  have qc2 := fun σ => quiet_tr (σ := σ) (ts := [_, .sc (.int .i64 10)]) c2
  simp only [List.map_cons, List.map_nil] at qc1 qc2
  have c3' : ∀ σ, callL T 11 [.tr (.agg [.sc (.bool z), sc]), .tr (.sc (.int .i64 10))] σ = some (.tr (.agg [.sc (.bool z), sc']), σ) := c3
  have key : ∀ (e : List (Nat × V)) (L : List (Nat × V)) (σ : Store) (pe : Nat) (w : V), Dst (.row [bv x, .tr sa'] 0) (.row [bv y, .tr sb'] 0) (.row [bv z, .tr sc'] 0) x σ pe w a' →
      look e 3 = some (iv k) → look e 4 = some (.ptr 0 0 0) → look e 5 = some (.ptr 1 0 0) → look e 6 = some (.ptr 2 0 0) → look e 9 = some (bv true) → look e 10 = some (.ptr pe 0 0) → look e 11 = some (iv 0) →
      Wp T (.loop k6_5) ⟨e, L, σ⟩ (blk 0 (sq T k6_8 (giv [.tmp 8] fun v σ => v = bv true))) := by
    intro e L σ pe w hD h3 h4 h5 h6 h9 h10 h11
    obtain ⟨I, hI⟩ : ∃ I : Nat → St → Prop, I = (fun i s => i ≤ 4 ∧ ∃ e L σ w, s = ⟨e, L, σ⟩ ∧ Dst (.row [bv x, .tr sa'] 0) (.row [bv y, .tr sb'] 0) (.row [bv z, .tr sc'] 0) x σ pe w (a' ++ List.replicate i 0)
      ∧ look e 3 = some (iv k) ∧ look e 4 = some (.ptr 0 0 0) ∧ look e 5 = some (.ptr 1 0 0) ∧ look e 6 = some (.ptr 2 0 0) ∧ look e 9 = some (bv true) ∧ look e 10 = some (.ptr pe 0 0) ∧ look e 11 = some (nv .i64 i)) := ⟨_, rfl⟩
    refine wpc_up 4 I ?_ ?_
    · rw [hI]
      exact ⟨by omega, _, _, _, w, rfl, by simpa using hD, h3, h4, h5, h6, h9, h10, h11⟩
    intro i s hIs
    rw [hI] at hIs
    obtain ⟨hi, e, L, σ, w, rfl, hD, h3, h4, h5, h6, h9, h10, h11⟩ := hIs
    have hlen : (a' ++ List.replicate i 0).length ≤ 14 := by simp; omega
    have hdg : dig 4294967296 (a' ++ List.replicate i 0) := dig_append.2 ⟨ca.dg, dig_rep (by decide)⟩
    have hval : ival x (a' ++ List.replicate i 0) = ival x a' := by unfold ival; rw [val_noughts]
    have out : wpc T k6_8 ⟨e, [(28, nv .i64 i)], σ⟩ (giv [.tmp 8] fun v σ => v = bv true) → True := fun _ => trivial
    by_cases h1 : (i : Int) < k
    · by_cases h2 : i < 4
      · have h2' : (i : Int) < 4 := by omega
        obtain ⟨w', σ1, σ2, s1, s2, hD'⟩ := hD.step (by omega)
        have hl := hD.load
        have hbs : ∀ σ, opBslice false 1 1 [.sc (.int .u32 0)] [(0, 1, .tr (.sc (.int .u32 0)))] σ = some (.tr (.row [.sc (.int .u32 0)] 1 (some 1)), σ) := fun σ => rfl
        have w5 : IntKind.i64.wrap ((i : Int) + 1) = ((i + 1 : Nat) : Int) := w64 (by omega) (by omega)
        simp [k6_5, h3, h11, h1, h2', k6_7, h10, hl, hbs, s1, s2, w5, h2, -Int.natCast_add]
        rw [hI]
        refine ⟨by omega, _, _, _, w', rfl, ?_, by simp [h3], by simp [h4], by simp [h5], by simp [h6], by simp [h9], by simp [h10], by simp⟩
        rw [List.append_assoc, ← List.replicate_succ'] at hD'
        exact hD'
      · have h2' : ¬ (i : Int) < 4 := by omega
        simp [k6_5, h3, h11, h1, h2']
        exact ring_end ca cb cc la lb lc hlen hval hdg hD h4 h5 h6 h9 h10
    · simp [k6_5, h3, h11, h1]
      exact ring_end ca cb cc la lb lc hlen hval hdg hD h4 h5 h6 h9 h10
  have hq0 : a' = [] → ∀ σ, opAppend 1 4 (.tr (.sc (.slice none 0 0))) (.tr sa') σ = some (.tr (.sc (.slice none 0 0)), σ) := by
    intro h0 σ
    rw [h0] at ia'
    exact app_none ia' (.inl rfl)
  have hq1 : a' ≠ [] → ∀ σ, opAppend 1 4 (.tr (.sc (.slice none 0 0))) (.tr sa') σ = some (.own σ.length 0 0 a'.length 1 none, σ ++ [.row (cK .u32 a') 0]) := by
    intro h0 σ
    exact app_nil ia' (List.length_pos_iff.2 h0) (room_ok (by omega) (by omega))
  by_cases h0 : a' = []
  · have hq := hq0 h0
    simp [opBoxB, opBox, e10, opLoad, obCells, slice?, qc1, qc2, c3', opStore, obPut, splice_all, oa, ob, oc, cells_one oa, cells_one ob, cells_one oc, okF, fresh_same, freshOk, obVs, dirs.dirsL, dirs, hq]
    refine key _ _ _ 3 (.tr (.sc (.slice none 0 0))) ?_ (by simp) (by simp) (by simp) (by simp) (by simp) (by simp) (by simp)
    exact ⟨rfl, rfl, rfl, rfl, by omega, .inl ⟨h0, rfl⟩⟩
  · have hq := hq1 h0
    have hdk := dirs_cK .u32 a'
    simp [opBoxB, opBox, e10, opLoad, obCells, slice?, qc1, qc2, c3', opStore, obPut, splice_all, oa, ob, oc, cells_one oa, cells_one ob, cells_one oc, okF, fresh_same, freshOk, obVs, dirs.dirsL, dirs, hq, hdk]
    refine key _ _ _ 4 (.own 3 0 0 a'.length 1 none) ?_ (by simp) (by simp) (by simp) (by simp) (by simp) (by simp) (by simp)
    exact ⟨rfl, rfl, rfl, rfl, by omega, .inr ⟨3, 0, h0, rfl, rfl, by omega, by omega⟩⟩
end Go.Proofs.Ytjacddclpcelmaa.AM.Br
