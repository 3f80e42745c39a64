/- IntBitwise: part 55. -/
import Derived.Test.YtjacddclpcelmaaBi54
set_option maxRecDepth 1000000
set_option linter.unusedVariables false
set_option linter.unusedSimpArgs false
namespace Go.Proofs.Ytjacddclpcelmaa.AM.Bi
open Go.Proofs

theorem len_le {N : Nat} {z : Int} {t : Tree} {L : Nat} (h : RInt N z t) (hL : IsLen z.natAbs L) : L ≤ 16 * N := by
  obtain ⟨s, _, l, _, dl, _, hv, hN⟩ := h
  have h1 := val_lt dl
  rw [hv] at h1
  have h2 : (65536 : Nat) ^ l.length ≤ 65536 ^ N := Nat.pow_le_pow_right (by decide) hN
  have h3 : (65536 : Nat) ^ N = 2 ^ (16 * N) := by rw [Nat.pow_mul]
  rcases hL.2 with h | h
  · omega
  · rcases Nat.lt_or_ge (16 * N) L with h4 | h4
    · have h5 : 2 ^ (16 * N) ≤ 2 ^ (L - 1) := Nat.pow_le_pow_right (by decide) (by omega)
      omega
    · exact h4

/-- The bits, all of them. -/
theorem rbw_main {N : Nat} {u w : Int} {ta tb : Tree} {op : ByteArray} {m : Nat} {e L : List (Nat × V)} {ra rb : List Tree} (ha : RInt N u ta) (hb : RInt N w tb) (hN : N ≤ 100) (fu : fits m u) (fw : fits m w) (hm : 1 ≤ m) (hm2 : m ≤ 2000) (ea : ta = .agg ra) (eb : tb = .agg rb)
    (l4 : ∀ σ, opLoad 2 true (.tr (.rptr ra 0)) σ = some (.tr (.agg ra))) (l5 : ∀ σ, opLoad 2 true (.tr (.rptr rb 0)) σ = some (.tr (.agg rb))) (l4' : opLdt 2 true (.tr (.rptr ra 0)) = some (.tr (.agg ra))) (l5' : opLdt 2 true (.tr (.rptr rb 0)) = some (.tr (.agg rb)))
    (h0 : look e 0 = some (.tr (.sc (.string op)))) (h4 : look e 4 = some (.tr (.rptr ra 0))) (h5 : look e 5 = some (.tr (.rptr rb 0))) (h6 : look e 6 = some (.ptr 0 0 0)) (h8 : look e 8 = some (nv .i64 (m - 1 : Nat))) :
    wpc T k29_3 ⟨e, L, [.row [.tr (.sc (.bool false)), .tr (.sc (.slice none 0 0))] 0]⟩ (giv [.cell 6 2 true, .tmp 7] fun v σ' => ∃ t, v = .tr t ∧ RBwR op u w t) := by
  subst ea eb
  have w1 : IntKind.i64.wrap (((m - 1 : Nat) : Int) + 2) = ((m + 1 : Nat) : Int) := by rw [w64 (by omega) (by omega)]; omega
  obtain ⟨r1, c1, n1⟩ := low_ok ha fu (by omega) (by omega)
  obtain ⟨r2, c2, n2⟩ := low_ok hb fw (by omega) (by omega)
  obtain ⟨sx, rfl, nx⟩ := n1
  obtain ⟨sy, rfl, ny⟩ := n2
  have hx0 : (decide (((tc (m + 1) u : Nat) : Int) < 0)) = false := by simp
  have hy0 : (decide (((tc (m + 1) w : Nat) : Int) < 0)) = false := by simp
  rw [hx0] at c1
  rw [hy0] at c2
  rw [Int.natAbs_natCast] at nx ny
  have ox := nat_one nx
  have oy := nat_one ny
  have q1 := fun σ => quiet_tr (σ := σ) (ts := [.agg ra, .sc (.int .i64 ((m + 1 : Nat) : Int))]) c1
  have q2 := fun σ => quiet_tr (σ := σ) (ts := [.agg rb, .sc (.int .i64 ((m + 1 : Nat) : Int))]) c2
  simp only [List.map_cons, List.map_nil] at q1 q2
  obtain ⟨S0, hS0⟩ : ∃ S0 : Ob, S0 = .row [.tr (.sc (.bool false)), .tr (.sc (.slice none 0 0))] 0 := ⟨_, rfl⟩
  have s1 : ∀ (a c : Ob), opStore 2 (.ptr 1 0 0) (.tr (.agg [.sc (.bool false), sx])) [a, .row [.tr (.sc (.bool false)), .tr (.sc (.slice none 0 0))] 0, c] = some [a, .row [bv false, .tr sx] 0, c] := fun a c => by
    rw [st_row (a := .tr (.sc (.bool false))) (b := .tr (.sc (.slice none 0 0))) rfl ox]; rfl
  have s2 : ∀ (a b : Ob), opStore 2 (.ptr 2 0 0) (.tr (.agg [.sc (.bool false), sy])) [a, b, .row [.tr (.sc (.bool false)), .tr (.sc (.slice none 0 0))] 0] = some [a, b, .row [bv false, .tr sy] 0] := fun a b => by
    rw [st_row (a := .tr (.sc (.bool false))) (b := .tr (.sc (.slice none 0 0))) rfl oy]; rfl
  simp [k29_3, h8, w1, h4, h5, l4', l5', q1, q2, okF, freshOk, obVs, dirs.dirsL, dirs, s1, s2, -Int.natCast_add]
  rw [← hS0]
  cases hc : bwCode op with
  | none =>
    refine wpc_up (m + 1) (fun i s => i = 0 ∧ ∃ e L, s = ⟨e, L, [S0, .row [bv false, .tr sx] 0, .row [bv false, .tr sy] 0]⟩ ∧ look e 0 = some (.tr (.sc (.string op))) ∧ look e 6 = some (.ptr 0 0 0) ∧ look e 8 = some (nv .i64 (m + 1)) ∧ look e 9 = some (.ptr 1 0 0) ∧ look e 10 = some (.ptr 2 0 0) ∧ look e 11 = some (.tr (.sc (.slice none 0 0))) ∧ look e 12 = some (nv .i64 0)) ⟨rfl, _, _, rfl, by simp [h0], by simp [h6], by simp, by simp, by simp, by simp, by simp⟩ ?_
    rintro i s ⟨rfl, e, L, rfl, h0, h6, h8, h9, h10, h11, h12⟩
    have es : ∀ (s t : ByteArray), opBin .other .eql (.tr (.sc (.string s))) (.tr (.sc (.string t))) = some (.tr (.sc (.bool (bytesEq s.data.toList t.data.toList)))) := bin_str
    rcases bwCode_cases op with ⟨e1, hc'⟩ | ⟨e1, e2, hc'⟩ | ⟨e1, e2, e3, hc'⟩ | ⟨e1, e2, e3, e4, hc'⟩ | ⟨e1, e2, e3, e4, hc'⟩ <;> rw [hc'] at hc <;> cases hc
    have hlt : (0 : Int) < ((m + 1 : Nat) : Int) := by omega
    have hre : opBin .other .rem (nv .i64 0) (.tr (.sc (.int .i64 16))) = some (nv .i64 0) := rem_nn 0 16 (by omega)
    obtain ⟨g, happ⟩ := grownP_app (pre := [S0, .row [bv false, .tr sx] 0, .row [bv false, .tr sy] 0]) (l := []) (w := .tr (.sc (.slice none 0 0))) (.inl ⟨rfl, rfl, rfl⟩) (by simp) (some 1)
    have hbs : ∀ σ, opBslice false 1 1 [.sc (.int .i64 0)] [(0, 1, .tr (.sc (.int .i64 0)))] σ = some (.tr (.row [.sc (.int .i64 0)] 1 (some 1)), σ) := fun σ => rfl
    simp only [List.length_cons, List.length_nil, Nat.zero_add, Nat.reduceAdd, List.cons_append, List.nil_append] at happ
    obtain ⟨σ, hσ⟩ : ∃ σ : Store, σ = [S0, .row [bv false, .tr sx] 0, .row [bv false, .tr sy] 0, .row (cK .i64 [0]) g] := ⟨_, rfl⟩
    rw [← hσ] at happ
    have hl1 : opLoad 1 false (.ptr 1 0 1) σ = some (.tr sx) := by rw [hσ]; rfl
    have hl2 : opLoad 1 false (.ptr 2 0 1) σ = some (.tr sy) := by rw [hσ]; rfl
    have hb1 := bit_ok nx (by omega) 0 (by omega)
    have hb2 := bit_ok ny (by omega) 0 (by omega)
    have hqb := fun σ => quiet_tr (σ := σ) (ts := [sx, .sc (.int .i64 ((0 : Nat) : Int))]) hb1
    simp only [List.map_cons, List.map_nil] at hqb
    generalize tc (m + 1) u / 2 ^ 0 % 2 = pu at *
    generalize tc (m + 1) w / 2 ^ 0 % 2 = pw at *
    have hb2' : ∀ σ, callL T 52 [.tr sy, .tr (.sc (.int .i64 0))] σ = some (nv .i64 pw, σ) := hb2
    have hqb' : ∀ σ, quietCall (callL T) 52 [.tr sx, .tr (.sc (.int .i64 0))] σ = some (nv .i64 pu, σ) := hqb
    have hre' : opBin .other .rem (.tr (.sc (.int .i64 0))) (.tr (.sc (.int .i64 16))) = some (.tr (.sc (.int .i64 0))) := hre
    have h0s : σ[0]? = some (.row [.tr (.sc (.bool false)), .tr (.sc (.slice none 0 0))] 0) := by rw [hσ, hS0]; rfl
    have st : opStore 2 (.ptr 0 0 0) (.tr (.agg [.sc (.bool false), .sc (.slice none 0 0)])) σ = some σ := by
      rw [st_row (a := bv false) (b := .tr (.sc (.slice none 0 0))) h0s rfl, set_id h0s]
    have ld : opLoad 2 true (.ptr 0 0 0) σ = some (.tr (.agg [.sc (.bool false), .sc (.slice none 0 0)])) := ld_row h0s
    have h12' : look e 12 = some (.tr (.sc (.int .i64 0))) := h12
    simp [k29_8, h12', h8, hlt, k29_10, hre', h11, hbs, happ, k29_12, h9, hl1, hqb', h10, hl2, hb2', h0, es, e1, e2, e3, e4, h6, st, ld, mkTup, -Int.natCast_add]
    unfold RBwR
    rw [hc']
  | some o =>
    obtain ⟨D, hD⟩ : ∃ D, D = G o (tc (m + 1) u) (tc (m + 1) w) := ⟨_, rfl⟩
    obtain ⟨I, hI⟩ : ∃ I : Nat → St → Prop, I = (fun i s => i ≤ m + 1 ∧ ∃ e L d v σ, s = ⟨e, L, σ⟩ ∧ GrownP [S0, .row [bv false, .tr sx] 0, .row [bv false, .tr sy] 0] d v σ ∧ dig 65536 d ∧ d.length = (i + 15) / 16 ∧ val 65536 d = D % 2 ^ i ∧ look e 0 = some (.tr (.sc (.string op))) ∧ look e 6 = some (.ptr 0 0 0) ∧ look e 8 = some (nv .i64 (m + 1)) ∧ look e 9 = some (.ptr 1 0 0) ∧ look e 10 = some (.ptr 2 0 0) ∧ look e 11 = some v ∧ look e 12 = some (nv .i64 i)) := ⟨_, rfl⟩
    refine wpc_up (m + 1) I ?_ ?_
    · rw [hI]
      exact ⟨Nat.zero_le _, _, _, [], _, _, rfl, .inl ⟨rfl, rfl, rfl⟩, dig_nil _, rfl, by simp [val, Nat.mod_one], by simp [h0], by simp [h6], by simp, by simp, by simp, by simp, by simp⟩
    clear h0 h4 h5 h6 h8
    intro i s hIs
    rw [hI] at hIs
    obtain ⟨hi, e, L, d, v, σ, rfl, hg, dd, dl, dv, h0, h6, h8, h9, h10, h11, h12⟩ := hIs
    by_cases hlt : i < m + 1
    · have hlt' : (i : Int) < ((m + 1 : Nat) : Int) := by omega
      simp [k29_8, h12, h8, hlt', -Int.natCast_add]
      refine rbw_body (N := 9000) (nat_le nx (by omega)) (nat_le ny (by omega)) (by omega) hlt (by omega) hc hD hg dl dd dv h0 h6 h8 h9 h10 h11 h12 ?_
      intro e' L' d' v' σ' hg' dd' dl' dv' h0 h6 h8 h9 h10 h11 h12
      show i < m + 1 ∧ I (i + 1) _
      refine ⟨hlt, ?_⟩
      rw [hI]
      exact ⟨by omega, e', L', d', v', σ', rfl, hg', dd', dl', dv', h0, h6, h8, h9, h10, h11, h12⟩
    · have hie : i = m + 1 := by omega
      subst hie
      simp [k29_8, h12, h8, -Int.natCast_add]
      have hDl : D < 2 ^ (m + 1) := by rw [hD]; exact G_lt (tc_lt fu) (tc_lt fw)
      rw [Nat.mod_eq_of_lt hDl] at dv
      rcases hg with ⟨rfl, _, _⟩ | ⟨g, _, rfl, rfl⟩
      · simp at dl; omega
      rw [hS0]
      refine wpc_mono _ _ _ _ (giv_mono ?_) (rbw_end (m := m) dd dv (by omega) (by omega) hDl (by simp [h6]) (by simp [h8]) (by simp [h11]))
      rintro v' σ' ⟨r, M, rfl, hM, hr⟩
      refine ⟨_, rfl, ?_⟩
      unfold RBwR
      rw [hc]
      exact ⟨r, m, M, rfl, fu, fw, hM, by rw [← hD]; exact hr⟩
end Go.Proofs.Ytjacddclpcelmaa.AM.Bi
