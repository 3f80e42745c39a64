/- IntText: part 74. -/
import Derived.Test.YtjacddclpcelmaaBi73
set_option maxRecDepth 1000000
set_option linter.unusedVariables false
set_option linter.unusedSimpArgs false
namespace Go.Proofs.Ytjacddclpcelmaa.AM.Bi
open Go.Proofs

theorem text_ok {x : Bool} {a : List Nat} {ta : Tree} (ha : IsBig x a ta) (la : a.length ≤ 1000) : ∃ t, (∀ σ, callL T 33 [.tr ta] σ = some (.tr t, σ)) ∧ TextR (ival x a) t := by
  refine call_iso (ts := [ta]) T33 rfl rfl ?_
  have dg := ha.dg
  obtain ⟨sa, rfl, ia⟩ := ha.ex
  obtain ⟨t', hnr, it⟩ := norm_tr ia (by omega)
  have ez : ival x a = sg x (val 4294967296 (trim a)) := by rw [val_trim]; rfl
  have dl := dig_trim dg
  have cl := can_trim a
  have ll := trim_le a
  rw [ez]
  generalize trim a = l at *
  obtain ⟨w, σ0, hc, hw⟩ := clone_tr it (by omega) []
  have tdone : ∀ t, TextR (sg x (val 4294967296 l)) t → ∃ t', snap [] deepN (.tr t) = some t' ∧ TextR (sg x (val 4294967296 l)) t' := fun t h => ⟨t, by simp, h⟩
  rcases hw with ⟨rfl, rfl, hw⟩ | ⟨h0, rfl, rfl⟩
  · have hln : ∀ σ, opLen 1 w σ = some (nv .i64 0) := fun σ => isSl_len hw
    simp [hnr, hc, hln]
    exact ⟨[], dig_nil _, can_nil, by cases x <;> rfl, by cases x <;> rfl⟩
  · obtain ⟨n, hn⟩ : ∃ n, n = val 4294967296 l := ⟨_, rfl⟩
    have hlp : 0 < l.length := List.length_pos_iff.2 h0
    have hnp : 0 < n := by
      rcases Nat.eq_zero_or_pos n with h | h
      · exact absurd (can_zero (B := 4294967296) (by decide) cl (by omega)) h0
      · exact h
    have hnb : n < 2 ^ (32 * l.length) := by
      have h1 := val_lt dl
      rw [show (4294967296 : Nat) = 2 ^ 32 by rfl, ← Nat.pow_mul] at h1
      rw [hn]; exact h1
    have hneg : decide (sg x n < 0) = x := by
      unfold sg; cases x <;> simp; omega
    rw [← hn]
    unfold TextR
    rw [hneg, show (sg x n).natAbs = n by unfold sg; cases x <;> simp]
    have hl0 : ∀ (z : List Nat), can z → (0 < val 4294967296 z ↔ 0 < z.length) := by
      intro z hz
      constructor
      · intro h; cases z with
        | nil => simp [val] at h
        | cons a b => simp
      · intro h
        rcases Nat.eq_zero_or_pos (val 4294967296 z) with h9 | h9
        · have := can_zero (B := 4294967296) (by decide) hz h9
          subst this; simp at h
        · exact h9
    have hl := fun m σ => own_len (σ := σ) (id := 0) (g := 0) (off := 0) (n := m) (cap := none)
    have h0' : ¬ (l.length : Int) = 0 := by omega
    simp [hnr, hc, hl, h0, h0', k33_4]
    obtain ⟨I, hI⟩ : ∃ I : Nat → St → Prop, I = (fun V s => ∃ l2 zz ds w σ e L, s = ⟨e, L, σ⟩ ∧ Grown .u8 (.row (cK .u32 (l2 ++ zz)) 0) (ds.map (48 + ·)) w σ ∧ dig 4294967296 l2 ∧ can l2 ∧ val 4294967296 l2 = V ∧ (l2 ++ zz).length = l.length ∧ dig 10 ds ∧ (V = 0 → can ds) ∧ val 10 ds + 10 ^ ds.length * V = n ∧ V * 2 ^ ds.length ≤ n
      ∧ look e 1 = some (.tr (.rptr [.sc (.bool x), sa] 0)) ∧ look e 3 = some (.own 0 0 0 l2.length 1 none) ∧ look e 4 = some w) := ⟨_, rfl⟩
    refine wpc_loop I n _ ?_ ?_
    · rw [hI]
      exact ⟨l, [], [], _, _, _, _, rfl, .inl ⟨rfl, rfl, by simp⟩, dl, cl, hn.symm, by simp, dig_nil _, fun _ => can_nil, by simp [val], by simp, by simp, by simp, by simp⟩
    intro V s hIs
    rw [hI] at hIs
    obtain ⟨l2, zz, ds, w, σ, e, L, rfl, hg, dl2, cl2, hV, hlz, dd, hcd, hv, hp, h1, h3, h4⟩ := hIs
    have hl2 : l2.length ≤ 1000 := by have := hlz; simp at this; omega
    by_cases hp0 : 0 < l2.length
    · have hVp : 0 < V := by rw [← hV]; exact (hl0 l2 cl2).2 hp0
      have hp0' : (0 : Int) < l2.length := by omega
      have hs0 : σ[0]? = some (.row (cK .u32 (l2 ++ zz)) 0) := by obtain ⟨r, rfl⟩ := grown_head hg; rfl
      obtain ⟨m, hsh, dm, hml, hmv⟩ := shrink2_ok (by_ := 1000000000) (cap := none) hs0 rfl dl2 (by omega) (by decide) (by decide)
      rw [hV] at hsh hmv
      obtain ⟨rest, hrest⟩ : ∃ rest, rest = V % 1000000000 := ⟨_, rfl⟩
      rw [← hrest] at hsh
      have hsh' : callL T 54 [.own 0 0 0 l2.length 1 none, .tr (.sc (.int .u32 1000000000))] σ = some (nv .u32 rest, σ.set 0 (.row (cK .u32 (m ++ zz)) 0)) := hsh
      have hg2 := grown_set (S1 := .row (cK .u32 (m ++ zz)) 0) hg
      have hs2 : (σ.set 0 (.row (cK .u32 (m ++ zz)) 0))[0]? = some (.row (cK .u32 (m ++ zz)) 0) := by obtain ⟨r, hr⟩ := grown_head hg2; rw [hr]; rfl
      have hno := norm_own (n := l2.length) hs2 hml.symm (by omega)
      obtain ⟨zz2, hzz⟩ : ∃ zz2, m ++ zz = trim m ++ zz2 := by
        refine ⟨m.drop (tlen m m.length) ++ zz, ?_⟩
        unfold trim
        rw [← List.append_assoc, List.take_append_drop]
      rw [hzz] at hg2 hno hsh'
      have dtm := dig_trim dm
      have ctm := can_trim m
      have vtm : val 4294967296 (trim m) = V / 1000000000 := by rw [val_trim, hmv]
      have ltm := trim_le m
      have hzl : (trim m ++ zz2).length = l.length := by rw [← hzz, List.length_append, hml, ← hlz, List.length_append]
      generalize trim m = l3 at *
      have hVV : rest + 10 ^ 9 * val 4294967296 l3 = V := by rw [vtm]; omega
      simp [k33_6, h3, hl, hp0, hp0', k33_8, hsh', hno]
      refine text_inner (rest := rest) (l := l3) (m := 32 * l.length) (bx := .tr (.rptr [.sc (.bool x), sa] 0)) hg2 dd (by omega) (hl0 l3 ctm) (by omega) (n := n) (by rw [hVV]; exact hv) (by rw [hVV]; exact hp) hnb (by omega) (by omega) (by simp [h1]) (by simp) (by simp [h4]) (by simp) (by simp) ?_
      intro ds2 w2 σ2 e2 L2 hg3 dd2 hc2 hv2 hp2 f1 f3 f4
      simp
      refine ⟨val 4294967296 l3, by rw [vtm]; omega, ?_⟩
      rw [hI]
      exact ⟨l3, zz2, ds2, w2, σ2, e2, L2, rfl, hg3, dtm, ctm, rfl, hzl, dd2, hc2, hv2, hp2, f1, f3, f4⟩
    · have hp0' : ¬ (0 : Int) < l2.length := by omega
      have hV0 : V = 0 := by
        rcases Nat.eq_zero_or_pos V with h | h
        · exact h
        · rw [← hV] at h; exact absurd ((hl0 l2 cl2).1 h) hp0
      subst hV0
      have cd := hcd rfl
      rw [Nat.mul_zero, Nat.add_zero] at hv
      have hdn : ds ≠ [] := by rintro rfl; simp [val] at hv; omega
      have hdl : ds.length ≤ 90000 := by
        have h5 := can_ge (B := 10) (by decide) cd hdn
        have h6 : 2 ^ (ds.length - 1) ≤ 10 ^ (ds.length - 1) := Nat.pow_le_pow_left (by decide) _
        rcases Nat.lt_or_ge (ds.length - 1) (32 * l.length) with h | h
        · omega
        · have : 2 ^ (32 * l.length) ≤ 2 ^ (ds.length - 1) := Nat.pow_le_pow_right (by decide) h
          omega
      have hbs : ∀ σ, opBslice false 1 1 [.sc (.int .u8 0)] [(0, 1, .tr (.sc (.int .u8 45)))] σ = some (.tr (.row [.sc (.int .u8 ((45 : Nat) : Int))] 1 (some 1)), σ) := fun σ => rfl
      obtain ⟨w', σ', happ, hg'⟩ := grown_app (m := [45]) (b := 1) hg (by omega) (by simp) (by simp; omega) (by simp) (some 1)
      have happ' : opAppend 1 1 w (.tr (.row [.sc (.int .u8 ((45 : Nat) : Int))] 1 (some 1))) σ = some (w', σ') := happ
      cases x with
      | true =>
        simp [k33_6, h3, hl, hp0, hp0', k33_15, h1, h4, hbs]
        rw [show (45 : Int) = ((45 : Nat) : Int) by rfl, happ']
        simp
        refine wpc_mono _ _ _ _ (giv_mono ?_) (text_end hg' (by simp) (by simp; omega) (dig_append.2 ⟨dig48 dd, fun y hy => by simp at hy; omega⟩) (by simp))
        rintro v σ9 rfl
        refine ⟨_, by simp; rfl, ds, dd, cd, hv, ?_⟩
        unfold txt
        rw [if_neg hdn]
        rw [List.map_reverse]
        rfl
      | false =>
        simp [k33_6, h3, hl, hp0, hp0', k33_15, h1]
        refine wpc_mono _ _ _ _ (giv_mono ?_) (text_end hg (by simpa using hdn) (by simp; omega) (dig48 dd) (by simp [h4]))
        rintro v σ9 rfl
        refine ⟨_, by simp; rfl, ds, dd, cd, hv, ?_⟩
        unfold txt
        rw [if_neg hdn]
        rw [List.map_reverse]
        rfl
end Go.Proofs.Ytjacddclpcelmaa.AM.Bi
