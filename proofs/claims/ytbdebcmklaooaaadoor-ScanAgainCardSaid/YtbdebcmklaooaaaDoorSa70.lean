/- the scanner: parts 70, 71, 72, 73, 74. -/
import Derived.Test.YtbdebcmklaooaaaDoorSa50
set_option linter.unusedSectionVars false
section
set_option maxRecDepth 1000000
set_option linter.unusedVariables false
set_option linter.unusedSimpArgs false
namespace Go.Proofs.YtbdebcmklaooaaaDoor.AM.Sa
open Go.Proofs
/-- Texts that are alike for so many bytes, the other one with a blank behind. -/
def Loc (s s' : List UInt8) (n : Nat) : Prop := (∀ j, j < n → s'[j]? = s[j]?) ∧ s'[n]? = some 32 ∧ n ≤ s.length
section
variable {s s' : List UInt8} {n : Nat}
theorem loc_mk (h : n ≤ s.length) (r : List UInt8) : Loc s (s.take n ++ 32 :: r) n := by
  have hl : (s.take n).length = n := by rw [List.length_take]; omega
  refine ⟨fun j hj => ?_, ?_, h⟩
  · rw [List.getElem?_append_left (by omega), List.getElem?_take, if_pos hj]
  · rw [List.getElem?_append_right (by omega), hl]; simp
theorem loc_hd (h : Loc s s' n) {j : Nat} (hj : j < n) : hd s' j = hd s j := by
  unfold hd
  rw [List.getD_eq_getElem?_getD, List.getD_eq_getElem?_getD, h.1 j hj]
theorem loc_at (h : Loc s s' n) : hd s' n = 32 := hd_of h.2.1
theorem loc_run (h : Loc s s' n) {p : UInt8 → Bool} (hp : p 32 = false) {i : Nat} (hi : i + nrun p (s.drop i) ≤ n) : nrun p (s'.drop i) = nrun p (s.drop i) := by
  obtain ⟨m, hm⟩ : ∃ m, nrun p (s.drop i) = m := ⟨_, rfl⟩
  rw [hm] at hi ⊢
  have hlen : n < s'.length := (List.getElem?_eq_some_iff.1 h.2.1).1
  refine nrun_eq (by rw [List.length_drop]; omega) ?_ ?_
  · intro j c hj hc
    obtain ⟨c2, h5, h6⟩ := nrun_lt (p := p) (s := s.drop i) (n := j) (by omega)
    rw [List.getElem?_drop, h.1 _ (by omega), ← List.getElem?_drop, h5] at hc
    cases hc
    exact h6
  · intro c hc
    rcases Nat.lt_or_ge (i + m) n with hlt | hge
    · rw [List.getElem?_drop, h.1 _ hlt, ← List.getElem?_drop] at hc
      exact nrun_at (by rw [hm]; exact hc)
    · rw [List.getElem?_drop, show i + m = n by omega, h.2.1] at hc
      cases hc
      exact hp
theorem loc_take (h : Loc s s' n) {i m : Nat} (hi : i + m ≤ n) : (s'.drop i).take m = (s.drop i).take m := by
  apply List.ext_getElem?
  intro j
  rw [List.getElem?_take, List.getElem?_take]
  split
  · rw [List.getElem?_drop, List.getElem?_drop, h.1 _ (by omega)]
  · rfl
theorem loc_expo (h : Loc s s' n) {k : Nat} {a g : UInt8} (ha : a ≠ 32) (hg : g ≠ 32) (h0 : ¬ expoR (s.drop k) a g < 0) (hk : k + (expoR (s.drop k) a g).toNat = n) : expoR (s'.drop k) a g = expoR (s.drop k) a g := by
  by_cases hb : hd s k ≠ a ∧ hd s k ≠ g
  · have e : expoR (s.drop k) a g = 0 := by
      unfold expoR
      rw [hd_drop, Nat.add_zero, if_pos hb]
    rw [e] at hk ⊢
    have hkn : k = n := by simpa using hk
    unfold expoR
    rw [hd_drop, Nat.add_zero, hkn, loc_at h, if_pos ⟨fun h => ha h.symm, fun h => hg h.symm⟩]
  · have he := hk
    unfold expoR at h0 he ⊢
    simp only [hd_drop, Nat.add_zero, List.drop_drop] at h0 he ⊢
    rw [if_neg hb] at h0 he
    obtain ⟨q, hq⟩ : ∃ q, (if hd s (k + 1) = 43 ∨ hd s (k + 1) = 45 then 2 else 1) = q := ⟨_, rfl⟩
    have hq2 : 1 ≤ q ∧ q ≤ 2 := by rw [← hq]; split <;> omega
    rw [hq] at h0 he
    obtain ⟨m, hm⟩ : ∃ m, nrun (inB 10) (s.drop (k + q)) = m := ⟨_, rfl⟩
    rw [hm] at h0 he
    by_cases hm0 : m = 0
    · rw [if_pos hm0] at h0
      omega
    · rw [if_neg hm0] at h0 he
      by_cases hd9 : 999 < decV ((s.drop (k + q)).take m)
      · rw [if_pos hd9] at h0
        omega
      · rw [if_neg hd9] at he
        have he' : k + (q + m) = n := by omega
        have h1 : hd s' k = hd s k := loc_hd h (by omega)
        have h2 : hd s' (k + 1) = hd s (k + 1) := loc_hd h (by omega)
        have h3 : nrun (inB 10) (s'.drop (k + q)) = m := by
          rw [loc_run h (by decide) (by rw [hm]; omega), hm]
        have h4 := loc_take h (i := k + q) (m := m) (by omega)
        rw [h1, if_neg hb, if_neg hb, h2, hq, h3, hm, if_neg hm0, if_neg hm0, h4]
theorem loc_fin (h : Loc s s' n) {kd k kd' : Nat} (hf : numFin s kd k = some (kd', n)) : numFin s' kd k = some (kd', n) := by
  obtain ⟨rfl, rfl⟩ := numFin_le hf
  unfold numFin
  rw [loc_at h]
  rfl
theorem loc_numX (h : Loc s s' n) {N k kd : Nat} {pt : Bool} (hf : numX s N k pt = some (kd, n)) : numX s' N k pt = some (kd, n) ∧ k ≤ n := by
  unfold numX at hf ⊢
  split at hf
  · cases hf
  · rename_i hc
    obtain ⟨h1, h2⟩ := numFin_le hf
    simp only [not_or] at hc
    have e := loc_expo h (by decide) (by decide) hc.2.1 h2.symm
    rw [e, if_neg (by simp only [not_or]; exact hc)]
    exact ⟨loc_fin h hf, by omega⟩
theorem loc_numP (h : Loc s s' n) (h0 : 0 < n) {N k kd : Nat} {pt : Bool} (hf : numP s N k pt = some (kd, n)) : numP s' N k pt = some (kd, n) ∧ k ≤ n := by
  unfold numP at hf ⊢
  split at hf
  · cases hf
  · rename_i hc
    split at hf
    · cases hf
    · rename_i hc2
      obtain ⟨h1, h2⟩ := numFin_le hf
      have e := loc_expo h (by decide) (by decide) hc h2.symm
      rw [e, loc_hd h h0, if_neg hc, if_neg hc2]
      exact ⟨loc_fin h hf, by omega⟩
/-- A number is the same number where a blank stands behind it. -/
theorem loc_number (h : Loc s s' n) (hn0 : 0 < n) {kd : Nat} (hf : numberR s = some (kd, n)) : numberR s' = some (kd, n) := by
  unfold numberR at hf ⊢
  have h0 : hd s' 0 = hd s 0 := loc_hd h hn0
  rw [h0]
  have h1 : (1 < n ∧ hd s' 1 = hd s 1) ∨ (n = 1 ∧ hd s' 1 = 32) := by
    rcases Nat.lt_or_ge 1 n with h2 | h2
    · exact .inl ⟨h2, loc_hd h h2⟩
    · have : n = 1 := by omega
      exact .inr ⟨this, by have := loc_at h; rw [‹n = 1›] at this; exact this⟩
  obtain ⟨bs, hbs⟩ : ∃ bs, (if hd s 1 = 98 ∨ hd s 1 = 66 then 2 else 8) = bs := ⟨_, rfl⟩
  have hbs2 : bs = 2 ∨ bs = 8 := by rw [← hbs]; split <;> simp
  have hb32 : inB bs 32 = false := by rcases hbs2 with h | h <;> rw [h] <;> decide
  rw [hbs] at hf
  split at hf
  · rename_i hc
    obtain ⟨N, hN⟩ : ∃ N, nrun (inB 16) (s.drop 2) = N := ⟨_, rfl⟩
    rw [hN] at hf
    have hk : 2 + N ≤ n ∧ 1 < n := by
      split at hf
      · have := (loc_numX h hf).2; omega
      · have := (loc_numX h hf).2; omega
    have hd1 : hd s' 1 = hd s 1 := loc_hd h hk.2
    have hN' : nrun (inB 16) (s'.drop 2) = N := by rw [loc_run h (by decide) (by rw [hN]; exact hk.1), hN]
    rw [hd1, if_pos hc, hN']
    split at hf
    · rename_i h46
      obtain ⟨M, hM⟩ : ∃ M, nrun (inB 16) (s.drop (2 + N + 1)) = M := ⟨_, rfl⟩
      rw [hM] at hf
      obtain ⟨hx, hkn⟩ := loc_numX h hf
      have hM' : nrun (inB 16) (s'.drop (2 + N + 1)) = M := by rw [loc_run h (by decide) (by rw [hM]; omega), hM]
      rw [loc_hd h (by omega), if_pos h46, hM']
      exact hx
    · rename_i h46
      obtain ⟨hx, hkn⟩ := loc_numX h hf
      have : hd s' (2 + N) ≠ 46 := by
        rcases Nat.lt_or_ge (2 + N) n with h2 | h2
        · rw [loc_hd h h2]; exact h46
        · rw [show 2 + N = n by omega, loc_at h]; decide
      rw [if_neg this]
      exact hx
  · rename_i hc
    have hc' : ¬ (hd s 0 = 48 ∧ (hd s' 1 = 120 ∨ hd s' 1 = 88)) := by
      rcases h1 with ⟨_, h1⟩ | ⟨_, h1⟩
      · rw [h1]; exact hc
      · rw [h1]; intro h; rcases h.2 with h | h <;> exact absurd h (by decide)
    rw [if_neg hc']
    split at hf
    · rename_i ho
      obtain ⟨N, hN⟩ : ∃ N, nrun (inB bs) (s.drop 2) = N := ⟨_, rfl⟩
      rw [hN] at hf
      split at hf
      · cases hf
      · rename_i hN0
        obtain ⟨g1, g2⟩ := numFin_le hf
        have hd1 : hd s' 1 = hd s 1 := loc_hd h (by omega)
        have hN' : nrun (inB bs) (s'.drop 2) = N := by rw [loc_run h hb32 (by rw [hN]; omega), hN]
        rw [hd1, if_pos ho, hbs, hN', if_neg hN0]
        exact loc_fin h hf
    · rename_i ho
      have ho' : ¬ (hd s 0 = 48 ∧ (hd s' 1 = 111 ∨ hd s' 1 = 79 ∨ hd s' 1 = 98 ∨ hd s' 1 = 66)) := by
        rcases h1 with ⟨_, h1⟩ | ⟨_, h1⟩
        · rw [h1]; exact ho
        · rw [h1]; intro h; rcases h.2 with h | h | h | h <;> exact absurd h (by decide)
      rw [if_neg ho']
      obtain ⟨N, hN⟩ : ∃ N, nrun (inB 10) s = N := ⟨_, rfl⟩
      rw [hN] at hf
      have hk : N ≤ n := by
        split at hf
        · have := (loc_numP h hn0 hf).2; omega
        · exact (loc_numP h hn0 hf).2
      have hN' : nrun (inB 10) s' = N := by
        have := loc_run h (p := inB 10) (i := 0) (by decide) (by rw [List.drop_zero, hN]; omega)
        rwa [List.drop_zero, List.drop_zero, hN] at this
      rw [hN']
      split at hf
      · rename_i h46
        obtain ⟨M, hM⟩ : ∃ M, nrun (inB 10) (s.drop (N + 1)) = M := ⟨_, rfl⟩
        rw [hM] at hf
        obtain ⟨hx, hkn⟩ := loc_numP h hn0 hf
        have hM' : nrun (inB 10) (s'.drop (N + 1)) = M := by rw [loc_run h (by decide) (by rw [hM]; omega), hM]
        rw [loc_hd h (by omega), if_pos h46, hM']
        exact hx
      · rename_i h46
        obtain ⟨hx, hkn⟩ := loc_numP h hn0 hf
        have : hd s' N ≠ 46 := by
          rcases Nat.lt_or_ge N n with h2 | h2
          · rw [loc_hd h h2]; exact h46
          · rw [show N = n by omega, loc_at h]; decide
        rw [if_neg this]
        exact hx
end
end Go.Proofs.YtbdebcmklaooaaaDoor.AM.Sa
end
section
set_option maxRecDepth 1000000
set_option linter.unusedVariables false
set_option linter.unusedSimpArgs false
namespace Go.Proofs.YtbdebcmklaooaaaDoor.AM.Sa
open Go.Proofs
def Agr (s s' : List UInt8) (n : Nat) : Prop := ∀ j, j < n → s'[j]? = s[j]?
section
variable {s s' : List UInt8} {n : Nat}
theorem agr_hd (h : Agr s s' n) {j : Nat} (hj : j < n) : hd s' j = hd s j := by
  unfold hd
  rw [List.getD_eq_getElem?_getD, List.getD_eq_getElem?_getD, h j hj]
theorem agr_take (h : Agr s s' n) {i m : Nat} (hi : i + m ≤ n) : (s'.drop i).take m = (s.drop i).take m := by
  apply List.ext_getElem?
  intro j
  rw [List.getElem?_take, List.getElem?_take]
  split
  · rw [List.getElem?_drop, List.getElem?_drop, h _ (by omega)]
  · rfl
theorem agr_drop (h : Agr s s' n) {i m : Nat} (hi : i + m ≤ n) : Agr (s.drop i) (s'.drop i) m := by
  intro j hj
  rw [List.getElem?_drop, List.getElem?_drop, h _ (by omega)]
theorem agr_len (h : Agr s s' n) (hn : n ≤ s.length) : n ≤ s'.length := by
  rcases Nat.eq_zero_or_pos n with h0 | h0
  · omega
  · have := h (n - 1) (by omega)
    have hx := List.getElem?_eq_getElem (l := s) (i := n - 1) (by omega)
    rw [hx] at this
    have := (List.getElem?_eq_some_iff.1 this).1
    omega
theorem nrun_ge {p : UInt8 → Bool} {m : Nat} (h : ∀ j, j < m → ∃ c, s[j]? = some c ∧ p c = true) : m ≤ nrun p s := by
  rcases Nat.lt_or_ge (nrun p s) m with hlt | hge
  · obtain ⟨c, h1, h2⟩ := h _ hlt
    rw [nrun_at h1] at h2
    cases h2
  · exact hge
theorem agr_run {p : UInt8 → Bool} {i m : Nat} (h : Agr s s' n) (hi : i + m ≤ n) (hr : m ≤ nrun p (s.drop i)) : m ≤ nrun p (s'.drop i) := by
  refine nrun_ge fun j hj => ?_
  obtain ⟨c, h1, h2⟩ := nrun_lt (p := p) (s := s.drop i) (n := j) (by omega)
  exact ⟨c, by rw [List.getElem?_drop, h _ (by omega), ← List.getElem?_drop]; exact h1, h2⟩
theorem agr_utfN {m v l : Nat} (h : Agr s s' m) (h0 : utfN s m v l ≠ 0) (hm : 0 < m) : utfN s' m v l = utfN s m v l := by
  have hlen : ¬ s.length < m := by
    intro h1
    unfold utfN at h0
    rw [if_pos h1] at h0
    exact h0 rfl
  have hlen' : ¬ s'.length < m := by have := agr_len h (by omega); omega
  unfold utfN
  rw [if_neg hlen, if_neg hlen', agr_take h (i := 1) (m := m - 1) (by omega)]
theorem agr_utf (h0 : utfR s ≠ 0) (h : Agr s s' (utfR s)) : utfR s' = utfR s := by
  have h1 : hd s' 0 = hd s 0 := agr_hd h (by omega)
  unfold utfR at h h0 ⊢
  rw [h1]
  split
  · rfl
  · rename_i c1
    rw [if_neg c1] at h h0
    split
    · rename_i c2
      rw [if_pos c2] at h h0
      rw [utfN_is h0 (by omega)] at h
      exact agr_utfN h h0 (by omega)
    · rename_i c2
      rw [if_neg c2] at h h0
      split
      · rename_i c3
        rw [if_pos c3] at h h0
        rw [utfN_is h0 (by omega)] at h
        exact agr_utfN h h0 (by omega)
      · rename_i c3
        rw [if_neg c3] at h h0
        split
        · rename_i c4
          rw [if_pos c4] at h h0
          rw [utfN_is h0 (by omega)] at h
          exact agr_utfN h h0 (by omega)
        · rfl
theorem agr_esc {o : List UInt8} (h : Agr s s' n) (he : escR s = some (n, o)) : escR s' = some (n, o) := by
  have hle := escR_le he
  have h1 : hd s' 1 = hd s 1 := agr_hd h (by omega)
  unfold escR at he ⊢
  rw [h1]
  by_cases c1 : hd s 1 = 92 ∨ hd s 1 = 34
  · rw [if_pos c1] at he ⊢; exact he
  rw [if_neg c1] at he ⊢
  by_cases c2 : hd s 1 = 110
  · rw [if_pos c2] at he ⊢; exact he
  rw [if_neg c2] at he ⊢
  by_cases c3 : hd s 1 = 116
  · rw [if_pos c3] at he ⊢; exact he
  rw [if_neg c3] at he ⊢
  by_cases c4 : hd s 1 = 120
  · rw [if_pos c4] at he ⊢
    by_cases c5 : nrun (inB 16) (s.drop 2) < 2
    · rw [if_pos c5] at he; cases he
    · rw [if_neg c5] at he
      have hn : n = 4 := by simp only [Option.some.injEq, Prod.mk.injEq] at he; exact he.1.symm
      subst hn
      have := agr_run (p := inB 16) h (i := 2) (m := 2) (by omega) (by omega)
      rw [if_neg (by omega), agr_take h (i := 2) (m := 2) (by omega)]
      exact he
  rw [if_neg c4] at he ⊢
  by_cases c6 : hd s 1 = 117
  · rw [if_pos c6] at he ⊢
    by_cases c5 : nrun (inB 16) (s.drop 2) < 4
    · rw [if_pos c5] at he; cases he
    · rw [if_neg c5] at he
      have hn : n = 6 := by
        split at he
        · cases he
        · simp only [Option.some.injEq, Prod.mk.injEq] at he; exact he.1.symm
      subst hn
      have := agr_run (p := inB 16) h (i := 2) (m := 4) (by omega) (by omega)
      rw [if_neg (by omega), agr_take h (i := 2) (m := 4) (by omega)]
      exact he
  rw [if_neg c6] at he
  cases he
theorem agr_step {q : UInt8} {o : List UInt8} (hs : s ≠ []) (h : Agr s s' n) (he : stepR q s = some (n, o)) : stepR q s' = some (n, o) := by
  have hle := stepR_le hs he
  have h1 : hd s' 0 = hd s 0 := agr_hd h (by omega)
  unfold stepR at he ⊢
  rw [h1]
  by_cases c1 : q = 34 ∧ hd s 0 = 10
  · rw [if_pos c1] at he; cases he
  rw [if_neg c1] at he ⊢
  by_cases c2 : q = 34 ∧ hd s 0 = 92
  · rw [if_pos c2] at he ⊢
    exact agr_esc h he
  rw [if_neg c2] at he ⊢
  by_cases c3 : utfR s = 0
  · rw [if_pos c3] at he; cases he
  rw [if_neg c3] at he
  have hn : n = utfR s := by simp only [Option.some.injEq, Prod.mk.injEq] at he; exact he.1.symm
  subst hn
  have e := agr_utf c3 h
  have e2 := agr_take h (i := 0) (m := utfR s) (by omega)
  rw [List.drop_zero, List.drop_zero] at e2
  rw [e, if_neg c3, e2]
  exact he
theorem agr_textG {q : UInt8} : ∀ (m : Nat) {s s' : List UInt8} {n : Nat} {o : List UInt8}, s.length ≤ m → Agr s s' n → textG q s = some (n, o) → textG q s' = some (n, o)
  | 0, s, s', n, o, hm, h, hg => by
    obtain rfl := List.length_eq_zero_iff.1 (show s.length = 0 by omega)
    rw [textG_nil] at hg; cases hg
  | m + 1, s, s', n, o, hm, h, hg => by
    have hp := textG_pos hg
    have hs : s ≠ [] := by rintro rfl; rw [textG_nil] at hg; cases hg
    have hle := textG_le _ s (Nat.le_refl _) hg
    have hs' : s' ≠ [] := by
      have := agr_len h hle
      rintro rfl
      simp at this
      omega
    have h1 : hd s' 0 = hd s 0 := agr_hd h (by omega)
    by_cases hq : hd s 0 = q
    · rw [textG_end hs hq] at hg
      rw [textG_end hs' (by rw [h1]; exact hq)]
      exact hg
    · obtain ⟨_, n1, o1, n2, o2, hst, hg2, rfl, rfl⟩ := textG_one hg hq
      have hsl := stepR_le hs hst
      have hst' := agr_step hs (fun j hj => h j (by omega)) hst
      have ih := agr_textG m (s := s.drop n1) (s' := s'.drop n1) (by rw [List.length_drop]; omega) (agr_drop h (Nat.le_refl _)) hg2
      rw [textG_step hs' (by rw [h1]; exact hq) hst', ih]
      rfl
/-- A text is the same text whatever stands behind it. -/
theorem agr_textR {o : List UInt8} (hs : s ≠ []) (h : Agr s s' n) (hg : textR s = some (n, o)) : textR s' = some (n, o) := by
  have hle := textR_le hs hg
  have hs' : s' ≠ [] := by
    have := agr_len h hle.1
    rintro rfl
    simp at this
    omega
  have h1 : hd s' 0 = hd s 0 := agr_hd h (by omega)
  obtain ⟨hG, _⟩ := textR_sub hs hg
  rw [textR_G hs', h1, agr_textG _ (Nat.le_refl _) (agr_drop h (i := 1) (m := n - 1) (by omega)) hG]
  simp only [comb, Option.map_some]
  rw [show 1 + (n - 1) = n by omega]
  rfl
end
end Go.Proofs.YtbdebcmklaooaaaDoor.AM.Sa
end
section
set_option maxRecDepth 1000000
set_option linter.unusedVariables false
set_option linter.unusedSimpArgs false
namespace Go.Proofs.YtbdebcmklaooaaaDoor.AM.Sa
open Go.Proofs
theorem ops_blank : ∀ o ∈ opsP, (32 : UInt8) ∉ o ∧ o ≠ [] ∧ (10 : UInt8) ∉ o := by decide
theorem opsP_pw : opsP.Pairwise (fun x y => x.isPrefixOf y = false) := by decide
section
variable {s s' : List UInt8} {n : Nat}
theorem loc_agr (h : Loc s s' n) : Agr s s' n := h.1
theorem loc_op (h : Loc s s' n) (hf : opFind opsP s = n) : opFind opsP s' = n := by
  have hle : n ≤ opFind opsP s' := by
    cases hq : opsP.find? (fun o => o.isPrefixOf s) with
    | none =>
      have : opFind opsP s = 0 := by simp [opFind, hq]
      omega
    | some o =>
      have e : opFind opsP s = o.length := by simp [opFind, hq]
      have hp := List.find?_some hq
      have hp2 := pre_take.1 hp
      have hmem := List.mem_of_find?_eq_some hq
      have : o.isPrefixOf s' = true := by
        refine pre_take.2 ⟨?_, ?_⟩
        · have := agr_len (loc_agr h) h.2.2
          omega
        · have := agr_take (loc_agr h) (i := 0) (m := o.length) (by omega)
          rw [List.drop_zero, List.drop_zero] at this
          rw [this]
          exact hp2.2
      have := find_max opsP_pw hmem this
      omega
  have hge : opFind opsP s' ≤ n := by
    cases hq : opsP.find? (fun o => o.isPrefixOf s') with
    | none =>
      have : opFind opsP s' = 0 := by simp [opFind, hq]
      omega
    | some o =>
      have e : opFind opsP s' = o.length := by simp [opFind, hq]
      have hp := List.find?_some hq
      have hp2 := pre_take.1 hp
      have hmem := List.mem_of_find?_eq_some hq
      have hon : o.length ≤ n := by
        rcases Nat.lt_or_ge n o.length with hlt | hge
        · exfalso
          have : o[n]? = some 32 := by
            rw [← hp2.2, List.getElem?_take, if_pos hlt]
            exact h.2.1
          exact (ops_blank o hmem).1 (List.mem_of_getElem? this)
        · exact hge
      have hps : o.isPrefixOf s = true := by
        refine pre_take.2 ⟨by have := h.2.2; omega, ?_⟩
        have := agr_take (loc_agr h) (i := 0) (m := o.length) (by omega)
        rw [List.drop_zero, List.drop_zero] at this
        rw [← this]
        exact hp2.2
      have := find_max opsP_pw hmem hps
      omega
  omega
theorem num_dot {kd : Nat} (h0 : hd s 0 = 46) (h1 : isD (hd s 1) = true) (hf : numberR s = some (kd, n)) : 1 < n := by
  unfold numberR at hf
  have hp := hd_pos (s := s) (n := 0) (by rw [h0]; decide)
  obtain ⟨c, hc⟩ := some_of hp
  have ec : c = 46 := by rw [← hd_of hc]; exact h0
  have hN : nrun (inB 10) s = 0 := by
    refine nrun_eq (by omega) (fun j c hj => by omega) ?_
    intro c' hc'
    rw [hc] at hc'
    cases hc'
    rw [ec]
    decide
  rw [if_neg (by rw [h0]; intro h; exact absurd h.1 (by decide)), if_neg (by rw [h0]; intro h; exact absurd h.1 (by decide)), hN, if_pos h0] at hf
  have hp1 := hd_pos (s := s) (n := 1) (by intro h; rw [h] at h1; cases h1)
  obtain ⟨d, hd'⟩ := some_of hp1
  have hM : 0 < nrun (inB 10) (s.drop 1) := by
    refine nrun_pos (c := d) (by simpa using hd') ?_
    rw [← isD_inB, ← hd_of hd']
    exact h1
  rw [show (0 : Nat) + 1 = 1 from rfl] at hf
  unfold numP at hf
  split at hf
  · cases hf
  · split at hf
    · cases hf
    · obtain ⟨_, h2⟩ := numFin_le hf
      omega
/-- What is a token is the same token where a blank stands behind it. -/
theorem el_again (hs : s ≠ []) (h0 : (elR s).2.1 ≠ 0) (hk : (elR s).1 ≠ 0) (h : Loc s s' (elR s).2.1) : elR s' = ((elR s).1, (elR s).2.1, false) ∧ s.take (elR s).2.1 ≠ [10] := by
  have hh0 : hd s' 0 = hd s 0 := loc_hd h (by omega)
  have hh1 : (1 < (elR s).2.1 ∧ hd s' 1 = hd s 1) ∨ ((elR s).2.1 = 1 ∧ hd s' 1 = 32) := by
    rcases Nat.lt_or_ge 1 (elR s).2.1 with h2 | h2
    · exact .inl ⟨h2, loc_hd h h2⟩
    · have h3 : (elR s).2.1 = 1 := by omega
      exact .inr ⟨h3, by have := loc_at h; rw [h3] at this; exact this⟩
  have hne10 : hd s 0 ≠ 10 → s.take (elR s).2.1 ≠ [10] := by
    intro h1 h2
    apply h1
    obtain ⟨a, t, rfl⟩ := List.exists_cons_of_ne_nil hs
    obtain ⟨m, hm⟩ : ∃ m, (elR (a :: t)).2.1 = m + 1 := ⟨(elR (a :: t)).2.1 - 1, by omega⟩
    rw [hm, List.take_succ_cons] at h2
    exact (List.cons.inj h2).1
  have hl' : s' ≠ [] := by
    rintro rfl
    have := h.2.1
    simp at this
  unfold elR at h0 hk h hh1 hne10 ⊢
  rw [hh0]
  by_cases c1 : hd s 0 = 32 ∨ hd s 0 = 9 ∨ hd s 0 = 13 ∨ hd s 0 = 10
  · rw [if_pos c1] at hk
    exact absurd rfl hk
  rw [if_neg c1] at h0 hk h hh1 hne10 ⊢
  rw [if_neg c1]
  have hn10 := hne10 (fun h => c1 (.inr (.inr (.inr h))))
  by_cases c2 : hd s 0 = 47 ∧ (hd s 1 = 47 ∨ hd s 1 = 42)
  · rw [if_pos c2] at hk
    cases hcm : commentR s <;> (rw [hcm] at hk; exact absurd rfl hk)
  have c2' : ¬ (hd s 0 = 47 ∧ (hd s' 1 = 47 ∨ hd s' 1 = 42)) := by
    rcases hh1 with ⟨_, g⟩ | ⟨_, g⟩
    · rw [g]; exact c2
    · rw [g]; intro h; rcases h.2 with h | h <;> exact absurd h (by decide)
  rw [if_neg c2] at h0 hk h hh1 hn10 ⊢
  rw [if_neg c2']
  by_cases c3 : isL (hd s 0) = true
  · rw [if_pos c3] at h0 hk h hh1 hn10 ⊢
    rw [if_pos c3]
    simp only at h0 hk h hh1 hn10 ⊢
    have hr := loc_run h (p := isLD) (i := 0) (by decide) (by rw [List.drop_zero]; omega)
    rw [List.drop_zero, List.drop_zero] at hr
    have ht := agr_take (loc_agr h) (i := 0) (m := nrun isLD s) (by omega)
    rw [List.drop_zero, List.drop_zero] at ht
    rw [hr, ht]
    exact ⟨rfl, hn10⟩
  rw [if_neg c3] at h0 hk h hh1 hn10 ⊢
  rw [if_neg c3]
  by_cases c4 : isD (hd s 0) = true ∨ (hd s 0 = 46 ∧ isD (hd s 1) = true)
  · rw [if_pos c4] at h0 hk h hh1 hn10 ⊢
    cases hnum : numberR s with
    | none => rw [hnum] at hk; exact absurd rfl hk
    | some x =>
      obtain ⟨kd, n⟩ := x
      rw [hnum] at h0 hk h hh1 hn10
      simp only at h0 hk h hh1 hn10
      have c4' : isD (hd s 0) = true ∨ (hd s 0 = 46 ∧ isD (hd s' 1) = true) := by
        rcases c4 with g | ⟨g1, g2⟩
        · exact .inl g
        · have := num_dot g1 g2 hnum
          refine .inr ⟨g1, ?_⟩
          rw [loc_hd h this]
          exact g2
      rw [if_pos c4', loc_number h (by omega) hnum]
      exact ⟨rfl, hn10⟩
  have c4' : ¬ (isD (hd s 0) = true ∨ (hd s 0 = 46 ∧ isD (hd s' 1) = true)) := by
    rcases hh1 with ⟨_, g⟩ | ⟨_, g⟩
    · rw [g]; exact c4
    · rw [g]
      rintro (h | h)
      · exact c4 (.inl h)
      · exact absurd h.2 (by decide)
  rw [if_neg c4] at h0 hk h hh1 hn10 ⊢
  rw [if_neg c4']
  by_cases c5 : hd s 0 = 34 ∨ hd s 0 = 96
  · rw [if_pos c5] at h0 hk h hh1 hn10 ⊢
    rw [if_pos c5]
    cases htx : textR s with
    | none => rw [htx] at h0; exact absurd rfl h0
    | some x =>
      obtain ⟨n, o⟩ := x
      rw [htx] at h0 hk h hh1 hn10
      simp only at h0 hk h hh1 hn10
      rw [agr_textR hs (loc_agr h) htx]
      exact ⟨rfl, hn10⟩
  rw [if_neg c5] at h0 hk h hh1 hn10 ⊢
  rw [if_neg c5]
  by_cases c6 : hd s 0 = 59
  · rw [if_pos c6] at h0 hk h hh1 hn10 ⊢
    rw [if_pos c6]
    exact ⟨rfl, hn10⟩
  rw [if_neg c6] at h0 hk h hh1 hn10 ⊢
  rw [if_neg c6]
  simp only at h0 hk h hh1 hn10 ⊢
  have := loc_op h (ops_same s)
  rw [ops_same] at this
  rw [this]
  exact ⟨rfl, hn10⟩
theorem el_line (hk : (elR s).1 ≠ 0) : (elR s).2.2 = false := by
  unfold elR at hk ⊢
  split at hk
  · exact absurd rfl hk
  rename_i c1
  rw [if_neg c1]
  split at hk
  · cases hcm : commentR s <;> (rw [hcm] at hk; exact absurd rfl hk)
  rename_i c2
  rw [if_neg c2]
  split
  · rfl
  split
  · rcases numberR s with _ | ⟨n, l⟩ <;> rfl
  split
  · rfl
  split <;> rfl
end
end Go.Proofs.YtbdebcmklaooaaaDoor.AM.Sa
end
section
set_option maxRecDepth 1000000
set_option linter.unusedVariables false
set_option linter.unusedSimpArgs false
namespace Go.Proofs.YtbdebcmklaooaaaDoor.AM.Sa
open Go.Proofs
/-- Tokens as a scan gathers them. -/
inductive Good : List Tk → Prop
  | nil : Good []
  | tok {l : List Tk} {t : Tk} : Good l → t.kind ≠ 0 → t.text ≠ [10] → t.text ≠ [] → (∀ r, elR (t.text ++ 32 :: r) = (t.kind, t.text.length, false)) → Good (l ++ [t])
  | nl {l : List Tk} {i : Nat} : Good l → endsR l = true → Good (l ++ [nlT i])
theorem good_add {l : List Tk} {i : Nat} {s : List UInt8} (hg : Good l) (hs : s ≠ []) (h0 : (elR s).2.1 ≠ 0) : Good (addR l i s) := by
  unfold addR
  by_cases hk : (elR s).1 = 0
  · rw [if_pos hk, List.append_nil]
    split
    · rename_i h
      exact .nl hg h.2
    · exact hg
  · have hle := (elR_le hs).1
    have hlen : (s.take (elR s).2.1).length = (elR s).2.1 := by rw [List.length_take]; omega
    rw [el_line hk, if_neg (by simp), if_neg hk]
    refine .tok hg hk (el_again hs h0 hk (loc_mk hle [])).2 ?_ ?_
    · intro h
      have := congrArg List.length h
      rw [hlen] at this
      exact h0 this
    · intro r
      show elR (s.take (elR s).2.1 ++ 32 :: r) = ((elR s).1, (s.take (elR s).2.1).length, false)
      rw [hlen]
      exact (el_again hs h0 hk (loc_mk hle r)).1
theorem good_scan : ∀ (m i : Nat) (l : List Tk) (s : List UInt8) {L : List Tk}, s.length ≤ m → Good l → scanG i l s = .inr L → ∃ L0 i', Good L0 ∧ endsR L0 = false ∧ L = L0 ++ [⟨0, [], i'⟩]
  | 0, i, l, s, L, hm, hg, h => by
    obtain rfl := List.length_eq_zero_iff.1 (show s.length = 0 by omega)
    rw [scanG_nil] at h
    cases h
    refine ⟨_, i, ?_, ?_, rfl⟩
    · split
      · rename_i he; exact .nl hg he
      · exact hg
    · split
      · exact ends_nl _ _
      · rename_i he; simpa using he
  | m + 1, i, l, s, L, hm, hg, h => by
    by_cases hs : s = []
    · subst hs
      rw [scanG_nil] at h
      cases h
      refine ⟨_, i, ?_, ?_, rfl⟩
      · split
        · rename_i he; exact .nl hg he
        · exact hg
      · split
        · exact ends_nl _ _
        · rename_i he; simpa using he
    · by_cases hn : (elR s).2.1 = 0
      · rw [scanG_bad hs hn] at h; cases h
      · rw [scanG_step hs hn] at h
        have hle := (elR_le hs).1
        exact good_scan m _ _ _ (by rw [List.length_drop]; omega) (good_add hg hs hn) h
theorem scan_texts {B : Nat} (hB : 1 ≤ B) : ∀ (m i : Nat) (l : List Tk) (s : List UInt8) {L : List Tk}, s.length ≤ m → s.length ≤ B → (∀ t ∈ l, t.text.length ≤ B) → scanG i l s = .inr L → ∀ t ∈ L, t.text.length ≤ B := by
  have fin : ∀ (i : Nat) (l : List Tk), (∀ t ∈ l, t.text.length ≤ B) → ∀ t ∈ (if endsR l then l ++ [nlT i] else l) ++ [⟨0, [], i⟩], t.text.length ≤ B := by
    intro i l hl t ht
    rw [List.mem_append] at ht
    rcases ht with ht | ht
    · split at ht
      · rw [List.mem_append] at ht
        rcases ht with ht | ht
        · exact hl t ht
        · simp at ht; subst ht; simp [nlT]; omega
      · exact hl t ht
    · simp at ht; subst ht; simp
  intro m
  induction m with
  | zero =>
    intro i l s L hm hs hl h
    obtain rfl := List.length_eq_zero_iff.1 (show s.length = 0 by omega)
    rw [scanG_nil] at h
    cases h
    exact fin i l hl
  | succ m ih =>
    intro i l s L hm hsB hl h
    by_cases hs : s = []
    · subst hs
      rw [scanG_nil] at h
      cases h
      exact fin i l hl
    · by_cases hn : (elR s).2.1 = 0
      · rw [scanG_bad hs hn] at h; cases h
      · rw [scanG_step hs hn] at h
        have hle := (elR_le hs).1
        refine ih _ _ _ (by rw [List.length_drop]; omega) (by rw [List.length_drop]; omega) ?_ h
        intro t ht
        unfold addR at ht
        rw [List.mem_append] at ht
        rcases ht with ht | ht
        · split at ht
          · rw [List.mem_append] at ht
            rcases ht with ht | ht
            · exact hl t ht
            · simp at ht; subst ht; simp [nlT]; omega
          · exact hl t ht
        · split at ht
          · simp at ht
          · simp at ht; subst ht; simp [List.length_take]; omega
/-- Tokens' texts with blanks between. -/
def prT (t : Tk) : List UInt8 := t.text ++ if t.text = [10] then [] else [32]
def pr (l : List Tk) : List UInt8 := l.flatMap prT
def key (t : Tk) : Nat × List UInt8 := (t.kind, t.text)
def sim (l m : List Tk) : Prop := l.map key = m.map key
theorem sim_ends {l m : List Tk} (h : sim l m) : endsR l = endsR m := by
  unfold sim at h
  unfold endsR
  have := congrArg List.getLast? h
  rw [List.getLast?_map, List.getLast?_map] at this
  cases h1 : l.getLast? with
  | none =>
    rw [h1] at this
    cases h2 : m.getLast? with
    | none => rfl
    | some t => rw [h2] at this; cases this
  | some t =>
    rw [h1] at this
    cases h2 : m.getLast? with
    | none => rw [h2] at this; cases this
    | some u =>
      rw [h2] at this
      simp only [Option.map_some, Option.some.injEq, key, Prod.mk.injEq] at this
      simp only [this.1, this.2]
theorem blank_step (i : Nat) (m : List Tk) (r : List UInt8) : scanG i m (32 :: r) = scanG (i + 1) m r := by
  have e : elR (32 :: r) = (0, 1, false) := by unfold elR; rw [if_pos (.inl rfl)]; rfl
  rw [scanG_step (by simp) (by rw [e]; simp)]
  unfold addR
  rw [e]
  simp
theorem nl_step (i : Nat) (m : List Tk) (r : List UInt8) (h : endsR m = true) : scanG i m (10 :: r) = scanG (i + 1) (m ++ [nlT i]) r := by
  have e : elR (10 :: r) = (0, 1, true) := by unfold elR; rw [if_pos (.inr (.inr (.inr rfl)))]; rfl
  rw [scanG_step (by simp) (by rw [e]; simp)]
  unfold addR
  rw [e]
  simp [h]
theorem tok_step (i : Nat) (m : List Tk) (t : Tk) (r : List UInt8) (hk : t.kind ≠ 0) (h0 : t.text ≠ []) (he : elR (t.text ++ 32 :: r) = (t.kind, t.text.length, false)) : scanG i m (t.text ++ 32 :: r) = scanG (i + t.text.length) (m ++ [⟨t.kind, t.text, i⟩]) (32 :: r) := by
  have hp := List.length_pos_iff.2 h0
  rw [scanG_step (by simp) (by rw [he]; simp; exact h0)]
  unfold addR
  rw [he]
  simp [hk]
theorem rescan {l : List Tk} (hg : Good l) : ∀ r, ∃ m i, sim l m ∧ scanG 0 [] (pr l ++ r) = scanG i m r := by
  induction hg with
  | nil => intro r; exact ⟨[], 0, rfl, rfl⟩
  | @tok l t hg hk h10 h0 he ih =>
    intro r
    obtain ⟨m, i, hs, hsc⟩ := ih (t.text ++ 32 :: r)
    refine ⟨m ++ [⟨t.kind, t.text, i⟩], i + t.text.length + 1, ?_, ?_⟩
    · unfold sim at hs ⊢
      rw [List.map_append, List.map_append, hs]
      rfl
    · have e : pr (l ++ [t]) ++ r = pr l ++ (t.text ++ 32 :: r) := by
        unfold pr prT
        simp [h10]
      rw [e, hsc, tok_step i m t r hk h0 (he r), blank_step]
  | @nl l j hg hend ih =>
    intro r
    obtain ⟨m, i, hs, hsc⟩ := ih (10 :: r)
    refine ⟨m ++ [nlT i], i + 1, ?_, ?_⟩
    · unfold sim at hs ⊢
      rw [List.map_append, List.map_append, hs]
      rfl
    · have e : pr (l ++ [nlT j]) ++ r = pr l ++ (10 :: r) := by
        unfold pr prT nlT
        simp
      rw [e, hsc, nl_step i m r (by rw [← sim_ends hs]; exact hend)]
theorem scan_again {s : List UInt8} {L : List Tk} (h : scanR s = .inr L) : ∃ M, scanR (pr L) = .inr M ∧ sim L M := by
  obtain ⟨L0, j, hg, hend, rfl⟩ := good_scan _ 0 [] s (Nat.le_refl _) .nil h
  obtain ⟨m, i, hs, hsc⟩ := rescan hg [32]
  have e : pr (L0 ++ [⟨0, [], j⟩]) = pr L0 ++ [32] := by
    unfold pr prT
    simp
  have hend' : endsR m = false := by rw [← sim_ends hs]; exact hend
  refine ⟨m ++ [⟨0, [], i + 1⟩], ?_, ?_⟩
  · rw [e]
    show scanG 0 [] (pr L0 ++ [32]) = _
    rw [hsc, blank_step, scanG_nil, hend']
    rfl
  · unfold sim at hs ⊢
    rw [List.map_append, List.map_append, hs]
    rfl
theorem sim_len {l m : List Tk} (h : sim l m) : l.length = m.length := by
  have := congrArg List.length h
  simpa using this
theorem pr_len {B : Nat} : ∀ (l : List Tk), (∀ t ∈ l, t.text.length ≤ B) → (pr l).length ≤ l.length * (B + 1)
  | [], _ => by simp [pr]
  | t :: l, h => by
    have ih := pr_len l (fun x hx => h x (by simp [hx]))
    have ht := h t (by simp)
    unfold pr at ih ⊢
    rw [List.flatMap_cons, List.length_append, List.length_cons, Nat.succ_mul]
    have : (prT t).length ≤ B + 1 := by
      unfold prT
      rw [List.length_append]
      split <;> simp <;> omega
    omega
end Go.Proofs.YtbdebcmklaooaaaDoor.AM.Sa
end
section
set_option maxRecDepth 1000000
set_option linter.unusedVariables false
set_option linter.unusedSimpArgs false
namespace Go.Proofs.YtbdebcmklaooaaaDoor.AM.Sa
open Go.Proofs
theorem el_str (x : List UInt8) (σ : Store) : elems σ 1 (sv x) = elems σ 1 (.tr (byT x)) := by
  have h1 : (x.flatMap byE).length = x.length * 1 := flat_len byE_len x
  unfold byT
  simp only [elems, h1, if_true]
  congr 2
  rw [by_map, List.map_map]
  rfl
theorem app_str (v : V) (x : List UInt8) (σ : Store) : opAppend 1 1 v (sv x) σ = opAppend 1 1 v (.tr (byT x)) σ := by
  unfold opAppend
  rw [el_str]
theorem outq_none {o : List UInt8} {v x : V} {σ : Store} (h : OutQ o v σ) (hx : IsSl byE [] x) (hl : o.length ≤ 1000000) : opAppend 1 1 v x σ = some (v, σ) := by
  have h0 : room 0 1 = true := rfl
  have he : elems σ 1 x = some ([], 0) := by_elems hx σ
  rcases h with ⟨rfl, rfl⟩ | ⟨h1, k, g, rfl, hs⟩
  · unfold opAppend nilSl
    simp [he, h0]
  · have hr : room o.length 1 = true := room_ok (by omega) (by omega)
    have h2 : slice? (cK .u8 (o.map (·.toNat))) 0 (o.length * 1) = some (cK .u8 (o.map (·.toNat))) := by
      unfold slice?
      have : ((cK .u8 (o.map (·.toNat))).drop 0).take (o.length * 1) = cK .u8 (o.map (·.toNat)) := by
        rw [List.drop_zero, Nat.mul_one, List.take_of_length_le (by rw [cK_len]; simp)]
      simp only [this]
      rw [if_pos (by rw [cK_len, Nat.mul_one]; simp)]
    unfold opAppend
    simp only [he, h0, hr, hs, h2, Bool.not_true, Bool.false_eq_true, if_false, ne_eq, not_true_eq_false, if_true]
theorem outq_any {o : List UInt8} (x : List UInt8) {v : V} {σ : Store} (h : OutQ o v σ) (hl : o.length ≤ 1000000) (hl2 : x.length ≤ 1000000) : ∃ v' σ', opAppend 1 1 v (sv x) σ = some (v', σ') ∧ OutQ (o ++ x) v' σ' := by
  by_cases h0 : x = []
  · subst h0
    refine ⟨v, σ, ?_, by simpa using h⟩
    rw [app_str]
    exact outq_none h (byT_sl []) hl
  · rw [app_str]
    exact outq_app h (byT_sl x) (List.length_pos_iff.2 h0) hl hl2
theorem tk_facts {l : List Tk} {t : Tree} (h : IsSl tkE l (.tr t)) {m : Nat} {x : Tk} (hx : l[m]? = some x) : ∃ P : List Tree, (∀ σ, opIaddr 3 (.tr t) (nv .i64 m) σ = some (.tr (.rptr P (m * 3)))) ∧ (∀ σ, opLoad 1 false (.tr (.rptr P (m * 3 + 0))) σ = some (nv .i64 x.kind)) ∧ (∀ σ, opLoad 1 false (.tr (.rptr P (m * 3 + 1))) σ = some (sv x.text)) ∧ (∀ σ, opLoad 1 false (.tr (.rptr P (m * 3 + 2))) σ = some (nv .i64 x.at_)) := by
  refine ⟨l.flatMap tkE, fun σ => isSl_iaddr h tkE_len (by omega) hx, fun σ => ?_, fun σ => ?_, fun σ => ?_⟩
  · rw [rptr_load tkE_len hx (o := 0) (s := 1) (by omega)]; rfl
  · rw [rptr_load tkE_len hx (o := 1) (s := 1) (by omega)]; rfl
  · rw [rptr_load tkE_len hx (o := 2) (s := 1) (by omega)]; rfl
theorem ldt_of {P : List Tree} {k : Nat} {v : V} (h : ∀ σ, opLoad 1 false (.tr (.rptr P k)) σ = some v) : opLdt 1 false (.tr (.rptr P k)) = some v := h []
theorem pr_snoc {l : List Tk} {m : Nat} {x : Tk} (hx : l[m]? = some x) : pr (l.take (m + 1)) = pr (l.take m) ++ prT x := by
  obtain ⟨h, rfl⟩ := List.getElem?_eq_some_iff.1 hx
  rw [List.take_succ_eq_append_getElem h]
  unfold pr
  rw [List.flatMap_append]
  simp
/-- ScanAgain answers true whatever the bytes. -/
theorem law_scanAgain {b : List UInt8} {tb : Tree} (hb : IsSl byE b (.tr tb)) : ∃ v σ', callL T 4 [.tr tb] [] = some (v, σ') ∧ v = bv true := by
  refine call_shared T4 rfl rfl ?_
  have hbg := begun_ok
  obtain ⟨t', hsh, hb'⟩ := short_ok hb 400
  obtain ⟨c, hc⟩ : ∃ c, b.take 400 = c := ⟨_, rfl⟩
  rw [hc] at hb'
  have hcl : c.length ≤ 400 := by rw [← hc, List.length_take]; omega
  have hs1 := fun σ => scan_ok hb' (by omega) σ
  have hsh' : ∀ σ, callL T 8 [.tr tb, .tr (.sc (.int .i64 400))] σ = some (.tr t', σ) := hsh
  cases hr : scanR c with
  | inl i =>
    rw [hr] at hs1
    simp [hbg, hsh', hs1, scanT, opExtract]
  | inr l =>
    rw [hr] at hs1
    have hll := scanG_len _ 0 [] c (Nat.le_refl _) hr
    have hll' : l.length ≤ 802 := by simp at hll; omega
    have htx := scan_texts (B := 400) (by omega) _ 0 [] c (Nat.le_refl _) hcl (by simp) hr
    obtain ⟨M, hM, hsim⟩ := scan_again hr
    have hML := sim_len hsim
    obtain ⟨L0, j0, _, _, hL0⟩ := good_scan _ 0 [] c (Nat.le_refl _) .nil hr
    have hlpos : 0 < l.length := by rw [hL0]; simp
    have hprpos : 0 < (pr l).length := by
      rw [hL0]
      unfold pr prT
      simp
    have hprl : ∀ m, m ≤ l.length → (pr (l.take m)).length ≤ 400000 := by
      intro m hm
      have h1 := pr_len (B := 400) (l.take m) (fun t ht => htx t (List.mem_of_mem_take ht))
      rw [List.length_take] at h1
      simp at hll
      have : min m l.length * (400 + 1) ≤ 802 * 401 := Nat.mul_le_mul (by omega) (by omega)
      omega
    have hprl' : (pr l).length ≤ 400000 := by
      have := hprl l.length (Nat.le_refl _)
      rwa [List.take_length] at this
    have hl1 : ∀ σ, opLen 1 (.tr (tksT l)) σ = some (nv .i64 l.length) := fun σ => isSl_len (tks_sl l)
    have hl2 : ∀ σ, opLen 1 (.tr (tksT M)) σ = some (nv .i64 l.length) := fun σ => by rw [hML]; exact isSl_len (tks_sl M)
    have hnz : ¬ (l.length : Int) = 0 := by omega
    have hnn : ¬ l = [] := by rintro rfl; simp at hlpos
    obtain ⟨tl, htl⟩ : ∃ tl, tksT l = tl := ⟨_, rfl⟩
    have hsl := tks_sl l
    rw [htl] at hl1 hsl
    obtain ⟨I, hI⟩ : ∃ I : Nat → St → Prop, I = fun m st => m ≤ l.length ∧ ∃ v e L σ, st = ⟨e, L, σ⟩ ∧ OutQ (pr (l.take m)) v σ ∧ look e 3 = some (bv true) ∧ look e 4 = some (.tr tl) ∧ look e 7 = some v ∧ look e 8 = some (nv .i64 m) := ⟨_, rfl⟩
    simp [hbg, hsh', hs1, scanT, opExtract, htl, hl1, hnz, hnn, k4_5]
    refine wpc_up l.length I (by rw [hI]; exact ⟨by omega, nilSl, _, _, [], rfl, .inl ⟨by simp [pr], rfl⟩, by simp, by simp, by simp [nilSl], by simp⟩) ?_
    intro m st hst
    rw [hI] at hst
    obtain ⟨hm, v, e, L, σ, rfl, hout, h3, h4, h7, h8⟩ := hst
    by_cases hlt : m < l.length
    · have hltz : (m : Int) < l.length := by omega
      obtain ⟨x, hx⟩ : ∃ x, l[m]? = some x := ⟨_, List.getElem?_eq_getElem hlt⟩
      obtain ⟨P, ia, d0, d1, d2⟩ := tk_facts hsl hx
      have fa : ∀ k, opFaddr k (.tr (.rptr P (m * 3))) = some (.tr (.rptr P (m * 3 + k))) := fun k => rfl
      have hxt := htx x (List.mem_of_getElem? hx)
      obtain ⟨v1, σ1, ha1, ho1⟩ := outq_any x.text hout (by have := hprl m hm; omega) (by omega)
      have w6 : IntKind.i64.wrap ((m : Int) + 1) = (m : Int) + 1 := w64z (by omega) (by omega)
      have hsn := pr_snoc hx
      by_cases h10 : x.text = [10]
      · have hpx : prT x = x.text := by unfold prT; rw [if_pos h10, List.append_nil]
        rw [hpx] at hsn
        rw [h10] at ha1 d1
        simp [k4_8, k4_10, k4_13, h3, h4, h7, h8, hl1, hltz, hlt, ia, fa, d1, ldt_of d1, ha1, bytesEq_iff', h10, w6]
        rw [hI]
        refine ⟨by omega, v1, _, _, σ1, rfl, by rw [hsn]; exact ho1, ?_, ?_, ?_, ?_⟩ <;> simp [h3, h4]
      · have hpx : prT x = x.text ++ [32] := by unfold prT; rw [if_neg h10]
        rw [hpx, ← List.append_assoc] at hsn
        have bs := bs1 (x := 32) (c := 32) rfl
        obtain ⟨v2, σ2, ha2, ho2⟩ := outq_app ho1 (byT_sl [32]) (by simp) (by rw [List.length_append]; have := hprl m hm; omega) (by simp)
        simp [k4_8, k4_10, k4_13, h3, h4, h7, h8, hl1, hltz, hlt, ia, fa, d1, ldt_of d1, ha1, bytesEq_iff', h10, w6, bs, ha2]
        rw [hI]
        refine ⟨by omega, v2, _, _, σ2, rfl, by rw [hsn]; exact ho2, ?_, ?_, ?_, ?_⟩ <;> simp [h3, h4]
    · have hltz : ¬ (m : Int) < l.length := by omega
      have e1 : l.take m = l := List.take_of_length_le (by omega)
      rw [e1] at hout
      rcases hout with ⟨h0, _⟩ | ⟨h0, k, g, rfl, hs⟩
      · rw [h0] at hprpos; simp at hprpos
      · have hsn : snapL (snap σ deepN) [.own k g 0 (pr l).length 1 none] = some [.row ((pr l).flatMap byE) (pr l).length none] := by
          have := snap_own (d := deepN - 1) (n := (pr l).length) (cap := none) hs (by simp)
          rw [by_nE, List.length_map] at this
          simp only [snapL]
          rw [show deepN = deepN - 1 + 1 from rfl, this]
        have hz := freeze_own1 (n := (pr l).length) (cap := none) hs
        have hsc := fun σ => scan_ok (b := pr l) (tb := .row ((pr l).flatMap byE) (pr l).length none) (.inr ⟨none, rfl⟩) (by omega) σ
        rw [hM] at hsc
        obtain ⟨t, σ2, hcall, ht, _⟩ := T_iso (T := T) (vs := [.own k g 0 (pr l).length 1 none]) (ts := [.row ((pr l).flatMap byE) (pr l).length none]) (R := fun t => t = scanT (.inr M)) T9 rfl rfl hsn hz ⟨_, hsc, rfl⟩
        subst ht
        obtain ⟨tm, htm⟩ : ∃ tm, tksT M = tm := ⟨_, rfl⟩
        have hslM := tks_sl M
        rw [htm] at hl2 hslM
        obtain ⟨J, hJ⟩ : ∃ J : Nat → St → Prop, J = fun m st => m ≤ l.length ∧ ∃ e L σ, st = ⟨e, L, σ⟩ ∧ look e 3 = some (bv true) ∧ look e 4 = some (.tr tl) ∧ look e 9 = some (.tr tm) ∧ look e 12 = some (nv .i64 m) := ⟨_, rfl⟩
        simp [k4_8, k4_14, k4_18, h3, h4, h7, h8, hl1, hltz, hlt, hcall, scanT, opExtract, htm, hl2]
        refine wpc_up l.length J (by rw [hJ]; exact ⟨by omega, _, _, σ2, rfl, by simp [h3], by simp [h4], by simp, by simp⟩) ?_
        intro i st hst
        rw [hJ] at hst
        obtain ⟨hi, e, L, σ3, rfl, h3, h4, h9, h12⟩ := hst
        by_cases hlt : i < l.length
        · have hltz : (i : Int) < l.length := by omega
          obtain ⟨x, hx⟩ : ∃ x, l[i]? = some x := ⟨_, List.getElem?_eq_getElem hlt⟩
          obtain ⟨y, hy⟩ : ∃ y, M[i]? = some y := ⟨_, List.getElem?_eq_getElem (by omega)⟩
          have hk : key x = key y := by
            have := congrArg (fun l => l[i]?) hsim
            simp only [List.getElem?_map, hx, hy, Option.map_some, Option.some.injEq] at this
            exact this
          have hk1 : x.kind = y.kind := congrArg Prod.fst hk
          have hk2 : x.text = y.text := congrArg Prod.snd hk
          obtain ⟨P, ia, d0, d1, d2⟩ := tk_facts hsl hx
          obtain ⟨P', ia', d0', d1', d2'⟩ := tk_facts hslM hy
          rw [← hk1] at d0'
          rw [← hk2] at d1'
          rw [Nat.add_zero] at d0 d0'
          have fa : ∀ P k, opFaddr k (.tr (.rptr P (i * 3))) = some (.tr (.rptr P (i * 3 + k))) := fun P k => rfl
          have w6 : IntKind.i64.wrap ((i : Int) + 1) = (i : Int) + 1 := w64z (by omega) (by omega)
          simp [k4_20, k4_22, k4_25, h3, h4, h9, h12, hl1, hltz, hlt, ia, ia', fa, d0, d0', d1, d1', bytesEq_iff', w6]
          rw [hJ]
          refine ⟨by omega, _, _, σ3, rfl, ?_, ?_, ?_, ?_⟩ <;> simp [h3, h4, h9]
        · have hltz : ¬ (i : Int) < l.length := by omega
          simp [k4_20, k4_26, h3, h4, h9, h12, hl1, hltz, hlt]
theorem law_again {b : List UInt8} {tb : Tree} (hb : IsSl byE b (.tr tb)) : ∃ v σ', callL T 4 ([tb].map .tr) [] = some (v, σ') ∧ v = .tr (.sc (.bool true)) := law_scanAgain hb
end Go.Proofs.YtbdebcmklaooaaaDoor.AM.Sa
end
