/- ImportsOrder: part 12. -/
import Derived.Test.YtknoiiacnfbkaaaIo11
set_option maxRecDepth 1000000
set_option linter.unusedVariables false
set_option linter.unusedSimpArgs false
namespace Go.Proofs.Ytknoiiacnfbkaaa.AM.Io
open Go.Proofs

def insL (n : Nat) (deps : List (List Int)) : List (List Int) := (List.range n).map fun j => inF n (dep deps j)
theorem insL_len {n : Nat} {deps : List (List Int)} : (insL n deps).length = n := by simp [insL]
theorem insL_at {n : Nat} {deps : List (List Int)} {j : Nat} (h : j < n) : (insL n deps)[j]? = some (inF n (dep deps j)) := by simp [insL, h]
theorem sc_insL {n : Nat} {deps : List (List Int)} {j : Nat} (h : j < n) : sc n (insL n deps) j = sc n deps j := by
  rw [sc_fl (insL_at h), fl_inF]
  unfold sc fl dep
  rfl
theorem rch_congr {s s' : Nat → List Nat} {n a b : Nat} (hs : ∀ j, j < n → s j = s' j) (hlt : ∀ j, ∀ x ∈ s j, x < n) (ha : a < n) (h : Rch s a b) : Rch s' a b ∧ b < n := by
  induction h with
  | one hb => exact ⟨.one (hs a ha ▸ hb), hlt a _ hb⟩
  | more _ hc ih => exact ⟨.more ih.1 (hs _ ih.2 ▸ hc), hlt _ _ hc⟩
theorem rch_insL {n : Nat} {deps : List (List Int)} {a b : Nat} (ha : a < n) : Rch (sc n (insL n deps)) a b ↔ Rch (sc n deps) a b :=
  ⟨fun h => (rch_congr (fun j hj => sc_insL hj) (fun j x hx => sc_lt hx) ha h).1, fun h => (rch_congr (fun j hj => (sc_insL hj).symm) (fun j x hx => sc_lt hx) ha h).1⟩

theorem snapL_list {f : V → Option Tree} : ∀ (cs : List V) (R : Nat → Tree → Prop), (∀ (j : Nat) (c : V), cs[j]? = some c → ∃ t, f c = some t ∧ R j t) → ∃ us, snapL f cs = some us ∧ us.length = cs.length ∧ ∀ (j : Nat) (t : Tree), us[j]? = some t → R j t
  | [], R, _ => ⟨[], rfl, rfl, fun j t h => by simp at h⟩
  | c :: cs, R, h => by
    obtain ⟨t, h1, h2⟩ := h 0 c rfl
    obtain ⟨us, h3, h4, h5⟩ := snapL_list cs (fun j => R (j + 1)) (fun j c' hc => h (j + 1) c' (by simpa using hc))
    refine ⟨t :: us, by simp only [snapL, h1, h3], by simp [h4], fun j t' ht => ?_⟩
    cases j with
    | zero => simp at ht; subst ht; exact h2
    | succ j => exact h5 j t' (by simpa using ht)

/-- The lists within, frozen or not. -/
def InS (n : Nat) (deps : List (List Int)) (r ids : List Nat) (w6 : V) (σ : Store) : Prop :=
  (∃ cs, Ins n deps r ids cs w6 σ n) ∨ ∃ id g us cap, r = [id] ∧ w6 = .own id g 0 n 1 cap ∧ σ[id]? = some (.fro us g) ∧ Ls (insL n deps) us
theorem Ins.snapC {n : Nat} {deps : List (List Int)} {r ids : List Nat} {cs : List V} {w6 : V} {σ : Store} (h : Ins n deps r ids cs w6 σ n) (d : Nat) : ∃ us, snapL (snap σ (d + 1)) cs = some us ∧ Ls (insL n deps) us := by
  obtain ⟨us, h1, h2, h3⟩ := snapL_list (f := snap σ (d + 1)) cs (fun j t => Rw ((inF n (dep deps j)).map iT) (.tr t)) (fun j c hc => by
    rcases h.cells j c hc with ⟨rfl, hl⟩ | ⟨id, _, hs⟩
    · exact ⟨.sc (.slice none 0 0), by simp [nilSl], .inl ⟨by rw [hl]; rfl, rfl⟩⟩
    · obtain ⟨c', hc'⟩ := hs.snap d
      exact ⟨_, hc', .inr ⟨c', rfl⟩⟩)
  refine ⟨us, h1, by rw [h2, h.len, insL_len], fun i x l hx hl => ?_⟩
  have hi : i < n := by
    have := (List.getElem?_eq_some_iff.1 hx).1
    rw [h2, h.len] at this; exact this
  rw [insL_at hi] at hl
  cases hl
  exact h3 i x hx
theorem wt_le {σ : Store} {R : List Nat} {m : Nat} (h : ∀ i ∈ R, (dirs.dirsL (obVs σ i)).length ≤ m) : wt σ R [] ≤ R.length * m := by
  unfold wt
  have : R.filter (fun i => !memN i []) = R := by
    rw [List.filter_eq_self]
    intro i _; rfl
  rw [this]
  clear this
  induction R with
  | nil => simp
  | cons a R ih =>
    have h1 := h a (by simp)
    have h2 := ih (fun i hi => h i (by simp [hi]))
    simp only [List.map_cons, List.sum_cons, List.length_cons]
    rw [Nat.add_mul]
    omega
theorem dirs_own {cs : List V} (h : ∀ c ∈ cs, c = nilSl ∨ ∃ id g o n s cap, c = .own id g o n s cap) : (dirs.dirsL cs).length ≤ cs.length ∧ ∀ i ∈ dirs.dirsL cs, ∃ g o n s cap, V.own i g o n s cap ∈ cs := by
  induction cs with
  | nil => simp [dirs.dirsL]
  | cons c cs ih =>
    obtain ⟨h1, h2⟩ := ih (fun c hc => h c (by simp [hc]))
    rcases h c (by simp) with rfl | ⟨id, g, o, n, s, cap, rfl⟩
    · have e : dirs.dirsL (nilSl :: cs) = dirs.dirsL cs := by simp [dirs.dirsL, dirs, nilSl]
      rw [e]
      refine ⟨by simp; omega, fun i hi => ?_⟩
      obtain ⟨g, o, n, s, cap, hm⟩ := h2 i hi
      exact ⟨g, o, n, s, cap, by simp [hm]⟩
    · have e : dirs.dirsL (.own id g o n s cap :: cs) = id :: dirs.dirsL cs := by simp [dirs.dirsL, dirs]
      rw [e]
      refine ⟨by simp; omega, fun i hi => ?_⟩
      rcases List.mem_cons.1 hi with rfl | hi
      · exact ⟨g, o, n, s, cap, by simp⟩
      · obtain ⟨g, o, n, s, cap, hm⟩ := h2 i hi
        exact ⟨g, o, n, s, cap, by simp [hm]⟩

theorem inside_call {n : Nat} {deps : List (List Int)} {r ids : List Nat} {w6 : V} {σ : Store} (h : InS n deps r ids w6 σ) (hn : n ≤ 20) (hl : ∀ l ∈ insL n deps, l.length ≤ 1000) {i : Nat} (hi : i < n) :
    ∃ t σ', callL T 14 [w6, nv .i64 i] σ = some (.tr t, σ') ∧ ReachR (insL n deps) n i t ∧ InS n deps r ids w6 σ' ∧ (∀ j, j ∉ r ++ ids → σ'[j]? = σ[j]?) ∧ σ'.length = σ.length := by
  rcases h with ⟨cs, h⟩ | ⟨id, g, us, cap, rfl, rfl, hs, hL⟩
  · have hcs : cs ≠ [] := by intro e; have := h.len; rw [e] at this; simp at this; omega
    rcases h.root with ⟨_, h1, _⟩ | ⟨id, g, h1, h2, h3, h4⟩
    · exact absurd h1 hcs
    subst h1
    rw [h.len] at h3
    obtain ⟨us, hu1, hu2⟩ := h.snapC 398
    obtain ⟨us2, hv1, hv2⟩ := h.snapC 399
    have hul : us.length = n := by rw [hu2.1, insL_len]
    have hsn : snap σ deepN w6 = some (.row us n none) := by
      rw [snap_deep, h3]
      have hc : obCells σ id g = some cs := by simp [obCells, h4]
      have hsl : slice? cs 0 (n * 1) = some cs := by
        unfold slice?
        have : (cs.drop 0).take (n * 1) = cs := by rw [Nat.mul_one, List.drop_zero, List.take_of_length_le (by rw [h.len]; exact Nat.le_refl _)]
        simp only [this]
        rw [if_pos (by rw [h.len]; simp)]
      unfold snap
      simp only [hc, hsl, hu1]
    have hown : ∀ c ∈ cs, c = nilSl ∨ ∃ id g o n s cap, c = V.own id g o n s cap := by
      intro c hc
      obtain ⟨j, hj⟩ := List.getElem?_of_mem hc
      rcases h.cells j c hj with ⟨rfl, _⟩ | ⟨id, _, g, cap, pre, post, rfl, _, _⟩
      · exact .inl rfl
      · exact .inr ⟨_, _, _, _, _, _, rfl⟩
    obtain ⟨hd1, hd2⟩ := dirs_own hown
    have hstk : ∀ j ∈ dirs.dirsL cs, j ∈ ids ∧ ∃ (td : List Tree) (g : Nat), σ[j]? = some (.row (td.map V.tr) g) := by
      intro j hj
      obtain ⟨g', o, m, s, cap, hm⟩ := hd2 j hj
      obtain ⟨k, hk⟩ := List.getElem?_of_mem hm
      rcases h.cells k _ hk with ⟨e, _⟩ | ⟨id', hid', g'', cap', pre, post, e, hst, _⟩
      · cases e
      · cases e
        exact ⟨hid', _, _, hst⟩
    obtain ⟨R, hR⟩ : ∃ R, R = ([id] ++ ids).filter fun i => decide (i = id) || memN i (dirs.dirsL cs) := ⟨_, rfl⟩
    have hRm : ∀ j, j ∈ R ↔ j ∈ [id] ++ ids ∧ (j = id ∨ j ∈ dirs.dirsL cs) := by
      intro j
      rw [hR, List.mem_filter]
      simp only [Bool.or_eq_true, decide_eq_true_eq, memN_iff]
    have hidR : id ∈ R := (hRm id).2 ⟨by simp, .inl rfl⟩
    have hRnd : R.Nodup := by rw [hR]; exact h.nd.filter _
    have hfz : FzOk σ R := by
      intro j hj
      left
      rcases ((hRm j).1 hj).2 with rfl | hjd
      · exact ⟨cs, g, us2, h4, hv1, fun k hk => (hRm k).2 ⟨by simp [(hstk k hk).1], .inr hk⟩⟩
      · obtain ⟨_, td, g', hs'⟩ := hstk j hjd
        exact ⟨_, g', td, hs', snapL_tr td, fun k hk => by rw [dirs_tr] at hk; simp at hk⟩
    have hdirs : dirs.dirsL [w6, nv .i64 i] = [id] := by rw [h3]; rfl
    have hRl : R.length ≤ 21 := by
      have h5 : R.length ≤ ([id] ++ ids).length := by rw [hR]; exact List.length_filter_le _ _
      have h6 := h.idl
      simp at h5; omega
    have hwt : wt σ R [] ≤ R.length * n := wt_le fun j hj => by
      rcases ((hRm j).1 hj).2 with rfl | hjd
      · simp only [obVs, h4]
        rw [← h.len]; exact hd1
      · obtain ⟨_, td, g', hs'⟩ := hstk j hjd
        simp [obVs, hs', dirs_tr]
    have hw2 : R.length * n ≤ 21 * 20 := Nat.mul_le_mul hRl hn
    obtain ⟨σz, z1, z2, z3, z4⟩ := freezeAll_ok (vs := [w6, nv .i64 i]) hRnd hfz (fun j hj => by rw [hdirs] at hj; simp at hj; subst hj; exact hidR) (by rw [hdirs]; simp; omega)
    have hz : σz[id]? = some (.fro us2 g) := (z4 id (by rw [hdirs]; simp)).1 cs g us2 h4 hv1
    obtain ⟨t, hc, hr⟩ := reach_ok (deps := insL n deps) (ts := us) (td := .row us n none) (n := n) (i : Int) insL_len hn (.inr ⟨none, by rw [hul]⟩) hu2 hl
    obtain ⟨t', σ', k1, k2, k3⟩ := T_iso (vs := [w6, nv .i64 i]) (R := ReachR (insL n deps) n i) T14 rfl rfl (ts := [.row us n none, nT i]) (by simp only [snapL, hsn, snap_tr]) z1 ⟨t, hc, hr⟩
    refine ⟨t', σ', k1, k2, ?_, fun j hj => ?_, ?_⟩
    · rcases k3 with rfl | rfl
      · exact .inl ⟨cs, h⟩
      · exact .inr ⟨id, g, us2, none, rfl, h3, hz, hv2⟩
    · rcases k3 with rfl | rfl
      · rfl
      · exact z3 j (fun hm => hj ((hRm j).1 hm).1)
    · rcases k3 with rfl | rfl
      · rfl
      · exact z2
  · have hul : us.length = n := by rw [hL.1, insL_len]
    have hsn : snap σ deepN (.own id g 0 n 1 cap) = some (.row us us.length cap) := by
      rw [snap_deep]; exact snapF_T hs hul.symm
    obtain ⟨t, hc, hr⟩ := reach_ok (deps := insL n deps) (ts := us) (td := .row us us.length cap) (n := n) (i : Int) insL_len hn (.inr ⟨cap, rfl⟩) hL hl
    have hz : freezeAll σ (([] : List Tree).map V.tr ++ V.own id g 0 n 1 cap :: [nT i].map V.tr) = some σ := freezeF hs
    obtain ⟨t', σ', k1, k2, k3⟩ := T_iso (vs := [.own id g 0 n 1 cap, nv .i64 i]) (R := ReachR (insL n deps) n i) T14 rfl rfl (ts := [.row us us.length cap, nT i]) (by simp only [snapL, hsn, snap_tr]) hz ⟨t, hc, hr⟩
    have : σ' = σ := by rcases k3 with h | h <;> exact h
    subst this
    exact ⟨t', σ', k1, k2, .inr ⟨id, g, us, cap, rfl, rfl, hs, hL⟩, fun _ _ => rfl, rfl⟩
end Go.Proofs.Ytknoiiacnfbkaaa.AM.Io
