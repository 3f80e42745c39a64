/- ImportsOrder: part 311. -/
import Derived.Test.YtknoiiacnfbkaaaIo310
set_option maxRecDepth 1000000
set_option linter.unusedVariables false
set_option linter.unusedSimpArgs false
namespace Go.Proofs.Ytknoiiacnfbkaaa.AM.Io
open Go.Proofs

/-- A list of one's own, shut or open. -/
def Gs (ts : List Tree) (w : V) (σ : Store) : Prop := (ts = [] ∧ w = nilSl) ∨ ∃ id g, w = .own id g 0 ts.length 1 none ∧ (σ[id]? = some (.row (ts.map .tr) g) ∨ σ[id]? = some (.fro ts g))
theorem gs_call {f : FuncId} {fn : HFn} {pt : Tree} {ts : List Tree} {w : V} {σ : Store} {R : Tree → Prop} (hf : T f = some fn) (hm : fn.mode = .iso) (hl : fn.nargs = 2) (h : Gs ts w σ)
    (hr : ∀ td, Rw ts (.tr td) → ∃ t, (∀ σ, callL T f [.tr pt, .tr td] σ = some (.tr t, σ)) ∧ R t) : ∃ t σ', callL T f [.tr pt, w] σ = some (.tr t, σ') ∧ R t ∧ Gs ts w σ' := by
  rcases h with ⟨rfl, rfl⟩ | ⟨id, g, rfl, hs | hs⟩
  · obtain ⟨t, h1, h2⟩ := hr _ (.inl ⟨rfl, rfl⟩)
    exact ⟨t, σ, h1 σ, h2, .inl ⟨rfl, rfl⟩⟩
  · have hsn := snapT (σ := σ) (ts := ts) (pre := []) (post := []) (off := 0) (n := ts.length) (cap := none) (g := g) (id := id) (d := 399) (by simpa using hs) rfl (by simp)
    have hz : freezeAll σ (([pt] : List Tree).map V.tr ++ V.own id g 0 ts.length 1 none :: ([] : List Tree).map V.tr) = some (σ.set id (.fro ts g)) := freezeT hs
    obtain ⟨t', σ', k1, k2, k3⟩ := T_iso (vs := [.tr pt, .own id g 0 ts.length 1 none]) (R := R) hf hm hl (ts := [pt, .row ts ts.length none]) (by simp only [snapL, snap_deep, snap_tr, hsn]) hz (hr _ (.inr ⟨none, rfl⟩))
    refine ⟨t', σ', k1, k2, .inr ⟨id, g, rfl, ?_⟩⟩
    rcases k3 with rfl | rfl
    · exact .inl hs
    · exact .inr (List.getElem?_set_self (List.getElem?_eq_some_iff.1 hs).1)
  · have hsn := snapF_T (σ := σ) (n := ts.length) (cap := none) (d := 399) hs rfl
    have hz : freezeAll σ (([pt] : List Tree).map V.tr ++ V.own id g 0 ts.length 1 none :: ([] : List Tree).map V.tr) = some σ := freezeF hs
    obtain ⟨t', σ', k1, k2, k3⟩ := T_iso (vs := [.tr pt, .own id g 0 ts.length 1 none]) (R := R) hf hm hl (ts := [pt, .row ts ts.length none]) (by simp only [snapL, snap_deep, snap_tr, hsn]) hz (hr _ (.inr ⟨none, rfl⟩))
    have : σ' = σ := by rcases k3 with h | h <;> exact h
    subst this
    exact ⟨t', σ', k1, k2, .inr ⟨id, g, rfl, .inr hs⟩⟩

theorem imp_same {N : List (S × Nat)} {ds : List (List S)} {t t' : Tree} (h : ImpR N ds t) (h' : ImpR N ds t') : ∃ (O R : List S) (tO tO' tR tR' : Tree), O.length ≤ N.length ∧ R.length ≤ N.length ∧ Rw (O.map sT) (.tr tO) ∧ Rw (O.map sT) (.tr tO') ∧ Rw (R.map sT) (.tr tR) ∧ Rw (R.map sT) (.tr tR') ∧ t = .tup [tO, tR] ∧ t' = .tup [tO', tR'] := by
  obtain ⟨O, R, tO, tR, h1, h2, h3, h4, h5, h6, h7, rfl⟩ := h
  obtain ⟨O', R', tO', tR', h1', h2', h3', h4', h5', h6', h7', rfl⟩ := h'
  have e1 := done_uniq (S := StpI N ds) (fun _ _ _ hp hq => stpI_func hp hq) h1 h1'
  subst e1
  have e2 : R = R' := sorted_uniq (r := lt) (fun a b => lt_asym) h5 h5' (fun x => by rw [h6 x, h6' x])
  subst e2
  exact ⟨O, R, tO, tO', tR, tR', h2, h3, h4, h4', h7, h7', rfl, rfl⟩

theorem law_imports {paths : List S} {pt dt : Tree} {ds : List (List S)} {ts : List Tree} (hp : Rw (paths.map sT) (.tr pt)) (hd : Rw ts (.tr dt)) (hL : LsS ds ts) : ∃ v σ', callL T 3 [.tr pt, .tr dt] [] = some (v, σ') ∧ v = bv true := by
  refine call_shared T3 rfl rfl ?_
  have hlen0 : ∀ σ, opLen 1 (.tr pt) σ = some (nv .i64 paths.length) := fun σ => by rw [rw_len hp, List.length_map]
  have hlen1 : ∀ σ, opLen 1 (.tr dt) σ = some (nv .i64 ds.length) := fun σ => by rw [rw_len hd, hL.1]
  have e6 := begun19
  have tail : ∀ e L (paths' : List S) (pt' : Tree), Rw (paths'.map sT) (.tr pt') → paths'.length ≤ 12 → look e 0 = some (.tr pt') → look e 1 = some (.tr dt) → look e 5 = some (bv true) → wpc T k3_3 ⟨e, L, []⟩ (giv [.tmp 4] fun v σ' => v = bv true) := by
    intro e L paths' pt' hp' hpl g0 g1 g5
    simp [k3_3]
    obtain ⟨I, hI⟩ : ∃ I : Nat → St → Prop, I = (fun i s => i ≤ ds.length ∧ i ≤ 14 ∧ ∃ e L σ w6 us, s = ⟨e, L, σ⟩ ∧ GxV [] (us.map .tr) w6 σ ∧ LsS ((ds.take i).map (List.take 8)) us ∧ look e 0 = some (.tr pt') ∧ look e 1 = some (.tr dt) ∧ look e 5 = some (bv true) ∧ look e 6 = some w6 ∧ look e 7 = some (nv .i64 i)) := ⟨_, rfl⟩
    refine wpc_up ds.length I ?_ ?_
    · rw [hI]
      exact ⟨Nat.zero_le _, by omega, _, _, [], nilSl, [], rfl, .inl ⟨rfl, rfl⟩, ⟨rfl, fun i x l h => by simp at h⟩, by simp [g0], by simp [g1], by simp [g5], by simp [nilSl], by simp⟩
    clear g0 g1 g5
    intro i s hIs
    rw [hI] at hIs
    obtain ⟨hi, hi14, e, L, σ, w6, us, rfl, hw, hU, g0, g1, g5, g6, g7⟩ := hIs
    have fin : ∀ L, wpc T k3_13 ⟨e, L, σ⟩ (giv [.tmp 4] fun v σ' => v = bv true) := by
      intro L
      have hg : Gs us w6 σ := by
        rcases hw with ⟨h1, rfl⟩ | ⟨id, g, _, _, rfl, h1⟩
        · exact .inl ⟨by simpa using h1, rfl⟩
        · exact .inr ⟨id, g, by rw [List.length_map], .inl h1⟩
      have hcl : ∀ l ∈ (ds.take i).map (List.take 8), l.length ≤ 1000 := by
        intro l hl
        obtain ⟨m, _, rfl⟩ := List.mem_map.1 hl
        rw [List.length_take]; omega
      obtain ⟨t1, σ1, c1, r1, hg1⟩ := gs_call (f := 7) (R := ImpR (prs paths' paths'.length) ((ds.take i).map (List.take 8))) T7 rfl rfl hg (fun td htd => iorder_ok hp' hpl htd hU hcl)
      obtain ⟨t2, σ2, c2, r2, hg2⟩ := gs_call (f := 8) (R := ImpR (prs paths' paths'.length) ((ds.take i).map (List.take 8))) T8 rfl rfl hg1 (fun td htd => rimports_ok hp' hpl htd hU hcl)
      obtain ⟨O, R, tO, tO', tR, tR', o1, o2, o3, o4, o5, o6, rfl, rfl⟩ := imp_same r1 r2
      have hNl := prs_len paths' paths'.length
      have l1 := lists_ok o3 o4 (by omega)
      have l2 := lists_ok o5 o6 (by omega)
      simp [k3_13, g0, g6, c1, c2, opExtract, g5, l1, l2]
    by_cases hil : i < ds.length
    · by_cases hi2 : i < 14
      · have hi2' : (i : Int) < 14 := by omega
        obtain ⟨l, hl⟩ : ∃ l, ds[i]? = some l := ⟨_, List.getElem?_eq_getElem hil⟩
        obtain ⟨x, hx, hxl⟩ := hL.at hl
        have hia := fun σ => rw_iaddr (σ := σ) hd hx .i64
        have hld := fun σ => rw_load (σ := σ) hx
        have hll : ∀ σ, opLen 1 (.tr x) σ = some (nv .i64 l.length) := fun σ => by rw [rw_len hxl, List.length_map]
        have w1 : IntKind.i64.wrap ((i : Int) + 1) = ((i + 1 : Nat) : Int) := w64 (by omega) (by omega)
        have hul : us.length ≤ 14 := by rw [hU.1]; simp; omega
        have htk : (ds.take (i + 1)).map (List.take 8) = (ds.take i).map (List.take 8) ++ [l.take 8] := by rw [List.take_add_one, hl]; simp
        have step : ∀ x', Rw ((l.take 8).map sT) (.tr x') → ∃ w' σ', opAppend 1 24 w6 (.tr (.row [x'] 1 (some 1))) σ = some (w', σ') ∧ GxV [] ((us ++ [x']).map .tr) w' σ' ∧ LsS ((ds.take (i + 1)).map (List.take 8)) (us ++ [x']) := by
          intro x' hx'
          obtain ⟨w', σ', b1, b2, b3, b4⟩ := gxv_app (c := .tr x') (x := .tr (.row [x'] 1 (some 1))) (b := 24) hw rfl (rw_one hx') (by rw [List.all_eq_true]; intro v hv; obtain ⟨t, ht, rfl⟩ := List.mem_map.1 hv; exact hU.ones t ht) (by omega) (by simp; omega) (fun i hi => by simp at hi)
          refine ⟨w', σ', b1, by simpa using b2, ?_⟩
          rw [htk]
          refine ⟨by simp [hU.1], fun j y m hy hm => ?_⟩
          by_cases hj : j < us.length
          · rw [List.getElem?_append_left hj] at hy
            rw [List.getElem?_append_left (by rw [← hU.1]; exact hj)] at hm
            exact hU.2 j y m hy hm
          · have hj2 : j = us.length := by
              have := (List.getElem?_eq_some_iff.1 hy).1
              simp at this; omega
            subst hj2
            rw [List.getElem?_append_right (by omega)] at hy
            rw [List.getElem?_append_right (by rw [← hU.1]; omega), ← hU.1] at hm
            simp at hy hm
            subst hy
            subst hm
            exact hx'
        by_cases h8 : 8 < l.length
        · have h8' : (8 : Int) < l.length := by omega
          obtain ⟨x', hc, hr⟩ := rw_cut_hi hxl (n := 8) (by simp; omega) .i64
          have hc' : ∀ σ, opSlice 1 (.tr x) none (some (.tr (.sc (.int .i64 8)))) none σ = some (.tr x') := hc
          rw [← List.map_take] at hr
          obtain ⟨w', σ', b1, b2, b3⟩ := step x' hr
          have hbs := fun σ => bs1 (σ := σ) (t := x') (.sc (.slice none 0 0)) (rw_one hr)
          simp [k3_6, g7, g1, hlen1, hil, hi2, hi2', k3_8, hia, hld, hll, h8, h8', hc', k3_11, g6, hbs, b1, k3_12, w1, -Int.natCast_add]
          rw [hI]
          exact ⟨by omega, by omega, _, _, σ', w', _, rfl, b2, b3, by simp [g0], by simp [g1], by simp [g5], by simp, by simp⟩
        · have h8' : ¬ (8 : Int) < l.length := by omega
          have hr : Rw ((l.take 8).map sT) (.tr x) := by rw [List.take_of_length_le (by omega)]; exact hxl
          obtain ⟨w', σ', b1, b2, b3⟩ := step x hr
          have hbs := fun σ => bs1 (σ := σ) (t := x) (.sc (.slice none 0 0)) (rw_one hr)
          simp [k3_6, g7, g1, hlen1, hil, hi2, hi2', k3_8, hia, hld, hll, h8, h8', k3_11, g6, hbs, b1, k3_12, w1, -Int.natCast_add]
          rw [hI]
          exact ⟨by omega, by omega, _, _, σ', w', _, rfl, b2, b3, by simp [g0], by simp [g1], by simp [g5], by simp, by simp⟩
      · have hi2' : ¬ (i : Int) < 14 := by omega
        simp [k3_6, g7, g1, hlen1, hil, hi2, hi2']
        exact fin _
    · simp [k3_6, g7, g1, hlen1, hil]
      exact fin _
  obtain ⟨k0, hk0⟩ : ∃ k, k = paths.length := ⟨_, rfl⟩
  rw [← hk0] at hlen0
  by_cases h12 : 12 < k0
  · have h12' : (12 : Int) < k0 := by omega
    obtain ⟨t', hc, hr⟩ := rw_cut_hi hp (n := 12) (by simp; omega) .i64
    have hc' : ∀ σ, opSlice 1 (.tr pt) none (some (.tr (.sc (.int .i64 12)))) none σ = some (.tr t') := hc
    rw [← List.map_take] at hr
    simp [e6, hlen0, h12, h12', hc']
    exact tail _ _ (paths.take 12) t' hr (by rw [List.length_take]; omega) (by simp) (by simp) (by simp)
  · have h12' : ¬ (12 : Int) < k0 := by omega
    simp [e6, hlen0, h12, h12']
    exact tail _ _ paths pt hp (by omega) (by simp) (by simp) (by simp)
end Go.Proofs.Ytknoiiacnfbkaaa.AM.Io
