/- ImportsOrder: part 6. -/
import Derived.Test.YtknoiiacnfbkaaaIo5
set_option maxRecDepth 1000000
set_option linter.unusedVariables false
set_option linter.unusedSimpArgs false
namespace Go.Proofs.Ytknoiiacnfbkaaa.AM.Io
open Go.Proofs

theorem sc_none {n : Nat} {deps : List (List Int)} {i : Nat} (h : deps.length ≤ i) : sc n deps i = [] := by
  unfold sc
  rw [List.getElem?_eq_none h]; rfl

theorem rreach_ok {deps : List (List Int)} {ts : List Tree} {td : Tree} {n : Nat} (frm : Int) (hn20 : n ≤ 20) (hdl : deps.length ≤ 1000) (htd : Rw ts (.tr td)) (hLs : Ls deps ts) (hl : ∀ l ∈ deps, l.length ≤ 1000) :
    ∃ t, (∀ σ, callL T 15 [nv .i64 n, .tr td, iv frm] σ = some (.tr t, σ)) ∧ RReachR deps n frm t := by
  refine call_iso (ts := [nT n, td, iT frm]) T15 rfl rfl ?_
  have hlen1 : ∀ σ, opLen 1 (.tr td) σ = some (nv .i64 deps.length) := fun σ => by rw [rw_len htd, hLs.1]
  have hbs : ∀ σ, opBslice true 1 1 [.sc (.int .i64 0)] [(0, 1, .tr (iT frm))] σ = some (.own σ.length 0 0 1 1 (some 1), σ ++ [.row [.tr (iT frm)] 0]) := fun σ => bs1own _ rfl
  have hmk : opMkslice [.sc (.bool false)] 1 (.tr (nT n)) (.tr (nT n)) ([] : Store) = some (.own 0 0 0 n 1 (some n), [.row (((List.replicate n false).map bT).map .tr) 0]) := by
    have := mkT (n := n) (b := 1) (σ := []) (.sc (.bool false)) (by omega) (by omega)
    rw [List.map_replicate]
    exact this
  have fin : ∀ (bs : List Bool) (σ : Store), σ[0]? = some (.row ((bs.map bT).map .tr) 0) → bs.length = n → snap σ (399 + 1) (.own 0 0 0 n 1 (some n)) = some (.row (bs.map bT) n (some n)) := by
    intro bs σ h hb
    have := snapT (ts := bs.map bT) (pre := []) (post := []) (off := 0) (n := n) (cap := some n) (d := 399) (by simpa using h) rfl (by simp [hb])
    simpa [hb] using this
  by_cases hin : 0 ≤ frm ∧ frm < n
  · obtain ⟨f, hf⟩ : ∃ f : Nat, frm = (f : Int) := ⟨frm.toNat, by omega⟩
    subst hf
    have hfn : f < n := by omega
    have hf0 : ¬ (f : Int) < 0 := by omega
    have hfn' : ¬ n ≤ f := by omega
    obtain ⟨ob, hob⟩ : ∃ ob, ob = Ob.row (((List.replicate n false).map bT).map .tr) 0 := ⟨_, rfl⟩
    rw [← hob] at hmk
    simp [hmk, hf0, hfn', k15_4, hbs]
    obtain ⟨I, hI⟩ : ∃ I : Nat → St → Prop, I = (fun m s => m ≤ 2 * n + 1 ∧ ∃ e L σ id8 w8 todo out bs, s = ⟨e, L, σ⟩ ∧ Stk id8 (todo.map nT) w8 σ ∧ id8 ≠ 0 ∧ σ[0]? = some (.row ((bs.map bT).map .tr) 0) ∧ bs.length = n ∧ Mk bs out ∧ Wl (sc n deps) f out todo ∧ (∀ y ∈ out, y < n) ∧ 2 * (n - out.length) + todo.length ≤ m
      ∧ look e 0 = some (nv .i64 n) ∧ look e 1 = some (.tr td) ∧ look e 7 = some (.own 0 0 0 n 1 (some n)) ∧ look e 8 = some w8) := ⟨_, rfl⟩
    refine wpc_loop I (2 * n + 1) _ ?_ ?_
    · rw [hI]
      refine ⟨Nat.le_refl _, _, _, _, 1, _, [f], [], List.replicate n false, rfl, ⟨0, some 1, [], [], rfl, rfl, fun c hc => by cases hc; simp⟩, by decide, by rw [hob]; rfl, by simp, fun x => ?_, Wl.start, by simp, by simp, by simp, by simp, by simp, by simp⟩
      simp [List.getElem?_replicate]
    intro m s hIs
    rw [hI] at hIs
    obtain ⟨hm1, e, L, σ, id8, w8, todo, out, bs, rfl, h8, h80, h7, hbl, hmkk, hw, hlt, hme, g0, g1, g7, g8⟩ := hIs
    cases todo with
    | nil =>
      have hl8 := h8.len
      simp [k15_6, g8, hl8, k15_21, g7, snap_deep]
      refine ⟨_, fin bs σ h7 hbl, bs, hbl, ⟨_, rfl⟩, fun x => ?_⟩
      rw [hmkk x, hw.all]
      simp [hfn]
    | cons a t =>
      have han : a < n := by
        rcases hw.todo_in a (by simp) with rfl | h
        · exact hfn
        · exact hlt a h
      have hl8 : opLen 1 w8 σ = some (nv .i64 (t.length + 1)) := by rw [h8.len]; simp
      have hpos : (0 : Int) < ((t.length + 1 : Nat) : Int) := by omega
      obtain ⟨p, p1, p2⟩ := h8.load (i := 0) (t := nT a) (by simp) .i64
      obtain ⟨w8', q1, q2⟩ := stk_pop1 (t := nT a) (td := t.map nT) h8 .i64
      have hme' : 2 * (n - out.length) + t.length + 1 ≤ m := by simpa [Nat.add_assoc] using hme
      have hpop : WlI (sc n deps) f a [] out t := hw.pop (fun y => by simp)
      have p1' : opIaddr 1 w8 (.tr (.sc (.int .i64 0))) σ = some p := p1
      by_cases hda : a < deps.length
      · have hda' : ¬ deps.length ≤ a := by omega
        have hd : deps[a]? = some deps[a] := List.getElem?_eq_getElem hda
        obtain ⟨x, hx, hxl⟩ := hLs.at hd
        obtain ⟨l, hll⟩ : ∃ l, l = deps[a] := ⟨_, rfl⟩
        rw [← hll] at hd hxl
        have hllen : l.length ≤ 1000 := hl l (List.mem_of_getElem? hd)
        simp [k15_6, g8, hl8, hpos, k15_8, p1', p2, q1, g1, hlen1, hda', k15_12, -Int.natCast_add]
        refine rreach_inner (from_ := f) (at_ := a) (m0 := m - 1) (todo := t) (out := out) (bs := bs) (w8 := w8') (id8 := id8) hn20 (by omega) htd hx hxl hllen (sc_fl hd) q2 h80 h7 hbl hmkk hpop hlt (by omega) (by simp [g0]) (by simp [g1]) (by simp [g7]) (by simp) (by simp) (by simp) ?_
        intro e' L' σ' id8 w8 todo out bs c8 c80 c7 cbl cmk cw clt cme f0 f1 f7 f8
        simp
        refine ⟨m - 1, by omega, ?_⟩
        rw [hI]
        exact ⟨by omega, e', L', σ', id8, w8, todo, out, bs, rfl, c8, c80, c7, cbl, cmk, cw, clt, cme, f0, f1, f7, f8⟩
      · have hda' : deps.length ≤ a := by omega
        simp [k15_6, g8, hl8, hpos, k15_8, p1', p2, q1, g1, hlen1, hda', -Int.natCast_add]
        refine ⟨m - 1, by omega, ?_⟩
        rw [hI]
        exact ⟨by omega, _, _, σ, id8, w8', t, out, bs, rfl, q2, h80, h7, hbl, hmkk, hpop.skip (sc_none hda'), hlt, by omega, by simp [g0], by simp [g1], by simp [g7], by simp⟩
  · have hr : ∀ x : Nat, (List.replicate n false)[x]? = some true ↔ (0 ≤ frm ∧ frm < n ∧ Rch (sc n deps) frm.toNat x) := by
      intro x
      constructor
      · intro h; simp [List.getElem?_replicate] at h
      · rintro ⟨h1, h2, _⟩; exact absurd ⟨h1, h2⟩ hin
    have hfin := fin (List.replicate n false) [.row (((List.replicate n false).map bT).map .tr) 0] rfl (by simp)
    obtain ⟨ob, hob⟩ : ∃ ob, ob = Ob.row (((List.replicate n false).map bT).map .tr) 0 := ⟨_, rfl⟩
    rw [← hob] at hmk hfin
    by_cases h0 : frm < 0
    · simp [hmk, h0, snap_deep]
      exact ⟨_, hfin, List.replicate n false, by simp, ⟨_, rfl⟩, hr⟩
    · have h1 : (n : Int) ≤ frm := by omega
      simp [hmk, h0, h1, snap_deep]
      exact ⟨_, hfin, List.replicate n false, by simp, ⟨_, rfl⟩, hr⟩

/-- Lists that are not too long. -/
theorem cut_ok {deps : List (List Int)} {ts : List Tree} {td : Tree} {n : Nat} (htd : Rw ts (.tr td)) (hLs : Ls deps ts) (hn : n ≤ 1000) :
    ∃ t, (∀ σ, callL T 11 [.tr td, nv .i64 n] σ = some (.tr t, σ)) ∧ ∃ us, Rw us (.tr t) ∧ Ls ((deps.take n).map (List.take 8)) us := by
  refine call_iso (ts := [td, nT n]) T11 rfl rfl ?_
  have hlen1 : ∀ σ, opLen 1 (.tr td) σ = some (nv .i64 deps.length) := fun σ => by rw [rw_len htd, hLs.1]
  simp
  obtain ⟨I, hI⟩ : ∃ I : Nat → St → Prop, I = (fun i s => i ≤ deps.length ∧ i ≤ n ∧ ∃ e L σ w us, s = ⟨e, L, σ⟩ ∧ Gx [] us w σ ∧ Ls ((deps.take i).map (List.take 8)) us ∧ look e 0 = some (.tr td) ∧ look e 1 = some (nv .i64 n) ∧ look e 5 = some w ∧ look e 6 = some (nv .i64 i)) := ⟨_, rfl⟩
  refine wpc_up n I ?_ ?_
  · rw [hI]
    exact ⟨Nat.zero_le _, Nat.zero_le _, _, _, _, _, [], rfl, .inl ⟨rfl, rfl⟩, ⟨by simp, fun i x l h => by simp at h⟩, by simp, by simp, by simp [nilSl], by simp⟩
  intro i s hIs
  rw [hI] at hIs
  obtain ⟨hi, hin, e, L, σ, w, us, rfl, hw, hus, g0, g1, g5, g6⟩ := hIs
  by_cases hlt : i < deps.length ∧ i < n
  · obtain ⟨h1, h2⟩ := hlt
    have h2' : (i : Int) < n := by omega
    have hd : deps[i]? = some deps[i] := List.getElem?_eq_getElem h1
    obtain ⟨x, hx, hxl⟩ := hLs.at hd
    obtain ⟨l, hll⟩ : ∃ l, l = deps[i] := ⟨_, rfl⟩
    rw [← hll] at hd hxl
    have hia := fun σ => rw_iaddr (σ := σ) htd hx .i64
    have hld := fun σ => rw_load (σ := σ) hx
    have hlx : ∀ σ, opLen 1 (.tr x) σ = some (nv .i64 l.length) := fun σ => by rw [rw_len hxl, List.length_map]
    have w1 : IntKind.i64.wrap ((i : Int) + 1) = ((i + 1 : Nat) : Int) := w64 (by omega) (by omega)
    have step : ∀ (y : Tree), Rw ((l.take 8).map iT) (.tr y) → Ls ((deps.take (i + 1)).map (List.take 8)) (us ++ [y]) := by
      intro y hy
      refine ⟨?_, fun j z m hz hm => ?_⟩
      · have := hus.1
        simp at this ⊢
        omega
      · rw [List.take_add_one, hd, List.map_append] at hm
        have hul := hus.1
        by_cases hj : j < us.length
        · rw [List.getElem?_append_left hj] at hz
          rw [List.getElem?_append_left (by rw [← hul]; exact hj)] at hm
          exact hus.2 j z m hz hm
        · have hj2 : j = us.length := by
            have := (List.getElem?_eq_some_iff.1 hz).1
            simp at this; omega
          subst hj2
          rw [List.getElem?_append_right (by omega)] at hz
          rw [List.getElem?_append_right (by rw [← hul]; omega), ← hul] at hm
          simp at hz hm
          subst hz
          subst hm
          exact hy
    have next : ∀ (y : Tree) (w' : V) (σ' : Store) e' L', Rw ((l.take 8).map iT) (.tr y) → Gx [] (us ++ [y]) w' σ' → look e' 0 = some (.tr td) → look e' 1 = some (nv .i64 n) → look e' 5 = some w' → look e' 6 = some (nv .i64 (i + 1)) → I (i + 1) ⟨e', L', σ'⟩ := by
      intro y w' σ' e' L' hy hw' f0 f1 f5 f6
      rw [hI]
      exact ⟨by omega, by omega, e', L', σ', w', us ++ [y], rfl, hw', step y hy, f0, f1, f5, f6⟩
    have hul : us.length ≤ 1000 := by
      have := hus.1
      simp at this; omega
    by_cases h8 : 8 < l.length
    · have h8' : (8 : Int) < l.length := by omega
      obtain ⟨y, hc, hy⟩ := rw_cut_hi hxl (n := 8) (by simp; omega) .i64
      have hc' : ∀ σ, opSlice 1 (.tr x) none (some (.tr (.sc (.int .i64 8)))) none σ = some (.tr y) := hc
      rw [← List.map_take] at hy
      obtain ⟨w', σ', a1, a2, _⟩ := gx_app (t := y) (b := 24) hw (rw_one hy) hus.ones (by omega) (by omega) (some 1) (by simp)
      have hbl := fun σ => bs1 (σ := σ) (t := y) (.sc (.slice none 0 0)) (rw_one hy)
      simp [k11_3, g6, g0, hlen1, h1, g1, h2, h2', k11_5, hia, hld, hlx, h8, h8', hc', k11_8, g5, hbl, a1, k11_9, w1, -Int.natCast_add]
      exact next y w' σ' _ _ hy a2 (by simp [g0]) (by simp [g1]) (by simp) (by simp)
    · have h8' : ¬ (8 : Int) < l.length := by omega
      have hy : Rw ((l.take 8).map iT) (.tr x) := by rw [List.take_of_length_le (by omega)]; exact hxl
      obtain ⟨w', σ', a1, a2, _⟩ := gx_app (t := x) (b := 24) hw (rw_one hy) hus.ones (by omega) (by omega) (some 1) (by simp)
      have hbl := fun σ => bs1 (σ := σ) (t := x) (.sc (.slice none 0 0)) (rw_one hy)
      simp [k11_3, g6, g0, hlen1, h1, g1, h2, h2', k11_5, hia, hld, hlx, h8, h8', k11_8, g5, hbl, a1, k11_9, w1, -Int.natCast_add]
      exact next x w' σ' _ _ hy a2 (by simp [g0]) (by simp [g1]) (by simp) (by simp)
  · obtain ⟨t, hs, ht⟩ := hw.snap 399
    have hres : (deps.take i) = deps.take n := by
      rcases Nat.lt_or_ge i n with h | h
      · have : i = deps.length := by omega
        subst this
        rw [List.take_of_length_le (Nat.le_refl _), List.take_of_length_le (by omega)]
      · rw [show i = n by omega]
    rw [hres] at hus
    by_cases h1 : i < deps.length
    · have h2 : ¬ (i : Int) < n := by omega
      have h2' : ¬ i < n := by omega
      simp [k11_3, g6, g0, hlen1, h1, g1, h2, h2', k11_10, g5]
      exact ⟨t, hs, us, ht, by simpa using hus⟩
    · simp [k11_3, g6, g0, hlen1, h1, k11_10, g5]
      exact ⟨t, hs, us, ht, by simpa using hus⟩
end Go.Proofs.Ytknoiiacnfbkaaa.AM.Io
