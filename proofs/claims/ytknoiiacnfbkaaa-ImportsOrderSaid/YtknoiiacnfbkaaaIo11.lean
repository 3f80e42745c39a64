/- ImportsOrder: part 11. -/
import Derived.Test.YtknoiiacnfbkaaaIo10
set_option maxRecDepth 1000000
set_option linter.unusedVariables false
set_option linter.unusedSimpArgs false
namespace Go.Proofs.Ytknoiiacnfbkaaa.AM.Io
open Go.Proofs

def dep (deps : List (List Int)) (j : Nat) : List Int := (deps[j]?).getD []
/-- The lists as they are built: the outer one, those in it. -/
structure Ins (n : Nat) (deps : List (List Int)) (r ids : List Nat) (cs : List V) (w6 : V) (σ : Store) (k : Nat) : Prop where
  root : (r = [] ∧ cs = [] ∧ w6 = nilSl) ∨ ∃ id g, r = [id] ∧ cs ≠ [] ∧ w6 = .own id g 0 cs.length 1 none ∧ σ[id]? = some (.row cs g)
  len : cs.length = k
  cells : ∀ (j : Nat) (c : V), cs[j]? = some c → (c = nilSl ∧ inF n (dep deps j) = []) ∨ ∃ id ∈ ids, Stk id ((inF n (dep deps j)).map iT) c σ
  nd : (r ++ ids).Nodup
  lt : ∀ i ∈ r ++ ids, i ≠ 0 ∧ i < σ.length
  idl : ids.length ≤ k

theorem Ins.one {n : Nat} {deps : List (List Int)} {r ids : List Nat} {cs : List V} {w6 : V} {σ : Store} {k : Nat} (h : Ins n deps r ids cs w6 σ k) : cs.all oneV = true := by
  rw [List.all_eq_true]
  intro x hx
  obtain ⟨j, hj⟩ := List.getElem?_of_mem hx
  rcases h.cells j x hj with ⟨rfl, _⟩ | ⟨id, _, g, cap, pre, post, rfl, _, _⟩ <;> rfl
theorem Ins.same {n : Nat} {deps : List (List Int)} {r ids : List Nat} {cs : List V} {w6 : V} {σ σ' : Store} {k : Nat} (h : Ins n deps r ids cs w6 σ k) (hs : ∀ i ∈ r ++ ids, σ'[i]? = σ[i]?) (hl : σ.length ≤ σ'.length) : Ins n deps r ids cs w6 σ' k := by
  refine ⟨?_, h.len, fun j c hc => ?_, h.nd, fun i hi => ⟨(h.lt i hi).1, Nat.lt_of_lt_of_le (h.lt i hi).2 hl⟩, h.idl⟩
  · rcases h.root with h1 | ⟨id, g, h1, h2, h3, h4⟩
    · exact .inl h1
    · exact .inr ⟨id, g, h1, h2, h3, by rw [hs id (by rw [h1]; simp)]; exact h4⟩
  · rcases h.cells j c hc with h1 | ⟨id, h1, h2⟩
    · exact .inl h1
    · exact .inr ⟨id, h1, h2.mono (hs id (by simp [h1]))⟩
/-- One more. -/
theorem ins_app {n : Nat} {deps : List (List Int)} {r ids : List Nat} {cs : List V} {w6 w8 : V} {σ : Store} {k : Nat} (h : Ins n deps r ids cs w6 σ k) (h0 : 0 < σ.length) (hk : k ≤ 1000) (h8 : Gx (0 :: (r ++ ids)) ((inF n (dep deps k)).map iT) w8 σ) :
    ∃ x σ1 w6' σ', opBslice false 1 1 [.sc (.slice none 0 0)] [(0, 1, w8)] σ = some (x, σ1) ∧ opAppend 1 24 w6 x σ1 = some (w6', σ') ∧ (∃ r' ids' cs', Ins n deps r' ids' cs' w6' σ' (k + 1)) ∧ σ'[0]? = σ[0]? ∧ σ.length ≤ σ'.length := by
  rcases h8 with ⟨hl, rfl⟩ | ⟨idw, hidw, hne, hst⟩
  · -- an empty one
    have hb := bs1 (σ := σ) (t := .sc (.slice none 0 0)) (.sc (.slice none 0 0)) rfl
    have hx : elems σ 1 (.tr (.row [.sc (.slice none 0 0)] 1 (some 1))) = some ([nilSl], 1) := rfl
    have hg : GxV (0 :: ids) cs w6 σ := by
      rcases h.root with ⟨_, h1, h2⟩ | ⟨id, g, h1, h2, h3, h4⟩
      · exact .inl ⟨h1, h2⟩
      · refine .inr ⟨id, g, fun hm => ?_, h2, h3, h4⟩
        have h5 := h.lt id (by rw [h1]; simp)
        have h6 := h.nd
        rw [h1] at h6
        rcases List.mem_cons.1 hm with h7 | h7
        · exact h5.1 h7
        · exact (List.nodup_cons.1 h6).1 h7
    obtain ⟨w6', σ', a1, a2, a3, a4⟩ := gxv_app (c := nilSl) (b := 24) hg hx rfl h.one (by omega) (by rw [h.len]; omega) (fun i hi => by
      rcases List.mem_cons.1 hi with rfl | h1
      · exact h0
      · exact (h.lt i (by simp [h1])).2)
    refine ⟨_, σ, w6', σ', hb, a1, ?_, a3 0 (by simp), a4⟩
    rcases a2 with ⟨h1, _⟩ | ⟨id, g, b1, b2, b3, b4⟩
    · simp at h1
    refine ⟨[id], ids, cs ++ [nilSl], .inr ⟨id, g, rfl, b2, b3, b4⟩, by simp [h.len], fun j c hc => ?_, ?_, fun i hi => ?_, by have := h.idl; omega⟩
    · by_cases hj : j < cs.length
      · rw [List.getElem?_append_left hj] at hc
        rcases h.cells j c hc with h1 | ⟨id, h1, h2⟩
        · exact .inl h1
        · exact .inr ⟨id, h1, h2.mono (a3 id (by simp [h1]))⟩
      · have hj2 : j = cs.length := by
          have := (List.getElem?_eq_some_iff.1 hc).1
          simp at this; omega
        subst hj2
        simp at hc
        subst hc
        rw [h.len]
        exact .inl ⟨rfl, by simpa using hl⟩
    · have h6 := h.nd
      rw [List.nodup_append] at h6
      rw [List.singleton_append, List.nodup_cons]
      exact ⟨fun hm => b1 (by simp [hm]), h6.2.1⟩
    · rcases List.mem_append.1 hi with h1 | h1
      · simp at h1
        subst h1
        exact ⟨fun e => b1 (by simp [e]), (List.getElem?_eq_some_iff.1 b4).1⟩
      · exact ⟨(h.lt i (by simp [h1])).1, Nat.lt_of_lt_of_le (h.lt i (by simp [h1])).2 a4⟩
  · -- one with a place
    obtain ⟨g8, cap8, pre8, post8, hw8, hs8, hc8⟩ := id hst
    have how : oneV w8 = true := by rw [hw8]; rfl
    have hat : allTr [w8] = none := by rw [hw8]; rfl
    have hb := bs1own' (σ := σ) (.sc (.slice none 0 0)) how hat
    obtain ⟨σ1, hσ1⟩ : ∃ σ1, σ1 = σ ++ [.row [w8] 0] := ⟨_, rfl⟩
    rw [← hσ1] at hb
    have hs1 : ∀ i, i < σ.length → σ1[i]? = σ[i]? := fun i hi => by rw [hσ1, List.getElem?_append_left hi]
    have hx : elems σ1 1 (.own σ.length 0 0 1 1 (some 1)) = some ([w8], 1) := by
      have : obCells σ1 σ.length 0 = some [w8] := by rw [hσ1]; simp [obCells]
      simp only [elems, if_true, this]
      rfl
    have hidwl := hst.lt
    have hg : GxV (0 :: (ids ++ [idw])) cs w6 σ1 := by
      rcases h.root with ⟨_, h1, h2⟩ | ⟨id, g, h1, h2, h3, h4⟩
      · exact .inl ⟨h1, h2⟩
      · refine .inr ⟨id, g, fun hm => ?_, h2, h3, by rw [hs1 id (List.getElem?_eq_some_iff.1 h4).1]; exact h4⟩
        have h5 := h.lt id (by rw [h1]; simp)
        have h6 := h.nd
        rw [h1] at h6 hidw
        rcases List.mem_cons.1 hm with h7 | h7
        · exact h5.1 h7
        · rcases List.mem_append.1 h7 with h8 | h8
          · exact (List.nodup_cons.1 h6).1 h8
          · simp at h8
            exact hidw (by simp [h8])
    obtain ⟨w6', σ', a1, a2, a3, a4⟩ := gxv_app (c := w8) (b := 24) hg hx how h.one (by omega) (by rw [h.len]; omega) (fun i hi => by
      have hl1 : σ1.length = σ.length + 1 := by rw [hσ1]; simp
      rcases List.mem_cons.1 hi with rfl | h1
      · omega
      · rcases List.mem_append.1 h1 with h2 | h2
        · have := (h.lt i (by simp [h2])).2; omega
        · simp at h2; omega)
    have hl1 : σ1.length = σ.length + 1 := by rw [hσ1]; simp
    refine ⟨_, σ1, w6', σ', hb, a1, ?_, by rw [a3 0 (by simp), hs1 0 h0], by omega⟩
    rcases a2 with ⟨h1, _⟩ | ⟨id, g, b1, b2, b3, b4⟩
    · simp at h1
    have hsm : ∀ i ∈ ids ++ [idw], σ'[i]? = σ[i]? := by
      intro i hi
      rw [a3 i (by simp only [List.mem_cons]; exact .inr hi)]
      rcases List.mem_append.1 hi with h2 | h2
      · exact hs1 i (h.lt i (by simp [h2])).2
      · simp at h2; subst h2; exact hs1 i hidwl
    refine ⟨[id], ids ++ [idw], cs ++ [w8], .inr ⟨id, g, rfl, b2, b3, b4⟩, by simp [h.len], fun j c hc => ?_, ?_, fun i hi => ?_, by have := h.idl; simp; omega⟩
    · by_cases hj : j < cs.length
      · rw [List.getElem?_append_left hj] at hc
        rcases h.cells j c hc with h1 | ⟨id, h1, h2⟩
        · exact .inl h1
        · exact .inr ⟨id, by simp [h1], h2.mono (hsm id (by simp [h1]))⟩
      · have hj2 : j = cs.length := by
          have := (List.getElem?_eq_some_iff.1 hc).1
          simp at this; omega
        subst hj2
        simp at hc
        subst hc
        rw [h.len]
        exact .inr ⟨idw, by simp, hst.mono (hsm idw (by simp))⟩
    · have h6 := h.nd
      rw [List.nodup_append] at h6
      rw [List.singleton_append, List.nodup_cons]
      refine ⟨fun hm => b1 (by simp only [List.mem_cons]; exact .inr hm), ?_⟩
      rw [List.nodup_append]
      refine ⟨h6.2.1, by simp, fun a ha b hb => ?_⟩
      simp at hb
      subst hb
      rintro rfl
      exact hidw (by simp [ha])
    · rcases List.mem_append.1 hi with h1 | h1
      · simp at h1
        subst h1
        exact ⟨fun e => b1 (by simp [e]), (List.getElem?_eq_some_iff.1 b4).1⟩
      · rcases List.mem_append.1 h1 with h2 | h2
        · have := h.lt i (by simp [h2]); exact ⟨this.1, by omega⟩
        · simp at h2
          subst h2
          exact ⟨fun e => hidw (by simp [e]), by omega⟩

theorem ord_inside {n : Nat} {deps : List (List Int)} {ts : List Tree} {vt td : Tree} {e L : List (Nat × V)} {Q : Out → St → Prop}
    (hvl : ∀ σ, opLen 1 (.tr vt) σ = some (nv .i64 n)) (hn : n ≤ 20) (htd : Rw ts (.tr td)) (hLs : Ls deps ts) (hl : ∀ l ∈ deps, l.length ≤ 1000)
    (g1 : look e 1 = some (.tr td)) (g2 : look e 2 = some (.ptr 0 0 0)) (g6 : look e 6 = some nilSl) (g18 : look e 18 = some (nv .i64 n)) (g19 : look e 19 = some (iv 0))
    (hQ : ∀ e' L' σ r ids cs w6, Ins n deps r ids cs w6 σ n → σ[0]? = some (.row [.tr vt] 0) → look e' 2 = some (.ptr 0 0 0) → look e' 6 = some w6 → Q (.exit 0) ⟨e', L', σ⟩) :
    Wp T (.loop k12_3) ⟨e, L, [.row [.tr vt] 0]⟩ Q := by
  have hlen1 : ∀ σ, opLen 1 (.tr td) σ = some (nv .i64 deps.length) := fun σ => by rw [rw_len htd, hLs.1]
  obtain ⟨I, hI⟩ : ∃ I : Nat → St → Prop, I = (fun i s => i ≤ n ∧ ∃ e L σ r ids cs w6, s = ⟨e, L, σ⟩ ∧ Ins n deps r ids cs w6 σ i ∧ σ[0]? = some (.row [.tr vt] 0)
    ∧ look e 1 = some (.tr td) ∧ look e 2 = some (.ptr 0 0 0) ∧ look e 6 = some w6 ∧ look e 18 = some (nv .i64 n) ∧ look e 19 = some (nv .i64 i)) := ⟨_, rfl⟩
  refine wpc_up n I ?_ ?_
  · rw [hI]
    exact ⟨Nat.zero_le _, e, L, _, [], [], [], nilSl, rfl, ⟨.inl ⟨rfl, rfl, rfl⟩, rfl, fun j c h => by simp at h, by simp, by simp, by simp⟩, rfl, g1, g2, g6, g18, g19⟩
  clear g1 g2 g6 g18 g19
  intro i s hIs
  rw [hI] at hIs
  obtain ⟨hi, e, L, σ, r, ids, cs, w6, rfl, hins, h0, g1, g2, g6, g18, g19⟩ := hIs
  have h0l : 0 < σ.length := (List.getElem?_eq_some_iff.1 h0).1
  have w1 : IntKind.i64.wrap ((i : Int) + 1) = ((i + 1 : Nat) : Int) := w64 (by omega) (by omega)
  by_cases hil : i < n
  · have hil' : (i : Int) < n := by omega
    have next : ∀ e' L' σ' w6', (∃ r' ids' cs', Ins n deps r' ids' cs' w6' σ' (i + 1)) → σ'[0]? = some (.row [.tr vt] 0) → look e' 1 = some (.tr td) → look e' 2 = some (.ptr 0 0 0) → look e' 6 = some w6' → look e' 18 = some (nv .i64 n) → look e' 19 = some (nv .i64 (i + 1)) → I (i + 1) ⟨e', L', σ'⟩ := by
      rintro e' L' σ' w6' ⟨r', ids', cs', c1⟩ c2 f1 f2 f6 f18 f19
      rw [hI]
      exact ⟨by omega, e', L', σ', r', ids', cs', w6', rfl, c1, c2, f1, f2, f6, f18, f19⟩
    by_cases hdl : i < deps.length
    · have hd : deps[i]? = some deps[i] := List.getElem?_eq_getElem hdl
      obtain ⟨x, hx, hxl⟩ := hLs.at hd
      obtain ⟨l, hll⟩ : ∃ l, l = deps[i] := ⟨_, rfl⟩
      rw [← hll] at hd hxl
      have hdep : dep deps i = l := by unfold dep; rw [hd]; rfl
      have hllen : l.length ≤ 1000 := hl l (List.mem_of_getElem? hd)
      have hia := fun σ => rw_iaddr (σ := σ) htd hx .i64
      have hld := fun σ => rw_load (σ := σ) hx
      have hlx : ∀ σ, opLen 1 (.tr x) σ = some (nv .i64 l.length) := fun σ => by rw [rw_len hxl, List.length_map]
      simp [k12_3, g19, g18, hil, k12_5, g1, hlen1, hdl, hia, hld, hlx]
      refine ord_inner (B := 0 :: (r ++ ids)) (i := i) (vt := vt) (n := n) (x := x) (l := l) (td := td) (w6 := w6) (w7 := nv .i64 i) (fun i hi => ?_) (by simp) h0 hvl (by omega) hxl hllen (by simp [g1]) (by simp [g2]) (by simp [g6]) (by simp [nilSl]) (by simp [g18]) (by simp [g19]) (by simp) (by simp) (by simp) ?_
      · rcases List.mem_cons.1 hi with rfl | h1
        · exact h0l
        · exact (hins.lt i h1).2
      intro e' L' σ1 w8 c8 c1 c2 f1 f2 f6 f8 f18 f19
      have hins1 := hins.same (fun i hi => c1 i (by simp only [List.mem_cons]; exact .inr hi)) c2
      rw [← hdep] at c8
      obtain ⟨x1, σ2, w6', σ', b1, b2, b3, b4, b5⟩ := ins_app hins1 (by omega) (by omega) c8
      simp [k12_17, f6, f8, b1, b2, k12_18, f19, w1, -Int.natCast_add]
      exact next _ _ σ' w6' b3 (by rw [b4, c1 0 (by simp)]; exact h0) (by simp [f1]) (by simp [f2]) (by simp) (by simp [f18]) (by simp)
    · have hdep : dep deps i = [] := by unfold dep; rw [List.getElem?_eq_none (by omega)]; rfl
      obtain ⟨x1, σ2, w6', σ', b1, b2, b3, b4, b5⟩ := ins_app (w8 := nilSl) hins h0l (by omega) (.inl ⟨by rw [hdep]; rfl, rfl⟩)
      have b1' : opBslice false 1 1 [.sc (.slice none 0 0)] [(0, 1, .tr (.sc (.slice none 0 0)))] σ = some (x1, σ2) := b1
      simp [k12_3, g19, g18, hil, k12_5, g1, hlen1, hdl, k12_17, g6, b1', b2, k12_18, w1, -Int.natCast_add]
      exact next _ _ σ' w6' b3 (by rw [b4]; exact h0) (by simp [g1]) (by simp [g2]) (by simp) (by simp [g18]) (by simp)
  · have hie : i = n := by omega
    subst hie
    simp [k12_3, g19, g18]
    exact hQ _ _ σ r ids cs w6 hins h0 (by simp [g2]) (by simp [g6])
end Go.Proofs.Ytknoiiacnfbkaaa.AM.Io
