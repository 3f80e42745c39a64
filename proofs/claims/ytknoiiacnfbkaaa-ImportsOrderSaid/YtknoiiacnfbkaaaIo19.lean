/- ImportsOrder: part 19. -/
import Derived.Test.YtknoiiacnfbkaaaIo18
set_option maxRecDepth 1000000
set_option linter.unusedVariables false
set_option linter.unusedSimpArgs false
namespace Go.Proofs.Ytknoiiacnfbkaaa.AM.Io
open Go.Proofs

theorem rinit_take {vs : List Bool} {vt td : Tree} {n : Nat} {s : Nat → List Nat} {rts : List Tree} {e L : List (Nat × V)}
    (hv : varsT vs vt) (hvn : vs.length = n) (hn : n ≤ 20) (hcy : ¬ Cyc vs s) (hr : ∀ i, i < n → ∃ t, rts[i]? = some t ∧ RB n s i t)
    (g0 : look e 0 = some (.tr vt)) (g1 : look e 1 = some (.tr td)) (g6 : look e 6 = some (nv .i64 n)) (g7 : look e 7 = some (.own 0 0 0 n 1 (some n))) (g8 : look e 8 = some (nv .i64 (cnt vs n))) :
    wpc T k13_15 ⟨e, L, [.row (rts.map .tr) 0]⟩ (giv [.tmp 4, .tmp 5] fun v σ => ∃ t, snap σ deepN v = some t ∧ OrdR vs s t) := by
  obtain ⟨ob, hob⟩ : ∃ ob, ob = Ob.row (((List.replicate n false).map bT).map .tr) 0 := ⟨_, rfl⟩
  obtain ⟨o7, ho7⟩ : ∃ ob, ob = Ob.row (rts.map .tr) 0 := ⟨_, rfl⟩
  rw [← ho7]
  have hmk : opMkslice [.sc (.bool false)] 1 (nv .i64 n) (nv .i64 n) [o7] = some (.own 1 0 0 n 1 (some n), [o7, ob]) := by
    have := mkT (n := n) (b := 1) (σ := [o7]) (.sc (.bool false)) (by omega) (by omega)
    rw [hob, List.map_replicate]
    exact this
  simp [k13_15, g6, hmk]
  obtain ⟨I, hI⟩ : ∃ I : Nat → St → Prop, I = (fun m st => ∃ e L σ O dn w11, st = ⟨e, L, σ⟩ ∧ n = m + O.length ∧ ChainOk (Stp vs s) O ∧ dn.length = n ∧ Mk dn O ∧ σ[0]? = some (.row (rts.map .tr) 0) ∧ σ[1]? = some (.row ((dn.map bT).map .tr) 0) ∧ Gx [0, 1] (O.map nT) w11 σ
    ∧ look e 0 = some (.tr vt) ∧ look e 1 = some (.tr td) ∧ look e 6 = some (nv .i64 n) ∧ look e 7 = some (.own 0 0 0 n 1 (some n)) ∧ look e 8 = some (nv .i64 (cnt vs n)) ∧ look e 10 = some (.own 1 0 0 n 1 (some n)) ∧ look e 11 = some w11) := ⟨_, rfl⟩
  refine wpc_loop I n _ ?_ ?_
  · rw [hI]
    exact ⟨_, _, _, [], List.replicate n false, nilSl, rfl, by simp, ChainOk.nil, by simp, fun x => by simp [List.getElem?_replicate], by rw [ho7]; rfl, by rw [hob]; rfl, .inl ⟨rfl, rfl⟩, by simp [g0], by simp [g1], by simp [g6], by simp [g7], by simp [g8], by simp, by simp [nilSl]⟩
  clear g0 g1 g6 g7 g8
  intro m st hIs
  rw [hI] at hIs
  obtain ⟨e, L, σ, O, dn, w11, rfl, hm, hch, hdn, hdk, h7, h10, h11, g0, g1, g6, g7, g8, g10, g11⟩ := hIs
  have hl11 := h11.len
  rw [List.length_map] at hl11
  by_cases hlt : O.length < cnt vs n
  · have hlt' : (O.length : Int) < (cnt vs n : Int) := by omega
    simp [k13_18, g11, hl11, g8, hlt, hlt', k13_20]
    refine rpick (w11 := w11) (td := .tr td) (O := O) (dn := dn) (s := s) (rts := rts) hv hvn hn hcy hdn hdk hch hlt h7 h10 h11 hr (by simp [g0]) (by simp [g1]) (by simp [g6]) (by simp [g7]) (by simp [g8]) (by simp [g10]) (by simp [g11]) (by simp) ?_
    intro e' L' q w11' σ' hstp c7 c10 c11 f0 f1 f6 f7 f8 f10 f11
    obtain ⟨nd, hvv⟩ := chain_len (hch.snoc hstp)
    have hlen : (O ++ [q]).length ≤ n := nodup_len n _ nd (fun y hy => by rw [← hvn]; exact (hvv y hy).1)
    have hqn : q < n := by rw [← hvn]; exact (hvv q (by simp)).1
    simp at hlen
    simp
    refine ⟨m - 1, by omega, ?_⟩
    rw [hI]
    refine ⟨e', L', σ', O ++ [q], dn.set q true, w11', rfl, by simp; omega, hch.snoc hstp, by simpa using hdn, fun x => ?_, c7, c10, c11, f0, f1, f6, f7, f8, f10, f11⟩
    by_cases hx : x = q
    · subst hx
      rw [List.getElem?_set_self (by omega)]
      simp
    · rw [List.getElem?_set_ne (Ne.symm hx), hdk x]
      simp [hx]
  · obtain ⟨t0, hs0, ht0⟩ := snap_mk2 h11 true
    have hlt' : ¬ (O.length : Int) < (cnt vs n : Int) := by omega
    simp [k13_18, g11, hl11, g8, hlt, hlt', k13_37, hs0]
    exact .inr ⟨hcy, O, t0, ⟨hch, fun p hp => rdy_no hvn hch (by omega) p hp.1⟩, ht0, by omega, rfl⟩

theorem rinit_ok {deps : List (List Int)} {ts : List Tree} {td vt : Tree} {vs : List Bool} {n : Nat} (hv : varsT vs vt) (hvn : vs.length = n) (hn : n ≤ 20) (hdl : deps.length ≤ 1000) (htd : Rw ts (.tr td)) (hLs : Ls deps ts) (hl : ∀ l ∈ deps, l.length ≤ 1000) :
    ∃ t, (∀ σ, callL T 13 [.tr vt, .tr td] σ = some (.tr t, σ)) ∧ OrdR vs (sc n deps) t := by
  refine call_iso (ts := [vt, td]) T13 rfl rfl ?_
  have hvl : ∀ σ, opLen 1 (.tr vt) σ = some (nv .i64 n) := fun σ => by rw [rw_len hv, List.length_map, hvn]
  obtain ⟨ob, hob⟩ : ∃ ob, ob = Ob.row ((List.replicate n (Tree.sc (.slice none 0 0))).map .tr) 0 := ⟨_, rfl⟩
  have hmk : opMkslice [.sc (.slice none 0 0)] 24 (nv .i64 n) (nv .i64 n) ([] : Store) = some (.own 0 0 0 n 1 (some n), [ob]) := by
    rw [hob]
    exact mkT (n := n) (b := 24) (σ := []) (.sc (.slice none 0 0)) (by omega) (by omega)
  simp [hvl, hmk]
  obtain ⟨I, hI⟩ : ∃ I : Nat → St → Prop, I = (fun i st => i ≤ n ∧ ∃ e L, ∃ rts : List Tree, st = ⟨e, L, [.row (rts.map V.tr) 0]⟩ ∧ rts.length = n ∧ (∀ j, j < i → ∃ t, rts[j]? = some t ∧ RB n (sc n deps) j t) ∧ (∀ j, j < i → vs[j]? = some true → ¬ Rch (sc n deps) j j)
    ∧ look e 0 = some (.tr vt) ∧ look e 1 = some (.tr td) ∧ look e 6 = some (nv .i64 n) ∧ look e 7 = some (.own 0 0 0 n 1 (some n)) ∧ look e 8 = some (nv .i64 (cnt vs i)) ∧ look e 9 = some (nv .i64 i)) := ⟨_, rfl⟩
  refine wpc_up n I ?_ ?_
  · rw [hI]
    exact ⟨Nat.zero_le _, _, _, List.replicate n (.sc (.slice none 0 0)), by rw [hob], by simp, fun j hj => by omega, fun j hj => by omega, by simp, by simp, by simp, by simp, by simp [cnt], by simp⟩
  intro i st hIs
  rw [hI] at hIs
  obtain ⟨hi, e, L, rts, rfl, hrl, hrr, hnc, g0, g1, g6, g7, g8, g9⟩ := hIs
  by_cases hin : i < n
  · have hin' : (i : Int) < n := by omega
    obtain ⟨t, hc, bs, hbl, ⟨c, rfl⟩, hbm⟩ := rreach_ok (n := n) (i : Int) hn hdl htd hLs hl
    have hbm' : ∀ x, bs[x]? = some true ↔ Rch (sc n deps) i x := fun x => by
      rw [hbm x]
      constructor
      · rintro ⟨_, _, h⟩; simpa using h
      · intro h; exact ⟨by omega, hin', by simpa using h⟩
    have hs0 : ([.row (rts.map .tr) 0] : Store)[0]? = some (.row (rts.map .tr) 0) := rfl
    have hia : opIaddr 1 (.own 0 0 0 n 1 (some n)) (.tr (.sc (.int .i64 (i : Int)))) [.row (rts.map .tr) 0] = some (.ptr 0 0 (0 + i)) := own_iaddr hs0 hin
    rw [Nat.zero_add] at hia
    have hso : opStore 1 (.ptr 0 0 i) (.tr (.row (bs.map bT) n c)) [.row (rts.map .tr) 0] = some [.row ((rts.set i (.row (bs.map bT) n c)).map .tr) 0] := by
      rw [ownT_store hs0 (by omega) rfl]; rfl
    obtain ⟨o1, ho1⟩ : ∃ o, o = Ob.row (rts.map .tr) 0 := ⟨_, rfl⟩
    obtain ⟨o2, ho2⟩ : ∃ o, o = Ob.row ((rts.set i (.row (bs.map bT) n c)).map .tr) 0 := ⟨_, rfl⟩
    rw [← ho1] at hia
    rw [← ho1, ← ho2] at hso
    have hs2 : ([o2] : Store)[0]? = some (.row ((rts.set i (.row (bs.map bT) n c)).map .tr) 0) := by rw [ho2]; rfl
    have hia2 : opIaddr 1 (.own 0 0 0 n 1 (some n)) (.tr (.sc (.int .i64 (i : Int)))) [o2] = some (.ptr 0 0 (0 + i)) := own_iaddr hs2 hin
    rw [Nat.zero_add] at hia2
    have hld2 : opLoad 1 false (.ptr 0 0 i) [o2] = some (.tr (.row (bs.map bT) n c)) := ownT_load hs2 (by rw [List.getElem?_set_self (by omega)])
    obtain ⟨v, hvv⟩ : ∃ b, vs[i]? = some b := ⟨_, List.getElem?_eq_getElem (by omega)⟩
    obtain ⟨q, hq⟩ : ∃ b, bs[i]? = some b := ⟨_, List.getElem?_eq_getElem (by omega)⟩
    have hvT : (vs.map bT)[i]? = some (bT v) := by rw [List.getElem?_map, hvv]; rfl
    have hqT : (bs.map bT)[i]? = some (bT q) := by rw [List.getElem?_map, hq]; rfl
    have hiaV := fun σ => rw_iaddr (σ := σ) hv hvT .i64
    have hldV := fun σ => rw_load (σ := σ) hvT
    have hRw : Rw (bs.map bT) (.tr (.row (bs.map bT) n c)) := .inr ⟨c, by rw [List.length_map, hbl]⟩
    have hiaB := fun σ => rw_iaddr (σ := σ) hRw hqT .i64
    have hldB := fun σ => rw_load (σ := σ) hqT
    have w1 : IntKind.i64.wrap ((i : Int) + 1) = ((i + 1 : Nat) : Int) := w64 (by omega) (by omega)
    have hcl := cnt_le vs i
    have w2 : IntKind.i64.wrap ((cnt vs i : Int) + 1) = ((cnt vs i + 1 : Nat) : Int) := w64 (by omega) (by omega)
    have hcs := cnt_succ vs i
    rw [hvv] at hcs
    have next : ∀ e' L', ¬ (v = true ∧ q = true) → look e' 0 = some (.tr vt) → look e' 1 = some (.tr td) → look e' 6 = some (nv .i64 n) → look e' 7 = some (.own 0 0 0 n 1 (some n)) → look e' 8 = some (nv .i64 (cnt vs (i + 1))) → look e' 9 = some (nv .i64 (i + 1)) → I (i + 1) ⟨e', L', [o2]⟩ := by
      intro e' L' hno f0 f1 f6 f7 f8 f9
      rw [hI]
      refine ⟨by omega, e', L', rts.set i (.row (bs.map bT) n c), by rw [ho2], by simpa using hrl, fun j hj => ?_, fun j hj hvj hr => ?_, f0, f1, f6, f7, f8, f9⟩
      · by_cases hji : j = i
        · subst hji
          exact ⟨_, by rw [List.getElem?_set_self (by omega)], bs, hbl, ⟨c, rfl⟩, hbm'⟩
        · obtain ⟨t, h1, h2⟩ := hrr j (by omega)
          exact ⟨t, by rw [List.getElem?_set_ne (Ne.symm hji)]; exact h1, h2⟩
      · by_cases hji : j = i
        · subst hji
          rw [hvv] at hvj
          cases hvj
          have := (hbm' _).2 hr
          rw [hq] at this
          cases this
          exact hno ⟨rfl, rfl⟩
        · exact hnc j (by omega) hvj hr
    rw [← ho1]
    cases v with
    | false =>
      simp at hcs
      simp [k13_5, g9, g6, hin, k13_7, g1, hc, g7, hia, hso, g0, hiaV, hldV, k13_14, w1, -Int.natCast_add]
      exact next _ _ (by simp) (by simp [g0]) (by simp [g1]) (by simp [g6]) (by simp [g7]) (by simp [g8, hcs]) (by simp)
    | true =>
      simp at hcs
      cases q with
      | true =>
        simp [k13_5, g9, g6, hin, k13_7, g1, hc, g7, hia, hso, g0, hiaV, hldV, g8, w2, hia2, hld2, hiaB, hldB, mkTup, -Int.natCast_add]
        exact .inl ⟨⟨i, hvv, (hbm' i).1 hq⟩, rfl⟩
      | false =>
        simp [k13_5, g9, g6, hin, k13_7, g1, hc, g7, hia, hso, g0, hiaV, hldV, g8, w2, hia2, hld2, hiaB, hldB, k13_14, w1, -Int.natCast_add]
        exact next _ _ (by simp) (by simp [g0]) (by simp [g1]) (by simp [g6]) (by simp [g7]) (by simp [hcs]) (by simp)
  · have hie : i = n := by omega
    subst hie
    simp [k13_5, g9, g6]
    refine rinit_take (td := td) (rts := rts) hv hvn hn ?_ hrr (by simp [g0]) (by simp [g1]) (by simp [g6]) (by simp [g7]) (by simp [g8])
    rintro ⟨j, h1, h2⟩
    have := (List.getElem?_eq_some_iff.1 h1).1
    exact hnc j (by omega) h1 h2
end Go.Proofs.Ytknoiiacnfbkaaa.AM.Io
