/- ImportsOrder: part 15. -/
import Derived.Test.YtknoiiacnfbkaaaIo14
set_option maxRecDepth 1000000
set_option linter.unusedVariables false
set_option linter.unusedSimpArgs false
namespace Go.Proofs.Ytknoiiacnfbkaaa.AM.Io
open Go.Proofs

theorem snap_mk2 {bad : List Nat} {td : List Tree} {w : V} {σ : Store} (h : Gx bad td w σ) (b : Bool) : ∃ t0, snap σ deepN (mkTup [w, bv b]) = some (.tup [t0, .sc (.bool b)]) ∧ Rw td (.tr t0) := by
  obtain ⟨t0, h1, h2⟩ := h.snap 398
  refine ⟨t0, ?_, h2⟩
  rcases h with ⟨_, rfl⟩ | ⟨id, _, _, g, cap, pre, post, rfl, _, _⟩
  · simp [nilSl] at h1
    subst h1
    simp [mkTup, nilSl]
  · have e : mkTup [.own id g pre.length td.length 1 cap, bv b] = .tup [.own id g pre.length td.length 1 cap, bv b] := rfl
    rw [e, snap_deep, snap_tup]
    simp only [snapL]
    have h1' : snap σ 399 (.own id g pre.length td.length 1 cap) = some t0 := h1
    simp only [h1', snap_tr]

section
variable {vs : List Bool} {vt : Tree} {n : Nat} {s : Nat → List Nat} {rts : List Tree} {w11 : V} {σ : Store}

theorem ord_take {e L : List (Nat × V)}
    (hv : varsT vs vt) (hvn : vs.length = n) (hn : n ≤ 20) (hcy : ¬ Cyc vs s) (h0 : σ[0]? = some (.row [.tr vt] 0))
    (hw : ∀ i, i < n → ∃ p t, (∀ σ' : Store, (∀ i, i < σ.length → σ'[i]? = σ[i]?) → opIaddr 1 w11 (nv .i64 i) σ' = some p ∧ opLoad 1 false p σ' = some (.tr t)) ∧ RL n s i t)
    (g2 : look e 2 = some (.ptr 0 0 0)) (g11 : look e 11 = some w11) :
    wpc T k12_30 ⟨e, L, σ⟩ (giv [.tmp 4, .tmp 5] fun v σ => ∃ t, snap σ deepN v = some t ∧ OrdR vs s t) := by
  have h0l : 0 < σ.length := (List.getElem?_eq_some_iff.1 h0).1
  have hvl : ∀ σ, opLen 1 (.tr vt) σ = some (nv .i64 n) := fun σ => by rw [rw_len hv, List.length_map, hvn]
  have l0 : opLoad 1 false (.ptr 0 0 0) σ = some (.tr vt) := by simp [opLoad, obCells, h0, slice?]
  obtain ⟨ob, hob⟩ : ∃ ob, ob = Ob.row (((List.replicate n false).map bT).map .tr) 0 := ⟨_, rfl⟩
  have hmk : opMkslice [.sc (.bool false)] 1 (nv .i64 n) (nv .i64 n) σ = some (.own σ.length 0 0 n 1 (some n), σ ++ [ob]) := by
    have := mkT (n := n) (b := 1) (σ := σ) (.sc (.bool false)) (by omega) (by omega)
    rw [hob, List.map_replicate]
    exact this
  obtain ⟨σ3, hσ3⟩ : ∃ σ3 : Store, σ3 = σ ++ [ob, .row [.own σ.length 0 0 n 1 (some n)] 0] := ⟨_, rfl⟩
  have hst : opStore 1 (.ptr (σ.length + 1) 0 0) (.own σ.length 0 0 n 1 (some n)) (σ ++ [ob, .row [.tr (.sc (.slice none 0 0))] 0]) = some σ3 := by
    rw [hσ3]
    simp [opStore, obPut, splice]
  have h3l : σ3.length = σ.length + 2 := by rw [hσ3]; simp
  have h3a : ∀ i, i < σ.length → σ3[i]? = σ[i]? := fun i hi => by rw [hσ3, List.getElem?_append_left hi]
  have h3t : σ3[σ.length]? = some (.row (((List.replicate n false).map bT).map .tr) 0) := by rw [hσ3, hob]; simp
  have h3p : σ3[σ.length + 1]? = some (.row [.own σ.length 0 0 n 1 (some n)] 0) := by rw [hσ3]; simp
  simp [k12_30, g2, l0, hvl, hmk, hst]
  obtain ⟨I, hI⟩ : ∃ I : Nat → St → Prop, I = (fun m st => ∃ e L σ' O tk w14, st = ⟨e, L, σ'⟩ ∧ n = m + O.length ∧ ChainOk (Stp vs s) O ∧ tk.length = n ∧ Mk tk O ∧ σ.length + 2 ≤ σ'.length ∧ (∀ i, i < σ.length → σ'[i]? = σ[i]?) ∧ σ'[σ.length + 1]? = some (.row [.own σ.length 0 0 n 1 (some n)] 0) ∧ σ'[σ.length]? = some (.row ((tk.map bT).map .tr) 0)
    ∧ Gx (List.range (σ.length + 2)) (O.map nT) w14 σ' ∧ look e 2 = some (.ptr 0 0 0) ∧ look e 11 = some w11 ∧ look e 13 = some (.ptr (σ.length + 1) 0 0) ∧ look e 14 = some w14) := ⟨_, rfl⟩
  refine wpc_loop I n _ ?_ ?_
  · rw [hI]
    refine ⟨_, _, σ3, [], List.replicate n false, nilSl, rfl, by simp, ChainOk.nil, by simp, fun x => by simp [List.getElem?_replicate], by omega, h3a, h3p, h3t, .inl ⟨rfl, rfl⟩, by simp [g2], by simp [g11], by simp, by simp [nilSl]⟩
  intro m st hIs
  rw [hI] at hIs
  obtain ⟨e, L, σ', O, tk, w14, rfl, hm, hch, htn, htk, hsl, hsa, hsp, hst', h14, g2, g11, g13, g14⟩ := hIs
  have h0' : σ'[0]? = some (.row [.tr vt] 0) := by rw [hsa 0 h0l]; exact h0
  have l0' : opLoad 1 false (.ptr 0 0 0) σ' = some (.tr vt) := by simp [opLoad, obCells, h0', slice?]
  have lp : opLoad 1 false (.ptr (σ.length + 1) 0 0) σ' = some (.own σ.length 0 0 n 1 (some n)) := by simp [opLoad, obCells, hsp, slice?]
  have w1 : IntKind.i64.wrap ((n : Int) - 1) = (n : Int) - 1 := w64 (by omega) (by omega)
  simp [k12_33, g2, l0', hvl, w1]
  refine ord_pick (s := s) (w11 := w11) (w14 := w14) (O := O) (tk := tk) (idp := σ.length + 1) (idt := σ.length) hv hvn hn htn htk h0' hsp hst' (fun i hi => ?_) (by simp [g2]) (by simp [g11]) (by simp [g13]) (by simp [g14]) (by simp) (by simp) ?_
  · obtain ⟨p, t, h1, h2⟩ := hw i hi
    exact ⟨p, t, (h1 σ' hsa).1, (h1 σ' hsa).2, h2⟩
  intro e' L' nx hnx f2 f11 f13 f14 f15
  rcases hnx with ⟨rfl, hno⟩ | ⟨q, rfl, hq, hstp⟩
  · have hlt : (-1 : Int) < 0 := by omega
    obtain ⟨t0, hs0, ht0⟩ := snap_mk2 h14 true
    simp [k12_41, f15, f14, hs0]
    refine .inr ⟨hcy, O, t0, ⟨hch, fun p hp => hno p hp.1⟩, ht0, by omega, rfl⟩
  · have hq0 : ¬ (q : Int) < 0 := by omega
    have hia : opIaddr 1 (.own σ.length 0 0 n 1 (some n)) (.tr (.sc (.int .i64 (q : Int)))) σ' = some (.ptr σ.length 0 (0 + q)) := own_iaddr hst' hq
    rw [Nat.zero_add] at hia
    obtain ⟨σ4, hσ4⟩ : ∃ σ4, σ4 = σ'.set σ.length (.row (((tk.set q true).map bT).map .tr) 0) := ⟨_, rfl⟩
    have hso : opStore 1 (.ptr σ.length 0 q) (.tr (.sc (.bool true))) σ' = some σ4 := by
      have := ownT_store (t := bT true) hst' (i := q) (by simp; omega) rfl
      rw [hσ4]
      rw [← List.map_set] at this
      exact this
    have h4l : σ4.length = σ'.length := by rw [hσ4]; simp
    have h4o : ∀ i, i ≠ σ.length → σ4[i]? = σ'[i]? := fun i hi => by rw [hσ4, List.getElem?_set_ne (Ne.symm hi)]
    have h4t : σ4[σ.length]? = some (.row (((tk.set q true).map bT).map .tr) 0) := by rw [hσ4, List.getElem?_set_self (by omega)]
    have h14' : Gx (List.range (σ.length + 2)) (O.map nT) w14 σ4 := by
      refine h14.move (j := σ.length) (by simp) ⟨by omega, fun i hi _ => h4o i hi⟩ (fun i hi => .inl hi)
    have hol : O.length ≤ 20 := by omega
    obtain ⟨w14', σ5, a1, a2, a3, a4⟩ := gx_app (t := nT q) (b := 8) h14' rfl (by intro t ht; obtain ⟨z, _, rfl⟩ := List.mem_map.1 ht; rfl) (by omega) (by simp; omega) (some 1) (fun i hi => by simp at hi; omega)
    have hbs := fun σ => bs1 (σ := σ) (t := nT q) (.sc (.int .i64 0)) rfl
    obtain ⟨hnd, hvv⟩ := chain_len (hch.snoc hstp)
    have hlen : (O ++ [q]).length ≤ n := nodup_len n _ hnd (fun y hy => by rw [← hvn]; exact (hvv y hy).1)
    simp at hlen
    simp [k12_41, f15, hq0, k12_44, f13, lp, hia, hso, f14, hbs, a1]
    refine ⟨m - 1, by omega, ?_⟩
    rw [hI]
    refine ⟨_, _, σ5, O ++ [q], tk.set q true, w14', rfl, by simp; omega, hch.snoc hstp, by simpa using htn, fun x => ?_, by omega, fun i hi => ?_, ?_, ?_, by rw [List.map_append]; exact a2, by simp [f2], by simp [f11], by simp [f13], by simp⟩
    · by_cases hx : x = q
      · subst hx
        rw [List.getElem?_set_self (by omega)]
        simp
      · rw [List.getElem?_set_ne (Ne.symm hx), htk x]
        simp [hx]
    · rw [a3 i (by simp; omega), h4o i (by omega), hsa i hi]
    · rw [a3 _ (by simp), h4o _ (by omega), hsp]
    · rw [a3 _ (by simp), h4t]
end
end Go.Proofs.Ytknoiiacnfbkaaa.AM.Io
