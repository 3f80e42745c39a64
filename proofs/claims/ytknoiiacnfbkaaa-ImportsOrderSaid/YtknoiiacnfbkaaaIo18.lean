/- ImportsOrder: part 18. -/
import Derived.Test.YtknoiiacnfbkaaaIo17
set_option maxRecDepth 1000000
set_option linter.unusedVariables false
set_option linter.unusedSimpArgs false
namespace Go.Proofs.Ytknoiiacnfbkaaa.AM.Io
open Go.Proofs

section
variable {vs : List Bool} {vt : Tree} {n : Nat} {s : Nat → List Nat} {rts : List Tree} {σ : Store}

/-- The first that is ready is taken. -/
theorem rpick {dn : List Bool} {O : List Nat} {e L : List (Nat × V)} {w11 td : V} {Q : Out → St → Prop}
    (hv : varsT vs vt) (hvn : vs.length = n) (hn : n ≤ 20) (hcy : ¬ Cyc vs s) (hdn : dn.length = n) (hdk : Mk dn O) (hch : ChainOk (Stp vs s) O) (hlt : O.length < cnt vs n) (h7 : σ[0]? = some (.row (rts.map .tr) 0)) (h10 : σ[1]? = some (.row ((dn.map bT).map .tr) 0)) (h11 : Gx [0, 1] (O.map nT) w11 σ)
    (hr : ∀ i, i < n → ∃ t, rts[i]? = some t ∧ RB n s i t)
    (g0 : look e 0 = some (.tr vt)) (g1 : look e 1 = some td) (g6 : look e 6 = some (nv .i64 n)) (g7 : look e 7 = some (.own 0 0 0 n 1 (some n))) (g8 : look e 8 = some (nv .i64 (cnt vs n))) (g10 : look e 10 = some (.own 1 0 0 n 1 (some n))) (g11 : look e 11 = some w11) (g12 : look e 12 = some (iv 0))
    (hQ : ∀ e' L' q w11' σ', Stp vs s O q → σ'[0]? = some (.row (rts.map .tr) 0) → σ'[1]? = some (.row (((dn.set q true).map bT).map .tr) 0) → Gx [0, 1] ((O ++ [q]).map nT) w11' σ' → look e' 0 = some (.tr vt) → look e' 1 = some td → look e' 6 = some (nv .i64 n) → look e' 7 = some (.own 0 0 0 n 1 (some n)) → look e' 8 = some (nv .i64 (cnt vs n)) → look e' 10 = some (.own 1 0 0 n 1 (some n)) → look e' 11 = some w11' → Q (.exit 4) ⟨e', L', σ'⟩) :
    Wp T (.loop k13_22) ⟨e, L, σ⟩ Q := by
  obtain ⟨i0, hi0, hrdy⟩ := rdy_ex hvn hcy hlt
  obtain ⟨I, hI⟩ : ∃ I : Nat → St → Prop, I = (fun i st => i ≤ n ∧ (∀ j, j < i → ¬ Rdy vs s O j) ∧ ∃ e L, st = ⟨e, L, σ⟩ ∧ look e 0 = some (.tr vt) ∧ look e 1 = some td ∧ look e 6 = some (nv .i64 n) ∧ look e 7 = some (.own 0 0 0 n 1 (some n)) ∧ look e 8 = some (nv .i64 (cnt vs n)) ∧ look e 10 = some (.own 1 0 0 n 1 (some n)) ∧ look e 11 = some w11 ∧ look e 12 = some (nv .i64 i)) := ⟨_, rfl⟩
  refine wpc_up n I ?_ ?_
  · rw [hI]
    exact ⟨Nat.zero_le _, fun j hj => by omega, e, L, rfl, g0, g1, g6, g7, g8, g10, g11, g12⟩
  clear g0 g1 g6 g7 g8 g10 g11 g12
  intro i st hIs
  rw [hI] at hIs
  obtain ⟨hi, hno, e, L, rfl, g0, g1, g6, g7, g8, g10, g11, g12⟩ := hIs
  have hin : i < n := by
    rcases Nat.lt_or_ge i n with h | h
    · exact h
    · exact absurd hrdy (hno i0 (by omega))
  have w1 : IntKind.i64.wrap ((i : Int) + 1) = ((i + 1 : Nat) : Int) := w64 (by omega) (by omega)
  obtain ⟨v, hvv⟩ : ∃ b, vs[i]? = some b := ⟨_, List.getElem?_eq_getElem (by omega)⟩
  obtain ⟨d, hd⟩ : ∃ b, dn[i]? = some b := ⟨_, List.getElem?_eq_getElem (by omega)⟩
  have hvT : (vs.map bT)[i]? = some (bT v) := by rw [List.getElem?_map, hvv]; rfl
  have hdT : (dn.map bT)[i]? = some (bT d) := by rw [List.getElem?_map, hd]; rfl
  have hia := fun σ => rw_iaddr (σ := σ) hv hvT .i64
  have hld := fun σ => rw_load (σ := σ) hvT
  have hiaD : opIaddr 1 (.own 1 0 0 n 1 (some n)) (.tr (.sc (.int .i64 (i : Int)))) σ = some (.ptr 1 0 (0 + i)) := own_iaddr h10 hin
  rw [Nat.zero_add] at hiaD
  have hldD : opLoad 1 false (.ptr 1 0 i) σ = some (.tr (bT d)) := ownT_load h10 hdT
  have next : ∀ e' L', ¬ Rdy vs s O i → look e' 0 = some (.tr vt) → look e' 1 = some td → look e' 6 = some (nv .i64 n) → look e' 7 = some (.own 0 0 0 n 1 (some n)) → look e' 8 = some (nv .i64 (cnt vs n)) → look e' 10 = some (.own 1 0 0 n 1 (some n)) → look e' 11 = some w11 → look e' 12 = some (nv .i64 (i + 1)) → i < n ∧ I (i + 1) ⟨e', L', σ⟩ := by
    intro e' L' hnr f0 f1 f6 f7 f8 f10 f11 f12
    rw [hI]
    refine ⟨hin, by omega, fun j hj => ?_, e', L', rfl, f0, f1, f6, f7, f8, f10, f11, f12⟩
    by_cases h : j = i
    · subst h; exact hnr
    · exact hno j (by omega)
  cases v with
  | false =>
    simp [k13_22, g12, g6, hin, k13_24, g0, hia, hld, k13_36, w1, -Int.natCast_add]
    exact (next _ _ (fun h => by rw [h.1] at hvv; cases hvv) (by simp [g0]) (by simp [g1]) (by simp [g6]) (by simp [g7]) (by simp [g8]) (by simp [g10]) (by simp [g11]) (by simp)).2
  | true =>
    cases d with
    | true =>
      simp [k13_22, g12, g6, hin, k13_24, g0, hia, hld, g10, hiaD, hldD, k13_36, w1, -Int.natCast_add]
      exact (next _ _ (fun h => h.2.1 ((hdk i).1 hd)) (by simp [g0]) (by simp [g1]) (by simp [g6]) (by simp [g7]) (by simp [g8]) (by simp [g10]) (by simp [g11]) (by simp)).2
    | false =>
      have hiO : i ∉ O := fun h => by have := (hdk i).2 h; rw [hd] at this; cases this
      obtain ⟨t, ht, bs, hbl, ⟨c, rfl⟩, hbm⟩ := hr i hin
      simp [k13_22, g12, g6, hin, k13_24, g0, hia, hld, g10, hiaD, hldD, k13_26]
      refine rdy_loop (w11 := w11) (td := td) (m8 := cnt vs n) (i := i) (O := O) (dn := dn) (bs := bs) (c := c) (s := s) hv hvn hn hdn hdk h7 h10 hin ht hbl hbm (by simp [g0]) (by simp [g1]) (by simp [g6]) (by simp [g7]) (by simp [g8]) (by simp [g10]) (by simp [g11]) (by simp [g12]) (by simp) (by simp) ?_
      intro e' L' b hb f0 f1 f6 f7 f8 f10 f11 f12 f13
      cases b with
      | false =>
        simp [k13_32, f13, k13_36, f12, w1, -Int.natCast_add]
        exact (next _ _ (fun h => by have := hb.2 h.2.2; cases this) (by simp [f0]) (by simp [f1]) (by simp [f6]) (by simp [f7]) (by simp [f8]) (by simp [f10]) (by simp [f11]) (by simp)).2
      | true =>
        have hstp : Stp vs s O i := ⟨⟨hvv, hiO, hb.1 rfl⟩, hno⟩
        obtain ⟨σ4, hσ4⟩ : ∃ σ4, σ4 = σ.set 1 (.row (((dn.set i true).map bT).map .tr) 0) := ⟨_, rfl⟩
        have hso : opStore 1 (.ptr 1 0 i) (.tr (.sc (.bool true))) σ = some σ4 := by
          have := ownT_store (t := bT true) h10 (i := i) (by simp; omega) rfl
          rw [hσ4]
          rw [← List.map_set] at this
          exact this
        have h1l := (List.getElem?_eq_some_iff.1 h10).1
        have h4o : ∀ i, i ≠ 1 → σ4[i]? = σ[i]? := fun i hi => by rw [hσ4, List.getElem?_set_ne (Ne.symm hi)]
        have h4t : σ4[1]? = some (.row (((dn.set i true).map bT).map .tr) 0) := by rw [hσ4, List.getElem?_set_self h1l]
        have h4l : σ4.length = σ.length := by rw [hσ4]; simp
        have h11' : Gx [0, 1] (O.map nT) w11 σ4 := h11.move (j := 1) (by simp) ⟨by omega, fun i hi _ => h4o i hi⟩ (fun i hi => .inl hi)
        obtain ⟨nd, hvv2⟩ := chain_len hch
        have hol := nodup_len n O nd (fun y hy => by rw [← hvn]; exact (hvv2 y hy).1)
        obtain ⟨w11', σ5, a1, a2, a3, a4⟩ := gx_app (t := nT i) (b := 8) h11' rfl (by intro t ht; obtain ⟨z, _, rfl⟩ := List.mem_map.1 ht; rfl) (by omega) (by simp; omega) (some 1) (fun i hi => by
          simp only [List.mem_cons, List.mem_nil_iff, or_false] at hi
          rcases hi with rfl | rfl <;> omega)
        have hbs := fun σ => bs1 (σ := σ) (t := nT i) (.sc (.int .i64 0)) rfl
        have hiaD2 : opIaddr 1 (.own 1 0 0 n 1 (some n)) (.tr (.sc (.int .i64 (i : Int)))) σ = some (.ptr 1 0 i) := hiaD
        simp [k13_32, f13, f10, f12, hiaD2, hso, f11, hbs, a1]
        exact hQ _ _ i w11' σ5 hstp (by rw [a3 0 (by simp), h4o 0 (by omega)]; exact h7) (by rw [a3 1 (by simp)]; exact h4t) (by rw [List.map_append]; exact a2) (by simp [f0]) (by simp [f1]) (by simp [f6]) (by simp [f7]) (by simp [f8]) (by simp [f10]) (by simp)
end
end Go.Proofs.Ytknoiiacnfbkaaa.AM.Io
