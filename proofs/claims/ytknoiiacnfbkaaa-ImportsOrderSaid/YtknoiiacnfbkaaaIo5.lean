/- ImportsOrder: part 5. -/
import Derived.Test.YtknoiiacnfbkaaaIo4
set_option maxRecDepth 1000000
set_option linter.unusedVariables false
set_option linter.unusedSimpArgs false
namespace Go.Proofs.Ytknoiiacnfbkaaa.AM.Io
open Go.Proofs

abbrev bT (b : Bool) : Tree := .sc (.bool b)
/-- Which are reached. -/
def RReachR (deps : List (List Int)) (n : Nat) (frm : Int) (t : Tree) : Prop := ∃ bs : List Bool, bs.length = n ∧ (∃ c, t = .row (bs.map bT) n c) ∧ ∀ x, bs[x]? = some true ↔ (0 ≤ frm ∧ frm < n ∧ Rch (sc n deps) frm.toNat x)
/-- Marks and a list. -/
def Mk (bs : List Bool) (out : List Nat) : Prop := ∀ x : Nat, bs[x]? = some true ↔ x ∈ out

theorem rreach_inner {deps : List (List Int)} {ts : List Tree} {td : Tree} {n from_ at_ : Nat} {l : List Int} {x : Tree} {e L : List (Nat × V)} {σ : Store} {id8 : Nat} {w8 : V} {todo out : List Nat} {bs : List Bool} {m0 : Nat} {Q : Out → St → Prop}
    (hn20 : n ≤ 20) (hm0 : m0 ≤ 1000) (htd : Rw ts (.tr td)) (hat : ts[at_]? = some x) (hx : Rw (l.map iT) (.tr x)) (hl : l.length ≤ 1000) (hsc : sc n deps at_ = fl n l)
    (h8 : Stk id8 (todo.map nT) w8 σ) (h80 : id8 ≠ 0) (h7 : σ[0]? = some (.row ((bs.map bT).map .tr) 0)) (hbs : bs.length = n) (hmk : Mk bs out) (hw : WlI (sc n deps) from_ at_ [] out todo) (hlt : ∀ y ∈ out, y < n) (hme : 2 * (n - out.length) + todo.length ≤ m0)
    (g0 : look e 0 = some (nv .i64 n)) (g1 : look e 1 = some (.tr td)) (g7 : look e 7 = some (.own 0 0 0 n 1 (some n))) (g8 : look e 8 = some w8) (g9 : look e 9 = some (nv .i64 at_)) (g10 : look e 10 = some (iv 0))
    (hQ : ∀ e' L' σ' id8 w8 todo out bs, Stk id8 (todo.map nT) w8 σ' → id8 ≠ 0 → σ'[0]? = some (.row ((bs.map bT).map .tr) 0) → bs.length = n → Mk bs out → Wl (sc n deps) from_ out todo → (∀ y ∈ out, y < n) → 2 * (n - out.length) + todo.length ≤ m0 → look e' 0 = some (nv .i64 n) → look e' 1 = some (.tr td) → look e' 7 = some (.own 0 0 0 n 1 (some n)) → look e' 8 = some w8 → Q (.exit 2) ⟨e', L', σ'⟩) :
    Wp T (.loop k15_14) ⟨e, L, σ⟩ Q := by
  obtain ⟨I, hI⟩ : ∃ I : Nat → St → Prop, I = (fun i s => i ≤ l.length ∧ ∃ e L σ id8 w8 todo out bs, s = ⟨e, L, σ⟩ ∧ Stk id8 (todo.map nT) w8 σ ∧ id8 ≠ 0 ∧ σ[0]? = some (.row ((bs.map bT).map .tr) 0) ∧ bs.length = n ∧ Mk bs out ∧ WlI (sc n deps) from_ at_ (fl n (l.take i)) out todo ∧ (∀ y ∈ out, y < n) ∧ 2 * (n - out.length) + todo.length ≤ m0
    ∧ look e 0 = some (nv .i64 n) ∧ look e 1 = some (.tr td) ∧ look e 7 = some (.own 0 0 0 n 1 (some n)) ∧ look e 8 = some w8 ∧ look e 9 = some (nv .i64 at_) ∧ look e 10 = some (nv .i64 i)) := ⟨_, rfl⟩
  refine wpc_up l.length I ?_ ?_
  · rw [hI]
    exact ⟨Nat.zero_le _, e, L, σ, id8, w8, todo, out, bs, rfl, h8, h80, h7, hbs, hmk, by simpa [fl] using hw, hlt, hme, g0, g1, g7, g8, g9, g10⟩
  clear h8 h80 h7 hmk hbs hw hlt hme g0 g1 g7 g8 g9 g10
  intro i s hIs
  rw [hI] at hIs
  obtain ⟨hi, e, L, σ, id8, w8, todo, out, bs, rfl, h8, h80, h7, hbs, hmk, hw, hlt, hme, g0, g1, g7, g8, g9, g10⟩ := hIs
  have hiaO := fun σ => rw_iaddr (σ := σ) htd hat .i64
  have hldO := fun σ => rw_load (σ := σ) hat
  have hlx : ∀ σ, opLen 1 (.tr x) σ = some (nv .i64 l.length) := fun σ => by rw [rw_len hx, List.length_map]
  by_cases hil : i < l.length
  · have hil' : (i : Int) < l.length := by omega
    obtain ⟨d, hd⟩ : ∃ d, l[i]? = some d := ⟨_, List.getElem?_eq_getElem hil⟩
    have hdT : (l.map iT)[i]? = some (iT d) := by rw [List.getElem?_map, hd]; rfl
    have hia := fun σ => rw_iaddr (σ := σ) hx hdT .i64
    have hld := fun σ => rw_load (σ := σ) hdT
    have w1 : IntKind.i64.wrap ((i : Int) + 1) = ((i + 1 : Nat) : Int) := w64 (by omega) (by omega)
    have htk := sc_take (n := n) hd
    by_cases hin : 0 ≤ d ∧ d < (n : Int)
    · obtain ⟨y, hy⟩ : ∃ y, y = d.toNat := ⟨_, rfl⟩
      have hyd : d = (y : Int) := by omega
      have hyn : y < n := by omega
      rw [if_pos hin, ← hy] at htk
      subst hyd
      have hys : y ∈ sc n deps at_ := by
        rw [hsc]
        have : y ∈ fl n (l.take (i + 1)) := by rw [htk]; simp
        unfold fl at this ⊢
        rw [List.mem_filterMap] at this ⊢
        obtain ⟨z, hz, h⟩ := this
        exact ⟨z, List.mem_of_mem_take hz, h⟩
      have hd0 : (0 : Int) ≤ y := by omega
      obtain ⟨b, hb⟩ : ∃ b, bs[y]? = some b := ⟨_, List.getElem?_eq_getElem (by omega)⟩
      have hbT : (bs.map bT)[y]? = some (bT b) := by rw [List.getElem?_map, hb]; rfl
      have hiaB : opIaddr 1 (.own 0 0 0 n 1 (some n)) (.tr (.sc (.int .i64 (y : Int)))) σ = some (.ptr 0 0 (0 + y)) := own_iaddr h7 hyn
      rw [Nat.zero_add] at hiaB
      have hldB : opLoad 1 false (.ptr 0 0 y) σ = some (.tr (bT b)) := ownT_load h7 hbT
      cases b with
      | true =>
        have hyo : y ∈ out := (hmk y).1 hb
        have next : ∀ e' L', look e' 0 = some (nv .i64 n) → look e' 1 = some (.tr td) → look e' 7 = some (.own 0 0 0 n 1 (some n)) → look e' 8 = some w8 → look e' 9 = some (nv .i64 at_) → look e' 10 = some (nv .i64 (i + 1)) → I (i + 1) ⟨e', L', σ⟩ := by
          intro e' L' f0 f1 f7 f8 f9 f10
          rw [hI]
          exact ⟨by omega, e', L', σ, id8, w8, todo, out, bs, rfl, h8, h80, h7, hbs, hmk, by rw [htk]; exact hw.old hyo, hlt, hme, f0, f1, f7, f8, f9, f10⟩
        simp [k15_14, g10, g1, g9, hiaO, hldO, hlx, hil, k15_16, hia, hld, hd0, g0, hyn, g7, hiaB, hldB, k15_20, w1, -Int.natCast_add]
        exact next _ _ (by simp [g0]) (by simp [g1]) (by simp [g7]) (by simp [g8]) (by simp [g9]) (by simp)
      | false =>
        have hyo : y ∉ out := fun h => by have := (hmk y).2 h; rw [hb] at this; cases this
        have hout : out.length < n := List.Nodup.length_le_card_of hw.nd hlt hyo hyn
        have hst : opStore 1 (.ptr 0 0 y) (.tr (bT true)) σ = some (σ.set 0 (.row (((bs.set y true).map bT).map .tr) 0)) := by
          rw [ownT_store h7 (by simp; omega) rfl, ← List.map_set]
        have h0lt := (List.getElem?_eq_some_iff.1 h7).1
        obtain ⟨σ2, hσ2⟩ : ∃ σ2, σ2 = σ.set 0 (.row (((bs.set y true).map bT).map .tr) 0) := ⟨_, rfl⟩
        have h8' : Stk id8 (todo.map nT) w8 σ2 := h8.mono (by rw [hσ2, List.getElem?_set_ne (Ne.symm h80)])
        have hs2l : σ2.length = σ.length := by rw [hσ2]; simp
        rw [← hσ2] at hst
        obtain ⟨id8', w8', σ3, b1, b2, b3, b4⟩ := stk_app (t := nT y) (b := 8) h8' rfl (by intro t ht; obtain ⟨z, _, rfl⟩ := List.mem_map.1 ht; rfl) (by omega) (by simp; omega) (some 1)
        have h73 : σ3[0]? = some (.row (((bs.set y true).map bT).map .tr) 0) := b3.at (by rw [hσ2, List.getElem?_set_self h0lt]) (Ne.symm h80)
        have hbl := fun σ => bs1 (σ := σ) (t := nT y) (.sc (.int .i64 0)) rfl
        have next : ∀ e' L', look e' 0 = some (nv .i64 n) → look e' 1 = some (.tr td) → look e' 7 = some (.own 0 0 0 n 1 (some n)) → look e' 8 = some w8' → look e' 9 = some (nv .i64 at_) → look e' 10 = some (nv .i64 (i + 1)) → I (i + 1) ⟨e', L', σ3⟩ := by
          intro e' L' f0 f1 f7 f8 f9 f10
          rw [hI]
          refine ⟨by omega, e', L', σ3, id8', w8', todo ++ [y], out ++ [y], bs.set y true, rfl, by rw [List.map_append]; exact b2, ?_, h73, by simpa using hbs, ?_, by rw [htk]; exact hw.new hyo hys, ?_, by simp; omega, f0, f1, f7, f8, f9, f10⟩
          · rcases b4 with rfl | rfl
            · exact h80
            · omega
          · intro z
            by_cases hz : z = y
            · subst hz
              rw [List.getElem?_set_self (by omega)]
              simp
            · rw [List.getElem?_set_ne (Ne.symm hz), hmk z]
              simp [hz]
          · intro v hv
            rcases List.mem_append.1 hv with h | h
            · exact hlt v h
            · simp at h; omega
        simp [k15_14, g10, g1, g9, hiaO, hldO, hlx, hil, k15_16, hia, hld, hd0, g0, hyn, g7, hiaB, hldB, hst, g8, hbl, b1, k15_20, w1, -Int.natCast_add]
        exact next _ _ (by simp [g0]) (by simp [g1]) (by simp [g7]) (by simp) (by simp [g9]) (by simp)
    · rw [if_neg hin, List.append_nil] at htk
      have next : ∀ e' L', look e' 0 = some (nv .i64 n) → look e' 1 = some (.tr td) → look e' 7 = some (.own 0 0 0 n 1 (some n)) → look e' 8 = some w8 → look e' 9 = some (nv .i64 at_) → look e' 10 = some (nv .i64 (i + 1)) → I (i + 1) ⟨e', L', σ⟩ := by
        intro e' L' f0 f1 f7 f8 f9 f10
        rw [hI]
        exact ⟨by omega, e', L', σ, id8, w8, todo, out, bs, rfl, h8, h80, h7, hbs, hmk, by rw [htk]; exact hw, hlt, hme, f0, f1, f7, f8, f9, f10⟩
      by_cases hd0 : 0 ≤ d
      · have hdn : ¬ d < (n : Int) := by omega
        simp [k15_14, g10, g1, g9, hiaO, hldO, hlx, hil, k15_16, hia, hld, hd0, g0, hdn, k15_20, w1, -Int.natCast_add]
        exact next _ _ (by simp [g0]) (by simp [g1]) (by simp [g7]) (by simp [g8]) (by simp [g9]) (by simp)
      · simp [k15_14, g10, g1, g9, hiaO, hldO, hlx, hil, k15_16, hia, hld, hd0, k15_20, w1, -Int.natCast_add]
        exact next _ _ (by simp [g0]) (by simp [g1]) (by simp [g7]) (by simp [g8]) (by simp [g9]) (by simp)
  · have hie : i = l.length := by omega
    subst hie
    rw [List.take_of_length_le (Nat.le_refl _)] at hw
    simp [k15_14, g10, g1, g9, hiaO, hldO, hlx]
    exact hQ _ _ σ id8 w8 todo out bs h8 h80 h7 hbs hmk (hw.fin (by rw [hsc]; exact fun d hd => hd)) hlt hme (by simp [g0]) (by simp [g1]) (by simp [g7]) (by simp [g8])
end Go.Proofs.Ytknoiiacnfbkaaa.AM.Io
