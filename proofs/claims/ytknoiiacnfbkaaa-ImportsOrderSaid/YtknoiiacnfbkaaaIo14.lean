/- ImportsOrder: part 14. -/
import Derived.Test.YtknoiiacnfbkaaaIo13
set_option maxRecDepth 1000000
set_option linter.unusedVariables false
set_option linter.unusedSimpArgs false
namespace Go.Proofs.Ytknoiiacnfbkaaa.AM.Io
open Go.Proofs

/-- One that may come next. -/
def Rdy (vs : List Bool) (s : Nat → List Nat) (O : List Nat) (i : Nat) : Prop := vs[i]? = some true ∧ i ∉ O ∧ ∀ d, Rch s i d → vs[d]? = some true → d ∈ O
/-- The one that comes next. -/
def Stp (vs : List Bool) (s : Nat → List Nat) (O : List Nat) (i : Nat) : Prop := Rdy vs s O i ∧ ∀ j, j < i → ¬ Rdy vs s O j
theorem stp_func {vs : List Bool} {s : Nat → List Nat} {O : List Nat} {p q : Nat} (hp : Stp vs s O p) (hq : Stp vs s O q) : p = q := by
  rcases Nat.lt_trichotomy p q with h | h | h
  · exact absurd hp.1 (hq.2 p h)
  · exact h
  · exact absurd hq.1 (hp.2 q h)
def Cyc (vs : List Bool) (s : Nat → List Nat) : Prop := ∃ i : Nat, vs[i]? = some true ∧ Rch s i i
/-- What an order is. -/
def OrdR (vs : List Bool) (s : Nat → List Nat) (t : Tree) : Prop := (Cyc vs s ∧ t = .tup [.sc (.slice none 0 0), .sc (.bool false)]) ∨ (¬ Cyc vs s ∧ ∃ O t0, DoneOk (Stp vs s) O ∧ Rw (O.map nT) (.tr t0) ∧ O.length ≤ vs.length ∧ t = .tup [t0, .sc (.bool true)])
/-- A list of what is reached from one. -/
def RL (n : Nat) (s : Nat → List Nat) (i : Nat) (t : Tree) : Prop := ∃ l : List Nat, Rw (l.map nT) (.tr t) ∧ l.length ≤ n ∧ (∀ x, x ∈ l ↔ Rch s i x) ∧ ∀ x ∈ l, x < n

theorem chain_len {vs : List Bool} {s : Nat → List Nat} {O : List Nat} (h : ChainOk (Stp vs s) O) : O.Nodup ∧ ∀ y ∈ O, y < vs.length ∧ vs[y]? = some true := by
  constructor
  · unfold List.Nodup
    rw [List.pairwise_iff_getElem]
    intro i j hi hj hij e
    have hy : O[j]? = some O[j] := List.getElem?_eq_getElem hj
    have h1 := (h j _ hy).1.2.1
    apply h1
    rw [List.mem_take_iff_getElem]
    exact ⟨i, by omega, e⟩
  · intro y hy
    obtain ⟨j, hj⟩ := List.getElem?_of_mem hy
    have := (h j y hj).1.1
    exact ⟨(List.getElem?_eq_some_iff.1 this).1, this⟩

section
variable {vs : List Bool} {vt : Tree} {n : Nat} {s : Nat → List Nat} {rts : List Tree} {w11 : V} {σ2 : Store}

/-- The next one is looked for, from the last down. -/
theorem ord_pick {tk : List Bool} {O : List Nat} {σ : Store} {idp idt : Nat} {w14 : V} {e L : List (Nat × V)} {Q : Out → St → Prop}
    (hv : varsT vs vt) (hvn : vs.length = n) (hn : n ≤ 20) (htn : tk.length = n) (htk : Mk tk O) (h0 : σ[0]? = some (.row [.tr vt] 0)) (hp : σ[idp]? = some (.row [.own idt 0 0 n 1 (some n)] 0)) (ht : σ[idt]? = some (.row ((tk.map bT).map .tr) 0))
    (hw : ∀ i, i < n → ∃ p t, opIaddr 1 w11 (nv .i64 i) σ = some p ∧ opLoad 1 false p σ = some (.tr t) ∧ RL n s i t)
    (g2 : look e 2 = some (.ptr 0 0 0)) (g11 : look e 11 = some w11) (g13 : look e 13 = some (.ptr idp 0 0)) (g14 : look e 14 = some w14) (g15 : look e 15 = some (iv (-1))) (g16 : look e 16 = some (iv ((n : Int) - 1)))
    (hQ : ∀ e' L' (nx : Int), (nx = -1 ∧ ∀ j, ¬ Rdy vs s O j) ∨ (∃ q : Nat, nx = q ∧ q < n ∧ Stp vs s O q) → look e' 2 = some (.ptr 0 0 0) → look e' 11 = some w11 → look e' 13 = some (.ptr idp 0 0) → look e' 14 = some w14 → look e' 15 = some (iv nx) → Q (.exit 8) ⟨e', L', σ⟩) :
    Wp T (.loop k12_36) ⟨e, L, σ⟩ Q := by
  have l0 : opLoad 1 false (.ptr 0 0 0) σ = some (.tr vt) := by simp [opLoad, obCells, h0, slice?]
  have lp : opLoad 1 false (.ptr idp 0 0) σ = some (.own idt 0 0 n 1 (some n)) := by simp [opLoad, obCells, hp, slice?]
  obtain ⟨I, hI⟩ : ∃ I : Nat → St → Prop, I = (fun r st => r ≤ n ∧ ∃ e L, ∃ nx : Int, st = ⟨e, L, σ⟩ ∧ ((nx = -1 ∧ ∀ j, r ≤ j → ¬ Rdy vs s O j) ∨ (∃ q : Nat, nx = q ∧ q < n ∧ r ≤ q ∧ Rdy vs s O q ∧ ∀ j, r ≤ j → j < q → ¬ Rdy vs s O j))
    ∧ look e 2 = some (.ptr 0 0 0) ∧ look e 11 = some w11 ∧ look e 13 = some (.ptr idp 0 0) ∧ look e 14 = some w14 ∧ look e 15 = some (iv nx) ∧ look e 16 = some (iv ((r : Int) - 1))) := ⟨_, rfl⟩
  refine wpc_loop I n _ ?_ ?_
  · rw [hI]
    refine ⟨Nat.le_refl _, e, L, -1, rfl, .inl ⟨rfl, fun j hj h => ?_⟩, g2, g11, g13, g14, g15, g16⟩
    have := (List.getElem?_eq_some_iff.1 h.1).1
    omega
  clear g2 g11 g13 g14 g15 g16
  intro r st hIs
  rw [hI] at hIs
  obtain ⟨hr, e, L, nx, rfl, hnx, g2, g11, g13, g14, g15, g16⟩ := hIs
  by_cases hr0 : 0 < r
  · obtain ⟨r, rfl⟩ : ∃ m, r = m + 1 := ⟨r - 1, by omega⟩
    have e1 : ((r + 1 : Nat) : Int) - 1 = (r : Int) := by omega
    rw [e1] at g16
    have hr0' : (0 : Int) ≤ r := by omega
    have w1 : IntKind.i64.wrap ((r : Int) - 1) = (r : Int) - 1 := w64 (by omega) (by omega)
    obtain ⟨b, hb⟩ : ∃ b, vs[r]? = some b := ⟨_, List.getElem?_eq_getElem (by omega)⟩
    obtain ⟨c, hc⟩ : ∃ c, tk[r]? = some c := ⟨_, List.getElem?_eq_getElem (by omega)⟩
    have hbT : (vs.map bT)[r]? = some (bT b) := by rw [List.getElem?_map, hb]; rfl
    have hcT : (tk.map bT)[r]? = some (bT c) := by rw [List.getElem?_map, hc]; rfl
    have hia := fun σ => rw_iaddr (σ := σ) hv hbT .i64
    have hld := fun σ => rw_load (σ := σ) hbT
    have hia2 : opIaddr 1 (.own idt 0 0 n 1 (some n)) (.tr (.sc (.int .i64 (r : Int)))) σ = some (.ptr idt 0 (0 + r)) := own_iaddr ht (by omega)
    rw [Nat.zero_add] at hia2
    have hld2 : opLoad 1 false (.ptr idt 0 r) σ = some (.tr (bT c)) := ownT_load ht hcT
    obtain ⟨p, t, hwp, hwl, l, hl, hll, hlm, hln⟩ := hw r (by omega)
    have hcf := containsF_ok (f := .fn (.func 25) [] [.ptr 0 0 0, .ptr idp 0 0]) (P := fun y => (vs[y]?).getD false && !(tk[y]?).getD true) (σ := σ) hl (by omega) (fun y hy => open_ok hv hvn htn h0 hp ht (hln y hy))
    have hcO : c = true ↔ r ∈ O := by
      rw [← htk r, hc]; simp
    have skip : ¬ Rdy vs s O r → (nx = -1 ∧ ∀ j, r ≤ j → ¬ Rdy vs s O j) ∨ (∃ q : Nat, nx = q ∧ q < n ∧ r ≤ q ∧ Rdy vs s O q ∧ ∀ j, r ≤ j → j < q → ¬ Rdy vs s O j) := by
      intro hnr
      rcases hnx with ⟨h1, h2⟩ | ⟨q, h1, h2, h3, h4, h5⟩
      · refine .inl ⟨h1, fun j hj => ?_⟩
        rcases Nat.lt_or_ge r j with h | h
        · exact h2 j h
        · rw [show j = r by omega]; exact hnr
      · refine .inr ⟨q, h1, h2, by omega, h4, fun j hj hjq => ?_⟩
        rcases Nat.lt_or_ge r j with h | h
        · exact h5 j h hjq
        · rw [show j = r by omega]; exact hnr
    have next : ∀ e' L' (nx' : Int), ((nx' = -1 ∧ ∀ j, r ≤ j → ¬ Rdy vs s O j) ∨ (∃ q : Nat, nx' = q ∧ q < n ∧ r ≤ q ∧ Rdy vs s O q ∧ ∀ j, r ≤ j → j < q → ¬ Rdy vs s O j)) → look e' 2 = some (.ptr 0 0 0) → look e' 11 = some w11 → look e' 13 = some (.ptr idp 0 0) → look e' 14 = some w14 → look e' 15 = some (iv nx') → look e' 16 = some (iv ((r : Int) - 1)) → ∃ k, k < r + 1 ∧ I k ⟨e', L', σ⟩ := by
      intro e' L' nx' h f2 f11 f13 f14 f15 f16
      refine ⟨r, by omega, ?_⟩
      rw [hI]
      exact ⟨by omega, e', L', nx', rfl, h, f2, f11, f13, f14, f15, f16⟩
    cases b with
    | false =>
      simp [k12_36, g16, hr0', k12_38, g2, l0, hia, hld, k12_40, w1]
      exact next _ _ nx (skip fun h => by rw [h.1] at hb; cases hb) (by simp [g2]) (by simp [g11]) (by simp [g13]) (by simp [g14]) (by simp [g15]) (by simp)
    | true =>
      cases c with
      | true =>
        simp [k12_36, g16, hr0', k12_38, g2, l0, hia, hld, g13, lp, hia2, hld2, k12_40, w1]
        exact next _ _ nx (skip fun h => h.2.1 (hcO.1 rfl)) (by simp [g2]) (by simp [g11]) (by simp [g13]) (by simp [g14]) (by simp [g15]) (by simp)
      | false =>
        cases ha : l.any (fun y => (vs[y]?).getD false && !(tk[y]?).getD true) with
        | true =>
          rw [ha] at hcf
          simp [k12_36, g16, hr0', k12_38, g2, l0, hia, hld, g13, lp, hia2, hld2, g11, hwp, hwl, hcf, k12_40, w1]
          refine next _ _ nx (skip fun h => ?_) (by simp [g2]) (by simp [g11]) (by simp [g13]) (by simp [g14]) (by simp [g15]) (by simp)
          rw [List.any_eq_true] at ha
          obtain ⟨y, hy, hy2⟩ := ha
          have hyn := hln y hy
          obtain ⟨b', hb'⟩ : ∃ b, vs[y]? = some b := ⟨_, List.getElem?_eq_getElem (by omega)⟩
          obtain ⟨c', hc'⟩ : ∃ c, tk[y]? = some c := ⟨_, List.getElem?_eq_getElem (by omega)⟩
          rw [hb', hc'] at hy2
          simp at hy2
          obtain ⟨rfl, rfl⟩ := hy2
          have := (htk y).2 (h.2.2 y ((hlm y).1 hy) hb')
          rw [hc'] at this; cases this
        | false =>
          rw [ha] at hcf
          simp [k12_36, g16, hr0', k12_38, g2, l0, hia, hld, g13, lp, hia2, hld2, g11, hwp, hwl, hcf, k12_40, w1]
          refine next _ _ r (.inr ⟨r, rfl, by omega, Nat.le_refl _, ⟨hb, fun h => (by have := hcO.2 h; cases this), fun d hd hvd => ?_⟩, fun j h1 h2 => by omega⟩) (by simp [g2]) (by simp [g11]) (by simp [g13]) (by simp [g14]) (by simp) (by simp)
          have hdl := (hlm d).2 hd
          have hdn := hln d hdl
          rw [List.any_eq_false] at ha
          have := ha d hdl
          obtain ⟨c', hc'⟩ : ∃ c, tk[d]? = some c := ⟨_, List.getElem?_eq_getElem (by omega)⟩
          rw [hvd, hc'] at this
          simp at this
          exact (htk d).1 (by rw [hc', this])
  · have hr0' : r = 0 := by omega
    subst hr0'
    simp [k12_36, g16]
    refine hQ _ _ nx ?_ (by simp [g2]) (by simp [g11]) (by simp [g13]) (by simp [g14]) (by simp [g15])
    rcases hnx with ⟨h1, h2⟩ | ⟨q, h1, h2, h3, h4, h5⟩
    · exact .inl ⟨h1, fun j => h2 j (Nat.zero_le _)⟩
    · exact .inr ⟨q, h1, h2, h4, fun j hj => h5 j (Nat.zero_le _) hj⟩
end
end Go.Proofs.Ytknoiiacnfbkaaa.AM.Io
