/- TreeWalk: part 4. -/
import Derived.Test.YtimcmpndblajnaaDoorTr3
set_option maxRecDepth 1000000
set_option linter.unusedVariables false
set_option linter.unusedSimpArgs false
namespace Go.Proofs.YtimcmpndblajnaaDoor.AM.Tr
open Go.Proofs

/-- A tree's cells, the kids in a place. -/
abbrev K := Int × Int × S × V
def w4 (c : K) : List V := [.tr (.sc (.int .i64 c.1)), .tr (.sc (.int .i64 c.2.1)), .tr (.sc (.string ⟨⟨c.2.2.1⟩⟩)), c.2.2.2]
mutual
def CN (σ : Store) (P : Nat → Prop) : Nd → K → Prop
  | .mk k a s ks, c => c.1 = k ∧ c.2.1 = a ∧ c.2.2.1 = s ∧ ((ks = [] ∧ c.2.2.2 = nilSl) ∨ ∃ id g C, P id ∧ ks ≠ [] ∧ c.2.2.2 = .own id g 0 ks.length 4 none ∧ σ[id]? = some (.row (C.flatMap w4) g) ∧ CL σ P ks C)
def CL (σ : Store) (P : Nat → Prop) : List Nd → List K → Prop
  | [], C => C = []
  | x :: r, C => ∃ c C', C = c :: C' ∧ CN σ P x c ∧ CL σ P r C'
end
section
variable {σ σ' : Store} {P P' : Nat → Prop}
mutual
theorem cn_mono (h : ∀ i, P i → i < σ.length → σ'[i]? = σ[i]? ∧ P' i) : ∀ {y : Nd} {c : K}, CN σ P y c → CN σ' P' y c
  | .mk k a s ks, c, hc => by
    simp only [CN] at hc ⊢
    obtain ⟨h1, h2, h3, h4 | ⟨id, g, C, h4, h5, h6, h7, h8⟩⟩ := hc
    · exact ⟨h1, h2, h3, .inl h4⟩
    · have hid := (List.getElem?_eq_some_iff.1 h7).1
      exact ⟨h1, h2, h3, .inr ⟨id, g, C, (h id h4 hid).2, h5, h6, by rw [(h id h4 hid).1]; exact h7, cl_mono h h8⟩⟩
theorem cl_mono (h : ∀ i, P i → i < σ.length → σ'[i]? = σ[i]? ∧ P' i) : ∀ {ks : List Nd} {C : List K}, CL σ P ks C → CL σ' P' ks C
  | [], C, hc => by simp only [CL] at hc ⊢; exact hc
  | x :: r, C, hc => by
    simp only [CL] at hc ⊢
    obtain ⟨c, C', h1, h2, h3⟩ := hc
    exact ⟨c, C', h1, cn_mono h h2, cl_mono h h3⟩
end
theorem cl_snoc {y : Nd} {c : K} (hy : CN σ P y c) : ∀ {ks : List Nd} {C : List K}, CL σ P ks C → CL σ P (ks ++ [y]) (C ++ [c])
  | [], C, h => by
    simp only [CL] at h
    subst h
    simp only [List.nil_append, CL]
    exact ⟨c, [], rfl, hy, rfl⟩
  | x :: r, C, h => by
    simp only [CL] at h
    obtain ⟨c1, C', rfl, h2, h3⟩ := h
    simp only [List.cons_append, CL]
    exact ⟨c1, C' ++ [c], rfl, h2, cl_snoc hy h3⟩
theorem cl_len : ∀ {ks : List Nd} {C : List K}, CL σ P ks C → C.length = ks.length
  | [], C, h => by simp only [CL] at h; simp [h]
  | x :: r, C, h => by
    simp only [CL] at h
    obtain ⟨c1, C', rfl, h2, h3⟩ := h
    simp [cl_len h3]
end
mutual
def dpN : Nd → Nat
  | .mk _ _ _ ks => dpL ks + 1
def dpL : List Nd → Nat
  | [] => 0
  | x :: r => max (dpN x) (dpL r)
end
mutual
def cnN : Nd → Nat
  | .mk _ _ _ ks => cnL ks + 1
def cnL : List Nd → Nat
  | [] => 0
  | x :: r => cnN x + cnL r
end
theorem cnL_snoc {y : Nd} : ∀ {ks : List Nd}, cnL (ks ++ [y]) = cnL ks + cnN y
  | [] => by simp [cnL]
  | x :: r => by
    simp only [List.cons_append, cnL, cnL_snoc (ks := r)]
    omega
theorem snapL_app {f : V → Option Tree} : ∀ {a b : List V} {x y : List Tree}, snapL f a = some x → snapL f b = some y → snapL f (a ++ b) = some (x ++ y)
  | [], b, x, y, ha, hb => by simp [snapL] at ha; subst ha; simpa using hb
  | v :: a, b, x, y, ha, hb => by
    simp only [List.cons_append, snapL] at ha ⊢
    cases h1 : f v with
    | none => rw [h1] at ha; simp at ha
    | some t =>
      rw [h1] at ha
      cases h2 : snapL f a with
      | none => rw [h2] at ha; simp at ha
      | some ts =>
        rw [h2] at ha
        simp at ha
        subst ha
        rw [snapL_app h2 hb]
        simp
section
variable {σ : Store} {P : Nat → Prop}
theorem snap_w4 {d : Nat} {k a : Int} {s : S} {v : V} {t : Tree} (h : snap σ d v = some t) : snapL (snap σ d) (w4 (k, a, s, v)) = some (e4 (k, a, s, t)) := by
  simp only [w4, e4, snapL, snap_tr, h]
mutual
theorem cn_snap : ∀ {y : Nd} {c : K} {d : Nat}, CN σ P y c → dpN y ≤ d → ∃ q, snapL (snap σ d) (w4 c) = some (e4 q) ∧ NdQ y q
  | .mk k a s ks, (k', a', s', v), d, h, hd => by
    simp only [CN] at h
    simp only [dpN] at hd
    obtain ⟨rfl, rfl, rfl, ⟨rfl, rfl⟩ | ⟨id, g, C, h4, h5, rfl, h7, h8⟩⟩ := h
    · refine ⟨(k', a', s', .sc (.slice none 0 0)), snap_w4 snap_tr, ?_⟩
      simp only [NdQ, true_and]
      exact ⟨[], .inl ⟨rfl, rfl⟩, by simp [NdL]⟩
    · obtain ⟨d, rfl⟩ : ∃ e, d = e + 1 := ⟨d - 1, by omega⟩
      obtain ⟨L, hL1, hL2⟩ := cl_snap h8 (d := d) (by omega)
      have hsl : slice? (C.flatMap w4) 0 (ks.length * 4) = some (C.flatMap w4) := by
        have hl : (C.flatMap w4).length = ks.length * 4 := by
          rw [← cl_len h8]
          clear hL1 h8 h7
          induction C with
          | nil => rfl
          | cons a C ih => rw [List.flatMap_cons, List.length_append, ih, List.length_cons]; simp [w4]; omega
        unfold slice?
        have ht : ((C.flatMap w4).drop 0).take (ks.length * 4) = C.flatMap w4 := by
          rw [List.drop_zero, List.take_of_length_le (by rw [hl]; exact Nat.le_refl _)]
        simp only [ht, hl, if_true]
      have ho : obCells σ id g = some (C.flatMap w4) := by simp [obCells, h7]
      have hsn : snap σ (d + 1) (.own id g 0 ks.length 4 none) = some (.row (L.flatMap e4) L.length none) := by
        rw [snap]
        simp only [ho, hsl, hL1, ndL_len hL2]
      refine ⟨(k', a', s', .row (L.flatMap e4) L.length none), snap_w4 hsn, ?_⟩
      simp only [NdQ, true_and]
      exact ⟨L, .inr ⟨none, rfl⟩, hL2⟩
theorem cl_snap : ∀ {ks : List Nd} {C : List K} {d : Nat}, CL σ P ks C → dpL ks ≤ d → ∃ L, snapL (snap σ d) (C.flatMap w4) = some (L.flatMap e4) ∧ NdL ks L
  | [], C, d, h, hd => by
    simp only [CL] at h
    subst h
    exact ⟨[], rfl, by simp [NdL]⟩
  | x :: r, C, d, h, hd => by
    simp only [CL] at h
    simp only [dpL] at hd
    obtain ⟨c, C', rfl, h2, h3⟩ := h
    obtain ⟨q, q1, q2⟩ := cn_snap h2 (d := d) (by omega)
    obtain ⟨L, l1, l2⟩ := cl_snap h3 (d := d) (by omega)
    refine ⟨q :: L, ?_, ?_⟩
    · rw [List.flatMap_cons, List.flatMap_cons]
      exact snapL_app q1 l1
    · simp only [NdL]
      exact ⟨q, L, rfl, q2, l2⟩
end
end
end Go.Proofs.YtimcmpndblajnaaDoor.AM.Tr
