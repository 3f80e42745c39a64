/- TreeWalk: part 8. -/
import Derived.Test.YtimcmpndblajnaaDoorTr7
set_option maxRecDepth 1000000
set_option linter.unusedVariables false
set_option linter.unusedSimpArgs false
namespace Go.Proofs.YtimcmpndblajnaaDoor.AM.Tr
open Go.Proofs

theorem nd_one {x : Nd} {q : Q} (h : NdQ x q) : oneV (.tr q.2.2.2) = true := by
  obtain ⟨k, a, s, ks⟩ := x
  simp only [NdQ] at h
  obtain ⟨_, _, _, L, hL, _⟩ := h
  rcases hL with ⟨_, h⟩ | ⟨c, h⟩
  · rw [h]; rfl
  · rw [h]; rfl
theorem st4T {σ : Store} {n : Nat} {C : List V} {x : Nd} {q : Q} (h : σ[n]? = some (.row C 0)) (hC : C.length = 4) (hq : NdQ x q) : opStore 4 (.ptr n 0 0) (.tr (ag q)) σ = some (σ.set n (.row ((e4 q).map .tr) 0)) :=
  st4 (c := (q.1, q.2.1, q.2.2.1, .tr q.2.2.2)) h hC (nd_one hq)
theorem law_eq {x y : Nd} {qa qb : Q} (ha : NdQ x qa) (hb : NdQ y qb) : ∃ v σ', callL T 4 [.tr (ag qa), .tr (ag qb)] [] = some (v, σ') ∧ v = bv true := by
  refine call_shared T4 rfl rfl ?_
  obtain ⟨qa', xa, ca, na, sa, _⟩ := cut_ok ha
  obtain ⟨qb', xb, cb, nb, sb, _⟩ := cut_ok hb
  have e5 := begun6
  have tt := fun q : Q => (rfl : mkAgg ((e4 q).map .tr) = V.tr (ag q))
  have eab15 := eq15 _ xa xb qa' qb' (Nat.le_refl _) sa sb na nb
  have eba15 := eq15 _ xb xa qb' qa' (Nat.le_refl _) sb sa nb na
  have eaa15 := eq15 _ xa xa qa' qa' (Nat.le_refl _) sa sa na na
  have eab10 := eq10 _ xa xb qa' qb' (Nat.le_refl _) sa sb na nb
  rw [eqN_refl] at eaa15
  rw [eqN_symm xb xa] at eba15
  obtain ⟨σ1, hσ1⟩ : ∃ σ1 : Store, σ1 = [.row ((e4 qa).map .tr) 0] := ⟨_, rfl⟩
  obtain ⟨σ2, hσ2⟩ : ∃ σ2 : Store, σ2 = [.row ((e4 qa).map .tr) 0, .row ((e4 qb).map .tr) 0] := ⟨_, rfl⟩
  obtain ⟨σ3, hσ3⟩ : ∃ σ3 : Store, σ3 = [.row ((e4 qa').map .tr) 0, .row ((e4 qb).map .tr) 0] := ⟨_, rfl⟩
  obtain ⟨σ4, hσ4⟩ : ∃ σ4 : Store, σ4 = [.row ((e4 qa').map .tr) 0, .row ((e4 qb').map .tr) 0] := ⟨_, rfl⟩
  have b1 : opBoxB false (.tr (ag qa)) [] = some (.ptr 0 0 0, σ1) := by rw [hσ1]; rfl
  have b2 : opBoxB false (.tr (ag qb)) σ1 = some (.ptr 1 0 0, σ2) := by rw [hσ1, hσ2]; rfl
  have l1 : opLoad 4 true (.ptr 0 0 0) σ2 = some (.tr (ag qa)) := by rw [hσ2]; rfl
  have l2 : opLoad 4 true (.ptr 1 0 0) σ2 = some (.tr (ag qb)) := by rw [hσ2]; rfl
  have s1 : opStore 4 (.ptr 0 0 0) (.tr (ag qa')) σ2 = some σ3 := by
    rw [hσ2, hσ3]
    rw [st4T (C := (e4 qa).map .tr) rfl rfl na]; rfl
  have s2 : opStore 4 (.ptr 1 0 0) (.tr (ag qb')) σ3 = some σ4 := by
    rw [hσ3, hσ4, st4T (C := (e4 qb).map .tr) rfl rfl nb]; rfl
  have l3 : opLoad 4 true (.ptr 0 0 0) σ4 = some (.tr (ag qa')) := by rw [hσ4]; rfl
  have l4 : opLoad 4 true (.ptr 1 0 0) σ4 = some (.tr (ag qb')) := by rw [hσ4]; rfl
  have qca : ∀ σ, quietCall (callL T) 6 [.tr (ag qa)] σ = some (.tr (ag qa'), σ) := fun σ => quiet_tr (ts := [ag qa]) ca
  have qab : ∀ σ, quietCall (callL T) 15 [.tr (ag qa'), .tr (ag qb')] σ = some (.tr (.sc (.bool (eqN xa xb))), σ) := fun σ => quiet_tr (ts := [ag qa', ag qb']) eab15
  simp [b1, b2, qca, qab, e5, l1, l2, ca, cb, quiet_tr, s1, s2, l3, l4, eab15, eba15, eaa15, eab10]
end Go.Proofs.YtimcmpndblajnaaDoor.AM.Tr
