/- TreeWalk: part 7. -/
import Derived.Test.YtimcmpndblajnaaDoorTr6
set_option maxRecDepth 1000000
set_option linter.unusedVariables false
set_option linter.unusedSimpArgs false
namespace Go.Proofs.YtimcmpndblajnaaDoor.AM.Tr
open Go.Proofs

/-- Cut gives a tree that is small. -/
theorem cut_ok {x : Nd} {q : Q} (hq : NdQ x q) : ∃ q' y, (∀ σ, callL T 6 [.tr (ag q)] σ = some (.tr (ag q'), σ)) ∧ NdQ y q' ∧ smN y ∧ cnN y ≤ 80 := by
  suffices hh : ∃ r, (∀ σ, callL T 6 ([ag q].map .tr) σ = some (.tr r, σ)) ∧ ∃ q' y, r = ag q' ∧ NdQ y q' ∧ smN y ∧ cnN y ≤ 80 by
    obtain ⟨r, h1, q', y, rfl, h2, h3⟩ := hh
    exact ⟨q', y, h1, h2, h3⟩
  refine call_iso T6 rfl rfl ?_
  obtain ⟨σ0, hσ0⟩ : ∃ σ0 : Store, σ0 = [.row (z4.map .tr) 0] := ⟨_, rfl⟩
  have al0 : opAlloc z4 [] = some (.ptr 0 0 0, σ0) := by rw [hσ0]; rfl
  obtain ⟨σ1, hσ1⟩ : ∃ σ1 : Store, σ1 = [.row (z4.map .tr) 0, .row [.tr (.sc (.int .i64 0))] 0] := ⟨_, rfl⟩
  have al1 : opAlloc [.sc (.int .i64 0)] σ0 = some (.ptr 1 0 0, σ1) := by rw [hσ0, hσ1]; rfl
  obtain ⟨σ2, hσ2⟩ : ∃ σ2 : Store, σ2 = [.row (z4.map .tr) 0, .row [nv .i64 80] 0] := ⟨_, rfl⟩
  have s1 : opStore 1 (.ptr 1 0 0) (.tr (.sc (.int .i64 80))) σ1 = some σ2 := by rw [hσ1, hσ2]; rfl
  obtain ⟨v, σ3, hc, c, y, left', rfl, c1, c2, c3, c4, c5, c6, c7, c8, c9⟩ := some_ok 11 1 (by omega) x q σ2 1 80 hq (by omega) (by omega) (by rw [hσ2]; rfl)
  have hc' : callL T 18 [.tr (ag q), .tr (.sc (.int .i64 1)), .ptr 1 0 0] σ2 = some (mkAgg (w4 c), σ3) := hc
  have h0 : σ3[0]? = some (.row (z4.map .tr) 0) := by rw [c5 0 (by omega) (by rw [hσ2]; simp), hσ2]; rfl
  have s2 := st4 (c := c) h0 rfl c2
  have h0l := (List.getElem?_eq_some_iff.1 h0).1
  obtain ⟨σ4, hσ4⟩ : ∃ σ4, σ4 = σ3.set 0 (.row (w4 c) 0) := ⟨_, rfl⟩
  rw [← hσ4] at s2
  have l2 : opLoad 4 true (.ptr 0 0 0) σ4 = some (mkAgg (w4 c)) := ld_4 (by rw [hσ4, List.getElem?_set_self h0l])
  have c1' : CN σ4 (fun i => 2 ≤ i) y c := cn_mono (fun i h1 h2 => by
    have : σ2.length = 2 := by rw [hσ2]; rfl
    rw [this] at h1
    exact ⟨by rw [hσ4, List.getElem?_set_ne (by omega)], h1⟩) c1
  obtain ⟨q', k1, k2⟩ := cn_snap c1' (d := 398 + 1) (by omega)
  have hsn : snap σ4 deepN (mkAgg (w4 c)) = some (ag q') := by
    unfold mkAgg
    split
    · rename_i ts hts
      have e := allTr_some hts
      rw [e, snapL_tr] at k1
      cases k1
      exact snap_tr
    · rw [snap_deep, snap_agg, k1]
  simp [-opAlloc, -mkAgg, bx4, al0, al1, s1, ld4, hc', s2, l2, hsn]
  exact ⟨q'.1, q'.2.1, q'.2.2.1, q'.2.2.2, rfl, y, k2, c7, by omega⟩
end Go.Proofs.YtimcmpndblajnaaDoor.AM.Tr
