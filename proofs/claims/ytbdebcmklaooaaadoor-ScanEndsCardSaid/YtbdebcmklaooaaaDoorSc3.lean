/- ScanEnds: part 3. -/
import Derived.Test.YtbdebcmklaooaaaDoorSc2
import Derived.Test.YtbdebcmklaooaaaDoorScX
set_option maxRecDepth 1000000
set_option linter.unusedVariables false
set_option linter.unusedSimpArgs false
namespace Go.Proofs.YtbdebcmklaooaaaDoor.AM.Sc
open Go.Proofs
theorem exec_loc {n : Nat} {ops : List HOp} {dr : Option (List (Nat × List Nat))} {b : HCode} {e L : List (Nat × V)} {σ : Store} : exec T (n + 2) (.seq (.region ops dr) b) ⟨e, L, σ⟩ = exec T (n + 2) (.seq (.region ops dr) b) ⟨e, [], σ⟩ := by
  simp only [exec, regionRun]
theorem tail_ok {k : Nat} {c : Bool} (h : okAt k c = true) (L : List (Nat × V)) : wpc T k6_4 ⟨env0 k c, L, []⟩ (giv [.tmp 4] fun v σ' => v = .tr (.sc (.bool true))) := by
  unfold okAt isE at h
  split at h
  · rename_i st hr
    split at h
    · rename_i hl
      refine wpc_of_exec k6_4 2000 _ .ret st _ ?_ ?_
      · unfold k6_4 at hr ⊢
        rw [show (2000 : Nat) = 1998 + 2 from rfl] at hr ⊢
        rw [exec_loc]
        exact hr
      · simp [giv, resultA, hl]
    · cases h
  · cases h
theorem law_ends (hall : ∀ k, k < 28 → ∀ c, okAt k c = true) (k : Int) (c : Bool) : ∃ v σ', callL T 6 [.tr (.sc (.int .i64 k)), .tr (.sc (.bool c))] [] = some (v, σ') ∧ v = .tr (.sc (.bool true)) := by
  refine call_shared T6 rfl rfl ?_
  have hlen : ∀ σ, opLen 1 (.tr wordsT) σ = some (nv .i64 28) := fun σ => rfl
  have e7 := begun
  by_cases h0 : k < 0
  · simp [e7]
    refine ⟨.tr wordsT, [], rfl, ?_⟩
    simp [h0]
    exact tail_ok (hall 0 (by omega) c) _
  · by_cases h1 : 28 ≤ k
    · simp [e7]
      refine ⟨.tr wordsT, [], rfl, ?_⟩
      simp [h0, h1, hlen]
      exact tail_ok (hall 0 (by omega) c) _
    · obtain ⟨n, rfl⟩ : ∃ n : Nat, k = n := ⟨k.toNat, by omega⟩
      have hn : ¬ (28 : Int) ≤ (n : Int) := h1
      simp [e7]
      refine ⟨.tr wordsT, [], rfl, ?_⟩
      simp [h0, hn, hlen]
      exact tail_ok (hall n (by omega) c) _
end Go.Proofs.YtbdebcmklaooaaaDoor.AM.Sc
