/- ImportsOrder: part B. -/
import Derived.Test.YtknoiiacnfbkaaaIo1
set_option maxRecDepth 1000000
namespace Go.Proofs.Ytknoiiacnfbkaaa.AM.Io
open Go.Proofs
def isT : Option (V × Store) → Bool | some (.tr (.sc (.bool true)), _) => true | _ => false
theorem begun20_run : isT (callA T 2000 10 [] []) = true := by decide +kernel
theorem begun20 (σ : Store) : callL T 10 [] σ = some (.tr (.sc (.bool true)), σ) := by
  have h := begun20_run
  unfold isT at h
  split at h
  · rename_i σ1 e
    refine callL_some.2 ⟨2000, ?_⟩
    rw [show (2000 : Nat) = 1999 + 1 from rfl, callA, T10] at e ⊢
    simp only [fn10, List.length_nil, if_true, snapL] at e ⊢
    split at e
    · cases e
    · rename_i v s1 hr
      split at e
      · cases e
      · rename_i t ht
        have : t = .sc (.bool true) := by
          split at e
          · cases e; rfl
          · split at e
            · cases e; rfl
            · cases e
        subst this
        rfl
  · cases h
theorem begun19_run : isT (callA T 2000 6 [] []) = true := by decide +kernel
theorem begun19 (σ : Store) : callL T 6 [] σ = some (.tr (.sc (.bool true)), σ) := by
  have h := begun19_run
  unfold isT at h
  split at h
  · rename_i σ1 e
    refine callL_some.2 ⟨2000, ?_⟩
    rw [show (2000 : Nat) = 1999 + 1 from rfl, callA, T6] at e ⊢
    simp only [fn6, List.length_nil, if_true, snapL] at e ⊢
    split at e
    · cases e
    · rename_i v s1 hr
      split at e
      · cases e
      · rename_i t ht
        have : t = .sc (.bool true) := by
          split at e
          · cases e; rfl
          · split at e
            · cases e; rfl
            · cases e
        subst this
        rfl
  · cases h
end Go.Proofs.Ytknoiiacnfbkaaa.AM.Io
