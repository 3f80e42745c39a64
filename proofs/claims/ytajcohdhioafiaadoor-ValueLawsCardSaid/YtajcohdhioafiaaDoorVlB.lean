/- ValueLaws: part B. -/
import Derived.Test.YtajcohdhioafiaaDoorVl1
set_option maxRecDepth 1000000
namespace Go.Proofs.YtajcohdhioafiaaDoor.AM.Vl
open Go.Proofs
def isT : Option (V × Store) → Bool | some (.tr (.sc (.bool true)), _) => true | _ => false
theorem begun_run : isT (callA T 2000 5 [] []) = true := by decide +kernel
theorem begun (σ : Store) : callL T 5 [] σ = some (.tr (.sc (.bool true)), σ) := by
  have h := begun_run
  unfold isT at h
  split at h
  · rename_i σ1 e
    refine callL_some.2 ⟨2000, ?_⟩
    rw [show (2000 : Nat) = 1999 + 1 from rfl, callA, T5] at e ⊢
    simp only [fn5, List.length_nil, if_true, snapL] at e ⊢
    split at e
    · cases e
    · rename_i v s1 hr
      split at e
      · cases e
      · rename_i t ht
        have : t = .sc (.bool true) := by
          split at e
          · cases e; rfl
          · split at e
            · cases e; rfl
            · cases e
        subst this
        rfl
  · cases h
end Go.Proofs.YtajcohdhioafiaaDoor.AM.Vl
