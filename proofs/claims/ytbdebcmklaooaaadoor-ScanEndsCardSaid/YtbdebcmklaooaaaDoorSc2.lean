/- ScanEnds: part 2. -/
import Derived.Test.YtbdebcmklaooaaaDoorSc1
set_option maxRecDepth 1000000
set_option linter.unusedVariables false
set_option linter.unusedSimpArgs false
namespace Go.Proofs.YtbdebcmklaooaaaDoor.AM.Sc
open Go.Proofs
def isT : Option (V × Store) → Bool | some (.tr (.sc (.bool true)), _) => true | _ => false
theorem begun_run : isT (callA T 2000 7 [] []) = true := by decide +kernel
theorem begun (σ : Store) : callL T 7 [] σ = some (.tr (.sc (.bool true)), σ) := by
  have h := begun_run
  unfold isT at h
  split at h
  · rename_i σ1 e
    refine callL_some.2 ⟨2000, ?_⟩
    rw [show (2000 : Nat) = 1999 + 1 from rfl, callA, T7] at e ⊢
    simp only [fn7, List.length_nil, if_true, snapL] at e ⊢
    split at e
    · cases e
    · rename_i v s1 hr
      split at e
      · cases e
      · rename_i t ht
        have : t = .sc (.bool true) := by
          split at e
          · cases e; rfl
          · split at e
            · cases e; rfl
            · cases e
        subst this
        rfl
  · cases h
def words : List (List UInt8) := [[97], [49], [50, 46, 53], [34, 115, 34], [96, 114, 96], [98, 114, 101, 97, 107], [99, 111, 110, 116, 105, 110, 117, 101], [114, 101, 116, 117, 114, 110], [43, 43], [45, 45], [41], [93], [125], [102, 117, 110, 99], [105, 102], [43], [40], [91], [123], [44], [46], [58, 61], [61], [58], [126], [101, 108, 115, 101], [114, 97, 110, 103, 101], [38, 94, 61]]
def wordsT : Tree := .row (words.map fun w => .sc (.string ⟨⟨w⟩⟩)) 28 (some 28)
def env0 (k : Nat) (c : Bool) : List (Nat × V) := [(0, nv .i64 k), (1, .tr (.sc (.bool c))), (4, .tr (.sc (.bool false))), (5, .tr (.sc (.bool true))), (6, .tr wordsT)]
def isE : Option (Out × St) → Bool | some (.ret, st) => (match look st.env 4 with | some (.tr (.sc (.bool true))) => true | _ => false) | _ => false
/-- What is behind the choice of a word. -/
noncomputable def okAt (k : Nat) (c : Bool) : Bool := isE (exec T 2000 k6_4 ⟨env0 k c, [], []⟩)
theorem ok0 : okAt 0 false = true := by decide +kernel
end Go.Proofs.YtbdebcmklaooaaaDoor.AM.Sc
