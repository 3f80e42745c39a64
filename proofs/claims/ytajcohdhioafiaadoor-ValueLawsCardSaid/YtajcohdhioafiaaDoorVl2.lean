/- ValueLaws: part 2. -/
import Derived.Test.YtajcohdhioafiaaDoorVlB
set_option maxRecDepth 1000000
set_option linter.unusedVariables false
set_option linter.unusedSimpArgs false
namespace Go.Proofs.YtajcohdhioafiaaDoor.AM
theorem freezeAll_tr (σ : Store) (ts : List Tree) : freezeAll σ (ts.map .tr) = some σ := by
  unfold freezeAll
  rw [dirs_tr]
  have hn : ∀ (n : Nat) (S : List Nat), reachN σ n [] S = S := by
    intro n S
    cases n <;> simp [reachN]
  simp only [hn]
  rfl
/-- One run of a function that sees trees is so in any store. -/
theorem iso_of_run {T : FTab} {f : FuncId} {fn : HFn} {ts : List Tree} {n : Nat} {v : V} {σ1 : Store} (hf : T f = some fn) (hm : fn.mode = .iso) (h : callA T n f (ts.map .tr) [] = some (v, σ1)) : ∃ t, v = .tr t ∧ ∀ σ, callL T f (ts.map .tr) σ = some (.tr t, σ) := by
  cases n with
  | zero => rw [callA] at h; cases h
  | succ m =>
    rw [callA, hf] at h
    simp only [hm, snapL_tr] at h
    split at h
    · rename_i hl
      split at h
      · cases h
      · rename_i v' s' hr
        split at h
        · cases h
        · rename_i t ht
          have hv : v = .tr t := by
            split at h
            · cases h; rfl
            · rw [freezeAll_tr] at h; cases h; rfl
          refine ⟨t, hv, fun σ => callL_some.2 ⟨m + 1, ?_⟩⟩
          rw [callA, hf]
          simp only [hm, snapL_tr, hl, if_true, hr, ht, freezeAll_tr]
          split <;> rfl
    · cases h
end Go.Proofs.YtajcohdhioafiaaDoor.AM
namespace Go.Proofs.YtajcohdhioafiaaDoor.AM.Vl
open Go.Proofs
abbrev sv (l : List UInt8) : V := .tr (.sc (.string ⟨⟨l⟩⟩))
def nInt : List UInt8 := [105, 110, 116]
def nI8 : List UInt8 := [105, 110, 116, 56]
def nU8 : List UInt8 := [117, 105, 110, 116, 56]
def nUint : List UInt8 := [117, 105, 110, 116]
theorem run_int : isT (callA T 4000 22 [sv nInt] []) = true := by decide +kernel
theorem run_uint : isT (callA T 4000 22 [sv nUint] []) = true := by decide +kernel
theorem run_i8 : isT (callA T 4000 22 [sv nI8] []) = true := by decide +kernel
theorem run_u8 : isT (callA T 4000 22 [sv nU8] []) = true := by decide +kernel
theorem integer_of {l : List UInt8} (h : isT (callA T 4000 22 [sv l] []) = true) (σ : Store) : callL T 22 [sv l] σ = some (bv true, σ) := by
  unfold isT at h
  split at h
  · rename_i s e
    obtain ⟨t, ht, h⟩ := iso_of_run (ts := [.sc (.string ⟨⟨l⟩⟩)]) T22 rfl e
    cases ht
    exact h σ
  · cases h
def isName (l : List UInt8) : Bool := decide (l = nInt) || decide (l = nI8) || decide (l = nU8) || decide (l = nUint)
theorem integer_in {l : List UInt8} (h : isName l = true) (σ : Store) : callL T 22 [sv l] σ = some (bv true, σ) := by
  simp only [isName, Bool.or_eq_true, decide_eq_true_eq] at h
  rcases h with ((rfl | rfl) | rfl) | rfl
  · exact integer_of run_int σ
  · exact integer_of run_i8 σ
  · exact integer_of run_u8 σ
  · exact integer_of run_uint σ
theorem of1_run : ((match callA T 2000 24 [.tr (.sc (.int .i64 1))] [] with | some (.tr (.agg [.sc (.bool _), .row _ _ _]), _) => true | _ => false)) = true := by decide +kernel
theorem of1 : ∃ a b c d, ∀ σ, callL T 24 [.tr (.sc (.int .i64 1))] σ = some (.tr (.agg [.sc (.bool a), .row b c d]), σ) := by
  have h := of1_run
  split at h
  · rename_i a b c d s e
    obtain ⟨t, ht, h⟩ := iso_of_run (ts := [.sc (.int .i64 1)]) T24 rfl e
    cases ht
    exact ⟨a, b, c, d, h⟩
  · cases h
def big0 : Tree := .agg [.sc (.bool false), .sc (.slice none 0 0)]
theorem range_out {l : List UInt8} (h : isName l = false) (σ : Store) : ∀ σ, callL T 35 [sv l] σ = some (.tr (.tup [big0, big0, .sc (.bool false)]), σ) := by
  suffices hh : ∃ t, (∀ σ, callL T 35 ([Tree.sc (.string ⟨⟨l⟩⟩)].map .tr) σ = some (.tr t, σ)) ∧ t = .tup [big0, big0, .sc (.bool false)] by
    obtain ⟨t, h, rfl⟩ := hh
    exact h
  refine call_iso T35 rfl rfl ?_
  simp only [isName, Bool.or_eq_false_iff, decide_eq_false_iff_not] at h
  obtain ⟨⟨⟨h1, h2⟩, h3⟩, h4⟩ := h
  simp only [nInt, nI8, nU8, nUint] at h1 h2 h3 h4
  obtain ⟨a, b, c, d, ho⟩ := of1
  simp [ho, bytesEq_iff', h1, h2, h3, h4, k35_15, opStore, obPut, cellsOf, splice, oneV, genOf]
  exact ⟨_, rfl, rfl⟩
end Go.Proofs.YtajcohdhioafiaaDoor.AM.Vl
