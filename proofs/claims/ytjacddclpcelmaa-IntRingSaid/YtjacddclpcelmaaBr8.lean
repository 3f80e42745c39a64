/- IntRing: part 8. -/
import Derived.Test.YtjacddclpcelmaaBr7
import Derived.Test.YtjacddclpcelmaaBrB
set_option maxRecDepth 1000000
set_option linter.unusedVariables false
set_option linter.unusedSimpArgs false
namespace Go.Proofs.Ytjacddclpcelmaa.AM.Br
open Go.Proofs

@[simp] theorem fad_p {i g k o : Nat} : opFaddr o (.ptr i g k) = some (.ptr i g (k + o)) := rfl
theorem cut_ok {x : Bool} {a : List Nat} {ta : Tree} (ha : IsBig x a ta) (n : Nat) (hn : n ≤ 1000) : ∃ r, (∀ σ, callL T 11 [.tr ta, nv .i64 n] σ = some (.tr r, σ)) ∧ IsBig x (a.take n) r := by
  refine call_iso (ts := [ta, .sc (.int .i64 (n : Int))]) T11 rfl rfl ?_
  have dg := ha.dg
  obtain ⟨sa, rfl, ia⟩ := ha.ex
  have hla : ∀ σ, opLen 1 (.tr sa) σ = some (nv .i64 a.length) := fun σ => isSl_len ia
  have h1 := one_sl ia
  have hbx : ∀ σ, opBoxB false (.tr (.agg [.sc (.bool x), sa])) σ = some (.ptr σ.length 0 0, σ ++ [.row [bv x, .tr sa] 0]) := fun σ => rfl
  have l1 : ∀ t r, opLoad 1 false (.ptr 0 0 1) (.row [bv x, .tr t] 0 :: r) = some (.tr t) := fun t r => rfl
  by_cases h : n < a.length
  · obtain ⟨t', hc, ht'⟩ := cut_all ia (n := n) (by omega)
    have h2 := one_sl ht'
    simp [hbx, l1, hla, h, hc, opStore, obPut, h2, cells_one h2, k11_2, opLoad, obCells, slice?, splice_all]
    exact ⟨⟨_, rfl, ht'⟩, dig_take dg⟩
  · simp [hbx, l1, hla, h, k11_2, opStore, obPut, opLoad, obCells, slice?, splice_all, h1]
    exact ⟨⟨_, rfl, by rw [List.take_of_length_le (by omega)]; exact ia⟩, dig_take dg⟩
end Go.Proofs.Ytjacddclpcelmaa.AM.Br
