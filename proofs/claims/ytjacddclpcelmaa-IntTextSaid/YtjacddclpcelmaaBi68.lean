/- IntText: part 68. -/
import Derived.Test.YtjacddclpcelmaaBi67
set_option maxRecDepth 1000000
set_option linter.unusedVariables false
set_option linter.unusedSimpArgs false
namespace Go.Proofs.Ytjacddclpcelmaa.AM.Bi
open Go.Proofs

theorem reverse_ok {l : List Nat} {σ : Store} {id g n : Nat} {cap : Option Nat} (hs : σ[id]? = some (.row (cK .u8 l) g)) (hl : l.length = n) (hn : n ≤ 100000) :
    ∃ v, callL T 60 [.own id g 0 n 1 cap] σ = some (v, σ.set id (.row (cK .u8 l.reverse) g)) := by
  suffices hh : ∃ v σ', callL T 60 [.own id g 0 n 1 cap] σ = some (v, σ') ∧ σ' = σ.set id (.row (cK .u8 l.reverse) g) by
    obtain ⟨v, σ', h, rfl⟩ := hh
    exact ⟨v, h⟩
  refine call_shared T60 rfl rfl ?_
  have hln : ∀ σ, opLen 1 (.own id g 0 n 1 cap) σ = some (nv .i64 n) := fun σ => own_len
  have w1 : IntKind.i64.wrap ((n : Int) - 1) = (n : Int) - 1 := w64 (by omega) (by omega)
  simp [hln, w1]
  obtain ⟨I, hI⟩ : ∃ I : Nat → St → Prop, I = (fun r s => ∃ i e L W, r = n - i ∧ 2 * i ≤ n + 1 ∧ s = ⟨e, L, σ.set id (.row (cK .u8 W) g)⟩ ∧ W.length = n ∧ (∀ k, k < n → W[k]? = if k < i ∨ n - i ≤ k then l[n - 1 - k]? else l[k]?) ∧ look e 0 = some (.own id g 0 n 1 cap) ∧ look e 2 = some (nv .i64 i) ∧ look e 3 = some (iv ((n : Int) - 1 - i))) := ⟨_, rfl⟩
  refine wpc_loop I n _ ?_ ?_
  · rw [hI]
    exact ⟨0, _, _, l, by simp, by omega, by rw [set_id hs], hl, fun k hk => by rw [if_neg (by omega)], by simp, by simp, by simp⟩
  intro r s hIs
  rw [hI] at hIs
  obtain ⟨i, e, L, W, rfl, hi, rfl, hW, hk, h0, h2, h3⟩ := hIs
  have hs' : (σ.set id (.row (cK .u8 W) g))[id]? = some (.row (cK .u8 W) g) := set_same hs
  by_cases hlt : 2 * i + 1 < n
  · obtain ⟨j, hj⟩ : ∃ j, j = n - 1 - i := ⟨_, rfl⟩
    have ej : (n : Int) - 1 - i = (j : Int) := by omega
    rw [ej] at h3
    have hij : (i : Int) < j := by omega
    have hij2 : i < j := by omega
    have hxi : W[i]? = some W[i] := List.getElem?_eq_getElem (by omega)
    have hxj : W[j]? = some W[j] := List.getElem?_eq_getElem (by omega)
    have w2 : IntKind.i64.wrap ((i : Int) + 1) = ((i + 1 : Nat) : Int) := w64 (by omega) (by omega)
    have w3 : IntKind.i64.wrap ((j : Int) - 1) = (n : Int) - 1 - ((i + 1 : Nat) : Int) := by rw [w64 (by omega) (by omega)]; omega
    obtain ⟨x, hx⟩ : ∃ x, x = W[i] := ⟨_, rfl⟩
    obtain ⟨y, hy⟩ : ∃ y, y = W[j] := ⟨_, rfl⟩
    rw [← hx] at hxi
    rw [← hy] at hxj
    have hiai : ∀ Z, opIaddr 1 (.own id g 0 n 1 cap) (nv .i64 i) (σ.set id (.row (cK .u8 Z) g)) = some (.ptr id g (0 + i)) := fun Z => own_iaddr (set_same hs) (by omega)
    have hiaj : ∀ Z, opIaddr 1 (.own id g 0 n 1 cap) (nv .i64 j) (σ.set id (.row (cK .u8 Z) g)) = some (.ptr id g (0 + j)) := fun Z => own_iaddr (set_same hs) (by omega)
    simp only [Nat.zero_add] at hiai hiaj
    have ldi : opLoad 1 false (.ptr id g i) (σ.set id (.row (cK .u8 W) g)) = some (nv .u8 x) := own_load hs' hxi
    have ldj : opLoad 1 false (.ptr id g j) (σ.set id (.row (cK .u8 W) g)) = some (nv .u8 y) := own_load hs' hxj
    have st1 : opStore 1 (.ptr id g i) (nv .u8 y) (σ.set id (.row (cK .u8 W) g)) = some (σ.set id (.row (cK .u8 (W.set i y)) g)) := by rw [own_store hs' (by omega), List.set_set]
    have st2 : opStore 1 (.ptr id g j) (nv .u8 x) (σ.set id (.row (cK .u8 (W.set i y)) g)) = some (σ.set id (.row (cK .u8 ((W.set i y).set j x)) g)) := by rw [own_store (set_same hs) (by simp; omega), List.set_set]
    simp [k60_1, h2, h3, hij, hij2, k60_3, h0, hiai, hiaj, ldi, ldj, st1, st2, w2, w3, -Int.natCast_add]
    refine ⟨n - (i + 1), by omega, ?_⟩
    rw [hI]
    refine ⟨i + 1, _, _, (W.set i y).set j x, rfl, by omega, rfl, by simpa using hW, ?_, by simp [h0], by simp, by simp⟩
    intro k hkn
    have hki := hk i (by omega)
    have hkj := hk j (by omega)
    rw [if_neg (by omega), hxi] at hki
    rw [if_neg (by omega), hxj] at hkj
    by_cases h1 : k = j
    · subst h1
      rw [List.getElem?_set_self (by simp; omega), if_pos (by omega), show n - 1 - k = i by omega, ← hki]
    · rw [List.getElem?_set_ne (Ne.symm h1)]
      by_cases h4 : k = i
      · subst h4
        rw [List.getElem?_set_self (by omega), if_pos (by omega), ← hj, ← hkj]
      · rw [List.getElem?_set_ne (Ne.symm h4), hk k hkn]
        by_cases h5 : k < i ∨ n - i ≤ k
        · rw [if_pos h5, if_pos (by omega)]
        · rw [if_neg h5, if_neg (by omega)]
  · have hge : ¬ (i : Int) < (n : Int) - 1 - i := by omega
    simp [k60_1, h2, h3, hge]
    have hWr : W = l.reverse := by
      refine List.ext_getElem? fun k => ?_
      by_cases hkn : k < n
      · rw [hk k hkn, List.getElem?_reverse (by omega), hl]
        by_cases h5 : k < i ∨ n - i ≤ k
        · rw [if_pos h5]
        · rw [if_neg h5, show n - 1 - k = k by omega]
      · rw [List.getElem?_eq_none (by omega), List.getElem?_eq_none (by simp; omega)]
    rw [hWr]
end Go.Proofs.Ytjacddclpcelmaa.AM.Bi
