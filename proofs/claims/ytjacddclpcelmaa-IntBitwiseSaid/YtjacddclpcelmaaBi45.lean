/- IntBitwise: part 45. -/
import Derived.Test.YtjacddclpcelmaaBi44
set_option maxRecDepth 1000000
set_option linter.unusedVariables false
set_option linter.unusedSimpArgs false
namespace Go.Proofs.Ytjacddclpcelmaa.AM.Bi
open Go.Proofs

/-- Which of the four an operator is. -/
def bwCode (op : ByteArray) : Option Nat :=
  if bytesEq op.data.toList [38] then some 0 else if bytesEq op.data.toList [124] then some 1 else if bytesEq op.data.toList [94] then some 2 else if bytesEq op.data.toList [38, 94] then some 3 else none
theorem bwCode_cases (op : ByteArray) :
    (bytesEq op.data.toList [38] = true ∧ bwCode op = some 0) ∨ (bytesEq op.data.toList [38] = false ∧ bytesEq op.data.toList [124] = true ∧ bwCode op = some 1) ∨
    (bytesEq op.data.toList [38] = false ∧ bytesEq op.data.toList [124] = false ∧ bytesEq op.data.toList [94] = true ∧ bwCode op = some 2) ∨
    (bytesEq op.data.toList [38] = false ∧ bytesEq op.data.toList [124] = false ∧ bytesEq op.data.toList [94] = false ∧ bytesEq op.data.toList [38, 94] = true ∧ bwCode op = some 3) ∨
    (bytesEq op.data.toList [38] = false ∧ bytesEq op.data.toList [124] = false ∧ bytesEq op.data.toList [94] = false ∧ bytesEq op.data.toList [38, 94] = false ∧ bwCode op = none) := by
  unfold bwCode
  cases bytesEq op.data.toList [38] <;> cases bytesEq op.data.toList [124] <;> cases bytesEq op.data.toList [94] <;> cases bytesEq op.data.toList [38, 94] <;> simp
theorem max_i64 (a b : Nat) : minmaxAll true (nv .i64 a) [nv .i64 b] = some (nv .i64 (max a b)) := by
  simp only [minmaxAll, opMinMax, int]
  congr 4
  by_cases h : a < b
  · have h1 : (a : Int) < (b : Int) := by omega
    have h2 : max a b = b := by omega
    simp [h1, h2]
  · have h1 : ¬ (a : Int) < (b : Int) := by omega
    have h2 : max a b = a := by omega
    simp [h1, h2]

/-- One digit of the answer. -/
theorem bw_body {op : ByteArray} {X Y : List Nat} {n i o : Nat} {S0 : Ob} {e L : List (Nat × V)} {X4 X6 X8 : V} (hX : dig 4294967296 X) (hY : dig 4294967296 Y) (lX : X.length = n) (lY : Y.length = n) (hi : i < n) (hn : n ≤ 100000) (hc : bwCode op = some o)
    (h0 : look e 0 = some (.tr (.sc (.string op)))) (h6 : look e 6 = some X6) (h8 : look e 8 = some X8) (h9 : look e 9 = some (.own 1 0 0 n 1 (some n))) (h10 : look e 10 = some (.own 2 0 0 n 1 (some n))) (h27 : look e 27 = some (nv .i64 n)) (h28 : look e 28 = some (nv .i64 i)) {QQ : Out → St → Prop}
    (hQQ : ∀ e' L', look e' 0 = some (.tr (.sc (.string op))) → look e' 6 = some X6 → look e' 8 = some X8 → look e' 9 = some (.own 1 0 0 n 1 (some n)) → look e' 10 = some (.own 2 0 0 n 1 (some n)) → look e' 27 = some (nv .i64 n) → look e' 28 = some (nv .i64 (i + 1)) →
      QQ .normal ⟨e', L', [S0, .row (cK .u32 (X.set i (G o (X[i]'(by omega)) (Y[i]'(by omega))))) 0, .row (cK .u32 Y) 0]⟩) :
    wpc T k28_6 ⟨e, L, [S0, .row (cK .u32 X) 0, .row (cK .u32 Y) 0]⟩ QQ := by
  have hx : X[i]? = some X[i] := List.getElem?_eq_getElem (by omega)
  have hy : Y[i]? = some Y[i] := List.getElem?_eq_getElem (by omega)
  have bx : X[i] < 4294967296 := dig_at hX (by omega)
  have by' : Y[i] < 4294967296 := dig_at hY (by omega)
  generalize X[i] = u at *
  generalize Y[i] = w at *
  have w5 : IntKind.i64.wrap ((i : Int) + 1) = ((i + 1 : Nat) : Int) := w64 (by omega) (by omega)
  have hia1 : opIaddr 1 (.own 1 0 0 n 1 (some n)) (nv .i64 i) [S0, .row (cK .u32 X) 0, .row (cK .u32 Y) 0] = some (.ptr 1 0 (0 + i)) := own_iaddr rfl hi
  have hia2 : opIaddr 1 (.own 2 0 0 n 1 (some n)) (nv .i64 i) [S0, .row (cK .u32 X) 0, .row (cK .u32 Y) 0] = some (.ptr 2 0 (0 + i)) := own_iaddr rfl hi
  rw [Nat.zero_add] at hia1 hia2
  have hld1 : opLoad 1 false (.ptr 1 0 i) [S0, .row (cK .u32 X) 0, .row (cK .u32 Y) 0] = some (nv .u32 u) := own_load rfl hx
  have hld2 : opLoad 1 false (.ptr 2 0 i) [S0, .row (cK .u32 X) 0, .row (cK .u32 Y) 0] = some (nv .u32 w) := own_load rfl hy
  have hst : ∀ y : Nat, opStore 1 (.ptr 1 0 i) (nv .u32 y) [S0, .row (cK .u32 X) 0, .row (cK .u32 Y) 0] = some [S0, .row (cK .u32 (X.set i y)) 0, .row (cK .u32 Y) 0] := fun y => own_store rfl (by omega)
  have a1 := and_u32 u w bx by'
  have a2 := or_u32 u w bx by'
  have a3 := xor_u32 u w bx by'
  have a4 := andNot_u32 u w bx by'
  have es : ∀ (s t : ByteArray), opBin .other .eql (.tr (.sc (.string s))) (.tr (.sc (.string t))) = some (.tr (.sc (.bool (bytesEq s.data.toList t.data.toList)))) := bin_str
  rcases bwCode_cases op with ⟨e1, hc'⟩ | ⟨e1, e2, hc'⟩ | ⟨e1, e2, e3, hc'⟩ | ⟨e1, e2, e3, e4, hc'⟩ | ⟨_, _, _, _, hc'⟩ <;> rw [hc'] at hc <;> cases hc
  · simp [k28_6, h28, h0, es, e1, h9, h10, hia1, hia2, hld1, hld2, a1, hst, k28_17, w5, -Int.natCast_add]
    exact hQQ _ _ (by simp [h0]) (by simp [h6]) (by simp [h8]) (by simp [h9]) (by simp [h10]) (by simp [h27]) (by simp)
  · simp [k28_6, h28, h0, es, e1, e2, h9, h10, hia1, hia2, hld1, hld2, a2, hst, k28_17, w5, -Int.natCast_add]
    exact hQQ _ _ (by simp [h0]) (by simp [h6]) (by simp [h8]) (by simp [h9]) (by simp [h10]) (by simp [h27]) (by simp)
  · simp [k28_6, h28, h0, es, e1, e2, e3, h9, h10, hia1, hia2, hld1, hld2, a3, hst, k28_17, w5, -Int.natCast_add]
    exact hQQ _ _ (by simp [h0]) (by simp [h6]) (by simp [h8]) (by simp [h9]) (by simp [h10]) (by simp [h27]) (by simp)
  · simp [k28_6, h28, h0, es, e1, e2, e3, e4, h9, h10, hia1, hia2, hld1, hld2, a4, hst, k28_17, w5, -Int.natCast_add]
    exact hQQ _ _ (by simp [h0]) (by simp [h6]) (by simp [h8]) (by simp [h9]) (by simp [h10]) (by simp [h27]) (by simp)
end Go.Proofs.Ytjacddclpcelmaa.AM.Bi
