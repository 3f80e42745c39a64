/- ValueLaws: part 4. -/
import Derived.Test.YtajcohdhioafiaaDoorVl3
set_option maxRecDepth 1000000
set_option linter.unusedVariables false
set_option linter.unusedSimpArgs false
namespace Go.Proofs.YtajcohdhioafiaaDoor.AM.Vl
open Go.Proofs
def pr (n : Int) (e : List UInt8) : V := .tr (.tup [.sc (.int .i64 n), .sc (.string ⟨⟨e⟩⟩)])
def bad : List UInt8 := [98, 97, 100]
def divide : List UInt8 := [100, 105, 118, 105, 100, 101]
@[simp] theorem snap_pr (x y : Value) (σ : Store) : snap σ deepN (mkTup [.tr (.sc x), .tr (.sc y)]) = some (.tup [.sc x, .sc y]) := rfl
theorem int_out {l : List UInt8} (h : isName l = false) (op : List UInt8) (a b : Int) (σ : Store) : callL T 12 [sv op, sv l, iv a, iv b] σ = some (pr 0 bad, σ) := by
  suffices hh : ∃ t, (∀ σ, callL T 12 ([Tree.sc (.string ⟨⟨op⟩⟩), .sc (.string ⟨⟨l⟩⟩), .sc (.int .i64 a), .sc (.int .i64 b)].map .tr) σ = some (.tr t, σ)) ∧ t = .tup [.sc (.int .i64 0), .sc (.string ⟨⟨bad⟩⟩)] by
    obtain ⟨t, h, rfl⟩ := hh
    exact h σ
  refine call_iso T12 rfl rfl ?_
  have hi := integer_out h
  simp [hi, bad]
section
variable {l : List UInt8} (h : isName l = true) (a b : Int) (σ : Store)
theorem int_gen (op : List UInt8) (n : Int) (e : List UInt8)
    (hh : ∃ t, (∀ σ, callL T 12 ([Tree.sc (.string ⟨⟨op⟩⟩), .sc (.string ⟨⟨l⟩⟩), .sc (.int .i64 a), .sc (.int .i64 b)].map .tr) σ = some (.tr t, σ)) ∧ t = .tup [.sc (.int .i64 n), .sc (.string ⟨⟨e⟩⟩)]) : callL T 12 [sv op, sv l, iv a, iv b] σ = some (pr n e, σ) := by
    obtain ⟨t, h, rfl⟩ := hh
    exact h σ
include h
theorem int_add : callL T 12 [sv [43], sv l, iv a, iv b] σ = some (pr (wr l (W (wr l a + wr l b))) [], σ) := by
  refine int_gen a b σ _ _ _ ?_
  refine call_iso T12 rfl rfl ?_
  have hi := integer_in h
  have hw := wrap_ok l
  simp [hi, hw, k12_3, bytesEq_iff', k12_28, W]
theorem int_sub : callL T 12 [sv [45], sv l, iv a, iv b] σ = some (pr (wr l (W (wr l a - wr l b))) [], σ) := by
  refine int_gen a b σ _ _ _ ?_
  refine call_iso T12 rfl rfl ?_
  have hi := integer_in h
  have hw := wrap_ok l
  simp [hi, hw, k12_3, bytesEq_iff', k12_28, W]
theorem int_mul : callL T 12 [sv [42], sv l, iv a, iv b] σ = some (pr (wr l (W (wr l a * wr l b))) [], σ) := by
  refine int_gen a b σ _ _ _ ?_
  refine call_iso T12 rfl rfl ?_
  have hi := integer_in h
  have hw := wrap_ok l
  have hm : ∀ x y : Int, opBin .other .mul (iv x) (iv y) = some (iv (W (x * y))) := fun x y => rfl
  simp [hi, hw, k12_3, bytesEq_iff', k12_28, hm]
theorem int_xor : callL T 12 [sv [94], sv l, iv a, iv a] σ = some (pr 0 [], σ) := by
  refine int_gen a a σ _ _ _ ?_
  refine call_iso T12 rfl rfl ?_
  have hi := integer_in h
  have hw := wrap_ok l
  have hx : ∀ x : Int, opBin .other .xor (iv x) (iv x) = some (iv 0) := fun x => by
    simp [opBin, isNil, notNil, binSc, binInt]
    rfl
  have h0 : wr l 0 = 0 := by unfold wr; split <;> (try split) <;> rfl
  simp [hi, hw, k12_3, bytesEq_iff', k12_14, k12_28, hx, h0]
theorem int_div0 (q : Bool) (hb : wr l b = 0) : callL T 12 [sv (if q then [47] else [37]), sv l, iv a, iv b] σ = some (pr 0 divide, σ) := by
  refine int_gen a b σ _ _ _ ?_
  refine call_iso T12 rfl rfl ?_
  have hi := integer_in h
  have hw := wrap_ok l
  cases q <;> simp [hi, hw, k12_3, bytesEq_iff', k12_14, hb, divide]
theorem int_div (q : Bool) (hb : wr l b ≠ 0) (hu : U (wr l b) ≠ 0) : callL T 12 [sv (if q then [47] else [37]), sv l, iv a, iv b] σ = some (pr (wr l (quoV q (decide (l = nUint)) (wr l a) (wr l b))) [], σ) := by
  refine int_gen a b σ _ _ _ ?_
  refine call_iso T12 rfl rfl ?_
  have hi := integer_in h
  have hw := wrap_ok l
  have hq := quo_ok q (decide (l = nUint)) (wr l a) (wr l b) hb hu
  have hd : decide (l = [117, 105, 110, 116]) = decide (l = nUint) := rfl
  cases q
  · simp only [Bool.false_eq_true, if_false] at hq
    simp [hi, hw, k12_3, bytesEq_iff', k12_14, hb, k12_18, hd, hq, k12_28]
  · simp only [if_true] at hq
    simp [hi, hw, k12_3, bytesEq_iff', k12_14, hb, k12_18, hd, hq, k12_28]
end
end Go.Proofs.YtajcohdhioafiaaDoor.AM.Vl
