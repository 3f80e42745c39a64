/- the places: part O. -/
import Derived.Test.YtodgdmhifbnofaaSdN
import Derived.Test.YtodgdmhifbnofaaSd2
set_option maxRecDepth 1000000
set_option linter.unusedVariables false
set_option linter.unusedSimpArgs false
namespace Go.Proofs.Ytodgdmhifbnofaa.AM.Sd
open Go.Proofs Go.RowKit Go.Sort Go.Lib
open Go.Proofs.Ytodgdmhifbnofaa.AM.So (orC order_calls)
theorem flatD_get : ∀ (l : List Dg) (t : Nat), t < l.length * 3 → (l.flatMap encD)[t]! = (encD (l.toArray)[t / 3]!)[t % 3]!
  | [], t, h => by simp at h
  | x :: l, t, h => by
    rcases Nat.lt_or_ge t 3 with h3 | h3
    · have e1 : t / 3 = 0 := by omega
      have e2 : t % 3 = t := by omega
      rw [e1, e2]
      have : t = 0 ∨ t = 1 ∨ t = 2 := by omega
      rcases this with rfl | rfl | rfl <;> simp [encD]
    · obtain ⟨u, rfl⟩ : ∃ u, t = u + 3 := ⟨t - 3, by omega⟩
      have ih := flatD_get l u (by simp only [List.length_cons] at h; omega)
      have e1 : (u + 3) / 3 = u / 3 + 1 := by omega
      have e2 : (u + 3) % 3 = u % 3 := by omega
      rw [e1, e2]
      have h4 : ((x :: l).flatMap encD)[u + 3]! = (l.flatMap encD)[u]! := by simp [encD]
      have h5 : ((x :: l).toArray)[u / 3 + 1]! = (l.toArray)[u / 3]! := by simp
      rw [h4, h5, ih]
theorem flatD (l : List Dg) : Sort.flatK encD 3 l.toArray = (l.flatMap encD).toArray := by
  refine Sort.ext_get! (by rw [Sort.size_flatK, List.size_toArray, List.size_toArray, flatD_len]) fun t ht => ?_
  have ht' : t < l.toArray.size * 3 := by simpa using ht
  rw [Sort.get_flatK _ _ _ _ ht', ← flatD_get l t (by simpa using ht')]
  simp
theorem cmp_eq : ∀ (a b : List UInt8), (if bytesLt a b then -1 else if bytesEq a b then 0 else 1) = Lib.compareBytes a b
  | [], [] => rfl
  | [], b :: y => by simp [bytesLt, Lib.compareBytes]
  | a :: x, [] => by simp [bytesLt, bytesEq, Lib.compareBytes]
  | a :: x, b :: y => by
    have ih := cmp_eq x y
    have e1 : Nat.blt a.toNat b.toNat = decide (a < b) := by rw [Bool.eq_iff_iff, Nat.blt_eq, decide_eq_true_eq, UInt8.lt_iff_toNat_lt]
    have e2 : Nat.beq a.toNat b.toNat = decide (a = b) := by rw [Bool.eq_iff_iff, Nat.beq_eq, decide_eq_true_eq, UInt8.toNat_inj]
    simp only [bytesLt, bytesEq, Lib.compareBytes, e1, e2]
    by_cases h1 : a < b
    · simp [h1]
    · by_cases h2 : a = b
      · subst h2
        simp only [h1, decide_false, Bool.false_or, decide_true, Bool.true_and, if_false]
        exact ih
      · have h3 : b < a := by
          rw [UInt8.lt_iff_toNat_lt] at h1 ⊢
          rw [← UInt8.toNat_inj] at h2
          omega
        simp [h1, h2, h3]
def cfD (a b : Dg) : Int := orC (Lib.compareBytes a.1 b.1) (Lib.compareBytes a.2.1 b.2.1) (Lib.compareInt a.2.2 b.2.2)
theorem ltD (a b : Dg) : ltOf cfD a b = dLt a b := by
  unfold ltOf cfD orC dLt Lib.compareInt
  rw [← cmp_eq, ← cmp_eq]
  cases h1 : bytesLt a.1 b.1 with
  | true => simp
  | false =>
    cases h2 : bytesEq a.1 b.1 with
    | false => simp
    | true =>
      cases h3 : bytesLt a.2.1 b.2.1 with
      | true => simp
      | false =>
        cases h4 : bytesEq a.2.1 b.2.1 with
        | false => simp
        | true =>
          by_cases h5 : a.2.2 < b.2.2
          · simp [h5]
          · by_cases h6 : b.2.2 < a.2.2 <;> simp [h5, h6]
theorem swoD : SWO (ltOf cfD) where
  irrefl x := by rw [ltD]; exact dLt_irr x
  trans x y z h1 h2 := by rw [ltD] at *; exact dLt_trans h1 h2
  ntrans x y z h1 h2 := by
    rw [ltD] at *
    have := dLe_trans z y x (by rw [h2]; rfl) (by rw [h1]; rfl)
    simpa using this
theorem cmpLays (blk off size : Nat) (w : World) : CmpLays Try.prog 19 #[] encD 3 cfD blk off size w :=
  fun m os dk _ x y => by
    have h := order_calls ⟨⟨x.1⟩⟩ ⟨⟨x.2.1⟩⟩ ⟨⟨y.1⟩⟩ ⟨⟨y.2.1⟩⟩ x.2.2 y.2.2 (sortWorldK encD 3 w blk off m dk os)
    unfold cfD
    dsimp only at h
    generalize Lib.compareBytes x.1 y.1 = r1, Lib.compareBytes x.2.1 y.2.1 = r2, Lib.compareInt x.2.2 y.2.2 = r3 at *
    generalize sortWorldK encD 3 w blk off m dk os = W at *
    generalize orC r1 r2 r3 = r at *
    exact h
theorem fnOk {f : FuncId} {fn : Func} (h : Try.prog.funcs[f]? = some fn) (h1 : (fn.name == "runtime.NumGoroutine") = false) (h2 : fn.body.isNone = false) : FnOk Try.prog f := ⟨fn, h, h1, h2⟩
theorem sorts18 : SortsF Try.prog 18 19 where
  ok := fnOk Try.func18 (by kernel_rfl) (by kernel_rfl)
  run blk off cap zs w hH hb hl := by
    have h := Try.slices_SortFunc_total 3 Try.isAgg38 Try.sizeOf38 encD (fun _ => rfl) (fun x v hv => by
      simp [encD] at hv
      rcases hv with rfl | rfl | rfl <;> rfl) cfD swoD 19 #[] blk off cap zs.toArray w (enters_of Try.func19 (by kernel_rfl) rfl) (cmpLays _ _ _ _) (by
      unfold Sort.HoldsK
      rw [flatD]
      exact hH) hb (by simpa using hl) (fun x y h1 h2 => by
      rw [ltD] at h1 h2
      rcases dLt_tri x y with h | h | h
      · rw [h] at h1; cases h1
      · exact h
      · rw [h] at h2; cases h2)
    have hs : (zs.toArray.toList.mergeSort fun x y => !(ltOf cfD) y x) = zs.mergeSort fun x y => !dLt y x := by
      congr 1
      funext x y
      rw [ltD]
    rw [hs] at h
    refine h.mono ?_
    rintro e w' ⟨rfl, n, os, rfl⟩
    refine ⟨rfl, n, os, ?_⟩
    unfold sortWorldK Sort.putRowK
    rw [flatD]
    rfl
  none p cap w := Try.slices_SortFunc_none p cap _ w
end Go.Proofs.Ytodgdmhifbnofaa.AM.Sd
