/- ImportsOrder: part 8. -/
import Derived.Test.YtknoiiacnfbkaaaIo7
import Derived.Test.YtknoiiacnfbkaaaShelf
set_option maxRecDepth 1000000
set_option linter.unusedVariables false
set_option linter.unusedSimpArgs false
namespace Go.Proofs.Ytknoiiacnfbkaaa.AM.Io
open Go.Proofs Go.RowKit

theorem fnOk {f : FuncId} {fn : Func} (h : Try.prog.funcs[f]? = some fn) (h1 : (fn.name == "runtime.NumGoroutine") = false) (h2 : fn.body.isNone = false) : FnOk Try.prog f := ⟨fn, h, h1, h2⟩
theorem sorts26 : SrtOk Try.prog 26 8 := ⟨fnOk Try.func26 (by kernel_rfl) (by kernel_rfl), fun blk off cap zs w h1 h2 h3 => Try.slices_Sort_int blk off cap zs w h1 h2 h3, fun p cap w => Try.slices_Sort_int_none p cap w⟩
theorem sorts16 : SrtOk Try.prog 16 9 := ⟨fnOk Try.func16 (by kernel_rfl) (by kernel_rfl), fun blk off cap zs w h1 h2 h3 => Try.slices_Sort_string blk off cap zs w h1 h2 h3, fun p cap w => Try.slices_Sort_string_none p cap w⟩
theorem tab : TabOk noGround Try.prog T := tabOk noGround_ok fun f n k h => by
  unfold Te at h
  split at h
  · rename_i hb
    cases h
    rw [Nat.eq_of_beq_eq_true hb]
    exact .sort9 sorts16
  · split at h
    · rename_i hb
      cases h
      rw [Nat.eq_of_beq_eq_true hb]
      exact .sort8 sorts26
    · cases h
theorem mixed : Try.prog.follows .mixedOrders = true := by kernel_rfl

section
variable {H : Type} {enc : TypeId × Value → H} {w : World}
theorem opens_ints {n : Nat} : Opens enc Try.prog w n 32 (slE fun z : Int => [iT z]) (slOk fun z => (Lit.int .i64 z).wf = true) :=
  opens_slice (t := 32) (e := 3) Try.underlying32 (c := 1) (by kernel_rfl) (fun _ => rfl) fun _ _ => opens_int Try.underlying3
/-- What a row's cell is. -/
def slT : Option (List Int × Nat) → Tree
  | none => .sc (.slice none 0 0)
  | some (l, c) => .row (l.map iT) l.length (some c)
theorem slE_T (s : Option (List Int × Nat)) : slE (fun z : Int => [iT z]) s = [slT s] := by
  rcases s with _ | ⟨l, c⟩
  · rfl
  · have : l.flatMap (fun z : Int => [iT z]) = l.map iT := by
      induction l with
      | nil => rfl
      | cons a l ih => rw [List.flatMap_cons, ih]; rfl
    simp only [slE, slT, this]
def slL : Option (List Int × Nat) → List Int
  | none => []
  | some (l, _) => l
theorem slT_rw (s : Option (List Int × Nat)) : Rw ((slL s).map iT) (.tr (slT s)) := by
  rcases s with _ | ⟨l, c⟩
  · exact .inl ⟨rfl, rfl⟩
  · exact .inr ⟨some c, by rw [List.length_map]; rfl⟩
theorem rtl_one {h : Array Go.Obj} {I : Nat → Prop} {t : Tree} {v : Value} (r : RTL h I [t] [v]) : RT h I t v := by
  simp only [RTL] at r
  obtain ⟨y, ys, h, r, _⟩ := r
  cases h
  exact r
theorem arg_dd {r : Reach} {b0 : Nat} {v : Value} {d : DataW H} {ps : List MemPlace} (hval : Value.okWide Try.prog w r b0 30 v) (hd : DataW.Trod enc Try.prog w 0 (fun _ => true) true 30 v d ps) :
    ∃ deps ts t, Rw ts (.tr t) ∧ Ls deps ts ∧ RT w.heap (fun b => b < w.heap.size) t v := by
  obtain ⟨x, hx, hr⟩ := Opens.one Try.underlying30 hval hd (fun n => opens_slice (t := 30) (e := 32) Try.underlying30 (c := 1) (by kernel_rfl) (fun a => by rw [slE_T]; rfl) fun _ _ => opens_ints)
  rcases x with _ | ⟨l, c⟩
  · exact ⟨[], [], _, .inl ⟨rfl, rfl⟩, ⟨rfl, fun i x l h => by simp at h⟩, rtl_one hr⟩
  · have e : l.flatMap (fun a => slE (fun z : Int => [iT z]) a) = l.map slT := by
      clear hx hr
      induction l with
      | nil => rfl
      | cons a l ih => rw [List.flatMap_cons, ih, slE_T]; rfl
    have hr' := hr
    simp only [slE] at hr'
    refine ⟨l.map slL, l.map slT, .row (l.map slT) l.length (some c), .inr ⟨some c, by rw [List.length_map]⟩, ⟨by simp, fun i x m hx hm => ?_⟩, ?_⟩
    · rw [List.getElem?_map] at hx hm
      cases hl : l[i]? with
      | none => rw [hl] at hx; cases hx
      | some s =>
        rw [hl] at hx hm
        cases hx
        cases hm
        exact slT_rw s
    · rw [← e]
      exact rtl_one hr'
end

theorem rvl_of {h : Array Go.Obj} {I J : Nat → Prop} {σ : Store} {ρ : Rho} (hm : ∀ b, I b → J b) : ∀ (ts : List Tree) (vs : List Value), RTL h I ts vs → RVL h J σ ρ (ts.map .tr) vs
  | [], vs, r => by simpa [RTL, RVL] using r
  | t :: ts, vs, r => by
    simp only [RTL] at r
    obtain ⟨x, xs, rfl, r1, r2⟩ := r
    simp only [List.map_cons, RVL, RV]
    exact ⟨x, xs, rfl, RT_mono (fun b hb => ⟨hm b hb, rfl⟩) _ _ r1, rvl_of hm ts xs r2⟩
/-- What a law's walk comes to. -/
theorem law_calls {f : FuncId} {ts : List Tree} {vs : List Value} {w : World} (hfn : FnOk Try.prog f) (h : ∃ v σ', callL T f (ts.map .tr) [] = some (v, σ') ∧ v = bv true) (hr : RTL w.heap (fun b => b < w.heap.size) ts vs) :
    Calls Try.prog f vs.toArray w fun e w' => e = .returned (.bool true) ∧ Below w.heap.size w w' := by
  obtain ⟨v, σ', h, rfl⟩ := h
  obtain ⟨m, h⟩ := callL_some.1 h
  rcases (am_ok mixed tab m).2 w.heap.size w trivial _ _ _ _ _ h (fun b => b < w.heap.size) (fun _ => none) w vs (Inv.empty _ (fun b hb => hb)) (rvl_of (fun b hb => .inl hb) ts vs hr) with ⟨_, hc⟩ | ⟨x, w', hc, _⟩
  · refine hc.mono ?_
    rintro e w' ⟨x, rfl, ρ, hI, _, hr⟩
    simp only [RV, RT] at hr
    subst hr
    exact ⟨rfl, hI.below⟩
  · rw [run_callFunc hfn] at hc
    cases hc
end Go.Proofs.Ytknoiiacnfbkaaa.AM.Io
