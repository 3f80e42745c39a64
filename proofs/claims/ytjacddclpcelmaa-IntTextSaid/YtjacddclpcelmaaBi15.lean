/- IntText: part 15. -/
import Derived.Test.YtjacddclpcelmaaBi14
set_option maxRecDepth 1000000
set_option linter.unusedVariables false
set_option linter.unusedSimpArgs false
namespace Go.Proofs.Ytjacddclpcelmaa.AM.Bi
open Go.Proofs Go.RowKit

theorem tab : TabOk noGround Try.prog T := tabOk noGround_ok (fun f n k h => by simp [Te] at h)
theorem mixed : Try.prog.follows .mixedOrders = true := by kernel_rfl

section
variable {H : Type} {enc : TypeId × Value → H} {w : World}
theorem opens_u32 {n : Nat} : Opens enc Try.prog w n 51 (nE .u32) (fun x => x < 4294967296) :=
  (opens_int Try.underlying51).map (fun z => z.toNat) (fun z hz => by
    simp only [Lit.wf, Bool.and_eq_true, decide_eq_true_eq] at hz
    have h0 : (0 : Int) ≤ z := hz.1
    simp only [nE]
    congr 3
    omega) (fun z hz => by
    simp only [Lit.wf, Bool.and_eq_true, decide_eq_true_eq] at hz
    have h0 : (0 : Int) ≤ z := hz.1
    have h1 : z ≤ 4294967295 := hz.2
    omega)
def bigF0 : Field := { name := "Neg", type := 4, offset := 0, embedded := false, tag := "", pkgPath := "", byteOffset := 0 }
def bigF1 : Field := { name := "Mag", type := 22, offset := 1, embedded := false, tag := "", pkgPath := "", byteOffset := 8 }
theorem opens_big {n : Nat} : Opens enc Try.prog w n 24 (fun p : Bool × Option (List Nat × Nat) × Unit => [.sc (.bool p.1)] ++ (slE (nE .u32) p.2.1 ++ [])) (fun p => True ∧ slOk (fun x => x < 4294967296) p.2.1 ∧ True) := by
  have hc : Try.prog.cellsOf 24 = 2 := by kernel_rfl
  have hs : ∀ s : Option (List Nat × Nat), (slE (nE .u32) s).length = 1 := by
    intro s
    rcases s with _ | ⟨l, c⟩ <;> rfl
  refine opens_struct Try.underlying24 (fun a => by rw [hc]; simp [hs]) fun m _ => ?_
  exact opens_cons (f := bigF0) (fs := [bigF1]) (c := 1) rfl (by kernel_rfl) (opens_bool (t := 4) Try.underlying4) (fun _ => rfl)
    (opens_cons (f := bigF1) (fs := []) (c := 1) rfl (by kernel_rfl) (opens_slice (t := 22) (e := 51) Try.underlying22 (c := 1) (by kernel_rfl) (nE_len .u32) fun _ _ => opens_u32) hs opens_nil)
theorem big_of {p : Bool × Option (List Nat × Nat) × Unit} (h : True ∧ slOk (fun x => x < 4294967296) p.2.1 ∧ True) : ∃ x l, IsBig x l (.agg ([.sc (.bool p.1)] ++ (slE (nE .u32) p.2.1 ++ []))) := by
  obtain ⟨x, s, u⟩ := p
  obtain ⟨_, hs, _⟩ := h
  rcases s with _ | ⟨l, c⟩
  · exact ⟨x, [], ⟨⟨_, rfl, .inl ⟨rfl, rfl⟩⟩, dig_nil _⟩⟩
  · exact ⟨x, l, ⟨⟨_, rfl, .inr ⟨some c, rfl⟩⟩, hs.2.2⟩⟩
theorem arg_big {r : Reach} {b0 : Nat} {v : Value} {d : DataW H} {ps : List MemPlace} (hval : Value.okWide Try.prog w r b0 24 v) (hd : DataW.Trod enc Try.prog w 0 (fun _ => true) true 24 v d ps) :
    ∃ x l t, IsBig x l t ∧ RT w.heap (fun b => b < w.heap.size) t v := by
  obtain ⟨p, hp, hr⟩ := Opens.struct Try.underlying24 hval hd (fun n => opens_big)
  obtain ⟨x, l, h⟩ := big_of hp
  exact ⟨x, l, _, h, hr⟩
end

theorem rvl_of {h : Array Go.Obj} {I J : Nat → Prop} {σ : Store} {ρ : Rho} (hm : ∀ b, I b → J b) : ∀ (ts : List Tree) (vs : List Value), RTL h I ts vs → RVL h J σ ρ (ts.map .tr) vs
  | [], vs, r => by simpa [RTL, RVL] using r
  | t :: ts, vs, r => by
    simp only [RTL] at r
    obtain ⟨x, xs, rfl, r1, r2⟩ := r
    simp only [List.map_cons, RVL, RV]
    exact ⟨x, xs, rfl, RT_mono (fun b hb => ⟨hm b hb, rfl⟩) _ _ r1, rvl_of hm ts xs r2⟩
/-- What a law's walk comes to. -/
theorem law_calls {f : FuncId} {ts : List Tree} {vs : List Value} {w : World} (hfn : FnOk Try.prog f) (h : ∃ v σ', callL T f (ts.map .tr) [] = some (v, σ') ∧ v = bv true) (hr : RTL w.heap (fun b => b < w.heap.size) ts vs) :
    Calls Try.prog f vs.toArray w fun e w' => e = .returned (.bool true) ∧ Below w.heap.size w w' := by
  obtain ⟨v, σ', h, rfl⟩ := h
  obtain ⟨m, h⟩ := callL_some.1 h
  rcases (am_ok mixed tab m).2 w.heap.size w trivial _ _ _ _ _ h (fun b => b < w.heap.size) (fun _ => none) w vs (Inv.empty _ (fun b hb => hb)) (rvl_of (fun b hb => .inl hb) ts vs hr) with ⟨_, hc⟩ | ⟨x, w', hc, _⟩
  · refine hc.mono ?_
    rintro e w' ⟨x, rfl, ρ, hI, _, hr⟩
    simp only [RV, RT] at hr
    subst hr
    exact ⟨rfl, hI.below⟩
  · rw [run_callFunc hfn] at hc
    cases hc
end Go.Proofs.Ytjacddclpcelmaa.AM.Bi
