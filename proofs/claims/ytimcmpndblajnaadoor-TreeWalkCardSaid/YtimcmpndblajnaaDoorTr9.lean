/- TreeWalk: part 9. -/
import Derived.Test.YtimcmpndblajnaaDoorTr8
set_option maxRecDepth 1000000
set_option linter.unusedVariables false
set_option linter.unusedSimpArgs false
namespace Go.Proofs.YtimcmpndblajnaaDoor.AM.Tr
open Go.Proofs Go.RowKit

theorem tab : TabOk noGround Tryd.prog T := tabOk noGround_ok (fun f n k h => by simp [Te] at h)
theorem mixed : Tryd.prog.follows .mixedOrders = true := by kernel_rfl
def slQ : Option (List Q × Nat) → Tree
  | none => .sc (.slice none 0 0)
  | some (l, c) => .row (l.flatMap e4) l.length (some c)
theorem slE_Q (s : Option (List Q × Nat)) : slE e4 s = [slQ s] := by
  rcases s with _ | ⟨l, c⟩ <;> rfl
theorem choose_nd : ∀ {l : List Q}, (∀ q ∈ l, ∃ x, NdQ x q) → ∃ ks, NdL ks l
  | [], _ => ⟨[], by simp [NdL]⟩
  | q :: l, h => by
    obtain ⟨x, hx⟩ := h q (by simp)
    obtain ⟨ks, hks⟩ := choose_nd (l := l) fun q hq => h q (by simp [hq])
    exact ⟨x :: ks, by simp only [NdL]; exact ⟨q, l, rfl, hx, hks⟩⟩
section
variable {H : Type} {enc : TypeId × Value → H} {w : World}
def ndF0 : Field := { name := "Kind", type := 3, offset := 0, embedded := false, tag := "", pkgPath := "", byteOffset := 0 }
def ndF1 : Field := { name := "At", type := 3, offset := 1, embedded := false, tag := "", pkgPath := "", byteOffset := 8 }
def ndF2 : Field := { name := "Text", type := 9, offset := 2, embedded := false, tag := "", pkgPath := "", byteOffset := 16 }
def ndF3 : Field := { name := "Kids", type := 22, offset := 3, embedded := false, tag := "", pkgPath := "", byteOffset := 32 }
theorem opens_node : ∀ n, Opens enc Tryd.prog w n 24 e4 (fun q => ∃ x, NdQ x q) := by
  intro n
  induction n using Nat.strongRecOn with
  | ind n ih =>
    have hc : Tryd.prog.cellsOf 24 = 4 := by kernel_rfl
    have hs : ∀ s : Option (List Q × Nat), (slE e4 s).length = 1 := by
      intro s
      rw [slE_Q]; rfl
    refine (opens_struct Tryd.underlying24 (E := fun p : Int × Int × ByteArray × Option (List Q × Nat) × Unit => [.sc (.int .i64 p.1)] ++ ([.sc (.int .i64 p.2.1)] ++ ([.sc (.string p.2.2.1)] ++ (slE e4 p.2.2.2.1 ++ []))))
      (ok := fun p => (Lit.int .i64 p.1).wf = true ∧ (Lit.int .i64 p.2.1).wf = true ∧ p.2.2.1.size ≤ maxLen ∧ slOk (fun q => ∃ x, NdQ x q) p.2.2.2.1 ∧ True)
      (fun a => by rw [hc]; simp [hs]) fun m hm => ?_).map (fun p => (p.1, p.2.1, p.2.2.1.data.toList, slQ p.2.2.2.1)) (fun p _ => ?_) (fun p hp => ?_)
    · exact opens_cons (f := ndF0) (fs := [ndF1, ndF2, ndF3]) (c := 1) rfl (by kernel_rfl) (opens_int (t := 3) Tryd.underlying3) (fun _ => rfl)
        (opens_cons (f := ndF1) (fs := [ndF2, ndF3]) (c := 1) rfl (by kernel_rfl) (opens_int (t := 3) Tryd.underlying3) (fun _ => rfl)
        (opens_cons (f := ndF2) (fs := [ndF3]) (c := 1) rfl (by kernel_rfl) (opens_string (t := 9) Tryd.underlying9) (fun _ => rfl)
        (opens_cons (f := ndF3) (fs := []) (c := 1) rfl (by kernel_rfl) (opens_slice (t := 22) (e := 24) Tryd.underlying22 (c := 4) (by kernel_rfl) e4_len fun m' hm' => ih m' (by omega)) hs opens_nil)))
    · simp only [slE_Q]; rfl
    · obtain ⟨k, a, s, sl, u⟩ := p
      obtain ⟨_, _, _, hsl, _⟩ := hp
      rcases sl with _ | ⟨l, c⟩
      · exact ⟨.mk k a s.data.toList [], by simp only [NdQ, true_and]; exact ⟨[], .inl ⟨rfl, rfl⟩, by simp [NdL]⟩⟩
      · obtain ⟨ks, hks⟩ := choose_nd hsl.2.2
        exact ⟨.mk k a s.data.toList ks, by simp only [NdQ, true_and]; exact ⟨l, .inr ⟨some c, rfl⟩, hks⟩⟩
theorem arg_node {r : Reach} {b0 : Nat} {v : Value} {d : DataW H} {ps : List MemPlace} (hval : Value.okWide Tryd.prog w r b0 24 v) (hd : DataW.Trod enc Tryd.prog w 0 (fun _ => true) true 24 v d ps) :
    ∃ x q, NdQ x q ∧ RT w.heap (fun b => b < w.heap.size) (ag q) v := by
  obtain ⟨q, ⟨x, hx⟩, hr⟩ := Opens.struct Tryd.underlying24 hval hd (fun n => opens_node n)
  exact ⟨x, q, hx, hr⟩
end

theorem rvl_of {h : Array Go.Obj} {I J : Nat → Prop} {σ : Store} {ρ : Rho} (hm : ∀ b, I b → J b) : ∀ (ts : List Tree) (vs : List Value), RTL h I ts vs → RVL h J σ ρ (ts.map .tr) vs
  | [], vs, r => by simpa [RTL, RVL] using r
  | t :: ts, vs, r => by
    simp only [RTL] at r
    obtain ⟨x, xs, rfl, r1, r2⟩ := r
    simp only [List.map_cons, RVL, RV]
    exact ⟨x, xs, rfl, RT_mono (fun b hb => ⟨hm b hb, rfl⟩) _ _ r1, rvl_of hm ts xs r2⟩
/-- What a law's walk comes to. -/
theorem law_calls {f : FuncId} {ts : List Tree} {vs : List Value} {w : World} (hfn : FnOk Tryd.prog f) (h : ∃ v σ', callL T f (ts.map .tr) [] = some (v, σ') ∧ v = .tr (.sc (.bool true))) (hr : RTL w.heap (fun b => b < w.heap.size) ts vs) :
    Calls Tryd.prog f vs.toArray w fun e w' => e = .returned (.bool true) ∧ Below w.heap.size w w' := by
  obtain ⟨v, σ', h, rfl⟩ := h
  obtain ⟨m, h⟩ := callL_some.1 h
  rcases (am_ok mixed tab m).2 w.heap.size w trivial _ _ _ _ _ h (fun b => b < w.heap.size) (fun _ => none) w vs (Inv.empty _ (fun b hb => hb)) (rvl_of (fun b hb => .inl hb) ts vs hr) with ⟨_, hc⟩ | ⟨x, w', hc, _⟩
  · refine hc.mono ?_
    rintro e w' ⟨x, rfl, ρ, hI, _, hr⟩
    simp only [RV, RT] at hr
    subst hr
    exact ⟨rfl, hI.below⟩
  · rw [run_callFunc hfn] at hc
    cases hc
end Go.Proofs.YtimcmpndblajnaaDoor.AM.Tr
