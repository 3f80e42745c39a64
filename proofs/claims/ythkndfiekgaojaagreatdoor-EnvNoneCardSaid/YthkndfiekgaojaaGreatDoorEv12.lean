/- EnvNone: part 12. -/
import Derived.Test.YthkndfiekgaojaaGreatDoorEv11
import Derived.Test.YthkndfiekgaojaaGreatDoorRows
import Derived.LaidLaws
import Derived.LaidHandle
import Derived.MakeChecks
import Derived.Lib.LaidIn
import Derived.Lib.LaidU8
import Derived.WalkKit
set_option maxRecDepth 100000
set_option linter.unusedVariables false
set_option linter.unusedSimpArgs false
namespace Go.Proofs.YthkndfiekgaojaaGreatDoor.AM.Ev
open Go.Proofs Go.Proofs.YthkndfiekgaojaaGreatDoor Go.RowKit Go.Lib
theorem own : ownKnob Tryz.prog.godebug = none := by kernel_rfl
theorem tab : TabOk Gd Tryz.prog T := tabOk gdOk fun f n k h => by
  unfold Te at h
  split at h
  · rename_i hb
    cases h
    rw [Nat.eq_of_beq_eq_true hb]
    exact ext25
  · split at h
    · rename_i hb
      cases h
      rw [Nat.eq_of_beq_eq_true hb]
      exact ext76
    · split at h
      · rename_i hb
        cases h
        rw [Nat.eq_of_beq_eq_true hb]
        exact ext77
      · split at h
        · rename_i hb
          cases h
          rw [Nat.eq_of_beq_eq_true hb]
          exact ext42
        · split at h
          · rename_i hb
            cases h
            rw [Nat.eq_of_beq_eq_true hb]
            exact .sort9 sorts21
          · split at h
            · rename_i hb
              cases h
              rw [Nat.eq_of_beq_eq_true hb]
              exact .names nms10
            · cases h
def tab32 : List Int := [0, 1, 28, 2, 29, 14, 24, 3, 30, 22, 20, 15, 25, 17, 4, 8, 31, 27, 13, 23, 21, 19, 16, 7, 26, 12, 18, 6, 11, 5, 10, 9]
def tab64 : List Int := [0, 1, 56, 2, 57, 49, 28, 3, 61, 58, 42, 50, 38, 29, 17, 4, 62, 47, 59, 36, 45, 43, 51, 22, 53, 39, 33, 30, 24, 18, 12, 5, 63, 55, 48, 27, 60, 41, 37, 16, 46, 35, 44, 21, 52, 32, 23, 11, 54, 26, 40, 15, 34, 20, 31, 10, 25, 14, 19, 9, 13, 8, 7, 6]
/-- The witness: the settled world, the three tables laid. -/
noncomputable def laidWorld (os : Os) : World :=
  let w0 := World.holding Tryz.prog os ⟨#[], #[], []⟩
  let put (h : Array Obj) (g : Nat) (cs : Array Value) : Array Obj := h.modify g fun
    | .cells _ t frozen => .cells cs t frozen
    | o => o
  let h1 := put w0.heap 1 (Lib.pow10Tab.map fun z => Value.int .u64 z).toArray
  let h2 := put h1 2 (tab32.map fun z => Value.int .u8 z).toArray
  let h3 := put h2 3 (tab64.map fun z => Value.int .u8 z).toArray
  { w0 with heap := h3 }
theorem piece (os : Os) (args : Array Value) : LaidIn Tryz.prog ((laidWorld os).forCall (fun _ _ => 0) ⟨#[], args, []⟩).memory Rows.envNoneRow.laid [1, 2, 3] :=
  LaidIn.of_run [1, 2, 3] 8 (by kernel_rfl) (by kernel_rfl) (by kernel_rfl) (by kernel_rfl)
theorem laid_met (os : Os) (args : Array Value) : laidMetH Tryz.prog Rows.envNoneRow.laid ((laidWorld os).forCall (fun _ _ => 0) ⟨#[], args, []⟩).memory :=
  laidMetH_of_parts (piece os args).met (by kernel_rfl)
theorem ground_of {W : World} (hL : laidMetH Tryz.prog Rows.envNoneRow.laid W) (hsh : W.ShapedOpen Tryz.prog) : Gd W.heap.size W := by
  obtain ⟨m, hm⟩ := Tryz.laysM144.s1_3 W hsh
  refine ⟨?_, m, hm⟩
  rcases Nat.eq_zero_or_pos W.heap.size with h | h
  · exfalso
    revert hm
    simp [World.cell?, h]
  · exact h
theorem mixed : Tryz.prog.follows .mixedOrders = true := by kernel_rfl
theorem rvl_of {h : Array Go.Obj} {I J : Nat → Prop} {σ : Store} {ρ : Rho} (hm : ∀ b, I b → J b) : ∀ (ts : List Tree) (vs : List Value), RTL h I ts vs → RVL h J σ ρ (ts.map .tr) vs
  | [], vs, r => by simpa [RTL, RVL] using r
  | t :: ts, vs, r => by
    simp only [RTL] at r
    obtain ⟨x, xs, rfl, r1, r2⟩ := r
    simp only [List.map_cons, RVL, RV]
    exact ⟨x, xs, rfl, RT_mono (fun b hb => ⟨hm b hb, rfl⟩) _ _ r1, rvl_of hm ts xs r2⟩
/-- What a law's walk comes to. -/
theorem law_calls {f : FuncId} {ts : List Tree} {vs : List Value} {w : World} (hg : Gd w.heap.size w) (hfn : FnOk Tryz.prog f) (h : ∃ v σ', callL T f (ts.map .tr) [] = some (v, σ') ∧ v = .tr (.sc (.bool true))) (hr : RTL w.heap (fun b => b < w.heap.size) ts vs) :
    Calls Tryz.prog f vs.toArray w fun e w' => e = .returned (.bool true) ∧ Below w.heap.size w w' := by
  obtain ⟨v, σ', h, rfl⟩ := h
  obtain ⟨m, h⟩ := callL_some.1 h
  rcases (am_ok mixed tab m).2 w.heap.size w hg _ _ _ _ _ h (fun b => b < w.heap.size) (fun _ => none) w vs (Inv.empty _ (fun b hb => hb)) (rvl_of (fun b hb => .inl hb) ts vs hr) with ⟨_, hc⟩ | ⟨x, w', hc, _⟩
  · refine hc.mono ?_
    rintro e w' ⟨x, rfl, ρ, hI, _, hr⟩
    simp only [RV, RT] at hr
    subst hr
    exact ⟨rfl, hI.below⟩
  · rw [run_callFunc hfn] at hc
    cases hc
end Go.Proofs.YthkndfiekgaojaaGreatDoor.AM.Ev
