/- ScanEnds: part 10. -/
import Derived.Test.YtbdebcmklaooaaaDoorSc9
import Derived.Test.YtbdebcmklaooaaaDoorRows
import Derived.LaidLaws
import Derived.LaidHandle
import Derived.MakeChecks
import Derived.Lib.LaidIn
import Derived.Lib.LaidU8
import Derived.Lib.LaidRTab
import Derived.WalkKit
set_option maxRecDepth 100000
set_option linter.unusedVariables false
set_option linter.unusedSimpArgs false
namespace Go.Proofs.YtbdebcmklaooaaaDoor.AM.Sc
open Go.Proofs Go.Proofs.YtbdebcmklaooaaaDoor Go.RowKit Go.Lib
theorem own : ownKnob Tryd.prog.godebug = none := by kernel_rfl
def wsCells : Array Value := #[.int .u16 9, .int .u16 13, .int .u16 1, .int .u16 32, .int .u16 133, .int .u16 101, .int .u16 160, .int .u16 5760, .int .u16 5600, .int .u16 8192, .int .u16 8202, .int .u16 1, .int .u16 8232, .int .u16 8233, .int .u16 1, .int .u16 8239, .int .u16 8287, .int .u16 48, .int .u16 12288, .int .u16 12288, .int .u16 1]
/-- The witness: the settled world, the four variables laid, two blocks more for the table of blanks. -/
noncomputable def laidWorld (os : Os) : World :=
  let N := (World.settled Tryd.prog os).heap.size
  let w0 := World.holding Tryd.prog os ⟨#[.cells wsCells 118, .cells #[.slice (some ⟨N, 0, none⟩) 7 7, .slice none 0 0, .int .i64 2] 115], #[], []⟩
  let put (h : Array Obj) (g : Nat) (cs : Array Value) : Array Obj := h.modify g fun
    | .cells _ t frozen => .cells cs t frozen
    | o => o
  let h1 := put w0.heap 1 (Lib.asciiSpaceTab.map fun z => Value.int .u8 z).toArray
  let h2 := put h1 2 (Lib.firstTab.map fun z => Value.int .u8 z).toArray
  let h3 := put h2 3 ((List.range 16).flatMap fun i => [Value.int .u8 (Lib.accLo i), Value.int .u8 (Lib.accHi i)]).toArray
  let h4 := put h3 4 #[.pointer (some ⟨N + 1, 0, none⟩)]
  { w0 with heap := h4 }
noncomputable abbrev N0 : Nat := (World.settled Tryd.prog default).heap.size
theorem piece (os : Os) (args : Array Value) : LaidIn Tryd.prog ((laidWorld os).forCall (fun _ _ => 0) ⟨#[], args, []⟩).memory Rows.scanEndsRow.laid [1, 2, 3, 4, N0, N0 + 1] :=
  LaidIn.of_run [1, 2, 3, 4, N0, N0 + 1] 8 (by kernel_rfl) (by kernel_rfl) (by kernel_rfl) (by kernel_rfl)
theorem laid_met (os : Os) (args : Array Value) : laidMetH Tryd.prog Rows.scanEndsRow.laid ((laidWorld os).forCall (fun _ _ => 0) ⟨#[], args, []⟩).memory :=
  laidMetH_of_parts (piece os args).met (by kernel_rfl)
theorem gSpType : (Tryd.prog.globals[1]?).map (·.type) = some 85 := by kernel_rfl
theorem ground_of {W : World} (hL : laidMetH Tryd.prog Rows.scanEndsRow.laid W) (hsh : W.ShapedOpen Tryd.prog) : Gd W.heap.size W := by
  rw [Go.MakeChecks.laidMetH_plain _ _ _ (by kernel_rfl)] at hL
  have hm : ∃ m, W.cell? ⟨0, 0, none⟩ = some (.int .i64 m) := Tryd.laysM144.s1_3 W hsh
  have hv := Lib.laidMet.reads hL (n := "strings.asciiSpace") (d := Rows.laid_strings_asciiSpace) (.tail _ (.tail _ (.head _)))
  obtain ⟨g', t', cs, fuel, p, hg', ht', hvar, hd⟩ := hv
  obtain rfl := Option.some.inj (gSp.symm.trans hg')
  obtain rfl := Option.some.inj (gSpType.symm.trans ht')
  have hd' : DataW.trod (fun _ => ()) Tryd.prog W 0 (fun _ => true) false fuel 85 cs.toList = some (tabData .u8 Lib.asciiSpaceTab, p) := by
    rw [hd]
    exact congrArg some (Prod.ext (by kernel_rfl) rfl)
  have htab : Lib.TabIs Tryd.prog W "strings.asciiSpace" .u8 Lib.asciiSpaceTab := by
    unfold TabIs
    rw [hvar, ← cells_of_tab (n := 256) (e := 5) Tryd.underlying85 Tryd.underlying5 (by kernel_rfl) (by kernel_rfl) hd']
  refine ⟨?_, hm, htab⟩
  have h1 := htab
  unfold TabIs World.var? at h1
  rw [gSp] at h1
  simp only [Option.bind_some] at h1
  rcases Nat.lt_or_ge 1 W.heap.size with h | h
  · exact h
  · rw [Array.getElem?_eq_none h] at h1
    cases h1
theorem tab : TabOk Gd Tryd.prog T := tabOk gdOk fun f n k h => by
  unfold Te at h
  split at h
  · rename_i hb
    cases h
    rw [Nat.eq_of_beq_eq_true hb]
    exact ext50
  · split at h
    · rename_i hb
      cases h
      rw [Nat.eq_of_beq_eq_true hb]
      exact ext51
    · split at h
      · rename_i hb
        cases h
        rw [Nat.eq_of_beq_eq_true hb]
        exact ext31
      · split at h
        · rename_i hb
          cases h
          rw [Nat.eq_of_beq_eq_true hb]
          exact fld56
        · cases h
theorem mixed : Tryd.prog.follows .mixedOrders = true := by kernel_rfl
theorem rvl_of {h : Array Go.Obj} {I J : Nat → Prop} {σ : Store} {ρ : Rho} (hm : ∀ b, I b → J b) : ∀ (ts : List Tree) (vs : List Value), RTL h I ts vs → RVL h J σ ρ (ts.map .tr) vs
  | [], vs, r => by simpa [RTL, RVL] using r
  | t :: ts, vs, r => by
    simp only [RTL] at r
    obtain ⟨x, xs, rfl, r1, r2⟩ := r
    simp only [List.map_cons, RVL, RV]
    exact ⟨x, xs, rfl, RT_mono (fun b hb => ⟨hm b hb, rfl⟩) _ _ r1, rvl_of hm ts xs r2⟩
/-- What a law's walk comes to. -/
theorem law_calls {f : FuncId} {ts : List Tree} {vs : List Value} {w : World} (hg : Gd w.heap.size w) (hfn : FnOk Tryd.prog f) (h : ∃ v σ', callL T f (ts.map .tr) [] = some (v, σ') ∧ v = .tr (.sc (.bool true))) (hr : RTL w.heap (fun b => b < w.heap.size) ts vs) :
    Calls Tryd.prog f vs.toArray w fun e w' => e = .returned (.bool true) ∧ Below w.heap.size w w' := by
  obtain ⟨v, σ', h, rfl⟩ := h
  obtain ⟨m, h⟩ := callL_some.1 h
  rcases (am_ok mixed tab m).2 w.heap.size w hg _ _ _ _ _ h (fun b => b < w.heap.size) (fun _ => none) w vs (Inv.empty _ (fun b hb => hb)) (rvl_of (fun b hb => .inl hb) ts vs hr) with ⟨_, hc⟩ | ⟨x, w', hc, _⟩
  · refine hc.mono ?_
    rintro e w' ⟨x, rfl, ρ, hI, _, hr⟩
    simp only [RV, RT] at hr
    subst hr
    exact ⟨rfl, hI.below⟩
  · rw [run_callFunc hfn] at hc
    cases hc
end Go.Proofs.YtbdebcmklaooaaaDoor.AM.Sc
