/- ValueLaws: part 8. -/
import Derived.Test.YtajcohdhioafiaaDoorVl7
import Derived.Test.YtajcohdhioafiaaDoorRows
import Derived.LaidLaws
import Derived.LaidHandle
import Derived.MakeChecks
import Derived.Lib.LaidIn
import Derived.Lib.LaidU8
import Derived.WalkKit
import Derived.Laws.Externs
set_option maxRecDepth 100000
set_option linter.unusedVariables false
set_option linter.unusedSimpArgs false
namespace Go.Proofs.YtajcohdhioafiaaDoor.AM.Vl
open Go.Proofs Go.Proofs.YtajcohdhioafiaaDoor Go.RowKit Go.Lib Go.Sort
theorem own : ownKnob Tryd.prog.godebug = none := by kernel_rfl
/-- What is known of the world at the start: internal/strconv.uint64pow10 is its table. -/
def Gd : Ground := fun n0 w0 => 1 < n0 ∧ Lib.TabIs Tryd.prog w0 "internal/strconv.uint64pow10" .u64 Lib.pow10Tab
theorem gPw : Tryd.prog.globalNamed "internal/strconv.uint64pow10" = some 1 := by kernel_rfl
theorem tab_below {n0 : Nat} {w0 w : World} (hn : 1 < n0) (hb : Below n0 w0 w) (h : Lib.TabIs Tryd.prog w0 "internal/strconv.uint64pow10" .u64 Lib.pow10Tab) : Lib.TabIs Tryd.prog w "internal/strconv.uint64pow10" .u64 Lib.pow10Tab := by
  unfold Lib.TabIs World.var? at h ⊢
  rw [gPw] at h ⊢
  simp only [Option.bind_some] at h ⊢
  rw [hb.block 1 hn]
  exact h
theorem gdOk : GroundOk Gd := by
  rintro n0 w0 w ⟨hn, ht⟩ hb hle
  exact ⟨by omega, tab_below hn hb ht⟩
theorem fnOk {f : FuncId} {fn : Func} (h : Tryd.prog.funcs[f]? = some fn) (h1 : (fn.name == "runtime.NumGoroutine") = false) (h2 : fn.body.isNone = false) : FnOk Tryd.prog f := ⟨fn, h, h1, h2⟩
theorem digs : Lib.decDigits 18446744073709551615 = [49, 56, 52, 52, 54, 55, 52, 52, 48, 55, 51, 55, 48, 57, 53, 53, 49, 54, 49, 53] := by decide +kernel
theorem fmt32 (w : World) (htab : Lib.TabIs Tryd.prog w "internal/strconv.uint64pow10" .u64 Lib.pow10Tab) :
    Calls Tryd.prog 32 #[.int .u64 18446744073709551615, .int .i64 10] w fun e w' => e = .returned (.string ⟨(Lib.decDigits 18446744073709551615).toArray⟩) ∧ ∃ k os, w' = grow (w.drewN k) os := by
  have h := formatUint 18446744073709551615 (by omega) (by omega) w htab
  obtain ⟨D, hD⟩ : ∃ D, Lib.decDigits 18446744073709551615 = D := ⟨_, rfl⟩
  rw [hD] at h ⊢
  go_enter Tryd.func32, Tryd.ntmps32
  go_wp2_with (fail)
  refine h.mono ?_
  rintro e w' ⟨rfl, k, os, rfl⟩
  go_wp2
  go_ret
  exact ⟨rfl, k, os, rfl⟩
theorem below_grow (w : World) (k : Nat) (os : Array Obj) : Below w.heap.size w (grow (w.drewN k) os) := by
  refine ⟨rfl, rfl, rfl, ?_, ?_⟩
  · simp [grow, World.drewN]
  · intro i hi
    simp [grow, World.drewN, Array.getElem?_append_left, hi]
theorem ext32 : ExtOk Gd Tryd.prog 32 13 := .pure2 (by
  rintro n0 w0 w xs ys r ⟨hn, ht⟩ hb hle ha he
  simp only [extS] at he
  split at he
  · rename_i n b
    split at he
    case isFalse => cases he
    rename_i hc
    cases he
    rw [Bool.and_eq_true] at hc
    have h1 := Nat.eq_of_beq_eq_true hc.1
    have h2 := Nat.eq_of_beq_eq_true hc.2
    subst h1 h2
    match xs, ha with
    | [x, y], ha =>
      obtain ⟨hx, hy, _⟩ := ha
      have hx : x = .int .u64 18446744073709551615 := by
        rcases hx with ⟨h, _⟩ | ⟨l, hl, _⟩
        · exact h
        · cases hl
      have hy : y = .int .i64 10 := by
        rcases hy with ⟨h, _⟩ | ⟨l, hl, _⟩
        · exact h
        · cases hl
      subst hx hy
      refine .inl ⟨fnOk Tryd.func32 (by kernel_rfl) (by kernel_rfl), ?_⟩
      refine (fmt32 w (tab_below hn hb ht)).mono ?_
      rintro e w' ⟨rfl, k, os, rfl⟩
      rw [digs]
      exact ⟨_, rfl, rfl, below_grow w k os⟩
    | [], ha => exact ha.elim
    | [_], ha => exact ha.2.elim
    | _ :: _ :: _ :: _, ha => exact ha.2.2.elim
  · cases he) ⟨by omega, by omega, by omega⟩
theorem argsR_one {w : World} {xs : List Value} {y : Value} (h : ArgsR Tryd.prog w xs [y]) (hy : ∀ l, y ≠ .string l) : xs = [y] := by
  match xs, h with
  | [x], h =>
    obtain ⟨h, _⟩ := h
    rcases h with rfl | ⟨l, e, _⟩
    · rfl
    · exact absurd e (hy _)
  | [], h => exact h.elim
  | _ :: _ :: _, h => exact h.2.elim
theorem f64frombits : ExtOk Gd Tryd.prog 6 7 := .pure (by
  rintro n0 w0 w xs ys r _ hb hle ha he
  simp only [extS] at he
  split at he
  · rename_i n
    cases he
    obtain rfl := argsR_one ha (fun l e => by cases e)
    refine .inr ⟨_, w, ?_, rfl, Below.refl _ _⟩
    show (callFunc 6 #[.int .u64 (.ofNat n)]).run Tryd.prog w = _
    rw [run_callFunc_extern Tryd.func6 (by kernel_rfl) (by kernel_rfl) (by kernel_rfl) (e := Extern.MathFloatBits.float64frombits) (by kernel_rfl)]
    rfl
  · cases he) (by omega)
theorem f64bits : ExtOk Gd Tryd.prog 18 6 := .pure (by
  rintro n0 w0 w xs ys r _ hb hle ha he
  simp only [extS] at he
  split at he
  · rename_i n
    cases he
    obtain rfl := argsR_one ha (fun l e => by cases e)
    refine .inr ⟨_, w, ?_, rfl, Below.refl _ _⟩
    show (callFunc 18 #[.float .f64 n]).run Tryd.prog w = _
    rw [run_callFunc_extern Tryd.func18 (by kernel_rfl) (by kernel_rfl) (by kernel_rfl) (e := Extern.MathFloatBits.float64bits) (by kernel_rfl)]
    rfl
  · cases he) (by omega)
theorem tab : TabOk Gd Tryd.prog T := tabOk gdOk fun f n k h => by
  unfold Te at h
  split at h
  · rename_i hb
    cases h
    rw [Nat.eq_of_beq_eq_true hb]
    exact f64frombits
  · split at h
    · rename_i hb
      cases h
      rw [Nat.eq_of_beq_eq_true hb]
      exact f64bits
    · split at h
      · rename_i hb
        cases h
        rw [Nat.eq_of_beq_eq_true hb]
        exact ext32
      · cases h
def tab32 : List Int := [0, 1, 28, 2, 29, 14, 24, 3, 30, 22, 20, 15, 25, 17, 4, 8, 31, 27, 13, 23, 21, 19, 16, 7, 26, 12, 18, 6, 11, 5, 10, 9]
def tab64 : List Int := [0, 1, 56, 2, 57, 49, 28, 3, 61, 58, 42, 50, 38, 29, 17, 4, 62, 47, 59, 36, 45, 43, 51, 22, 53, 39, 33, 30, 24, 18, 12, 5, 63, 55, 48, 27, 60, 41, 37, 16, 46, 35, 44, 21, 52, 32, 23, 11, 54, 26, 40, 15, 34, 20, 31, 10, 25, 14, 19, 9, 13, 8, 7, 6]
/-- The witness: the settled world, the three tables laid. -/
noncomputable def laidWorld (os : Os) : World :=
  let w0 := World.holding Tryd.prog os ⟨#[], #[], []⟩
  let put (h : Array Obj) (g : Nat) (cs : Array Value) : Array Obj := h.modify g fun
    | .cells _ t frozen => .cells cs t frozen
    | o => o
  let h1 := put w0.heap 1 (Lib.pow10Tab.map fun z => Value.int .u64 z).toArray
  let h2 := put h1 2 (tab32.map fun z => Value.int .u8 z).toArray
  let h3 := put h2 3 (tab64.map fun z => Value.int .u8 z).toArray
  { w0 with heap := h3 }
theorem piece (os : Os) (args : Array Value) : LaidIn Tryd.prog ((laidWorld os).forCall (fun _ _ => 0) ⟨#[], args, []⟩).memory Rows.valueLawsRow.laid [1, 2, 3] :=
  LaidIn.of_run [1, 2, 3] 8 (by kernel_rfl) (by kernel_rfl) (by kernel_rfl) (by kernel_rfl)
theorem laid_met (os : Os) (args : Array Value) : laidMetH Tryd.prog Rows.valueLawsRow.laid ((laidWorld os).forCall (fun _ _ => 0) ⟨#[], args, []⟩).memory :=
  laidMetH_of_parts (piece os args).met (by kernel_rfl)
theorem gPwType : (Tryd.prog.globals[1]?).map (·.type) = some 128 := by kernel_rfl
theorem ground_of {W : World} (hL : laidMetH Tryd.prog Rows.valueLawsRow.laid W) : Gd W.heap.size W := by
  rw [Go.MakeChecks.laidMetH_plain _ _ _ (by kernel_rfl)] at hL
  have hv := Lib.laidMet.reads hL (n := "internal/strconv.uint64pow10") (d := Rows.laid_internal_strconv_uint64pow10) (.tail _ (.tail _ (.head _)))
  obtain ⟨g', t', cs, fuel, p, hg', ht', hvar, hd⟩ := hv
  obtain rfl := Option.some.inj (gPw.symm.trans hg')
  obtain rfl := Option.some.inj (gPwType.symm.trans ht')
  have hd' : DataW.trod (fun _ => ()) Tryd.prog W 0 (fun _ => true) false fuel 128 cs.toList = some (tabData .u64 Lib.pow10Tab, p) := by
    rw [hd]
    exact congrArg some (Prod.ext (by kernel_rfl) rfl)
  have htab : Lib.TabIs Tryd.prog W "internal/strconv.uint64pow10" .u64 Lib.pow10Tab := by
    unfold TabIs
    rw [hvar, ← cells_of_tab (n := 20) (e := 22) Tryd.underlying128 Tryd.underlying22 (by kernel_rfl) (by kernel_rfl) hd']
  refine ⟨?_, htab⟩
  have h1 := htab
  unfold TabIs World.var? at h1
  rw [gPw] at h1
  simp only [Option.bind_some] at h1
  rcases Nat.lt_or_ge 1 W.heap.size with h | h
  · exact h
  · rw [Array.getElem?_eq_none h] at h1
    cases h1
theorem mixed : Tryd.prog.follows .mixedOrders = true := by kernel_rfl
theorem rvl_of {h : Array Go.Obj} {I J : Nat → Prop} {σ : Store} {ρ : Rho} (hm : ∀ b, I b → J b) : ∀ (ts : List Tree) (vs : List Value), RTL h I ts vs → RVL h J σ ρ (ts.map .tr) vs
  | [], vs, r => by simpa [RTL, RVL] using r
  | t :: ts, vs, r => by
    simp only [RTL] at r
    obtain ⟨x, xs, rfl, r1, r2⟩ := r
    simp only [List.map_cons, RVL, RV]
    exact ⟨x, xs, rfl, RT_mono (fun b hb => ⟨hm b hb, rfl⟩) _ _ r1, rvl_of hm ts xs r2⟩
/-- What a law's walk comes to. -/
theorem law_calls {f : FuncId} {ts : List Tree} {vs : List Value} {w : World} (hg : Gd w.heap.size w) (hfn : FnOk Tryd.prog f) (h : ∃ v σ', callL T f (ts.map .tr) [] = some (v, σ') ∧ v = .tr (.sc (.bool true))) (hr : RTL w.heap (fun b => b < w.heap.size) ts vs) :
    Calls Tryd.prog f vs.toArray w fun e w' => e = .returned (.bool true) ∧ Below w.heap.size w w' := by
  obtain ⟨v, σ', h, rfl⟩ := h
  obtain ⟨m, h⟩ := callL_some.1 h
  rcases (am_ok mixed tab m).2 w.heap.size w hg _ _ _ _ _ h (fun b => b < w.heap.size) (fun _ => none) w vs (Inv.empty _ (fun b hb => hb)) (rvl_of (fun b hb => .inl hb) ts vs hr) with ⟨_, hc⟩ | ⟨x, w', hc, _⟩
  · refine hc.mono ?_
    rintro e w' ⟨x, rfl, ρ, hI, _, hr⟩
    simp only [RV, RT] at hr
    subst hr
    exact ⟨rfl, hI.below⟩
  · rw [run_callFunc hfn] at hc
    cases hc
end Go.Proofs.YtajcohdhioafiaaDoor.AM.Vl
