/- the places: part N. -/
import Derived.Test.YtodgdmhifbnofaaShelf
import Derived.WalkKit
import Derived.BigCall
import Derived.StillTailTactics
import Derived.Deep.QuietTactic
import Derived.BigQuiet
namespace Go.Proofs.Ytodgdmhifbnofaa.AM.So
open Go.Proofs Go.Shelf Go.RowKit Go.Sort Go.Lib
set_option linter.unusedVariables false
set_option linter.unusedSimpArgs false
def orC (a b c : Int) : Int := if a = 0 then (if b = 0 then c else b) else a
set_option maxHeartbeats 3200000 in
theorem or_calls (a b c : Int) (b0 : Nat) (W : World) (h0 : W.cell? ⟨b0, 0, none⟩ = some (.int .i64 a)) (h1 : W.cell? ⟨b0, 1, none⟩ = some (.int .i64 b)) (h2 : W.cell? ⟨b0, 2, none⟩ = some (.int .i64 c)) :
    Calls Try.prog 30 #[.slice (some ⟨b0, 0, none⟩) 3 3] W fun e w' => e = .returned (.int .i64 (orC a b c)) ∧ w' = W := by
  unfold orC
  go_enter Try.func30, Try.ntmps30
  go_wp2
  refine wp_loop_rounds 4 ?_
  rw [rounds_succ]
  by_cases ha : a = 0
  · subst ha
    go_wp2
    rw [rounds_succ]
    by_cases hb : b = 0
    · subst hb
      go_wp2
      rw [rounds_succ]
      by_cases hc : c = 0
      · subst hc
        go_wp2
        rw [rounds_succ]
        go_wp2
        go_ret
        trace_state
        simp_all
      · go_wp2
        go_ret
        trace_state
        simp_all
    · go_wp2
      go_ret
      trace_state
      simp_all
  · go_wp2
    go_ret
    trace_state
    simp_all
set_option maxHeartbeats 3200000 in
theorem order_calls (s1 t1 s2 t2 : ByteArray) (n1 n2 : Int) (W : World) : Calls Try.prog 19 #[.agg #[.string s1, .string t1, .int .i64 n1], .agg #[.string s2, .string t2, .int .i64 n2]] W fun e w' => e = .returned (.int .i64 (orC (Lib.compareBytes s1.data.toList s2.data.toList) (Lib.compareBytes t1.data.toList t2.data.toList) (Lib.compareInt n1 n2))) ∧ ∃ q os', w' = grow (W.drewN q) os' := by
  have c1 := fun W => Try.strings_Compare s1 s2 W
  have c2 := fun W => Try.strings_Compare t1 t2 W
  have c3 := fun W => Try.cmp_Compare_int n1 n2 W
  generalize Lib.compareBytes s1.data.toList s2.data.toList = r1 at c1 ⊢
  generalize Lib.compareBytes t1.data.toList t2.data.toList = r2 at c2 ⊢
  generalize Lib.compareInt n1 n2 = r3 at c3 ⊢
  have e14 : ∀ args w, (callFunc 14 args).run Try.prog w = .ok (.enter 14 args) w := enters_of Try.func14 (by kernel_rfl) rfl
  have e31 : ∀ args w, (callFunc 31 args).run Try.prog w = .ok (.enter 31 args) w := enters_of Try.func31 (by kernel_rfl) rfl
  have e30 : ∀ args w, (callFunc 30 args).run Try.prog w = .ok (.enter 30 args) w := enters_of Try.func30 (by kernel_rfl) rfl
  go_enter Try.func19, Try.ntmps19
  go_wp2
  obtain ⟨W2, hW2⟩ : ∃ W2, W2 = (W.alloc (Obj.cells #[Value.string s1, Value.string t1, Value.int IntKind.i64 n1] 38)).alloc (Obj.cells #[Value.string s2, Value.string t2, Value.int IntKind.i64 n2] 38) := ⟨_, rfl⟩
  rw [← hW2]
  have g0 : W2.cell? ⟨W.heap.size, 0, none⟩ = some (.string s1) := by rw [hW2]; go_simp
  have g1 : W2.cell? ⟨W.heap.size, 1, none⟩ = some (.string t1) := by rw [hW2]; go_simp
  have g2 : W2.cell? ⟨W.heap.size, 2, none⟩ = some (.int .i64 n1) := by rw [hW2]; go_simp
  have g3 : W2.cell? ⟨W.heap.size + 1, 0, none⟩ = some (.string s2) := by rw [hW2]; go_simp
  have g4 : W2.cell? ⟨W.heap.size + 1, 1, none⟩ = some (.string t2) := by rw [hW2]; go_simp
  have g5 : W2.cell? ⟨W.heap.size + 1, 2, none⟩ = some (.int .i64 n2) := by rw [hW2]; go_simp
  have hend : ∃ os', W2 = grow W os' := ⟨_, by rw [hW2, alloc_eq_grow, alloc_eq_grow, grow_grow]⟩
  refine wp_region_still_tail 15 (by kernel_rfl) (by kernel_rfl) ?_
  simp only [List.take_succ_cons, List.take_zero, List.drop_succ_cons, List.drop_zero]
  change wpStill _ _ W2.drew _ _ _
  clear hW2
  repeat still_step
  still_call (c1 _)
  repeat still_step
  still_call (c2 _)
  repeat still_step
  still_call (c3 _)
  repeat still_step
  try refine wpStill_nil ?_
  go_wp2_with (fail)
  have h3 := or_calls r1 r2 r3 W2.heap.size ((W2.alloc (Obj.cells #[Value.int IntKind.i64 r1, Value.int IntKind.i64 r2, Value.int IntKind.i64 r3] 3)).drew) (by go_simp) (by go_simp) (by go_simp)
  refine h3.mono ?_
  rintro e w' ⟨rfl, rfl⟩
  clear h3 c1 c2 c3 g0 g1 g2 g3 g4 g5
  go_wp2
  obtain ⟨os', rfl⟩ := hend
  have hw : ∃ q os2, ((grow W os').alloc (Obj.cells #[Value.int IntKind.i64 r1, Value.int IntKind.i64 r2, Value.int IntKind.i64 r3] 3)).drew = grow (W.drewN q) os2 := ⟨1, _, by rw [alloc_eq_grow, grow_grow]; rfl⟩
  generalize ((grow W os').alloc (Obj.cells #[Value.int IntKind.i64 r1, Value.int IntKind.i64 r2, Value.int IntKind.i64 r3] 3)).drew = w9 at *
  go_ret
  exact ⟨rfl, hw⟩
end Go.Proofs.Ytodgdmhifbnofaa.AM.So
