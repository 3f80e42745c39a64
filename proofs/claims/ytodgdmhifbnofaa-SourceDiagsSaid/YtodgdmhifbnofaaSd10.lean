/- the places: parts 10, 11. -/
import Derived.Test.YtodgdmhifbnofaaSdO
import Derived.Test.YtodgdmhifbnofaaSd6
import Derived.Test.YtodgdmhifbnofaaSdB
import Derived.Lib.IndexMore
import Derived.Laws.Externs
set_option linter.unusedSectionVars false
section
set_option maxRecDepth 1000000
set_option linter.unusedVariables false
set_option linter.unusedSimpArgs false
namespace Go.Proofs.Ytodgdmhifbnofaa.AM.Sd
open Go.Proofs Go.RowKit
def Gd : Ground := fun n0 w0 => 0 < n0 ∧ ∃ m, w0.cell? ⟨0, 0, none⟩ = some (.int .i64 m)
theorem cell_below {n0 : Nat} {w0 w : World} (hn : 0 < n0) (hb : Below n0 w0 w) : w.cell? ⟨0, 0, none⟩ = w0.cell? ⟨0, 0, none⟩ := by
  rw [cell?_eq, cell?_eq]
  exact cellAt_congr (hb.block 0 hn) 0
theorem gdOk : GroundOk Gd := by
  rintro n0 w0 w ⟨hn, m, hm⟩ hb hle
  exact ⟨by omega, m, by rw [cell_below hn hb]; exact hm⟩
theorem hasPre_eq : ∀ (a b : List UInt8), hasPre a b = a.isPrefixOf b
  | [], b => by simp [hasPre]
  | a :: x, [] => by simp [hasPre]
  | a :: x, b :: y => by
    simp only [hasPre, List.isPrefixOf_cons_cons, hasPre_eq x y]
    congr 1
    rw [Bool.eq_iff_iff, Nat.beq_eq, beq_iff_eq, UInt8.toNat_inj]
theorem hasL_eq (sub : List UInt8) : ∀ l, hasL sub l = Lib.contains l sub
  | [] => by
    unfold hasL Lib.contains Lib.index
    cases sub <;> simp
  | b :: l => by
    unfold hasL
    rw [hasPre_eq, hasL_eq sub l]
    unfold Lib.contains
    rw [show Lib.index (b :: l) sub = if sub.isPrefixOf (b :: l) then 0 else if Lib.index l sub == -1 then -1 else Lib.index l sub + 1 from rfl]
    cases h : sub.isPrefixOf (b :: l) with
    | true => simp
    | false =>
      simp only [Bool.false_or, Bool.false_eq_true, if_false]
      have := Lib.index_ge l sub
      by_cases h1 : Lib.index l sub = -1
      · simp [h1]
      · have h2 : (Lib.index l sub == -1) = false := by simpa using h1
        rw [h2]
        simp only [Bool.false_eq_true, if_false]
        rw [Bool.eq_iff_iff, decide_eq_true_eq, decide_eq_true_eq]
        omega
theorem ext24 : ExtOk Gd Try.prog 24 0 := by
  refine ExtOk.pure ?_ (by decide)
  rintro n0 w0 w xs ys r ⟨hn, m, hm⟩ hb hle ha he
  have ha : xs = ys := ha
  subst ha
  simp only [extS] at he
  split at he
  · rename_i s t
    split at he
    · rename_i hlen
      cases he
      refine .inl ⟨fnOk Try.func24 (by kernel_rfl) (by kernel_rfl), ?_⟩
      refine (Try.strings_Contains s t m w (by rw [Nat.blt_eq] at hlen; simpa using hlen) (by rw [cell_below hn hb]; exact hm)).mono ?_
      rintro e w' ⟨rfl, rfl⟩
      exact ⟨_, rfl, by rw [hasL_eq], Below.refl _ _⟩
    · cases he
  · cases he
theorem ext14 : ExtOk Gd Try.prog 14 4 := by
  refine ExtOk.pure ?_ (by decide)
  rintro n0 w0 w xs ys r hG hb hle ha he
  have ha : xs = ys := ha
  subst ha
  simp only [extS] at he
  split at he
  · rename_i s t
    cases he
    refine .inl ⟨fnOk Try.func14 (by kernel_rfl) (by kernel_rfl), ?_⟩
    refine (Try.strings_Compare s t w).mono ?_
    rintro e w' ⟨rfl, rfl⟩
    exact ⟨_, rfl, by rw [cmp_eq], Below.refl _ _⟩
  · cases he
theorem count_eq (c : Nat) (hc : c < 256) : ∀ (l : List UInt8) (n : Nat), countL c l n = ((n + l.count (UInt8.ofNat c) : Nat) : Int)
  | [], n => rfl
  | b :: l, n => by
    simp only [countL]
    have : Nat.beq b.toNat c = (b == UInt8.ofNat c) := by
      rw [Bool.eq_iff_iff, Nat.beq_eq, beq_iff_eq, ← UInt8.toNat_inj, UInt8.toNat_ofNat']
      omega
    rw [this, count_eq c hc l, List.count_cons]
    cases b == UInt8.ofNat c with
    | true => simp; omega
    | false => simp
theorem ext33 : ExtOk Gd Try.prog 33 5 := by
  refine ExtOk.pure ?_ (by decide)
  rintro n0 w0 w xs ys r hG hb hle ha he
  simp only [extS] at he
  split at he
  · rename_i s c
    split at he
    case isFalse => cases he
    rename_i hc
    cases he
    match xs, ha with
    | [x, y], ha =>
      obtain ⟨hx, hy, _⟩ := ha
      have hb : (Extern.Bytes.bytesOf x).run Try.prog w = .ok s w := by
        rcases hx with rfl | ⟨l, hl, hr⟩
        · rfl
        · cases hl; exact hr
      have hy : y = .int .u8 (.ofNat c) := by
        rcases hy with h | ⟨l, hl, _⟩
        · exact h
        · cases hl
      subst hy
      have hrun : (Extern.BytealgCount.count #[x, .int .u8 (.ofNat c)]).run Try.prog w = (Extern.BytealgCount.count #[.string s, .int .u8 (.ofNat c)]).run Try.prog w := by
        change Sem.run Try.prog (do
          let b ← Extern.Bytes.bytesOf x
          let c' ← Extern.Bytes.asByte (.int .u8 (.ofNat c))
          pure (goInt (b.foldl (fun n x => if x == c' then n + 1 else n) (0 : Nat)))) w = Sem.run Try.prog (do
          let b ← Extern.Bytes.bytesOf (.string s)
          let c' ← Extern.Bytes.asByte (.int .u8 (.ofNat c))
          pure (goInt (b.foldl (fun n x => if x == c' then n + 1 else n) (0 : Nat)))) w
        rw [Sem.run_bind, Sem.run_bind, hb]
        rfl
      refine .inr ⟨.int .i64 (countL c s.data.toList 0), w, ?_, rfl, Below.refl _ _⟩
      show (callFunc 33 #[x, .int .u8 (.ofNat c)]).run Try.prog w = _
      rw [run_callFunc_extern Try.func33 (by kernel_rfl) (by kernel_rfl) (by kernel_rfl) (e := Extern.BytealgCount.count) (by kernel_rfl), hrun, Lib.run_countString]
      simp only [Result.andThen_ok]
      rw [count_eq c (by simpa [Nat.blt_eq] using hc)]
      simp only [Lib.countByte, Nat.zero_add]
      rfl
    | [], ha => exact ha.elim
    | [_], ha => exact ha.2.elim
    | _ :: _ :: _ :: _, ha => exact ha.2.2.elim
  · cases he
theorem mixed : Try.prog.follows .mixedOrders = true := by kernel_rfl
theorem tabB : TabOk Gd Try.prog Go.Proofs.Ytodgdmhifbnofaa.AM.Sb.T := Go.Proofs.Ytodgdmhifbnofaa.AM.Sb.tabOk gdOk (fun f n k h => by
  unfold Go.Proofs.Ytodgdmhifbnofaa.AM.Sb.Te at h
  split at h
  · rename_i hb
    cases h
    rw [Nat.eq_of_beq_eq_true hb]
    exact ext14
  · split at h
    · rename_i hb
      cases h
      rw [Nat.eq_of_beq_eq_true hb]
      exact ext33
    · split at h
      · rename_i hb
        cases h
        rw [Nat.eq_of_beq_eq_true hb]
        exact ext24
      · cases h)
theorem ext5 : ExtOk Gd Try.prog 5 18 := ext_true mixed tabB Go.Proofs.Ytodgdmhifbnofaa.AM.Sb.begun_run
theorem ext18 : ExtOk Gd Try.prog 18 59 := ExtOk.sortF sorts18 (by decide) (fun xs => rfl)
theorem tab : TabOk Gd Try.prog T := tabOk gdOk (fun f n k h => by
  unfold Te at h
  split at h
  · rename_i hb
    cases h
    rw [Nat.eq_of_beq_eq_true hb]
    exact ext5
  · split at h
    · rename_i hb
      cases h
      rw [Nat.eq_of_beq_eq_true hb]
      exact ext18
    · split at h
      · rename_i hb
        cases h
        rw [Nat.eq_of_beq_eq_true hb]
        exact ext14
      · cases h)
theorem rvl_of {h : Array Go.Obj} {I J : Nat → Prop} {σ : Store} {ρ : Rho} (hm : ∀ b, I b → J b) : ∀ (ts : List Tree) (vs : List Value), RTL h I ts vs → RVL h J σ ρ (ts.map .tr) vs
  | [], vs, r => by simpa [RTL, RVL] using r
  | t :: ts, vs, r => by
    simp only [RTL] at r
    obtain ⟨x, xs, rfl, r1, r2⟩ := r
    simp only [List.map_cons, RVL, RV]
    exact ⟨x, xs, rfl, RT_mono (fun b hb => ⟨hm b hb, rfl⟩) _ _ r1, rvl_of hm ts xs r2⟩
theorem law_calls {f : FuncId} {ts : List Tree} {vs : List Value} {w : World} (hg : Gd w.heap.size w) (hfn : FnOk Try.prog f) (h : ∃ v σ', callL T f (ts.map .tr) [] = some (v, σ') ∧ v = .tr (.sc (.bool true))) (hr : RTL w.heap (fun b => b < w.heap.size) ts vs) :
    Calls Try.prog f vs.toArray w fun e w' => e = .returned (.bool true) ∧ Below w.heap.size w w' := by
  obtain ⟨v, σ', h, rfl⟩ := h
  obtain ⟨m, h⟩ := callL_some.1 h
  rcases (am_ok mixed tab m).2 w.heap.size w hg _ _ _ _ _ h (fun b => b < w.heap.size) (fun _ => none) w vs (Inv.empty _ (fun b hb => hb)) (rvl_of (fun b hb => .inl hb) ts vs hr) with ⟨_, hc⟩ | ⟨x, w', hc, _⟩
  · refine hc.mono ?_
    rintro e w' ⟨x, rfl, ρ, hI, _, hr⟩
    simp only [RV, RT] at hr
    subst hr
    exact ⟨rfl, hI.below⟩
  · rw [run_callFunc hfn] at hc
    cases hc
end Go.Proofs.Ytodgdmhifbnofaa.AM.Sd
end
section
set_option maxRecDepth 1000000
set_option linter.unusedVariables false
set_option linter.unusedSimpArgs false
namespace Go.Proofs.Ytodgdmhifbnofaa.AM.Sd
open Go.Proofs Go.RowKit
section
variable {H : Type} {enc : TypeId × Value → H} {w : World}
theorem rtl_one {h : Array Go.Obj} {I : Nat → Prop} {t : Tree} {v : Value} (r : RTL h I [t] [v]) : RT h I t v := by
  simp only [RTL] at r
  obtain ⟨y, ys, h, r, _⟩ := r
  cases h
  exact r
def fld (name : String) (t : TypeId) (o b : Nat) : Field := { name := name, type := t, offset := o, embedded := false, tag := "", pkgPath := "", byteOffset := b }
theorem opens_dg {n : Nat} : Opens enc Try.prog w n 38 dT (fun _ => True) := by
  have hc : Try.prog.cellsOf 38 = 3 := by kernel_rfl
  have h := opens_struct (enc := enc) (w := w) (n := n) Try.underlying38 (E := fun p : ByteArray × ByteArray × Int × Unit => [.sc (.string p.1)] ++ ([.sc (.string p.2.1)] ++ ([.sc (.int .i64 p.2.2.1)] ++ []))) (ok := fun p => (p.1.size ≤ maxLen) ∧ (p.2.1.size ≤ maxLen) ∧ ((Lit.int .i64 p.2.2.1).wf = true) ∧ True) (fun a => by rw [hc]; rfl) (fun m _ =>
    opens_cons (f := fld "Pkg" 9 0 0) (fs := [fld "File" 9 1 16, fld "At" 3 2 32]) (c := 1) rfl (by kernel_rfl) (opens_string (t := 9) Try.underlying9) (fun _ => rfl)
      (opens_cons (f := fld "File" 9 1 16) (fs := [fld "At" 3 2 32]) (c := 1) rfl (by kernel_rfl) (opens_string (t := 9) Try.underlying9) (fun _ => rfl)
        (opens_cons (f := fld "At" 3 2 32) (fs := []) (c := 1) rfl (by kernel_rfl) (opens_int (t := 3) Try.underlying3) (fun _ => rfl) opens_nil)))
  exact h.map (fun p => (p.1.data.toList, p.2.1.data.toList, p.2.2.1)) (fun p _ => rfl) (fun _ _ => trivial)
theorem arg_diags {r : Reach} {b0 : Nat} {v : Value} {d : DataW H} {ps : List MemPlace} (hval : Value.okWide Try.prog w r b0 35 v) (hd : DataW.Trod enc Try.prog w 0 (fun _ => true) true 35 v d ps) :
    ∃ (l : List Dg) (t : Tree), IsSl dT l (.tr t) ∧ RT w.heap (fun b => b < w.heap.size) t v := by
  obtain ⟨x, hx, hr⟩ := Opens.one Try.underlying35 hval hd (fun n => opens_slice (c := 3) Try.underlying35 (by kernel_rfl) dT_len fun _ _ => opens_dg)
  rcases x with _ | ⟨l, c⟩
  · exact ⟨[], _, .inl ⟨rfl, rfl⟩, rtl_one hr⟩
  · simp only [slE] at hr
    exact ⟨l, _, .inr ⟨some c, rfl⟩, rtl_one hr⟩
theorem laidOut : laidOutB Try.prog = true := by kernel_rfl
theorem walk {ds : List Dg} {t : Tree} {v : Value} (h : IsSl dT ds (.tr t)) (hr : RT w.heap (fun b => b < w.heap.size) t v) (hg : 0 < w.heap.size) (hm : ∃ m, w.cell? ⟨0, 0, none⟩ = some (.int .i64 m)) :
    Calls Try.prog 4 #[v] w fun e w' => e = .returned (.bool true) ∧ Below w.heap.size w w' := by
  obtain ⟨σ', h1⟩ := law_diags h
  exact law_calls (ts := [t]) (vs := [v]) ⟨hg, hm⟩ (fnOk Try.func4 (by kernel_rfl) (by kernel_rfl)) ⟨_, σ', h1, rfl⟩ (by simp only [RTL]; exact ⟨v, [], rfl, hr, rfl⟩)
end
end Go.Proofs.Ytodgdmhifbnofaa.AM.Sd
end
