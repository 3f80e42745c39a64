/- the packages: parts 33, 34, 35. -/
import Derived.Test.YtodgdmhifbnofaaShelf
import Derived.Test.YtodgdmhifbnofaaSn30
import Derived.Test.YtodgdmhifbnofaaSnB
import Derived.Lib.IndexMore
import Derived.Laws.Externs
import Derived.SizedLaws
set_option linter.unusedSectionVars false
section
set_option maxRecDepth 1000000
set_option linter.unusedVariables false
set_option linter.unusedSimpArgs false
namespace Go.Proofs.Ytodgdmhifbnofaa.AM.Sn
open Go.Proofs Go.RowKit
theorem fnOk {f : FuncId} {fn : Func} (h : Try.prog.funcs[f]? = some fn) (h1 : (fn.name == "runtime.NumGoroutine") = false) (h2 : fn.body.isNone = false) : FnOk Try.prog f := ⟨fn, h, h1, h2⟩
theorem cmp_eq : ∀ (a b : List UInt8), (if bytesLt a b then -1 else if bytesEq a b then 0 else 1) = Lib.compareBytes a b
  | [], [] => rfl
  | [], b :: y => by simp [bytesLt, Lib.compareBytes]
  | a :: x, [] => by simp [bytesLt, bytesEq, Lib.compareBytes]
  | a :: x, b :: y => by
    have ih := cmp_eq x y
    have e1 : Nat.blt a.toNat b.toNat = decide (a < b) := by rw [Bool.eq_iff_iff, Nat.blt_eq, decide_eq_true_eq, UInt8.lt_iff_toNat_lt]
    have e2 : Nat.beq a.toNat b.toNat = decide (a = b) := by rw [Bool.eq_iff_iff, Nat.beq_eq, decide_eq_true_eq, UInt8.toNat_inj]
    simp only [bytesLt, bytesEq, Lib.compareBytes, e1, e2]
    by_cases h1 : a < b
    · simp [h1]
    · by_cases h2 : a = b
      · subst h2
        simp only [h1, decide_false, Bool.false_or, decide_true, Bool.true_and, if_false]
        exact ih
      · have h3 : b < a := by
          rw [UInt8.lt_iff_toNat_lt] at h1 ⊢
          rw [← UInt8.toNat_inj] at h2
          omega
        simp [h1, h2, h3]
def Gd : Ground := fun n0 w0 => 0 < n0 ∧ ∃ m, w0.cell? ⟨0, 0, none⟩ = some (.int .i64 m)
theorem cell_below {n0 : Nat} {w0 w : World} (hn : 0 < n0) (hb : Below n0 w0 w) : w.cell? ⟨0, 0, none⟩ = w0.cell? ⟨0, 0, none⟩ := by
  rw [cell?_eq, cell?_eq]
  exact cellAt_congr (hb.block 0 hn) 0
theorem gdOk : GroundOk Gd := by
  rintro n0 w0 w ⟨hn, m, hm⟩ hb hle
  exact ⟨by omega, m, by rw [cell_below hn hb]; exact hm⟩
theorem hasPre_eq : ∀ (a b : List UInt8), hasPre a b = a.isPrefixOf b
  | [], b => by simp [hasPre]
  | a :: x, [] => by simp [hasPre]
  | a :: x, b :: y => by
    simp only [hasPre, List.isPrefixOf_cons_cons, hasPre_eq x y]
    congr 1
    rw [Bool.eq_iff_iff, Nat.beq_eq, beq_iff_eq, UInt8.toNat_inj]
theorem hasL_eq (sub : List UInt8) : ∀ l, hasL sub l = Lib.contains l sub
  | [] => by
    unfold hasL Lib.contains Lib.index
    cases sub <;> simp
  | b :: l => by
    unfold hasL
    rw [hasPre_eq, hasL_eq sub l]
    unfold Lib.contains
    rw [show Lib.index (b :: l) sub = if sub.isPrefixOf (b :: l) then 0 else if Lib.index l sub == -1 then -1 else Lib.index l sub + 1 from rfl]
    cases h : sub.isPrefixOf (b :: l) with
    | true => simp
    | false =>
      simp only [Bool.false_or, Bool.false_eq_true, if_false]
      have := Lib.index_ge l sub
      by_cases h1 : Lib.index l sub = -1
      · simp [h1]
      · have h2 : (Lib.index l sub == -1) = false := by simpa using h1
        rw [h2]
        simp only [Bool.false_eq_true, if_false]
        rw [Bool.eq_iff_iff, decide_eq_true_eq, decide_eq_true_eq]
        omega
theorem ext24 : ExtOk Gd Try.prog 24 0 := by
  refine ExtOk.pure ?_ (by decide)
  rintro n0 w0 w xs ys r ⟨hn, m, hm⟩ hb hle ha he
  have ha : xs = ys := ha
  subst ha
  simp only [extS] at he
  split at he
  · rename_i s t
    split at he
    · rename_i hlen
      cases he
      refine .inl ⟨fnOk Try.func24 (by kernel_rfl) (by kernel_rfl), ?_⟩
      refine (Try.strings_Contains s t m w (by rw [Nat.blt_eq] at hlen; simpa using hlen) (by rw [cell_below hn hb]; exact hm)).mono ?_
      rintro e w' ⟨rfl, rfl⟩
      exact ⟨_, rfl, by rw [hasL_eq], Below.refl _ _⟩
    · cases he
  · cases he
theorem ext14 : ExtOk Gd Try.prog 14 4 := by
  refine ExtOk.pure ?_ (by decide)
  rintro n0 w0 w xs ys r hG hb hle ha he
  have ha : xs = ys := ha
  subst ha
  simp only [extS] at he
  split at he
  · rename_i s t
    cases he
    refine .inl ⟨fnOk Try.func14 (by kernel_rfl) (by kernel_rfl), ?_⟩
    refine (Try.strings_Compare s t w).mono ?_
    rintro e w' ⟨rfl, rfl⟩
    exact ⟨_, rfl, by rw [cmp_eq], Below.refl _ _⟩
  · cases he
theorem count_eq (c : Nat) (hc : c < 256) : ∀ (l : List UInt8) (n : Nat), countL c l n = ((n + l.count (UInt8.ofNat c) : Nat) : Int)
  | [], n => rfl
  | b :: l, n => by
    simp only [countL]
    have : Nat.beq b.toNat c = (b == UInt8.ofNat c) := by
      rw [Bool.eq_iff_iff, Nat.beq_eq, beq_iff_eq, ← UInt8.toNat_inj, UInt8.toNat_ofNat']
      omega
    rw [this, count_eq c hc l, List.count_cons]
    cases b == UInt8.ofNat c with
    | true => simp; omega
    | false => simp
theorem ext33 : ExtOk Gd Try.prog 33 5 := by
  refine ExtOk.pure ?_ (by decide)
  rintro n0 w0 w xs ys r hG hb hle ha he
  simp only [extS] at he
  split at he
  · rename_i s c
    split at he
    case isFalse => cases he
    rename_i hc
    cases he
    match xs, ha with
    | [x, y], ha =>
      obtain ⟨hx, hy, _⟩ := ha
      have hb : (Extern.Bytes.bytesOf x).run Try.prog w = .ok s w := by
        rcases hx with rfl | ⟨l, hl, hr⟩
        · rfl
        · cases hl; exact hr
      have hy : y = .int .u8 (.ofNat c) := by
        rcases hy with h | ⟨l, hl, _⟩
        · exact h
        · cases hl
      subst hy
      have hrun : (Extern.BytealgCount.count #[x, .int .u8 (.ofNat c)]).run Try.prog w = (Extern.BytealgCount.count #[.string s, .int .u8 (.ofNat c)]).run Try.prog w := by
        change Sem.run Try.prog (do
          let b ← Extern.Bytes.bytesOf x
          let c' ← Extern.Bytes.asByte (.int .u8 (.ofNat c))
          pure (goInt (b.foldl (fun n x => if x == c' then n + 1 else n) (0 : Nat)))) w = Sem.run Try.prog (do
          let b ← Extern.Bytes.bytesOf (.string s)
          let c' ← Extern.Bytes.asByte (.int .u8 (.ofNat c))
          pure (goInt (b.foldl (fun n x => if x == c' then n + 1 else n) (0 : Nat)))) w
        rw [Sem.run_bind, Sem.run_bind, hb]
        rfl
      refine .inr ⟨.int .i64 (countL c s.data.toList 0), w, ?_, rfl, Below.refl _ _⟩
      show (callFunc 33 #[x, .int .u8 (.ofNat c)]).run Try.prog w = _
      rw [run_callFunc_extern Try.func33 (by kernel_rfl) (by kernel_rfl) (by kernel_rfl) (e := Extern.BytealgCount.count) (by kernel_rfl), hrun, Lib.run_countString]
      simp only [Result.andThen_ok]
      rw [count_eq c (by simpa [Nat.blt_eq] using hc)]
      simp only [Lib.countByte, Nat.zero_add]
      rfl
    | [], ha => exact ha.elim
    | [_], ha => exact ha.2.elim
    | _ :: _ :: _ :: _, ha => exact ha.2.2.elim
  · cases he
theorem mixed : Try.prog.follows .mixedOrders = true := by kernel_rfl
theorem tabB : TabOk Gd Try.prog Go.Proofs.Ytodgdmhifbnofaa.AM.Sb.T := Go.Proofs.Ytodgdmhifbnofaa.AM.Sb.tabOk gdOk (fun f n k h => by
  unfold Go.Proofs.Ytodgdmhifbnofaa.AM.Sb.Te at h
  split at h
  · rename_i hb
    cases h
    rw [Nat.eq_of_beq_eq_true hb]
    exact ext14
  · split at h
    · rename_i hb
      cases h
      rw [Nat.eq_of_beq_eq_true hb]
      exact ext33
    · split at h
      · rename_i hb
        cases h
        rw [Nat.eq_of_beq_eq_true hb]
        exact ext24
      · cases h)
theorem ext5 : ExtOk Gd Try.prog 5 18 := ext_true mixed tabB Go.Proofs.Ytodgdmhifbnofaa.AM.Sb.begun_run
theorem ext11 : ExtOk Gd Try.prog 11 19 := ExtOk.clone {
  ok := fnOk Try.func11 (by kernel_rfl) (by kernel_rfl)
  none := fun w => Try.bytes_Clone_nil 0 0 w
  run := fun a n c l w hl hn hc => by
    refine (Try.bytes_Clone_at a n c (l.map fun u => (u.toNat : Int)) w (by rw [List.length_map]; exact hl) hn (fun i hi => ?_)).mono ?_
    · obtain ⟨u, hu⟩ := some_at (l := l) (i := i) (by omega)
      rw [hc i u hu]
      simp [List.getD, hu]
    · rintro e w' ⟨v', he, ho, hne, hb⟩
      obtain ⟨hlen, h | ⟨g, cap, cur, rfl, hg, hgg, hnc, hcm, hsz, htk⟩⟩ := ho
      · exact absurd (by rw [h.1]) hne
      · refine ⟨g, cap, he, hnc, hg, (Array.getElem?_eq_some_iff.1 hgg).1, fun i u hu => ?_, hb⟩
        have hcell := World.ownsRow.cellAt (w := w') (base := w.heap.size) (e := 5) (size := 1) (g := g) (cap := cap) (n := n) ⟨hlen, .inr ⟨g, cap, cur, rfl, hg, hgg, hnc, hcm, hsz, htk⟩⟩ i (by have := (List.getElem?_eq_some_iff.1 hu).1; omega)
        rw [cell?_eq] at hcell
        refine Eq.trans ?_ (hcell.trans ?_)
        · rfl
        · simp [hu] }
theorem tab : TabOk Gd Try.prog T := tabOk gdOk (fun f n k h => by
  unfold Te at h
  split at h
  · rename_i hb
    cases h
    rw [Nat.eq_of_beq_eq_true hb]
    exact ext5
  · split at h
    · rename_i hb
      cases h
      rw [Nat.eq_of_beq_eq_true hb]
      exact ext11
    · split at h
      · rename_i hb
        cases h
        rw [Nat.eq_of_beq_eq_true hb]
        exact ext14
      · cases h)
theorem rvl_of {h : Array Go.Obj} {I J : Nat → Prop} {σ : Store} {ρ : Rho} (hm : ∀ b, I b → J b) : ∀ (ts : List Tree) (vs : List Value), RTL h I ts vs → RVL h J σ ρ (ts.map .tr) vs
  | [], vs, r => by simpa [RTL, RVL] using r
  | t :: ts, vs, r => by
    simp only [RTL] at r
    obtain ⟨x, xs, rfl, r1, r2⟩ := r
    simp only [List.map_cons, RVL, RV]
    exact ⟨x, xs, rfl, RT_mono (fun b hb => ⟨hm b hb, rfl⟩) _ _ r1, rvl_of hm ts xs r2⟩
theorem law_calls {f : FuncId} {ts : List Tree} {vs : List Value} {w : World} (hg : Gd w.heap.size w) (hfn : FnOk Try.prog f) (h : ∃ v σ', callL T f (ts.map .tr) [] = some (v, σ') ∧ v = .tr (.sc (.bool true))) (hr : RTL w.heap (fun b => b < w.heap.size) ts vs) :
    Calls Try.prog f vs.toArray w fun e w' => e = .returned (.bool true) ∧ Below w.heap.size w w' := by
  obtain ⟨v, σ', h, rfl⟩ := h
  obtain ⟨m, h⟩ := callL_some.1 h
  rcases (am_ok mixed tab m).2 w.heap.size w hg _ _ _ _ _ h (fun b => b < w.heap.size) (fun _ => none) w vs (Inv.empty _ (fun b hb => hb)) (rvl_of (fun b hb => .inl hb) ts vs hr) with ⟨_, hc⟩ | ⟨x, w', hc, _⟩
  · refine hc.mono ?_
    rintro e w' ⟨x, rfl, ρ, hI, _, hr⟩
    simp only [RV, RT] at hr
    subst hr
    exact ⟨rfl, hI.below⟩
  · rw [run_callFunc hfn] at hc
    cases hc
end Go.Proofs.Ytodgdmhifbnofaa.AM.Sn
end
section
set_option maxRecDepth 1000000
set_option linter.unusedVariables false
set_option linter.unusedSimpArgs false
open Go.RowKit Go.WideShapes
namespace Go.Proofs.Ytodgdmhifbnofaa.AM
section
variable {H : Type} {enc : TypeId × Value → H} {P : Program} {w : World}
def SzD (P : Program) (t : TypeId) (d : DataW H) : Prop := ∀ n ∈ d.weights P t, n ≤ reachBytes
theorem weights_all {e : TypeId} {d : DataW H} : ∀ {l : List (DataW H)}, d ∈ l → ∀ n ∈ d.weights P e, n ∈ DataW.weightsAll P e l
  | x :: l, hd, n, hn => by
    simp only [DataW.weightsAll, List.mem_append]
    rcases List.mem_cons.1 hd with rfl | hd
    · exact .inl hn
    · exact .inr (weights_all hd n hn)
theorem SzD.slice {t e : TypeId} {el sp : List (DataW H)} (ht : P.underlying t = some (.slice e)) (h : SzD P t (.slice el sp)) : (el.length + sp.length) * P.bytesOf e ≤ reachBytes ∧ ∀ d ∈ el, SzD P e d := by
  unfold SzD at *
  simp only [DataW.weights, ht] at h
  refine ⟨h _ (List.mem_cons_self ..), fun d hd n hn => h n (List.mem_cons_of_mem _ (List.mem_append.2 (.inl (weights_all hd n hn))))⟩
theorem SzD.agg {t : TypeId} {fs : Array Field} {ps : List (DataW H)} (ht : P.underlying t = some (.struct fs)) (h : SzD P t (.agg ps)) {i : Nat} {f : Field} {d : DataW H} (hf : fs[i]? = some f) (hd : ps[i]? = some d) : SzD P f.type d := by
  unfold SzD at *
  simp only [DataW.weights, ht] at h
  exact fun n hn => h n (DataW.weights_mem_each (j := i) (t := f.type) (by rw [List.getElem?_map]; simp [hf]) hd n hn)
def OpensZ (enc : TypeId × Value → H) (P : Program) (w : World) (n : Nat) (t : TypeId) {α : Type} (E : α → List Tree) (ok : α → Prop) : Prop :=
  ∀ cs x, DataW.trod enc P w 0 (fun _ => true) true n t cs = some x → SzD P t x.1 → ∃ a, ok a ∧ RTL w.heap (fun b => b < w.heap.size) (E a) cs
theorem Opens.z {n : Nat} {t : TypeId} {α : Type} {E : α → List Tree} {ok : α → Prop} (h : Opens enc P w n t E ok) : OpensZ enc P w n t E ok := fun cs x hx _ => h cs x hx
def slOkZ {α : Type} (s : Nat) (ok : α → Prop) : Option (List α × Nat) → Prop
  | none => True
  | some (l, c) => l.length * s ≤ reachBytes ∧ ∀ a ∈ l, ok a
theorem opensZ_slice {n : Nat} {t e : TypeId} {c : Nat} {α : Type} {E : α → List Tree} {ok : α → Prop} (ht : P.underlying t = some (.slice e)) (hc : P.cellsOf e = c) (hE : ∀ a, (E a).length = c)
    (he : ∀ m, n = m + 1 → OpensZ enc P w m e E ok) : OpensZ enc P w n t (slE E) (slOkZ (P.bytesOf e) ok) := by
  intro cs x hx hz
  rcases DataW.trod_slice ht hx with ⟨rfl, _⟩ | ⟨a, len, cap, elems, rest, m, rfl, rfl, rfl, _, hl, hm, hlen, hel, _, _⟩
  · exact ⟨none, trivial, by simp [slE, RTL, RT]⟩
  obtain ⟨hz1, hz2⟩ := SzD.slice ht hz
  rw [List.length_map, List.length_map] at hz1
  obtain ⟨l, hll, hR⟩ := choose_list (fun i b => ok b ∧ ∃ cs', w.cells? 0 (a.add (i * P.cellsOf e)) (P.cellsOf e) = some cs' ∧ RTL w.heap (fun b => b < w.heap.size) (E b) cs') len fun i hi => by
    have h1 := hel i hi
    have h2 : elems[i]? = some elems[i] := List.getElem?_eq_getElem _
    rw [h2, Option.bind_eq_some_iff] at h1
    obtain ⟨cs', h3, h4⟩ := h1
    obtain ⟨b, hb, hr⟩ := he m rfl cs' _ h4 (hz2 _ (List.mem_map_of_mem (List.getElem_mem _)))
    exact ⟨b, hb, cs', h3, hr⟩
  refine ⟨some (l, cap), ⟨?_, fun b hb => ?_⟩, ?_⟩
  · rw [hll, ← hlen]
    exact Nat.le_trans (Nat.mul_le_mul_right _ (Nat.le_add_right _ _)) hz1
  · obtain ⟨i, hi⟩ := List.getElem?_of_mem hb
    exact (hR i b hi).1
  · simp only [slE, RTL, RT]
    refine ⟨_, [], rfl, ⟨a, cap, by rw [hll], by omega, fun k hk => by simpa using hk, ?_⟩, rfl⟩
    by_cases h0 : l.flatMap E = []
    · exact .inl h0
    right
    have hpos : 0 < c ∧ 0 < len := by
      constructor
      · rcases Nat.eq_zero_or_pos c with h | h
        · exfalso; apply h0
          rw [List.flatMap_eq_nil_iff]
          intro b _
          exact List.length_eq_zero_iff.1 ((hE b).trans h)
        · exact h
      · rcases Nat.eq_zero_or_pos len with h | h
        · exfalso; apply h0
          rw [List.length_eq_zero_iff.1 (hll.trans h)]; rfl
        · exact h
    have hcell : ∀ i, i < len → ∀ b, l[i]? = some b → ∃ cs', cs'.length = c ∧ RTL w.heap (fun b => b < w.heap.size) (E b) cs' ∧ ∀ j, j < c → w.cell? ((a.add (i * c)).add j) = cs'[j]? := by
      intro i hi b hb
      obtain ⟨_, cs', h3, hr⟩ := hR i b hb
      rw [hc] at h3
      obtain ⟨_, h4, h5⟩ := World.cells?_some h3
      exact ⟨cs', h4, hr, h5⟩
    have ha : a.spot = none ∧ a.block < w.heap.size := by
      have hb0 : l[0]? = some l[0] := List.getElem?_eq_getElem _
      obtain ⟨cs', h4, hr, h5⟩ := hcell 0 hpos.2 _ hb0
      have h6 := h5 0 hpos.1
      have h7 : cs'[0]? = some cs'[0] := List.getElem?_eq_getElem _
      rw [h7] at h6
      simp [Addr.add] at h6
      exact ⟨(cellAt_cell? h6).1, (cellAt_cell? h6).2.1⟩
    obtain ⟨b, o, sp⟩ := a
    simp only at ha
    obtain ⟨rfl, hb⟩ := ha
    refine ⟨b, o, rfl, hb, RTC_flat E c hE l b o fun i e' hi => ?_⟩
    have hilt : i < len := by
      have := (List.getElem?_eq_some_iff.1 hi).1
      omega
    obtain ⟨cs', h4, hr, h5⟩ := hcell i hilt e' hi
    refine RTC_of_RTL _ cs' _ _ hr fun j hj => ?_
    have h6 := h5 j (by omega)
    have h7 : cs'[j]? = some cs'[j] := List.getElem?_eq_getElem _
    rw [h7] at h6 ⊢
    have h8 := (cellAt_cell? h6).2.2
    rw [← h8]
    have h9 : ∀ (x y : Nat), ((⟨b, x, none⟩ : Addr).add y).block = b ∧ ((⟨b, x, none⟩ : Addr).add y) = ⟨b, x + y, none⟩ := by
      intro x y
      unfold Addr.add
      by_cases hy : y = 0
      · simp [hy]
      · simp [hy]
    rw [(h9 _ _).2, (h9 _ _).2]
def OpensZFs (enc : TypeId × Value → H) (P : Program) (w : World) (n : Nat) (o : Nat) (fs : List Field) {α : Type} (E : α → List Tree) (ok : α → Prop) : Prop :=
  ∀ cs : List Value, (∀ f, f ∈ fs → ∃ x, DataW.trod enc P w 0 (fun _ => true) true n f.type ((cs.drop f.offset).take (P.cellsOf f.type)) = some x ∧ SzD P f.type x.1) → ∃ a, ok a ∧ RTL w.heap (fun b => b < w.heap.size) (E a) ((cs.drop o).take (E a).length)
theorem opensZ_nil {n o : Nat} : OpensZFs enc P w n o [] (fun _ : Unit => []) (fun _ => True) := by
  intro cs _
  exact ⟨(), trivial, by simp [RTL]⟩
theorem opensZ_cons {n o c : Nat} {f : Field} {fs : List Field} {α β : Type} {E : α → List Tree} {ok : α → Prop} {F : β → List Tree} {ok' : β → Prop} (ho : f.offset = o) (hc : P.cellsOf f.type = c)
    (h1 : OpensZ enc P w n f.type E ok) (hE : ∀ a, (E a).length = c) (h2 : OpensZFs enc P w n (o + c) fs F ok') :
    OpensZFs enc P w n o (f :: fs) (fun p : α × β => E p.1 ++ F p.2) (fun p => ok p.1 ∧ ok' p.2) := by
  intro cs H
  obtain ⟨x, hx, hz⟩ := H f (by simp)
  obtain ⟨a, ha, ra⟩ := h1 _ _ hx hz
  obtain ⟨b, hb, rb⟩ := h2 cs fun g hg => H g (by simp [hg])
  refine ⟨(a, b), ⟨ha, hb⟩, ?_⟩
  have := RTL_append _ _ _ _ ra rb
  simp only
  rw [ho, hc] at this
  rw [List.length_append, hE, List.take_add, List.drop_drop]
  exact this
theorem opensZ_struct {n : Nat} {t : TypeId} {fs : Array Field} {α : Type} {E : α → List Tree} {ok : α → Prop} (ht : P.underlying t = some (.struct fs)) (hE : ∀ a, (E a).length = P.cellsOf t)
    (h : ∀ m, n = m + 1 → OpensZFs enc P w m 0 fs.toList E ok) : OpensZ enc P w n t E ok := by
  intro cs x hx hz
  obtain ⟨xs, m, hn, rfl, hl, hsz, hf⟩ := DataW.trod_struct ht hx
  obtain ⟨a, ha, ra⟩ := h m hn cs fun f hm => by
    obtain ⟨i, hi⟩ := List.getElem?_of_mem hm
    have hi' : fs[i]? = some f := by simpa using hi
    have hlt : i < xs.length := by
      have := (Array.getElem?_eq_some_iff.1 hi').1
      omega
    have hx : xs[i]? = some xs[i] := List.getElem?_eq_getElem hlt
    exact ⟨xs[i], by rw [hf i f hi', hx], SzD.agg ht hz hi' (by rw [List.getElem?_map, hx]; rfl)⟩
  refine ⟨a, ha, ?_⟩
  rw [List.drop_zero, hE, ← hl, List.take_length] at ra
  exact ra
theorem OpensZ.map {n : Nat} {t : TypeId} {α β : Type} {E : α → List Tree} {ok : α → Prop} {F : β → List Tree} {ok' : β → Prop} (h : OpensZ enc P w n t E ok) (g : α → β) (hg : ∀ a, ok a → F (g a) = E a) (hk : ∀ a, ok a → ok' (g a)) :
    OpensZ enc P w n t F ok' := by
  intro cs x hx hz
  obtain ⟨a, ha, ra⟩ := h cs x hx hz
  exact ⟨g a, hk a ha, by rw [hg a ha]; exact ra⟩
theorem OpensZ.struct {t : TypeId} {fs : Array Field} {r : Reach} {b0 : Nat} {v : Value} {d : DataW H} {ps : List MemPlace} {α : Type} {E : α → List Tree} {ok : α → Prop} (ht : P.underlying t = some (.struct fs))
    (hval : Value.okWide P w r b0 t v) (hd : DataW.Trod enc P w 0 (fun _ => true) true t v d ps) (hz : SzD P t d) (h : ∀ n, OpensZ enc P w n t E ok) :
    ∃ a, ok a ∧ RT w.heap (fun b => b < w.heap.size) (.agg (E a)) v := by
  obtain ⟨cs, rfl, hs⟩ := okWide_struct ht hval
  obtain ⟨n, hn⟩ := hd
  obtain ⟨x, hx, rx⟩ := h n _ _ hn hz
  refine ⟨x, hx, ?_⟩
  simp only [RT]
  exact ⟨cs.toList, by simp, by simpa [Value.cells] using rx⟩
end
end Go.Proofs.Ytodgdmhifbnofaa.AM
end
section
set_option maxRecDepth 1000000
set_option linter.unusedVariables false
set_option linter.unusedSimpArgs false
namespace Go.Proofs.Ytodgdmhifbnofaa.AM.Sn
open Go.Proofs Go.RowKit
section
variable {H : Type} {enc : TypeId × Value → H} {w : World}
theorem allR_pairs {α β : Type} {R : α → β → Prop} {l : List (α × β)} (h : ∀ a ∈ l, R a.1 a.2) : AllR R (l.map (·.1)) (l.map (·.2)) := by
  refine ⟨by simp, fun i a b ha hb => ?_⟩
  rw [List.getElem?_map, Option.map_eq_some_iff] at ha hb
  obtain ⟨x, hx, rfl⟩ := ha
  obtain ⟨y, hy, rfl⟩ := hb
  rw [hx] at hy
  cases hy
  exact h _ (List.mem_of_getElem? hx)
def fld (name : String) (t : TypeId) (o b : Nat) : Field := { name := name, type := t, offset := o, embedded := false, tag := "", pkgPath := "", byteOffset := b }
def slT {α : Type} (E : α → List Tree) : Option (List α × Nat) → OT
  | none => ⟨.sc (.slice none 0 0), rfl⟩
  | some (l, c) => ⟨.row (l.flatMap E) l.length (some c), rfl⟩
def slL {α : Type} : Option (List α × Nat) → List α
  | none => []
  | some (l, _) => l
theorem slT_sl {α : Type} (E : α → List Tree) : ∀ s : Option (List α × Nat), IsSl E (slL s) (.tr (slT E s).1)
  | none => .inl ⟨rfl, rfl⟩
  | some (l, c) => .inr ⟨some c, rfl⟩
theorem slE_T {α : Type} (E : α → List Tree) : ∀ s : Option (List α × Nat), slE E s = [(slT E s).1]
  | none => rfl
  | some (l, c) => rfl
theorem slE_len {α : Type} (E : α → List Tree) (s : Option (List α × Nat)) : (slE E s).length = 1 := by rw [slE_T]; rfl
theorem sl_map {α β : Type} {E : β → List Tree} {g : α → β} {l : List α} {v : V} (h : IsSl (fun a => E (g a)) l v) : IsSl E (l.map g) v := by
  rcases h with ⟨rfl, h⟩ | ⟨cap, h⟩
  · exact .inl ⟨rfl, h⟩
  · refine .inr ⟨cap, ?_⟩
    rw [h, List.flatMap_map, List.length_map]
abbrev LF := FV × AF
abbrev LP := FV × AP
def lfOk (a : LF) : Prop := FileR a.1 a.2 ∧ a.2.2.length ≤ 140737488355328
def lpOk (a : LP) : Prop := PkgR a.1 a.2 ∧ ∀ f ∈ a.2.2, f.2.length ≤ 140737488355328
theorem opens_u8 {n : Nat} : Opens enc Try.prog w n 5 byE (fun _ => True) :=
  (opens_int Try.underlying5).map (fun z => UInt8.ofNat z.toNat) (fun z hz => by
    simp only [Lit.wf, Bool.and_eq_true, decide_eq_true_eq] at hz
    have h0 : (0 : Int) ≤ z := hz.1
    have h1 : z ≤ 255 := hz.2
    simp only [byE, UInt8.toNat_ofNat']
    congr 3
    omega) (fun _ _ => trivial)
theorem opens_file {n : Nat} : OpensZ enc Try.prog w n 31 (fun a : LF => fT a.1) lfOk := by
  have hc : Try.prog.cellsOf 31 = 2 := by kernel_rfl
  have hb : Try.prog.bytesOf 5 = 1 := by kernel_rfl
  have h := opensZ_struct (enc := enc) (w := w) (n := n) Try.underlying31 (E := fun p : ByteArray × Option (List UInt8 × Nat) × Unit => [.sc (.string p.1)] ++ (slE byE p.2.1 ++ [])) (ok := fun p => (p.1.size ≤ maxLen) ∧ slOkZ (Try.prog.bytesOf 5) (fun _ => True) p.2.1 ∧ True) (fun a => by rw [hc, slE_T]; rfl) (fun m _ =>
    opensZ_cons (f := fld "Name" 9 0 0) (fs := [fld "Body" 29 1 16]) (c := 1) rfl (by kernel_rfl) (opens_string (t := 9) Try.underlying9).z (fun _ => rfl)
      (opensZ_cons (f := fld "Body" 29 1 16) (fs := []) (c := 1) rfl (by kernel_rfl) (opensZ_slice (t := 29) (e := 5) Try.underlying29 (c := 1) (by kernel_rfl) byE_len fun _ _ => opens_u8.z) (slE_len byE) opensZ_nil))
  refine h.map (fun p => ((p.1.data.toList, slT byE p.2.1), (p.1.data.toList, slL p.2.1))) (fun p _ => ?_) (fun p hp => ?_)
  · rw [slE_T]
    rfl
  · refine ⟨⟨rfl, slT_sl byE _⟩, ?_⟩
    obtain ⟨_, hs, _⟩ := hp
    obtain ⟨a, s, u⟩ := p
    rcases s with _ | ⟨l, c⟩
    · exact Nat.zero_le _
    · simp only [slOkZ, hb, Nat.mul_one] at hs
      have := reachBytes_lt
      show l.length ≤ _
      omega
theorem opens_pkg {n : Nat} : OpensZ enc Try.prog w n 28 (fun a : LP => fT a.1) lpOk := by
  have hc : Try.prog.cellsOf 28 = 2 := by kernel_rfl
  have h := opensZ_struct (enc := enc) (w := w) (n := n) Try.underlying28 (E := fun p : ByteArray × Option (List LF × Nat) × Unit => [.sc (.string p.1)] ++ (slE (fun a : LF => fT a.1) p.2.1 ++ [])) (ok := fun p => (p.1.size ≤ maxLen) ∧ slOkZ (Try.prog.bytesOf 31) lfOk p.2.1 ∧ True) (fun a => by rw [hc, slE_T]; rfl) (fun m _ =>
    opensZ_cons (f := fld "Path" 9 0 0) (fs := [fld "Files" 26 1 16]) (c := 1) rfl (by kernel_rfl) (opens_string (t := 9) Try.underlying9).z (fun _ => rfl)
      (opensZ_cons (f := fld "Files" 26 1 16) (fs := []) (c := 1) rfl (by kernel_rfl) (opensZ_slice (E := fun a : LF => fT a.1) (t := 26) (e := 31) Try.underlying26 (c := 2) (by kernel_rfl) (fun a : LF => fT_len a.1) fun _ _ => opens_file) (slE_len _) opensZ_nil))
  refine h.map (fun p => ((p.1.data.toList, slT (fun a : LF => fT a.1) p.2.1), (p.1.data.toList, (slL p.2.1).map (·.2)))) (fun p _ => ?_) (fun p hp => ?_)
  · rw [slE_T]
    rfl
  · obtain ⟨_, hs, _⟩ := hp
    obtain ⟨a, s, u⟩ := p
    have hall : ∀ x ∈ slL s, lfOk x := by
      rcases s with _ | ⟨l, c⟩
      · intro x hx; cases hx
      · exact hs.2
    refine ⟨⟨rfl, (slL s).map (·.1), sl_map (slT_sl _ s), allR_pairs fun x hx => (hall x hx).1⟩, ?_⟩
    intro f hf
    obtain ⟨x, hx, rfl⟩ := List.mem_map.1 hf
    exact (hall x hx).2
theorem arg_tree {r : Reach} {b0 : Nat} {v : Value} {d : DataW H} {ps : List MemPlace} (hval : Value.okWide Try.prog w r b0 24 v) (hd : DataW.Trod enc Try.prog w 0 (fun _ => true) true 24 v d ps) (hz : SzD Try.prog 24 d) :
    ∃ (gp : List FV) (pk : List AP) (tp : Tree), IsSl fT gp (.tr tp) ∧ AllR PkgR gp pk ∧ (∀ p ∈ pk, ∀ f ∈ p.2, f.2.length ≤ 140737488355328) ∧ RT w.heap (fun b => b < w.heap.size) (.agg [tp]) v := by
  have hc : Try.prog.cellsOf 24 = 1 := by kernel_rfl
  obtain ⟨⟨s, u⟩, ⟨hs, _⟩, hr⟩ := OpensZ.struct Try.underlying24 hval hd hz (fun n => opensZ_struct (enc := enc) (w := w) (n := n) Try.underlying24 (E := fun p : Option (List LP × Nat) × Unit => slE (fun a : LP => fT a.1) p.1 ++ []) (ok := fun p => slOkZ (Try.prog.bytesOf 28) lpOk p.1 ∧ True) (fun a => by rw [hc, slE_T]; rfl) (fun m _ =>
    opensZ_cons (f := fld "Pkgs" 22 0 0) (fs := []) (c := 1) rfl (by kernel_rfl) (opensZ_slice (E := fun a : LP => fT a.1) (t := 22) (e := 28) Try.underlying22 (c := 2) (by kernel_rfl) (fun a : LP => fT_len a.1) fun _ _ => opens_pkg) (slE_len _) opensZ_nil))
  rw [slE_T] at hr
  have hall : ∀ x ∈ slL s, lpOk x := by
    rcases s with _ | ⟨l, c⟩
    · intro x hx; cases hx
    · exact hs.2
  refine ⟨(slL s).map (·.1), (slL s).map (·.2), (slT (fun a : LP => fT a.1) s).1, sl_map (E := fT) (g := fun a : LP => a.1) (slT_sl (fun a : LP => fT a.1) s), allR_pairs fun x hx => (hall x hx).1, ?_, hr⟩
  intro p hp
  obtain ⟨x, hx, rfl⟩ := List.mem_map.1 hp
  exact (hall x hx).2
theorem laidOut : laidOutB Try.prog = true := by kernel_rfl
theorem walk {gp : List FV} {pk : List AP} {tp : Tree} {v : Value} (h1 : IsSl fT gp (.tr tp)) (h2 : AllR PkgR gp pk) (h3 : ∀ p ∈ pk, ∀ f ∈ p.2, f.2.length ≤ 140737488355328) (hr : RT w.heap (fun b => b < w.heap.size) (.agg [tp]) v) (hg : 0 < w.heap.size) (hm : ∃ m, w.cell? ⟨0, 0, none⟩ = some (.int .i64 m)) :
    Calls Try.prog 3 #[v] w fun e w' => e = .returned (.bool true) ∧ Below w.heap.size w w' := by
  obtain ⟨σ', h⟩ := law_norm h1 h2 h3
  exact law_calls (ts := [.agg [tp]]) (vs := [v]) ⟨hg, hm⟩ (fnOk Try.func3 (by kernel_rfl) (by kernel_rfl)) ⟨_, σ', h, rfl⟩ (by simp only [RTL]; exact ⟨v, [], rfl, hr, rfl⟩)
end
end Go.Proofs.Ytodgdmhifbnofaa.AM.Sn
end
