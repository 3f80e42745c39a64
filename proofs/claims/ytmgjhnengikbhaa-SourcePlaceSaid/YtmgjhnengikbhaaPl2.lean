/- SourcePlace, part 2: see the law's own text. -/
import Derived.Test.YtmgjhnengikbhaaPl1
import Derived.Test.YtmgjhnengikbhaaShelf
import Derived.Lib.IndexMore
import Derived.Laws.Externs
namespace Go.Proofs.Ytmgjhnengikbhaa.AM.Pl
open Go.Proofs Go.RowKit
/-- What is known of the world at the start: internal/bytealg.MaxLen holds some whole number. -/
def Gd : Ground := fun n0 w0 => 0 < n0 ∧ ∃ m, w0.cell? ⟨0, 0, none⟩ = some (.int .i64 m)
theorem cell_below {n0 : Nat} {w0 w : World} (hn : 0 < n0) (hb : Below n0 w0 w) : w.cell? ⟨0, 0, none⟩ = w0.cell? ⟨0, 0, none⟩ := by
  rw [cell?_eq, cell?_eq]
  exact cellAt_congr (hb.block 0 hn) 0
theorem gdOk : GroundOk Gd := by
  rintro n0 w0 w ⟨hn, m, hm⟩ hb hle
  exact ⟨by omega, m, by rw [cell_below hn hb]; exact hm⟩
theorem hasPre_eq : ∀ (a b : List UInt8), hasPre a b = a.isPrefixOf b
  | [], b => by simp [hasPre]
  | a :: x, [] => by simp [hasPre]
  | a :: x, b :: y => by
    simp only [hasPre, List.isPrefixOf_cons_cons, hasPre_eq x y]
    congr 1
    rw [Bool.eq_iff_iff, Nat.beq_eq, beq_iff_eq, UInt8.toNat_inj]
theorem hasL_eq (sub : List UInt8) : ∀ l, hasL sub l = Lib.contains l sub
  | [] => by
    unfold hasL Lib.contains Lib.index
    cases sub <;> simp
  | b :: l => by
    unfold hasL
    rw [hasPre_eq, hasL_eq sub l]
    unfold Lib.contains
    rw [show Lib.index (b :: l) sub = if sub.isPrefixOf (b :: l) then 0 else if Lib.index l sub == -1 then -1 else Lib.index l sub + 1 from rfl]
    cases h : sub.isPrefixOf (b :: l) with
    | true => simp
    | false =>
      simp only [Bool.false_or, Bool.false_eq_true, if_false]
      have := Lib.index_ge l sub
      by_cases h1 : Lib.index l sub = -1
      · simp [h1]
      · have h2 : (Lib.index l sub == -1) = false := by simpa using h1
        rw [h2]
        simp only [Bool.false_eq_true, if_false]
        rw [Bool.eq_iff_iff, decide_eq_true_eq, decide_eq_true_eq]
        omega
theorem fnOk {f : FuncId} {fn : Func} (h : Try.prog.funcs[f]? = some fn) (h1 : (fn.name == "runtime.NumGoroutine") = false) (h2 : fn.body.isNone = false) : FnOk Try.prog f := ⟨fn, h, h1, h2⟩
theorem ext25 : ExtOk Gd Try.prog 25 0 := by
  rintro n0 w0 w xs ys r ⟨hn, m, hm⟩ hb hle ha he
  have ha : xs = ys := ha
  subst ha
  simp only [extS] at he
  split at he
  · rename_i s t
    split at he
    · rename_i hlen
      cases he
      refine .inl ⟨fnOk Try.func25 (by kernel_rfl) (by kernel_rfl), ?_⟩
      refine (Try.strings_Contains s t m w (by rw [Nat.blt_eq] at hlen; simpa using hlen) (by rw [cell_below hn hb]; exact hm)).mono ?_
      rintro e w' ⟨rfl, rfl⟩
      exact ⟨_, rfl, by rw [hasL_eq], Below.refl _ _⟩
    · cases he
  · cases he
theorem cmp_eq : ∀ (a b : List UInt8), (if bytesLt a b then -1 else if bytesEq a b then 0 else 1) = Lib.compareBytes a b
  | [], [] => rfl
  | [], b :: y => by simp [bytesLt, Lib.compareBytes]
  | a :: x, [] => by simp [bytesLt, bytesEq, Lib.compareBytes]
  | a :: x, b :: y => by
    have ih := cmp_eq x y
    have e1 : Nat.blt a.toNat b.toNat = decide (a < b) := by rw [Bool.eq_iff_iff, Nat.blt_eq, decide_eq_true_eq, UInt8.lt_iff_toNat_lt]
    have e2 : Nat.beq a.toNat b.toNat = decide (a = b) := by rw [Bool.eq_iff_iff, Nat.beq_eq, decide_eq_true_eq, UInt8.toNat_inj]
    simp only [bytesLt, bytesEq, Lib.compareBytes, e1, e2]
    by_cases h1 : a < b
    · simp [h1]
    · by_cases h2 : a = b
      · subst h2
        simp only [h1, decide_false, Bool.false_or, decide_true, Bool.true_and, if_false]
        exact ih
      · have h3 : b < a := by
          rw [UInt8.lt_iff_toNat_lt] at h1 ⊢
          rw [← UInt8.toNat_inj] at h2
          omega
        simp [h1, h2, h3]
theorem ext15 : ExtOk Gd Try.prog 15 4 := by
  rintro n0 w0 w xs ys r hG hb hle ha he
  have ha : xs = ys := ha
  subst ha
  simp only [extS] at he
  split at he
  · rename_i s t
    cases he
    refine .inl ⟨fnOk Try.func15 (by kernel_rfl) (by kernel_rfl), ?_⟩
    refine (Try.strings_Compare s t w).mono ?_
    rintro e w' ⟨rfl, rfl⟩
    exact ⟨_, rfl, by rw [cmp_eq], Below.refl _ _⟩
  · cases he
theorem count_eq (c : Nat) (hc : c < 256) : ∀ (l : List UInt8) (n : Nat), countL c l n = ((n + l.count (UInt8.ofNat c) : Nat) : Int)
  | [], n => rfl
  | b :: l, n => by
    simp only [countL]
    have : Nat.beq b.toNat c = (b == UInt8.ofNat c) := by
      rw [Bool.eq_iff_iff, Nat.beq_eq, beq_iff_eq, ← UInt8.toNat_inj, UInt8.toNat_ofNat']
      omega
    rw [this, count_eq c hc l, List.count_cons]
    cases b == UInt8.ofNat c with
    | true => simp; omega
    | false => simp
theorem ext30 : ExtOk Gd Try.prog 30 5 := by
  rintro n0 w0 w xs ys r hG hb hle ha he
  simp only [extS] at he
  split at he
  · rename_i s c
    split at he
    case isFalse => cases he
    rename_i hc
    cases he
    match xs, ha with
    | [x, y], ha =>
      obtain ⟨hx, hy, _⟩ := ha
      have hb : (Extern.Bytes.bytesOf x).run Try.prog w = .ok s w := by
        rcases hx with rfl | ⟨l, hl, hr⟩
        · rfl
        · cases hl; exact hr
      have hy : y = .int .u8 (.ofNat c) := by
        rcases hy with h | ⟨l, hl, _⟩
        · exact h
        · cases hl
      subst hy
      have hrun : (Extern.BytealgCount.count #[x, .int .u8 (.ofNat c)]).run Try.prog w = (Extern.BytealgCount.count #[.string s, .int .u8 (.ofNat c)]).run Try.prog w := by
        change Sem.run Try.prog (do
          let b ← Extern.Bytes.bytesOf x
          let c' ← Extern.Bytes.asByte (.int .u8 (.ofNat c))
          pure (goInt (b.foldl (fun n x => if x == c' then n + 1 else n) (0 : Nat)))) w = Sem.run Try.prog (do
          let b ← Extern.Bytes.bytesOf (.string s)
          let c' ← Extern.Bytes.asByte (.int .u8 (.ofNat c))
          pure (goInt (b.foldl (fun n x => if x == c' then n + 1 else n) (0 : Nat)))) w
        rw [Sem.run_bind, Sem.run_bind, hb]
        rfl
      refine .inr ⟨.int .i64 (countL c s.data.toList 0), w, ?_, rfl, Below.refl _ _⟩
      show (callFunc 30 #[x, .int .u8 (.ofNat c)]).run Try.prog w = _
      rw [run_callFunc_extern Try.func30 (by kernel_rfl) (by kernel_rfl) (by kernel_rfl) (e := Extern.BytealgCount.count) (by kernel_rfl), hrun, Lib.run_countString]
      simp only [Result.andThen_ok]
      rw [count_eq c (by simpa [Nat.blt_eq] using hc)]
      simp only [Lib.countByte, Nat.zero_add]
      rfl
    | [], ha => exact ha.elim
    | [_], ha => exact ha.2.elim
    | _ :: _ :: _ :: _, ha => exact ha.2.2.elim
  · cases he
theorem tab : TabOk Gd Try.prog T := tabOk gdOk (fun f n k h => by
  unfold Te at h
  split at h
  · rename_i hb
    cases h
    rw [Nat.eq_of_beq_eq_true hb]
    exact ext15
  · split at h
    · rename_i hb
      cases h
      rw [Nat.eq_of_beq_eq_true hb]
      exact ext30
    · split at h
      · rename_i hb
        cases h
        rw [Nat.eq_of_beq_eq_true hb]
        exact ext25
      · cases h)
theorem mixed : Try.prog.follows .mixedOrders = true := by kernel_rfl
def isTrueG : R → Bool
  | some (.tr (.sc (.bool true)), _) => true
  | _ => false
theorem isTrueG_iff {r : R} (h : isTrueG r = true) : ∃ s, r = some (bool true, s) := by
  unfold isTrueG at h
  split at h
  · exact ⟨_, rfl⟩
  · cases h
theorem begunG : isTrueG (callG TG 60 6 [] FS.nil) = true := by decide +kernel
theorem begun : ∃ σ, Cl T 6 [] [] (bool true) σ := by
  obtain ⟨s, hs⟩ := isTrueG_iff begunG
  obtain ⟨m, σ, h1, _⟩ := callG_some fastOk 60 _ _ _ _ _ _ hs SRel.nil
  exact ⟨σ, m, h1⟩
end Go.Proofs.Ytmgjhnengikbhaa.AM.Pl
