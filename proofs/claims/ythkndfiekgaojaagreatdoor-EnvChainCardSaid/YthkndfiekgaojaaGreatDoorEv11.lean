/- EnvChain: part 11. -/
import Derived.Test.YthkndfiekgaojaaGreatDoorEv3
import Derived.Test.YthkndfiekgaojaaGreatDoorEvN
import Derived.Lib.IndexMore
import Derived.Lib.LastIndexByte
import Derived.Laws.Externs
set_option maxRecDepth 1000000
set_option linter.unusedVariables false
set_option linter.unusedSimpArgs false
namespace Go.Proofs.YthkndfiekgaojaaGreatDoor.AM.Ev
open Go.Proofs Go.RowKit Go.Lib
/-- What is known of the world at the start: internal/bytealg.MaxLen holds some whole number. -/
def Gd : Ground := fun n0 w0 => 0 < n0 ∧ ∃ m, w0.cell? ⟨0, 0, none⟩ = some (.int .i64 m)
theorem cell_below {n0 : Nat} {w0 w : World} (hn : 0 < n0) (hb : Below n0 w0 w) : w.cell? ⟨0, 0, none⟩ = w0.cell? ⟨0, 0, none⟩ := by
  rw [cell?_eq, cell?_eq]
  exact cellAt_congr (hb.block 0 hn) 0
theorem gdOk : GroundOk Gd := by
  rintro n0 w0 w ⟨hn, m, hm⟩ hb hle
  exact ⟨by omega, m, by rw [cell_below hn hb]; exact hm⟩
theorem fnOk {f : FuncId} {fn : Func} (h : Tryz.prog.funcs[f]? = some fn) (h1 : (fn.name == "runtime.NumGoroutine") = false) (h2 : fn.body.isNone = false) : FnOk Tryz.prog f := ⟨fn, h, h1, h2⟩
theorem hasPre_eq : ∀ (a b : List UInt8), hasPre a b = a.isPrefixOf b
  | [], b => by simp [hasPre]
  | a :: x, [] => by simp [hasPre]
  | a :: x, b :: y => by
    simp only [hasPre, List.isPrefixOf_cons_cons, hasPre_eq x y]
    congr 1
    rw [Bool.eq_iff_iff, Nat.beq_eq, beq_iff_eq, UInt8.toNat_inj]
theorem hasL_eq (sub : List UInt8) : ∀ l, hasL sub l = Lib.contains l sub
  | [] => by
    unfold hasL Lib.contains Lib.index
    cases sub <;> simp
  | b :: l => by
    unfold hasL
    rw [hasPre_eq, hasL_eq sub l]
    unfold Lib.contains
    rw [show Lib.index (b :: l) sub = if sub.isPrefixOf (b :: l) then 0 else if Lib.index l sub == -1 then -1 else Lib.index l sub + 1 from rfl]
    cases h : sub.isPrefixOf (b :: l) with
    | true => simp
    | false =>
      simp only [Bool.false_or, Bool.false_eq_true, if_false]
      have := Lib.index_ge l sub
      by_cases h1 : Lib.index l sub = -1
      · simp [h1]
      · have h2 : (Lib.index l sub == -1) = false := by simpa using h1
        rw [h2]
        simp only [Bool.false_eq_true, if_false]
        rw [Bool.eq_iff_iff, decide_eq_true_eq, decide_eq_true_eq]
        omega
theorem ext25 : ExtOk Gd Tryz.prog 25 0 := .pure (by
  rintro n0 w0 w xs ys r ⟨hn, m, hm⟩ hb hle ha he
  have ha : xs = ys := ha
  subst ha
  simp only [extS] at he
  split at he
  · rename_i s t
    split at he
    · rename_i hlen
      cases he
      refine .inl ⟨fnOk Tryz.func25 (by kernel_rfl) (by kernel_rfl), ?_⟩
      refine (Tryz.strings_Contains s t m w (by rw [Nat.blt_eq] at hlen; simpa using hlen) (by rw [cell_below hn hb]; exact hm)).mono ?_
      rintro e w' ⟨rfl, rfl⟩
      exact ⟨_, rfl, by rw [hasL_eq], Below.refl _ _⟩
    · cases he
  · cases he) (by omega)
theorem lastL_spec (c : Int) : ∀ (l : List UInt8) (i : Nat) (r : Int), (lastL c l i r = r ∧ ∀ (j : Nat) b, l[j]? = some b → (b.toNat : Int) ≠ c) ∨
    ∃ (j : Nat) (b : UInt8), l[j]? = some b ∧ lastL c l i r = ((i + j : Nat) : Int) ∧ (b.toNat : Int) = c ∧ ∀ (k : Nat) b', j < k → l[k]? = some b' → (b'.toNat : Int) ≠ c
  | [], i, r => .inl ⟨rfl, fun j b h => by simp at h⟩
  | b :: l, i, r => by
    rw [lastL]
    rcases lastL_spec c l (i + 1) (if (b.toNat : Int) = c then (i : Int) else r) with ⟨h1, h2⟩ | ⟨j, b', h1, h2, h3, h4⟩
    · by_cases hb : (b.toNat : Int) = c
      · refine .inr ⟨0, b, rfl, by rw [h1, if_pos hb]; simp, hb, fun k b' hk hx => ?_⟩
        obtain ⟨k, rfl⟩ : ∃ k', k = k' + 1 := ⟨k - 1, by omega⟩
        exact h2 k b' (by simpa using hx)
      · refine .inl ⟨by rw [h1, if_neg hb], fun j b' hx => ?_⟩
        cases j with
        | zero => simp at hx; subst hx; exact hb
        | succ j => exact h2 j b' (by simpa using hx)
    · refine .inr ⟨j + 1, b', by simpa using h1, by rw [h2]; congr 1; omega, h3, fun k b2 hk hx => ?_⟩
      obtain ⟨k, rfl⟩ : ∃ k', k = k' + 1 := ⟨k - 1, by omega⟩
      exact h4 k b2 (by omega) (by simpa using hx)
theorem lastL_eq (s : ByteArray) (c : Int) : lastL c s.data.toList 0 (-1) = Lib.lastIndexByte s c := by
  have hsz : s.data.toList.length = s.size := (Lib.size_eq s).symm
  have get : ∀ j, j < s.size → s.data.toList[j]? = some (s.data[j]!) := by
    intro j hj
    have : j < s.data.size := hj
    rw [getElem!_pos s.data j this, Array.getElem?_toList, Array.getElem?_eq_getElem this]
  unfold Lib.lastIndexByte
  rcases lastL_spec c s.data.toList 0 (-1) with ⟨h1, h2⟩ | ⟨j, b, h1, h2, h3, h4⟩ <;> rcases Lib.lastIdx_spec s c s.size with ⟨k1, k2⟩ | ⟨i, k0, k1, k2, k3⟩
  · rw [h1, k1]
  · exact absurd k2 (h2 i _ (get i k0))
  · have hj : j < s.size := by rw [← hsz]; exact (List.getElem?_eq_some_iff.1 h1).1
    rw [get j hj] at h1
    cases h1
    exact absurd h3 (k2 j hj)
  · have hj : j < s.size := by rw [← hsz]; exact (List.getElem?_eq_some_iff.1 h1).1
    rw [get j hj] at h1
    cases h1
    rw [h2, k1, Nat.zero_add]
    congr 1
    rcases Nat.lt_trichotomy i j with h | h | h
    · exact absurd h3 (k3 j h hj)
    · exact h.symm
    · exact absurd k2 (h4 i _ h (get i k0))
theorem ext76 : ExtOk Gd Tryz.prog 76 2 := .pure (by
  rintro n0 w0 w xs ys r hG hb hle ha he
  have ha : xs = ys := ha
  subst ha
  simp only [extS] at he
  split at he
  · rename_i s c
    split at he
    · rename_i hlen
      cases he
      refine .inl ⟨fnOk Tryz.func76 (by kernel_rfl) (by kernel_rfl), ?_⟩
      refine (Tryz.strings_LastIndexByte s c (by rw [Nat.blt_eq] at hlen; rw [Lib.size_eq]; exact hlen) w).mono ?_
      rintro e w' ⟨rfl, rfl⟩
      exact ⟨_, rfl, by rw [lastL_eq], Below.refl _ _⟩
    · cases he
  · cases he) (by omega)
theorem findL_eq (t : List UInt8) : ∀ (l : List UInt8) (i : Nat), findL t l i = if Lib.index l t = -1 then none else some (i + (Lib.index l t).toNat)
  | [], i => by
    unfold findL Lib.index
    cases t <;> simp
  | b :: l, i => by
    unfold findL
    rw [hasPre_eq, show Lib.index (b :: l) t = if t.isPrefixOf (b :: l) then 0 else if Lib.index l t == -1 then -1 else Lib.index l t + 1 from rfl, findL_eq t l (i + 1)]
    have := Lib.index_ge l t
    cases h : t.isPrefixOf (b :: l) with
    | true => simp
    | false =>
      simp only [Bool.false_eq_true, if_false]
      by_cases h1 : Lib.index l t = -1
      · simp [h1]
      · have h2 : (Lib.index l t == -1) = false := by simpa using h1
        rw [h2]
        simp only [h1, Bool.false_eq_true, if_false]
        rw [if_neg (by omega)]
        congr 1
        omega
theorem cutL_eq (s t : List UInt8) : cutL s t = .tuple #[.string ⟨(Lib.cut s t).1.toArray⟩, .string ⟨(Lib.cut s t).2.1.toArray⟩, .bool (Lib.cut s t).2.2] := by
  unfold cutL Lib.cut
  rw [findL_eq]
  have := Lib.index_ge s t
  by_cases h : Lib.index s t = -1
  · rw [if_pos h, if_neg (by omega)]
  · rw [if_neg h, if_pos (by omega), Nat.zero_add]
theorem ext77 : ExtOk Gd Tryz.prog 77 3 := .pure (by
  rintro n0 w0 w xs ys r ⟨hn, m, hm⟩ hb hle ha he
  have ha : xs = ys := ha
  subst ha
  simp only [extS] at he
  split at he
  · rename_i s t
    split at he
    · rename_i hlen
      cases he
      refine .inl ⟨fnOk Tryz.func77 (by kernel_rfl) (by kernel_rfl), ?_⟩
      refine (Tryz.strings_Cut s t m w (by rw [Nat.blt_eq] at hlen; rw [Lib.size_eq]; exact hlen) (by rw [cell_below hn hb]; exact hm)).mono ?_
      rintro e w' ⟨rfl, q, rfl⟩
      exact ⟨_, rfl, by rw [cutL_eq], ⟨rfl, rfl, rfl, Nat.le_refl _, fun _ _ => rfl⟩⟩
    · cases he
  · cases he) (by omega)
theorem dec_small : ∀ n, n < 100 → Lib.decDigits n = if n < 10 then [UInt8.ofNat (48 + n)] else [UInt8.ofNat (48 + n / 10), UInt8.ofNat (48 + n % 10)] := by
  intro n hn
  rw [Lib.decDigits]
  split
  · rfl
  · rw [Lib.decDigits, dif_pos (by omega)]
    rfl
theorem ext42 : ExtOk Gd Tryz.prog 42 1 := .pure (by
  rintro n0 w0 w xs ys r hG hb hle ha he
  have ha : xs = ys := ha
  subst ha
  simp only [extS] at he
  split at he
  · rename_i n
    have key : n < 100 ∧ r = .string ⟨(Lib.decDigits n).toArray⟩ := by
      split at he
      · rename_i h
        rw [Nat.blt_eq] at h
        cases he
        exact ⟨by omega, by rw [dec_small n (by omega), if_pos h]⟩
      · rename_i h
        rw [Nat.blt_eq] at h
        split at he
        · rename_i h2
          rw [Nat.blt_eq] at h2
          cases he
          exact ⟨h2, by rw [dec_small n h2, if_neg h]⟩
        · cases he
    obtain ⟨h1, rfl⟩ := key
    refine .inl ⟨fnOk Tryz.func42 (by kernel_rfl) (by kernel_rfl), ?_⟩
    refine (Tryz.strconv_Itoa_small n h1 w).mono ?_
    rintro e w' ⟨rfl, rfl⟩
    exact ⟨_, rfl, rfl, Below.refl _ _⟩
  · cases he) (by omega)
theorem sorts21 : SrtOk Tryz.prog 21 9 := ⟨fnOk Tryz.func21 (by kernel_rfl) (by kernel_rfl), fun blk off cap zs w h1 h2 h3 => Tryz.slices_Sort_string blk off cap zs w h1 h2 h3, fun p cap w => Tryz.slices_Sort_string_none p cap w⟩
end Go.Proofs.YthkndfiekgaojaaGreatDoor.AM.Ev
