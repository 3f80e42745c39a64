/- the packages: parts 6, 7, 8, 9. -/
import Derived.Test.YtodgdmhifbnofaaSn2
import Derived.IntWalk
set_option linter.unusedSectionVars false
section
set_option maxRecDepth 1000000
set_option linter.unusedVariables false
set_option linter.unusedSimpArgs false
namespace Go.Proofs.Ytodgdmhifbnofaa.AM.Sn
open Go.Proofs
section
variable {α : Type} {E : α → List V} {key : α → List UInt8} {fv : V} {id g n : Nat} {cap : Option Nat}
theorem neq_i (a b : Int) : opBin .other .neq (iv a) (iv b) = some (bv (!decide (a = b))) := rfl
theorem rot_ok (hE : ∀ a, (E a).length = 2) (hO : ∀ a, (E a).all oneV = true) {A X Y B : List α} {σ : Store} {a m b : Nat} (hX : X ≠ []) (hY : Y ≠ []) (ha : A.length = a) (hm : A.length + X.length = m) (hbb : A.length + X.length + Y.length = b) (hn : (A ++ X ++ Y ++ B).length = n) (hb : n ≤ 1000) (hR : RowV E (A ++ X ++ Y ++ B) id g σ) :
    ∃ σ', callL T 60 [own2 id g n cap, iv (a : Int), iv (m : Int), iv (b : Int), fv] σ = some (.tr (.tup []), σ') ∧ RowV E (A ++ Y ++ X ++ B) id g σ' ∧ Nxt id σ σ' := by
  obtain ⟨R, hRd⟩ : ∃ R : V → Store → Prop, R = (fun v σ' => v = .tr (.tup []) ∧ RowV E (A ++ Y ++ X ++ B) id g σ' ∧ Nxt id σ σ') := ⟨_, rfl⟩
  suffices hh : ∃ v σ', callL T 60 [own2 id g n cap, iv (a : Int), iv (m : Int), iv (b : Int), fv] σ = some (v, σ') ∧ R v σ' by
    rw [hRd] at hh
    obtain ⟨v, σ', h, rfl, h2⟩ := hh
    exact ⟨σ', h, h2⟩
  refine call_shared T60 rfl rfl ?_
  have hAb : A.length + X.length + Y.length + B.length = n := by rw [← hn]; simp; omega
  have w1 : IntKind.i64.wrap ((m : Int) - (a : Int)) = (X.length : Int) := wrapN _ (by omega) (by omega)
  have w2 : IntKind.i64.wrap ((b : Int) - (m : Int)) = (Y.length : Int) := wrapN _ (by omega) (by omega)
  have hXp : 0 < X.length := List.length_pos_iff.2 hX
  have hYp : 0 < Y.length := List.length_pos_iff.2 hY
  generalize hxl : X.length = xl at *
  generalize hyl : Y.length = yl at *
  simp [w1, w2]
  obtain ⟨I, hI⟩ : ∃ I : Nat → St → Prop, I = (fun q st => ∃ P X' Y' S e Lo σ', ∃ i j : Nat, st = ⟨e, Lo, σ'⟩ ∧ X'.length = i ∧ Y'.length = j ∧ 0 < i ∧ 0 < j ∧ i + j = q ∧ P.length + i = m ∧ RowV E (P ++ X' ++ Y' ++ S) id g σ' ∧ (P ++ X' ++ Y' ++ S).length = n ∧ P ++ Y' ++ X' ++ S = A ++ Y ++ X ++ B ∧ Nxt id σ σ'
    ∧ look e 0 = some (own2 id g n cap) ∧ look e 2 = some (iv (m : Int)) ∧ look e 4 = some fv ∧ look e 10 = some (iv (i : Int)) ∧ look e 11 = some (iv (j : Int))) := ⟨_, rfl⟩
  refine wpc_loop I (xl + yl) _ ?_ ?_
  · rw [hI]
    exact ⟨A, X, Y, B, _, _, σ, xl, yl, rfl, hxl, hyl, hXp, hYp, rfl, by omega, hR, hn, rfl, Nxt.refl _ _, by simp, by simp, by simp, by simp, by simp⟩
  intro q st hIs
  rw [hI] at hIs
  obtain ⟨P, X', Y', S, e, Lo, σ', i, j, rfl, hXi, hYj, hi, hj, hq, hPm, hR', hlen, htar, hN, g0, g2, g4, g10, g11⟩ := hIs
  have hlen' : P.length + i + j + S.length = n := by rw [← hlen]; simp [hXi, hYj]; omega
  have hm0 : IntKind.i64.wrap ((m : Int) - (i : Int)) = (P.length : Int) := wrapN _ (by omega) (by omega)
  by_cases hij : i = j
  · subst hij
    obtain ⟨σ2, hs, hR2, hN2⟩ := swr_ok (fv := fv) (cap := cap) (a := P.length) (b := m) (k := i) (A := P) (X := X') (M := []) (Y := Y') (B := S) hE hO hXi hYj rfl (by simp [hXi]; omega) (by simpa using hlen) hb (by simpa using hR')
    have hne : (!decide ((i : Int) = (i : Int))) = false := by simp
    simp [k60_2, g0, g2, g4, g10, g11, k60_8, hm0, hs]
    rw [hRd]
    refine ⟨rfl, ?_, hN.trans hN2⟩
    rw [← htar]
    simpa using hR2
  · have hij' : ¬ (i : Int) = (j : Int) := by omega
    by_cases hgt : j < i
    · have hgt' : (j : Int) < (i : Int) := by omega
      have hX1 : (X'.take j).length = j := by rw [List.length_take]; omega
      have hX2 : (X'.drop j).length = i - j := by rw [List.length_drop]; omega
      have e1 : P ++ X' ++ Y' ++ S = P ++ X'.take j ++ X'.drop j ++ Y' ++ S := by rw [List.append_assoc P (X'.take j), List.take_append_drop]
      rw [e1] at hR' hlen
      obtain ⟨σ2, hs, hR2, hN2⟩ := swr_ok (fv := fv) (cap := cap) (a := P.length) (b := m) (k := j) hE hO hX1 hYj rfl (by rw [hX1, hX2]; omega) hlen hb hR'
      have w3 : IntKind.i64.wrap ((i : Int) - (j : Int)) = ((i - j : Nat) : Int) := wrapN _ (by omega) (by omega)
      have key' : ∀ e' Lo', look e' 0 = some (own2 id g n cap) → look e' 2 = some (iv (m : Int)) → look e' 4 = some fv → look e' 10 = some (iv ((i - j : Nat) : Int)) → look e' 11 = some (iv (j : Int)) → ∃ k, k < q ∧ I k ⟨e', Lo', σ2⟩ := by
        intro e' Lo' f0 f2 f4 f10 f11
        refine ⟨i - j + j, by omega, ?_⟩
        rw [hI]
        refine ⟨P ++ Y', X'.drop j, X'.take j, S, e', Lo', σ2, i - j, j, rfl, hX2, hX1, by omega, hj, rfl, by simp [hYj]; omega, ?_, ?_, ?_, hN.trans hN2, f0, f2, f4, f10, f11⟩
        · exact hR2
        · simp [hYj]; omega
        · rw [← htar]
          simp
      generalize ((i - j : Nat) : Int) = d at *
      simp [k60_2, g0, g2, g4, g10, g11, neq_i, hij', k60_4, hgt', hm0, hs, w3]
      refine key' _ _ ?_ ?_ ?_ ?_ ?_ <;> simp [g0, g2, g4, g11]
    · have hgt' : ¬ (j : Int) < (i : Int) := by omega
      have hY2 : (Y'.drop (j - i)).length = i := by rw [List.length_drop]; omega
      have hY1 : (Y'.take (j - i)).length = j - i := by rw [List.length_take]; omega
      have e1 : P ++ X' ++ Y' ++ S = P ++ X' ++ Y'.take (j - i) ++ Y'.drop (j - i) ++ S := by rw [List.append_assoc (P ++ X') (Y'.take _), List.take_append_drop]
      rw [e1] at hR' hlen
      obtain ⟨σ2, hs, hR2, hN2⟩ := swr_ok (fv := fv) (cap := cap) (a := P.length) (b := m + j - i) (k := i) hE hO hXi hY2 rfl (by rw [hXi, hY1]; omega) hlen hb hR'
      have w3 : IntKind.i64.wrap ((j : Int) - (i : Int)) = ((j - i : Nat) : Int) := wrapN _ (by omega) (by omega)
      have w4 : IntKind.i64.wrap ((m : Int) + (j : Int)) = ((m + j : Nat) : Int) := wrapN _ (by omega) (by omega)
      have w5 : IntKind.i64.wrap (((m + j : Nat) : Int) - (i : Int)) = ((m + j - i : Nat) : Int) := wrapN _ (by omega) (by omega)
      have key' : ∀ e' Lo', look e' 0 = some (own2 id g n cap) → look e' 2 = some (iv (m : Int)) → look e' 4 = some fv → look e' 10 = some (iv (i : Int)) → look e' 11 = some (iv ((j - i : Nat) : Int)) → ∃ k, k < q ∧ I k ⟨e', Lo', σ2⟩ := by
        intro e' Lo' f0 f2 f4 f10 f11
        refine ⟨i + (j - i), by omega, ?_⟩
        rw [hI]
        refine ⟨P, Y'.drop (j - i), Y'.take (j - i), X' ++ S, e', Lo', σ2, i, j - i, rfl, hY2, hY1, hi, by omega, rfl, hPm, ?_, ?_, ?_, hN.trans hN2, f0, f2, f4, f10, f11⟩
        · have e2 : P ++ Y'.drop (j - i) ++ Y'.take (j - i) ++ (X' ++ S) = P ++ Y'.drop (j - i) ++ Y'.take (j - i) ++ X' ++ S := by simp
          rw [e2]
          exact hR2
        · simp [hYj, hXi]; omega
        · rw [← htar, List.append_assoc P (Y'.take _), List.take_append_drop]
          simp
      generalize ((j - i : Nat) : Int) = d at *
      generalize ((m + j : Nat) : Int) = mj at *
      generalize ((m + j - i : Nat) : Int) = mi at *
      simp [k60_2, g0, g2, g4, g10, g11, neq_i, hij', k60_4, hgt', hm0, hs, w3, w4, w5]
      refine key' _ _ ?_ ?_ ?_ ?_ ?_ <;> simp [g0, g2, g4, g10]
end
end Go.Proofs.Ytodgdmhifbnofaa.AM.Sn
end
section
set_option maxRecDepth 1000000
set_option linter.unusedVariables false
set_option linter.unusedSimpArgs false
namespace Go.Proofs.Ytodgdmhifbnofaa.AM.Sn
open Go.Proofs
abbrev uv (z : Int) : V := .tr (.sc (.int .u64 z))
theorem cv_u (s : Nat) (h : s ≤ 100000) (σ : Store) : opConv (.toInt .u64) (iv (s : Int)) σ = some (uv (s : Int), σ) := by
  have : IntKind.u64.wrap (s : Int) = (s : Int) := IntWalk.u64_in _ (by omega)
  simp only [opConv, this]
theorem cv_i (s : Nat) (h : s ≤ 100000) (σ : Store) : opConv (.toInt .i64) (uv (s : Int)) σ = some (iv (s : Int), σ) := by
  have : IntKind.i64.wrap (s : Int) = (s : Int) := w64 (by omega) (by omega)
  simp only [opConv, this]
theorem shr1 (s : Nat) : opBin .other .shr (uv (s : Int)) (uv 1) = some (uv ((s / 2 : Nat) : Int)) := by
  rw [bin_shr _ _ _ (by omega)]
  congr 4
  show ((s : Int)).fdiv 2 = ((s / 2 : Nat) : Int)
  rw [Int.fdiv_eq_ediv_of_nonneg _ (by decide)]
  omega
section
variable {α : Type} {E : α → List V} {key : α → List UInt8} {fv : V} {id g n : Nat} {cap : Option Nat}
theorem bs1 (hE : ∀ a, (E a).length = 2) (hC : CmpOk E key fv) {l : List α} {x : α} {a m b : Nat} {p : Nat → Bool} {σ : Store} {e Lo : List (Nat × V)} {Q : Out → St → Prop} {u2 u3 : V}
    (hn : l.length = n) (hb : n ≤ 1000) (ha : l[a]? = some x) (hmb : m ≤ b) (hbn : b ≤ n) (hp : ∀ h, m ≤ h → h < b → ∃ y, l[h]? = some y ∧ bytesLt (key y) (key x) = p h) (hm : ∀ s t, m ≤ s → s ≤ t → t < b → p t = true → p s = true) (hR : RowV E l id g σ)
    (g0 : look e 0 = some (own2 id g n cap)) (g1 : look e 1 = some (iv (a : Int))) (g2 : look e 2 = some u2) (g3 : look e 3 = some u3) (g4 : look e 4 = some fv) (g10 : look e 10 = some (iv (m : Int))) (g11 : look e 11 = some (iv (b : Int)))
    (hQ : ∀ e' L' σ' (i : Nat), m ≤ i → i ≤ b → (∀ t, m ≤ t → t < i → p t = true) → (∀ t, i ≤ t → t < b → p t = false) → RowV E l id g σ' → Nxt id σ σ' → look e' 0 = some (own2 id g n cap) → look e' 1 = some (iv (a : Int)) → look e' 2 = some u2 → look e' 3 = some u3 → look e' 4 = some fv → look e' 10 = some (iv (i : Int)) → Q (.exit 0) ⟨e', L', σ'⟩) :
    Wp T (.loop k38_4) ⟨e, Lo, σ⟩ Q := by
  obtain ⟨I, hI⟩ : ∃ I : Nat → St → Prop, I = (fun q st => ∃ e Lo σ', ∃ i j : Nat, st = ⟨e, Lo, σ'⟩ ∧ m ≤ i ∧ i ≤ j ∧ j ≤ b ∧ j - i = q ∧ (∀ t, m ≤ t → t < i → p t = true) ∧ (∀ t, j ≤ t → t < b → p t = false) ∧ RowV E l id g σ' ∧ Nxt id σ σ'
    ∧ look e 0 = some (own2 id g n cap) ∧ look e 1 = some (iv (a : Int)) ∧ look e 2 = some u2 ∧ look e 3 = some u3 ∧ look e 4 = some fv ∧ look e 10 = some (iv (i : Int)) ∧ look e 11 = some (iv (j : Int))) := ⟨_, rfl⟩
  refine wpc_loop I (b - m) _ ?_ ?_
  · rw [hI]
    exact ⟨e, Lo, σ, m, b, rfl, Nat.le_refl _, hmb, Nat.le_refl _, rfl, fun t h1 h2 => by omega, fun t h1 h2 => by omega, hR, Nxt.refl _ _, g0, g1, g2, g3, g4, g10, g11⟩
  clear g0 g1 g2 g3 g4 g10 g11 hR
  intro q st hIs
  rw [hI] at hIs
  obtain ⟨e, Lo, σ', i, j, rfl, hmi, hij, hjb, hq, hT, hF, hR, hN, g0, g1, g2, g3, g4, g10, g11⟩ := hIs
  by_cases hlt : i < j
  · have hlt' : (i : Int) < (j : Int) := by omega
    have w1 : IntKind.i64.wrap ((i : Int) + (j : Int)) = ((i + j : Nat) : Int) := wrapN _ (by omega) (by omega)
    have c1 := cv_u (i + j) (by omega) σ'
    have c2 := shr1 (i + j)
    obtain ⟨h, hh⟩ : ∃ h, h = (i + j) / 2 := ⟨_, rfl⟩
    rw [← hh] at c2
    have c3 := cv_i h (by omega) σ'
    obtain ⟨y, hy, hyp⟩ := hp h (by omega) (by omega)
    have i1 := hR.iaddr (c := 2) (cap := cap) (n := n) (k' := .i64) (i := h) (by omega)
    have i2 := hR.iaddr (c := 2) (cap := cap) (n := n) (k' := .i64) (i := a) (by rw [← hn]; exact (List.getElem?_eq_some_iff.1 ha).1)
    have l1 := hR.load hE hy
    have l2 := hR.load hE ha
    obtain ⟨τ, hcmp⟩ := hC y x σ'
    have hl0 := lss0 (key y) (key x)
    rw [hyp] at hl0
    have w2 : IntKind.i64.wrap ((h : Int) + 1) = ((h + 1 : Nat) : Int) := wrapN _ (by omega) (by omega)
    have key' : ∀ e' Lo' (i' j' : Nat), m ≤ i' → i' ≤ j' → j' ≤ b → j' - i' < q → (∀ t, m ≤ t → t < i' → p t = true) → (∀ t, j' ≤ t → t < b → p t = false) → look e' 0 = some (own2 id g n cap) → look e' 1 = some (iv (a : Int)) → look e' 2 = some u2 → look e' 3 = some u3 → look e' 4 = some fv → look e' 10 = some (iv (i' : Int)) → look e' 11 = some (iv (j' : Int)) → ∃ k, k < q ∧ I k ⟨e', Lo', σ' ++ τ⟩ := by
      intro e' Lo' i' j' h1 h2 h3 h4 h5 h6 f0 f1 f2 f3 f4 f10 f11
      refine ⟨j' - i', h4, ?_⟩
      rw [hI]
      exact ⟨e', Lo', σ' ++ τ, i', j', rfl, h1, h2, h3, rfl, h5, h6, hR.app τ, hN.trans (nxt_app τ), f0, f1, f2, f3, f4, f10, f11⟩
    generalize mkAgg (E x) = vx, mkAgg (E y) = vy at *
    generalize hs : ((i + j : Nat) : Int) = ss at *
    cases hph : p h with
    | true =>
      rw [hph] at hl0
      have key2 := fun e' Lo' => key' e' Lo' (h + 1) j (by omega) (by omega) hjb (by omega) (fun t h1 h2 => hm t h h1 (by omega) (by omega) hph) hF
      generalize ((h + 1 : Nat) : Int) = h1 at *
      simp [k38_4, g0, g1, g4, g10, g11, hlt', k38_6, w1, c1, c2, c3, i1, i2, l1, l2, hcmp, hl0, w2]
      refine key2 _ _ ?_ ?_ ?_ ?_ ?_ ?_ ?_ <;> simp [g0, g1, g2, g3, g4, g11]
    | false =>
      rw [hph] at hl0
      have key2 := fun e' Lo' => key' e' Lo' i h hmi (by omega) (by omega) (by omega) hT (fun t h1 h2 => by
        rw [Bool.eq_false_iff]
        intro ht
        have := hm h t (by omega) h1 h2 ht
        rw [hph] at this
        cases this)
      simp [k38_4, g0, g1, g4, g10, g11, hlt', k38_6, w1, c1, c2, c3, i1, i2, l1, l2, hcmp, hl0]
      refine key2 _ _ ?_ ?_ ?_ ?_ ?_ ?_ ?_ <;> simp [g0, g1, g2, g3, g4, g10]
  · have hlt' : ¬ (i : Int) < (j : Int) := by omega
    obtain rfl : i = j := by omega
    simp [k38_4, g10, g11]
    exact hQ _ _ _ i hmi hjb hT hF hR hN g0 g1 g2 g3 g4 g10
end
end Go.Proofs.Ytodgdmhifbnofaa.AM.Sn
end
section
set_option maxRecDepth 1000000
set_option linter.unusedVariables false
set_option linter.unusedSimpArgs false
namespace Go.Proofs.Ytodgdmhifbnofaa.AM.Sn
open Go.Proofs
section
variable {α : Type} {E : α → List V} {key : α → List UInt8} {fv : V} {id g n : Nat} {cap : Option Nat}
theorem bs2 (hE : ∀ a, (E a).length = 2) (hC : CmpOk E key fv) {l : List α} {x : α} {a m b : Nat} {p : Nat → Bool} {σ : Store} {e Lo : List (Nat × V)} {Q : Out → St → Prop} {u9 u3 : V}
    (hn : l.length = n) (hb : n ≤ 1000) (ha : l[a]? = some x) (hmb : m ≤ b) (hbn : b ≤ n) (hp : ∀ h, m ≤ h → h < b → ∃ y, l[h]? = some y ∧ (!bytesLt (key x) (key y)) = p h) (hm : ∀ s t, m ≤ s → s ≤ t → t < b → p t = true → p s = true) (hR : RowV E l id g σ)
    (g0 : look e 0 = some (own2 id g n cap)) (g1 : look e 1 = some u9) (g2 : look e 2 = some (iv (a : Int))) (g3 : look e 3 = some u3) (g4 : look e 4 = some fv) (g10 : look e 14 = some (iv (m : Int))) (g11 : look e 15 = some (iv (b : Int)))
    (hQ : ∀ e' L' σ' (i : Nat), m ≤ i → i ≤ b → (∀ t, m ≤ t → t < i → p t = true) → (∀ t, i ≤ t → t < b → p t = false) → RowV E l id g σ' → Nxt id σ σ' → look e' 0 = some (own2 id g n cap) → look e' 1 = some u9 → look e' 2 = some (iv (a : Int)) → look e' 3 = some u3 → look e' 4 = some fv → look e' 14 = some (iv (i : Int)) → Q (.exit 4) ⟨e', L', σ'⟩) :
    Wp T (.loop k38_19) ⟨e, Lo, σ⟩ Q := by
  obtain ⟨I, hI⟩ : ∃ I : Nat → St → Prop, I = (fun q st => ∃ e Lo σ', ∃ i j : Nat, st = ⟨e, Lo, σ'⟩ ∧ m ≤ i ∧ i ≤ j ∧ j ≤ b ∧ j - i = q ∧ (∀ t, m ≤ t → t < i → p t = true) ∧ (∀ t, j ≤ t → t < b → p t = false) ∧ RowV E l id g σ' ∧ Nxt id σ σ'
    ∧ look e 0 = some (own2 id g n cap) ∧ look e 1 = some u9 ∧ look e 2 = some (iv (a : Int)) ∧ look e 3 = some u3 ∧ look e 4 = some fv ∧ look e 14 = some (iv (i : Int)) ∧ look e 15 = some (iv (j : Int))) := ⟨_, rfl⟩
  refine wpc_loop I (b - m) _ ?_ ?_
  · rw [hI]
    exact ⟨e, Lo, σ, m, b, rfl, Nat.le_refl _, hmb, Nat.le_refl _, rfl, fun t h1 h2 => by omega, fun t h1 h2 => by omega, hR, Nxt.refl _ _, g0, g1, g2, g3, g4, g10, g11⟩
  clear g0 g1 g2 g3 g4 g10 g11 hR
  intro q st hIs
  rw [hI] at hIs
  obtain ⟨e, Lo, σ', i, j, rfl, hmi, hij, hjb, hq, hT, hF, hR, hN, g0, g1, g2, g3, g4, g10, g11⟩ := hIs
  by_cases hlt : i < j
  · have hlt' : (i : Int) < (j : Int) := by omega
    have w1 : IntKind.i64.wrap ((i : Int) + (j : Int)) = ((i + j : Nat) : Int) := wrapN _ (by omega) (by omega)
    have c1 := cv_u (i + j) (by omega) σ'
    have c2 := shr1 (i + j)
    obtain ⟨h, hh⟩ : ∃ h, h = (i + j) / 2 := ⟨_, rfl⟩
    rw [← hh] at c2
    have c3 := cv_i h (by omega) σ'
    obtain ⟨y, hy, hyp⟩ := hp h (by omega) (by omega)
    have i1 := hR.iaddr (c := 2) (cap := cap) (n := n) (k' := .i64) (i := h) (by omega)
    have i2 := hR.iaddr (c := 2) (cap := cap) (n := n) (k' := .i64) (i := a) (by rw [← hn]; exact (List.getElem?_eq_some_iff.1 ha).1)
    have l1 := hR.load hE hy
    have l2 := hR.load hE ha
    obtain ⟨τ, hcmp⟩ := hC x y σ'
    have hl0 := lss0 (key x) (key y)
    have w2 : IntKind.i64.wrap ((h : Int) + 1) = ((h + 1 : Nat) : Int) := wrapN _ (by omega) (by omega)
    have key' : ∀ e' Lo' (i' j' : Nat), m ≤ i' → i' ≤ j' → j' ≤ b → j' - i' < q → (∀ t, m ≤ t → t < i' → p t = true) → (∀ t, j' ≤ t → t < b → p t = false) → look e' 0 = some (own2 id g n cap) → look e' 1 = some u9 → look e' 2 = some (iv (a : Int)) → look e' 3 = some u3 → look e' 4 = some fv → look e' 14 = some (iv (i' : Int)) → look e' 15 = some (iv (j' : Int)) → ∃ k, k < q ∧ I k ⟨e', Lo', σ' ++ τ⟩ := by
      intro e' Lo' i' j' h1 h2 h3 h4 h5 h6 f0 f1 f2 f3 f4 f10 f11
      refine ⟨j' - i', h4, ?_⟩
      rw [hI]
      exact ⟨e', Lo', σ' ++ τ, i', j', rfl, h1, h2, h3, rfl, h5, h6, hR.app τ, hN.trans (nxt_app τ), f0, f1, f2, f3, f4, f10, f11⟩
    generalize mkAgg (E x) = vx, mkAgg (E y) = vy at *
    generalize hs : ((i + j : Nat) : Int) = ss at *
    cases hph : p h with
    | true =>
      have hbl : bytesLt (key x) (key y) = false := by simpa [hph] using hyp
      rw [hbl] at hl0
      have key2 := fun e' Lo' => key' e' Lo' (h + 1) j (by omega) (by omega) hjb (by omega) (fun t h1 h2 => hm t h h1 (by omega) (by omega) hph) hF
      generalize ((h + 1 : Nat) : Int) = h1 at *
      simp [k38_19, g0, g2, g4, g10, g11, hlt', k38_21, w1, c1, c2, c3, i1, i2, l1, l2, hcmp, hl0, w2]
      refine key2 _ _ ?_ ?_ ?_ ?_ ?_ ?_ ?_ <;> simp [g0, g1, g2, g3, g4, g11]
    | false =>
      have hbl : bytesLt (key x) (key y) = true := by simpa [hph] using hyp
      rw [hbl] at hl0
      have key2 := fun e' Lo' => key' e' Lo' i h hmi (by omega) (by omega) (by omega) hT (fun t h1 h2 => by
        rw [Bool.eq_false_iff]
        intro ht
        have := hm h t (by omega) h1 h2 ht
        rw [hph] at this
        cases this)
      simp [k38_19, g0, g2, g4, g10, g11, hlt', k38_21, w1, c1, c2, c3, i1, i2, l1, l2, hcmp, hl0]
      refine key2 _ _ ?_ ?_ ?_ ?_ ?_ ?_ ?_ <;> simp [g0, g1, g2, g3, g4, g10]
  · have hlt' : ¬ (i : Int) < (j : Int) := by omega
    obtain rfl : i = j := by omega
    simp [k38_19, g10, g11]
    exact hQ _ _ _ i hmi hjb hT hF hR hN g0 g1 g2 g3 g4 g10
end
end Go.Proofs.Ytodgdmhifbnofaa.AM.Sn
end
section
set_option maxRecDepth 1000000
set_option linter.unusedVariables false
set_option linter.unusedSimpArgs false
namespace Go.Proofs.Ytodgdmhifbnofaa.AM.Sn
open Go.Proofs
section
variable {α : Type} {E : α → List V} {key : α → List UInt8} {fv : V} {id g n : Nat} {cap : Option Nat}
theorem bs3 (hE : ∀ a, (E a).length = 2) (hC : CmpOk E key fv) {l : List α} {p0 m b : Nat} {p : Nat → Bool} {σ : Store} {e Lo : List (Nat × V)} {Q : Out → St → Prop} {u1 u2 u3 u18 u19 : V}
    (hn : l.length = n) (hb : n ≤ 1000) (hmb : m ≤ b) (hbn : b ≤ n) (hp : ∀ h, m ≤ h → h < b → h ≤ p0 ∧ ∃ x y, l[p0 - h]? = some x ∧ l[h]? = some y ∧ (!bytesLt (key x) (key y)) = p h) (hm : ∀ s t, m ≤ s → s ≤ t → t < b → p t = true → p s = true) (hR : RowV E l id g σ)
    (g0 : look e 0 = some (own2 id g n cap)) (g1 : look e 1 = some u1) (g2 : look e 2 = some u2) (g3 : look e 3 = some u3) (g4 : look e 4 = some fv) (gx : look e 18 = some u18 ∧ look e 19 = some u19 ∧ look e 22 = some (iv (p0 : Int))) (g10 : look e 20 = some (iv (m : Int))) (g11 : look e 21 = some (iv (b : Int)))
    (hQ : ∀ e' L' σ' (i : Nat), m ≤ i → i ≤ b → (∀ t, m ≤ t → t < i → p t = true) → (∀ t, i ≤ t → t < b → p t = false) → RowV E l id g σ' → Nxt id σ σ' → look e' 0 = some (own2 id g n cap) → look e' 1 = some u1 → look e' 2 = some u2 → look e' 3 = some u3 → look e' 4 = some fv → (look e' 18 = some u18 ∧ look e' 19 = some u19 ∧ look e' 22 = some (iv (p0 : Int))) → look e' 20 = some (iv (i : Int)) → Q (.exit 8) ⟨e', L', σ'⟩) :
    Wp T (.loop k38_38) ⟨e, Lo, σ⟩ Q := by
  obtain ⟨I, hI⟩ : ∃ I : Nat → St → Prop, I = (fun q st => ∃ e Lo σ', ∃ i j : Nat, st = ⟨e, Lo, σ'⟩ ∧ m ≤ i ∧ i ≤ j ∧ j ≤ b ∧ j - i = q ∧ (∀ t, m ≤ t → t < i → p t = true) ∧ (∀ t, j ≤ t → t < b → p t = false) ∧ RowV E l id g σ' ∧ Nxt id σ σ'
    ∧ look e 0 = some (own2 id g n cap) ∧ look e 1 = some u1 ∧ look e 2 = some u2 ∧ look e 3 = some u3 ∧ look e 4 = some fv ∧ (look e 18 = some u18 ∧ look e 19 = some u19 ∧ look e 22 = some (iv (p0 : Int))) ∧ look e 20 = some (iv (i : Int)) ∧ look e 21 = some (iv (j : Int))) := ⟨_, rfl⟩
  refine wpc_loop I (b - m) _ ?_ ?_
  · rw [hI]
    exact ⟨e, Lo, σ, m, b, rfl, Nat.le_refl _, hmb, Nat.le_refl _, rfl, fun t h1 h2 => by omega, fun t h1 h2 => by omega, hR, Nxt.refl _ _, g0, g1, g2, g3, g4, gx, g10, g11⟩
  clear g0 g1 g2 g3 g4 gx g10 g11 hR
  intro q st hIs
  rw [hI] at hIs
  obtain ⟨e, Lo, σ', i, j, rfl, hmi, hij, hjb, hq, hT, hF, hR, hN, g0, g1, g2, g3, g4, gx, g10, g11⟩ := hIs
  by_cases hlt : i < j
  · have hlt' : (i : Int) < (j : Int) := by omega
    have w1 : IntKind.i64.wrap ((i : Int) + (j : Int)) = ((i + j : Nat) : Int) := wrapN _ (by omega) (by omega)
    have c1 := cv_u (i + j) (by omega) σ'
    have c2 := shr1 (i + j)
    obtain ⟨h, hh⟩ : ∃ h, h = (i + j) / 2 := ⟨_, rfl⟩
    rw [← hh] at c2
    have c3 := cv_i h (by omega) σ'
    obtain ⟨hhp, x, y, hx, hy, hyp⟩ := hp h (by omega) (by omega)
    obtain ⟨gx18, gx19, g22⟩ := gx
    have hxl : p0 - h < n := by rw [← hn]; exact (List.getElem?_eq_some_iff.1 hx).1
    have w3 : IntKind.i64.wrap ((p0 : Int) - (h : Int)) = ((p0 - h : Nat) : Int) := wrapN _ (by omega) (by omega)
    have i1 := hR.iaddr (c := 2) (cap := cap) (n := n) (k' := .i64) (i := h) (by omega)
    have i2 := hR.iaddr (c := 2) (cap := cap) (n := n) (k' := .i64) (i := p0 - h) hxl
    have l1 := hR.load hE hy
    have l2 := hR.load hE hx
    obtain ⟨τ, hcmp⟩ := hC x y σ'
    have hl0 := lss0 (key x) (key y)
    have w2 : IntKind.i64.wrap ((h : Int) + 1) = ((h + 1 : Nat) : Int) := wrapN _ (by omega) (by omega)
    have key' : ∀ e' Lo' (i' j' : Nat), m ≤ i' → i' ≤ j' → j' ≤ b → j' - i' < q → (∀ t, m ≤ t → t < i' → p t = true) → (∀ t, j' ≤ t → t < b → p t = false) → look e' 0 = some (own2 id g n cap) → look e' 1 = some u1 → look e' 2 = some u2 → look e' 3 = some u3 → look e' 4 = some fv → (look e' 18 = some u18 ∧ look e' 19 = some u19 ∧ look e' 22 = some (iv (p0 : Int))) → look e' 20 = some (iv (i' : Int)) → look e' 21 = some (iv (j' : Int)) → ∃ k, k < q ∧ I k ⟨e', Lo', σ' ++ τ⟩ := by
      intro e' Lo' i' j' h1 h2 h3 h4 h5 h6 f0 f1 f2 f3 f4 fx f10 f11
      refine ⟨j' - i', h4, ?_⟩
      rw [hI]
      exact ⟨e', Lo', σ' ++ τ, i', j', rfl, h1, h2, h3, rfl, h5, h6, hR.app τ, hN.trans (nxt_app τ), f0, f1, f2, f3, f4, fx, f10, f11⟩
    generalize mkAgg (E x) = vx, mkAgg (E y) = vy at *
    generalize hs : ((i + j : Nat) : Int) = ss at *
    generalize ((p0 - h : Nat) : Int) = ph at *
    cases hph : p h with
    | true =>
      have hbl : bytesLt (key x) (key y) = false := by simpa [hph] using hyp
      rw [hbl] at hl0
      have key2 := fun e' Lo' => key' e' Lo' (h + 1) j (by omega) (by omega) hjb (by omega) (fun t h1 h2 => hm t h h1 (by omega) (by omega) hph) hF
      generalize ((h + 1 : Nat) : Int) = h1 at *
      simp [k38_38, g0, g22, g4, g10, g11, hlt', k38_40, w3, w1, c1, c2, c3, i1, i2, l1, l2, hcmp, hl0, w2]
      refine key2 _ _ ?_ ?_ ?_ ?_ ?_ ?_ ?_ ?_ <;> simp [g0, g1, g2, g3, g4, gx18, gx19, g22, g11]
    | false =>
      have hbl : bytesLt (key x) (key y) = true := by simpa [hph] using hyp
      rw [hbl] at hl0
      have key2 := fun e' Lo' => key' e' Lo' i h hmi (by omega) (by omega) (by omega) hT (fun t h1 h2 => by
        rw [Bool.eq_false_iff]
        intro ht
        have := hm h t (by omega) h1 h2 ht
        rw [hph] at this
        cases this)
      simp [k38_38, g0, g22, g4, g10, g11, hlt', k38_40, w3, w1, c1, c2, c3, i1, i2, l1, l2, hcmp, hl0]
      refine key2 _ _ ?_ ?_ ?_ ?_ ?_ ?_ ?_ ?_ <;> simp [g0, g1, g2, g3, g4, gx18, gx19, g22, g10]
  · have hlt' : ¬ (i : Int) < (j : Int) := by omega
    obtain rfl : i = j := by omega
    simp [k38_38, g10, g11]
    exact hQ _ _ _ i hmi hjb hT hF hR hN g0 g1 g2 g3 g4 gx g10
end
end Go.Proofs.Ytodgdmhifbnofaa.AM.Sn
end
