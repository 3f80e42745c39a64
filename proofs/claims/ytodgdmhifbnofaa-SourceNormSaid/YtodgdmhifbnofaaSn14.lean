/- the packages: parts 14, 15, 16. -/
import Derived.Test.YtodgdmhifbnofaaSn10
set_option linter.unusedSectionVars false
section
set_option maxRecDepth 1000000
set_option linter.unusedVariables false
set_option linter.unusedSimpArgs false
namespace Go.Proofs.Ytodgdmhifbnofaa.AM.Sn
open Go.Proofs
section
variable {α : Type} {E : α → List V} {key : α → List UInt8} {fv : V} {id g n : Nat} {cap : Option Nat}
theorem sym_last (hE : ∀ a, (E a).length = 2) (hO : ∀ a, (E a).all oneV = true) (hC : CmpOk E key fv) {A L B : List α} {x : α} (hL : 2 ≤ L.length) (hs : Ris key L) (hn : (A ++ L ++ [x] ++ B).length = n) (hb : n ≤ 1000) : SymAt E key fv id g n cap A L [x] B := by
  intro σ a m b ha hm hbb hR
  obtain ⟨R0, hRd⟩ : ∃ R0 : V → Store → Prop, R0 = (fun v σ' => v = .tr (.tup []) ∧ ∃ S', S'.Perm (L ++ [x]) ∧ Ris key S' ∧ RowV E (A ++ S' ++ B) id g σ' ∧ Nxt id σ σ') := ⟨_, rfl⟩
  suffices hh : ∃ v σ', callL T 38 [own2 id g n cap, iv (a : Int), iv (m : Int), iv (b : Int), fv] σ = some (v, σ') ∧ R0 v σ' by
    rw [hRd] at hh
    obtain ⟨v, σ', h, rfl, S', h2⟩ := hh
    exact ⟨S', σ', h, h2⟩
  refine call_shared T38 rfl rfl ?_
  simp only [List.length_cons, List.length_nil, Nat.zero_add] at hbb
  have hnl : A.length + L.length + 1 + B.length = n := by rw [← hn]; simp; omega
  have w1 : IntKind.i64.wrap ((m : Int) - (a : Int)) = (L.length : Int) := wrapN _ (by omega) (by omega)
  have w2 : IntKind.i64.wrap ((b : Int) - (m : Int)) = 1 := wrapN 1 (by omega) (by omega)
  have hne : ¬ (L.length : Int) = 1 := by omega
  have hax : (A ++ L ++ [x] ++ B)[m]? = some x := by
    rw [at_R (by omega) (by simp; omega)]
    simp [hm]
  obtain ⟨p, hpd⟩ : ∃ p : Nat → Bool, p = (fun h => match L[h - a]? with | some y => !bytesLt (key x) (key y) | none => false) := ⟨_, rfl⟩
  have hpa : ∀ (h : Nat) (y : α), L[h - a]? = some y → p h = !bytesLt (key x) (key y) := by
    intro h y hy
    rw [hpd]
    simp only [hy]
  have hp : ∀ h, a ≤ h → h < m → ∃ y, (A ++ L ++ [x] ++ B)[h]? = some y ∧ (!bytesLt (key x) (key y)) = p h := by
    intro h h1 h2
    obtain ⟨y, hy⟩ := some_at (l := L) (i := h - a) (by omega)
    refine ⟨y, ?_, (hpa h y hy).symm⟩
    rw [at_L (by omega) (by omega), ha]
    exact hy
  have hmono : ∀ s t, a ≤ s → s ≤ t → t < m → p t = true → p s = true := by
    intro s t h1 h2 h3 ht
    obtain ⟨y, hy⟩ := some_at (l := L) (i := s - a) (by omega)
    obtain ⟨z, hz⟩ := some_at (l := L) (i := t - a) (by omega)
    rw [hpa t z hz] at ht
    rw [hpa s y hy]
    have hle := ris_le hs (i := s - a) (j := t - a) (by omega) hy hz
    simp only [Bool.not_eq_true'] at ht ⊢
    exact ble_trans hle ht
  simp [w1, hne, k38_14, w2]
  refine bs2 (cap := cap) (fv := fv) (l := A ++ L ++ [x] ++ B) (x := x) (a := m) (m := a) (b := m) (p := p) (u9 := iv (a : Int)) (u3 := iv (b : Int)) hE hC hn hb hax (by omega) (by omega) hp hmono hR (by simp) (by simp) (by simp) (by simp) (by simp) (by simp) (by simp) ?_
  intro e' L' σ' i h1 h2 hT hF hR' hN f0 f1 f2 f3 f4 f14
  have hrow : A ++ L ++ [x] ++ B = (A ++ L.take (i - a)) ++ L.drop (i - a) ++ x :: B := by
    rw [List.append_assoc A (L.take _), List.take_append_drop]; simp
  rw [hrow] at hR'
  have hln : ((A ++ L.take (i - a)) ++ L.drop (i - a) ++ x :: B).length = n := by rw [← hrow]; exact hn
  have hl1 : (A ++ L.take (i - a)).length = i := by rw [List.length_append, List.length_take]; omega
  have hl2 : (A ++ L.take (i - a)).length + (L.drop (i - a)).length = m := by rw [hl1, List.length_drop]; omega
  simp [k38_24, f2]
  refine sh2 (cap := cap) hE hO hln hb hl1 hR' (by simp [f0]) (by simp [f14]) (by rw [hl2]; simp) ?_
  intro e2 L2 σ2 hR2 hN2
  simp
  rw [hRd]
  refine ⟨rfl, L.take (i - a) ++ x :: L.drop (i - a), ?_, ?_, by simpa using hR2, hN.trans hN2⟩
  · have h3 : (L.take (i - a) ++ x :: L.drop (i - a)).Perm (x :: (L.take (i - a) ++ L.drop (i - a))) := List.perm_middle
    rw [List.take_append_drop] at h3
    exact h3.trans (List.perm_append_comm (l₁ := [x]) (l₂ := L))
  · refine ris_join (ris_sub hs (List.take_sublist _ _)) (List.pairwise_cons.2 ⟨fun y hy => ?_, ris_sub hs (List.drop_sublist _ _)⟩) ?_
    · obtain ⟨j, hj, hy⟩ := mem_drop_at hy
      have hjl := (List.getElem?_eq_some_iff.1 hy).1
      have := hF (a + j) (by omega) (by omega)
      rw [hpa (a + j) y (by rw [show a + j - a = j by omega]; exact hy)] at this
      exact blt_asym (by simpa using this)
    · intro y hy z hz
      obtain ⟨j, hj, hy⟩ := mem_take_at hy
      have hjl := (List.getElem?_eq_some_iff.1 hy).1
      have hlt := hT (a + j) (by omega) (by omega)
      rw [hpa (a + j) y (by rw [show a + j - a = j by omega]; exact hy)] at hlt
      rcases List.mem_cons.1 hz with rfl | hz
      · simpa using hlt
      · obtain ⟨j2, hj2, hz⟩ := mem_drop_at hz
        exact ris_le hs (by omega) hy hz
set_option maxHeartbeats 4000000 in
theorem sym_ok (hE : ∀ a, (E a).length = 2) (hO : ∀ a, (E a).all oneV = true) (hC : CmpOk E key fv) : ∀ (k : Nat) (A L R B : List α), L.length + R.length = k → L ≠ [] → R ≠ [] → Ris key L → Ris key R → (A ++ L ++ R ++ B).length = n → n ≤ 1000 → SymAt E key fv id g n cap A L R B := by
  intro k
  induction k using Nat.strongRecOn with
  | ind k ih =>
  intro A L R B hk hLn hRn hsL hsR hn hb
  have hLp : 0 < L.length := List.length_pos_iff.2 hLn
  have hRp : 0 < R.length := List.length_pos_iff.2 hRn
  by_cases hL1 : L.length = 1
  · obtain ⟨x, rfl⟩ := List.length_eq_one_iff.1 hL1
    exact sym_one hE hO hC hsR hn hb
  by_cases hR1 : R.length = 1
  · obtain ⟨x, rfl⟩ := List.length_eq_one_iff.1 hR1
    exact sym_last hE hO hC (by omega) hsL hn hb
  intro σ a m b ha hm hbb hR
  obtain ⟨R0, hRd⟩ : ∃ R0 : V → Store → Prop, R0 = (fun v σ' => v = .tr (.tup []) ∧ ∃ S', S'.Perm (L ++ R) ∧ Ris key S' ∧ RowV E (A ++ S' ++ B) id g σ' ∧ Nxt id σ σ') := ⟨_, rfl⟩
  suffices hh : ∃ v σ', callL T 38 [own2 id g n cap, iv (a : Int), iv (m : Int), iv (b : Int), fv] σ = some (v, σ') ∧ R0 v σ' by
    rw [hRd] at hh
    obtain ⟨v, σ', h, rfl, S', h2⟩ := hh
    exact ⟨S', σ', h, h2⟩
  refine call_shared T38 rfl rfl ?_
  have hnl : A.length + L.length + R.length + B.length = n := by rw [← hn]; simp; omega
  have w1 : IntKind.i64.wrap ((m : Int) - (a : Int)) = (L.length : Int) := wrapN _ (by omega) (by omega)
  have w2 : IntKind.i64.wrap ((b : Int) - (m : Int)) = (R.length : Int) := wrapN _ (by omega) (by omega)
  have hne1 : ¬ (L.length : Int) = 1 := by omega
  have hne2 : ¬ (R.length : Int) = 1 := by omega
  have w3 : IntKind.i64.wrap ((a : Int) + (b : Int)) = ((a + b : Nat) : Int) := wrapN _ (by omega) (by omega)
  have c1 := fun σ => cv_u (a + b) (by omega) σ
  have c2 := shr1 (a + b)
  obtain ⟨mid, hmid⟩ : ∃ mid, mid = (a + b) / 2 := ⟨_, rfl⟩
  rw [← hmid] at c2
  have c3 := fun σ => cv_i mid (by omega) σ
  have w4 : IntKind.i64.wrap ((mid : Int) + (m : Int)) = ((mid + m : Nat) : Int) := wrapN _ (by omega) (by omega)
  obtain ⟨nn, hnn⟩ : ∃ nn, nn = mid + m := ⟨_, rfl⟩
  rw [← hnn] at w4
  have w6 : IntKind.i64.wrap ((nn : Int) - 1) = ((nn - 1 : Nat) : Int) := wrapN _ (by omega) (by omega)
  obtain ⟨p0, hp0⟩ : ∃ p0, p0 = nn - 1 := ⟨_, rfl⟩
  rw [← hp0] at w6
  obtain ⟨p, hpd⟩ : ∃ p : Nat → Bool, p = (fun c => match R[p0 - c - m]?, L[c - a]? with | some x, some y => !bytesLt (key x) (key y) | _, _ => false) := ⟨_, rfl⟩
  have hpa : ∀ (c : Nat) (x y : α), R[p0 - c - m]? = some x → L[c - a]? = some y → p c = !bytesLt (key x) (key y) := by
    intro h x y hx hy
    rw [hpd]
    simp only [hx, hy]
  have next : ∀ (lo hi : Nat), a ≤ lo → lo ≤ hi → hi ≤ m → (∀ c, lo ≤ c → c < hi → c ≤ p0 ∧ m ≤ p0 - c ∧ p0 - c < b) → (lo = a ∨ lo + b = nn) → (hi = m ∨ hi + m = nn) → nn ≤ lo + b → m + hi ≤ nn →
      ∀ (e Lo : List (Nat × V)) , look e 0 = some (own2 id g n cap) → look e 1 = some (iv (a : Int)) → look e 2 = some (iv (m : Int)) → look e 3 = some (iv (b : Int)) → look e 4 = some fv → look e 18 = some (iv (mid : Int)) → look e 19 = some (iv (nn : Int)) → look e 22 = some (iv (p0 : Int)) → look e 20 = some (iv (lo : Int)) → look e 21 = some (iv (hi : Int)) →
      Wp T (.loop k38_38) ⟨e, Lo, σ⟩ (blk 8 (sq T k38_43 (giv [] R0))) := by
    intro lo hi hlo hlh hhi hrange hcl hch hnlo hmhi e Lo g0 g1 g2 g3 g4 g18 g19 g22 g20 g21
    have hp : ∀ c, lo ≤ c → c < hi → c ≤ p0 ∧ ∃ x y, (A ++ L ++ R ++ B)[p0 - c]? = some x ∧ (A ++ L ++ R ++ B)[c]? = some y ∧ (!bytesLt (key x) (key y)) = p c := by
      intro c h1 h2
      obtain ⟨q1, q2, q3⟩ := hrange c h1 h2
      obtain ⟨x, hx⟩ := some_at (l := R) (i := p0 - c - m) (by omega)
      obtain ⟨y, hy⟩ := some_at (l := L) (i := c - a) (by omega)
      refine ⟨q1, x, y, ?_, ?_, (hpa c x y hx hy).symm⟩
      · rw [at_R (by omega) (by omega), hm]; exact hx
      · rw [at_L (by omega) (by omega), ha]; exact hy
    have hmono : ∀ s t, lo ≤ s → s ≤ t → t < hi → p t = true → p s = true := by
      intro s t h1 h2 h3 ht
      obtain ⟨q1, q2, q3⟩ := hrange s h1 (by omega)
      obtain ⟨q4, q5, q6⟩ := hrange t (by omega) h3
      obtain ⟨x, hx⟩ := some_at (l := R) (i := p0 - s - m) (by omega)
      obtain ⟨y, hy⟩ := some_at (l := L) (i := s - a) (by omega)
      obtain ⟨x', hx'⟩ := some_at (l := R) (i := p0 - t - m) (by omega)
      obtain ⟨y', hy'⟩ := some_at (l := L) (i := t - a) (by omega)
      rw [hpa t x' y' hx' hy'] at ht
      rw [hpa s x y hx hy]
      simp only [Bool.not_eq_true'] at ht ⊢
      exact ble_trans (ble_trans (ris_le hsL (by omega) hy hy') ht) (ris_le hsR (by omega) hx' hx)
    refine bs3 (cap := cap) (fv := fv) (l := A ++ L ++ R ++ B) (p0 := p0) (m := lo) (b := hi) (p := p) (u1 := iv (a : Int)) (u2 := iv (m : Int)) (u3 := iv (b : Int)) (u18 := iv (mid : Int)) (u19 := iv (nn : Int)) hE hC hn hb hlh (by omega) hp hmono hR g0 g1 g2 g3 g4 ⟨g18, g19, g22⟩ g20 g21 ?_
    intro e' L' σ' st h1 h2 hT hF hR' hN f0 f1 f2 f3 f4 fx f20
    obtain ⟨f18, f19, f22⟩ := fx
    obtain ⟨en, hen⟩ : ∃ en, en + st = nn := ⟨nn - st, by omega⟩
    have hsplit : A ++ L ++ R ++ B = A ++ L.take (st - a) ++ L.drop (st - a) ++ R.take (en - m) ++ R.drop (en - m) ++ B := by
      rw [List.append_assoc A (L.take _), List.take_append_drop, List.append_assoc (A ++ L) (R.take _), List.take_append_drop]
    have l1 : (L.take (st - a)).length = st - a := by rw [List.length_take]; omega
    have l2 : (L.drop (st - a)).length = m - st := by rw [List.length_drop]; omega
    have l3 : (R.take (en - m)).length = en - m := by rw [List.length_take]; omega
    have l4 : (R.drop (en - m)).length = b - en := by rw [List.length_drop]; omega
    have s1 := ris_sub hsL (List.take_sublist (st - a) L)
    have s2 := ris_sub hsL (List.drop_sublist (st - a) L)
    have s3 := ris_sub hsR (List.take_sublist (en - m) R)
    have s4 := ris_sub hsR (List.drop_sublist (en - m) R)
    have cross : ∀ x ∈ L.take (st - a) ++ R.take (en - m), ∀ y ∈ L.drop (st - a) ++ R.drop (en - m), bytesLt (key y) (key x) = false := by
      intro x hx y hy
      rcases List.mem_append.1 hx with hx | hx
      · obtain ⟨i, hi1, hx⟩ := mem_take_at hx
        have hil := (List.getElem?_eq_some_iff.1 hx).1
        rcases List.mem_append.1 hy with hy | hy
        · obtain ⟨j, hj1, hy⟩ := mem_drop_at hy
          exact ris_le hsL (by omega) hx hy
        · obtain ⟨j, hj1, hy⟩ := mem_drop_at hy
          have hjl := (List.getElem?_eq_some_iff.1 hy).1
          have hc := hT (st - 1) (by omega) (by omega)
          obtain ⟨x', hx'⟩ := some_at (l := L) (i := st - 1 - a) (by omega)
          obtain ⟨y', hy'⟩ := some_at (l := R) (i := en - m) (by omega)
          rw [hpa (st - 1) y' x' (by rw [show p0 - (st - 1) - m = en - m by omega]; exact hy') hx'] at hc
          simp only [Bool.not_eq_true'] at hc
          exact ble_trans (ble_trans (ris_le hsL (by omega) hx hx') hc) (ris_le hsR (by omega) hy' hy)
      · obtain ⟨i, hi1, hx⟩ := mem_take_at hx
        have hil := (List.getElem?_eq_some_iff.1 hx).1
        rcases List.mem_append.1 hy with hy | hy
        · obtain ⟨j, hj1, hy⟩ := mem_drop_at hy
          have hjl := (List.getElem?_eq_some_iff.1 hy).1
          have hc := hF st (by omega) (by omega)
          obtain ⟨x', hx'⟩ := some_at (l := R) (i := en - 1 - m) (by omega)
          obtain ⟨y', hy'⟩ := some_at (l := L) (i := st - a) (by omega)
          rw [hpa st x' y' (by rw [show p0 - st - m = en - 1 - m by omega]; exact hx') hy'] at hc
          simp only [Bool.not_eq_false'] at hc
          exact ble_trans (ble_trans (ris_le hsR (by omega) hx hx') (blt_asym hc)) (ris_le hsL (by omega) hy' hy)
        · obtain ⟨j, hj1, hy⟩ := mem_drop_at hy
          exact ris_le hsR (by omega) hx hy
    have hfin := st43 (fv := fv) (cap := cap) (key := key) (A := A) (L1 := L.take (st - a)) (R1 := R.take (en - m)) (L2 := L.drop (st - a)) (R2 := R.drop (en - m)) (B := B) (a := a) (st := st) (m := m) (mid := mid) (en := en) (b := b) (nn := nn) (σ := σ') (e := e') (Lo := L') (Q := giv [] R0) hE hO ha (by omega) (by omega) (by omega) (by omega) (by omega) (by omega) (by rw [← hsplit]; exact hn) hb s1 s3 s2 s4
      (fun h1 h2 => ih ((L.take (st - a)).length + (R.take (en - m)).length) (by omega) A _ _ _ rfl h1 h2 s1 s3 (by
        simp only [List.length_append, l1, l2, l3, l4]; omega) hb)
      (fun H hH h1 h2 => ih ((L.drop (st - a)).length + (R.drop (en - m)).length) (by omega) H _ _ _ rfl h1 h2 s2 s4 (by
        simp only [List.length_append, l2, l4, hH]; omega) hb)
      (by rw [← hsplit]; exact hR') f0 f1 f2 f3 f4 f18 f19 f20 (fun e2 L2 σ2 S1 S2 p1 p2 q1 q2 hR2 hN2 => by
        show giv [] R0 .normal _
        refine ⟨.tr (.tup []), rfl, ?_⟩
        rw [hRd]
        refine ⟨rfl, S1 ++ S2, ?_, ris_join q1 q2 fun x hx y hy => cross x (p1.mem_iff.1 hx) y (p2.mem_iff.1 hy), by simpa using hR2, hN.trans hN2⟩
        have h3 := p1.append p2
        refine h3.trans ?_
        have h4 : (L.take (st - a) ++ R.take (en - m) ++ (L.drop (st - a) ++ R.drop (en - m))).Perm (L.take (st - a) ++ L.drop (st - a) ++ (R.take (en - m) ++ R.drop (en - m))) := by
          rw [List.append_assoc, List.append_assoc]
          refine List.Perm.append_left _ ?_
          rw [← List.append_assoc, ← List.append_assoc]
          exact List.Perm.append_right _ List.perm_append_comm
        rw [List.take_append_drop, List.take_append_drop] at h4
        exact h4)
    simpa using hfin
  by_cases hgt : mid < m
  · have hgt' : (mid : Int) < (m : Int) := by omega
    have w5 : IntKind.i64.wrap ((nn : Int) - (b : Int)) = ((nn - b : Nat) : Int) := wrapN _ (by omega) (by omega)
    have nx := next (nn - b) mid (by omega) (by omega) (by omega) (fun c h1 h2 => by omega) (.inr (by omega)) (.inr (by omega)) (by omega) (by omega)
    generalize ((a + b : Nat) : Int) = ab at *
    generalize ((nn - b : Nat) : Int) = nb at *
    simp [w1, hne1, k38_14, w2, hne2, k38_29, w3, c1, c2, c3, w4, hgt', w5, k38_36, w6]
    refine nx _ _ ?_ ?_ ?_ ?_ ?_ ?_ ?_ ?_ ?_ ?_ <;> simp
  · have hgt' : ¬ (mid : Int) < (m : Int) := by omega
    have nx := next a m (by omega) (by omega) (by omega) (fun c h1 h2 => by omega) (.inl rfl) (.inl rfl) (by omega) (by omega)
    generalize ((a + b : Nat) : Int) = ab at *
    simp [w1, hne1, k38_14, w2, hne2, k38_29, w3, c1, c2, c3, w4, hgt', k38_36, w6]
    refine nx _ _ ?_ ?_ ?_ ?_ ?_ ?_ ?_ ?_ ?_ ?_ <;> simp
end
end Go.Proofs.Ytodgdmhifbnofaa.AM.Sn
end
section
set_option maxRecDepth 1000000
set_option linter.unusedVariables false
set_option linter.unusedSimpArgs false
namespace Go.Proofs.Ytodgdmhifbnofaa.AM.Sn
open Go.Proofs
section
variable {α : Type} {E : α → List V} {key : α → List UInt8} {fv : V} {id g n : Nat} {cap : Option Nat}
theorem ins_innerP (hE : ∀ a, (E a).length = 2) (hO : ∀ a, (E a).all oneV = true) (hC : CmpOk E key fv) {A P Q0 : List α} {x : α} {σ : Store} {e Lo : List (Nat × V)} {Q : Out → St → Prop} {u2 u8 : V}
    (hn : (A ++ P ++ x :: Q0).length = n) (hb : n ≤ 1000) (hs : Ris key P) (hR : RowV E (A ++ P ++ x :: Q0) id g σ)
    (g0 : look e 0 = some (own2 id g n cap)) (g1 : look e 1 = some (iv (A.length : Int))) (g2 : look e 2 = some u2) (g3 : look e 3 = some fv) (g8 : look e 8 = some u8) (g9 : look e 9 = some (iv ((A.length + P.length : Nat) : Int)))
    (hQ : ∀ e' L' σ' P', Ris key P' → P'.Perm (P ++ [x]) → RowV E (A ++ P' ++ Q0) id g σ' → Nxt id σ σ' → look e' 0 = some (own2 id g n cap) → look e' 1 = some (iv (A.length : Int)) → look e' 2 = some u2 → look e' 3 = some fv → look e' 8 = some u8 → Q (.exit 2) ⟨e', L', σ'⟩) :
    Wp T (.loop k40_5) ⟨e, Lo, σ⟩ Q := by
  obtain ⟨I, hI⟩ : ∃ I : Nat → St → Prop, I = (fun r st => ∃ P1 P2 e Lo σ', st = ⟨e, Lo, σ'⟩ ∧ P = P1 ++ P2 ∧ P2.length = r ∧ (∀ y ∈ P2, bytesLt (key x) (key y) = true) ∧ RowV E (A ++ P1 ++ x :: (P2 ++ Q0)) id g σ' ∧ Nxt id σ σ'
    ∧ look e 0 = some (own2 id g n cap) ∧ look e 1 = some (iv (A.length : Int)) ∧ look e 2 = some u2 ∧ look e 3 = some fv ∧ look e 8 = some u8 ∧ look e 9 = some (iv ((A.length + P1.length : Nat) : Int))) := ⟨_, rfl⟩
  refine wpc_up P.length I ?_ ?_
  · rw [hI]
    exact ⟨P, [], e, Lo, σ, rfl, by simp, rfl, by simp, hR, Nxt.refl _ _, g0, g1, g2, g3, g8, g9⟩
  clear g0 g1 g2 g3 g8 g9 hR
  intro r st hIs
  rw [hI] at hIs
  obtain ⟨P1, P2, e, Lo, σ', rfl, hP, hr, hlt, hR, hN, g0, g1, g2, g3, g8, g9⟩ := hIs
  have hsP2 : Ris key P2 := by
    unfold Ris at hs ⊢
    rw [hP, List.pairwise_append] at hs
    exact hs.2.1
  have hx2 : Ris key (x :: P2) := by
    unfold Ris at hsP2 ⊢
    exact List.pairwise_cons.2 ⟨fun y hy => blt_asym (hlt y hy), hsP2⟩
  by_cases hP1 : P1 = []
  · subst hP1
    have hng : ¬ (A.length : Int) < ((A.length + ([] : List α).length : Nat) : Int) := by simp
    generalize ((A.length + ([] : List α).length : Nat) : Int) = jj at *
    simp [k40_5, g0, g1, g9, hng]
    have hP : P = P2 := by simpa using hP
    refine hQ _ _ σ' (x :: P2) hx2 ?_ (by simpa using hR) hN g0 g1 g2 g3 g8
    rw [hP]
    exact (List.perm_append_comm (l₁ := [x]) (l₂ := P2))
  · obtain ⟨P1', y, rfl⟩ := snoc_of hP1
    have e1 : A ++ (P1' ++ [y]) ++ x :: (P2 ++ Q0) = (A ++ P1') ++ y :: x :: (P2 ++ Q0) := by simp
    rw [e1] at hR
    have hlen : ((A ++ P1') ++ y :: x :: (P2 ++ Q0)).length = n := by rw [← hn, hP]; simp; omega
    obtain ⟨hia, hld, σ1, σ2, hs1, hs2, hR1, hR2, hN2⟩ := adj_facts (cap := cap) hE hO hR hlen
    have hh : (A ++ P1').length = A.length + P1'.length := List.length_append
    have hh2 : A.length + (P1' ++ [y]).length = (A ++ P1').length + 1 := by simp; omega
    rw [hh2] at g9
    obtain ⟨τ, hcmp⟩ := hC x y σ'
    have hgt : (A.length : Int) < (((A ++ P1').length + 1 : Nat) : Int) := by rw [hh]; omega
    have hb2 : (A ++ P1').length + 1 ≤ 1000 := by rw [← hlen] at hb; simp at hb ⊢; omega
    have w1 : IntKind.i64.wrap ((((A ++ P1').length + 1 : Nat) : Int) - 1) = ((A ++ P1').length : Int) := wrapN _ (by omega) (by omega)
    have hia0 := hia σ' ⟨_, hR⟩
    have hld0 := hld []
    rw [List.append_nil] at hld0
    have hRτ := hR.app τ
    generalize hJ : (A ++ P1').length = J at *
    generalize hJ1 : ((J + 1 : Nat) : Int) = J1 at *
    cases hk : bytesLt (key x) (key y) with
    | false =>
      have hl0 := lss0 (key x) (key y)
      rw [hk] at hl0
      generalize mkAgg (E x) = vx, mkAgg (E y) = vy at *
      simp [k40_5, g0, g1, g3, g9, hgt, hia0.1, hia0.2, hld0.1, hld0.2, w1, hcmp, hl0]
      refine hQ _ _ (σ' ++ τ) (P1' ++ [y] ++ x :: P2) ?_ ?_ ?_ (hN.trans (nxt_app τ)) g0 g1 g2 g3 g8
      · unfold Ris at hs hx2 ⊢
        rw [hP, List.pairwise_append] at hs
        rw [List.pairwise_append]
        refine ⟨hs.1, hx2, fun a ha b hb => ?_⟩
        rcases List.mem_cons.1 hb with rfl | hb
        ·
          have hay : bytesLt (key y) (key a) = false := by
            rcases List.mem_append.1 ha with ha | ha
            · have := hs.1
              rw [List.pairwise_append] at this
              exact this.2.2 a ha y (by simp)
            · obtain rfl := List.mem_singleton.1 ha
              rw [Bool.eq_false_iff]
              intro h
              rw [bytesLt_lt] at h
              exact List.lt_irrefl _ h
          exact ble_trans hay hk
        · exact hs.2.2 a ha b hb
      · rw [hP, List.append_assoc, List.append_assoc, List.append_assoc]
        refine List.Perm.append_left _ (List.Perm.append_left _ ?_)
        exact (List.perm_append_comm (l₁ := [x]) (l₂ := P2))
      · have e2 : A ++ (P1' ++ [y] ++ x :: P2) ++ Q0 = (A ++ P1') ++ y :: x :: (P2 ++ Q0) := by simp
        rw [e2]
        exact hRτ
    | true =>
      have hl0 := lss0 (key x) (key y)
      rw [hk] at hl0
      have hlenτ := hlen
      obtain ⟨hia', hld', σ1', σ2', hs1', hs2', hR1', hR2', hN2'⟩ := adj_facts (cap := cap) hE hO hRτ hlen
      rw [hJ] at hia' hld' hs1' hs2' hR1'
      have hiaτ := hia' _ ⟨_, hRτ⟩
      have hia1 := hia' _ ⟨_, hR1'⟩
      have hldτ := hld' []
      rw [List.append_nil] at hldτ
      rw [hJ1] at hiaτ hia1
      have key' : ∀ e' Lo', look e' 0 = some (own2 id g n cap) → look e' 1 = some (iv (A.length : Int)) → look e' 2 = some u2 → look e' 3 = some fv → look e' 8 = some u8 → look e' 9 = some (iv (J : Int)) → r < P.length ∧ I (r + 1) ⟨e', Lo', σ2'⟩ := by
        intro e' Lo' f0 f1 f2 f3 f8 f9
        refine ⟨by rw [hP, ← hr]; simp; omega, ?_⟩
        rw [hI]
        refine ⟨P1', y :: P2, e', Lo', σ2', rfl, by rw [hP]; simp, by simp [hr], ?_, ?_, (hN.trans (nxt_app τ)).trans hN2', f0, f1, f2, f3, f8, ?_⟩
        · intro z hz
          rcases List.mem_cons.1 hz with rfl | hz
          · exact hk
          · exact hlt z hz
        · have e2 : A ++ P1' ++ x :: (y :: P2 ++ Q0) = (A ++ P1') ++ x :: y :: (P2 ++ Q0) := by simp
          rw [e2]
          exact hR2'
        · rw [← hh]; exact f9
      generalize mkAgg (E x) = vx, mkAgg (E y) = vy at *
      simp [k40_5, g0, g1, g3, g9, hgt, hia0.1, hia0.2, hld0.1, hld0.2, w1, hcmp, hl0, k40_7, hiaτ.1, hiaτ.2, hldτ.1, hldτ.2, hs1', hia1.1, hia1.2, hs2']
      refine key' _ _ ?_ ?_ ?_ ?_ ?_ ?_ <;> simp [g0, g1, g2, g3, g8]
theorem ins_okP (hE : ∀ a, (E a).length = 2) (hO : ∀ a, (E a).all oneV = true) (hC : CmpOk E key fv) {A S B : List α} {σ : Store} (hn : (A ++ S ++ B).length = n) (hb : n ≤ 1000) (hR : RowV E (A ++ S ++ B) id g σ) :
    ∃ S' σ', callL T 40 [own2 id g n cap, iv (A.length : Int), iv ((A.length + S.length : Nat) : Int), fv] σ = some (.tr (.tup []), σ') ∧ S'.Perm S ∧ Ris key S' ∧ RowV E (A ++ S' ++ B) id g σ' ∧ Nxt id σ σ' := by
  suffices hh : ∃ v σ', callL T 40 [own2 id g n cap, iv (A.length : Int), iv ((A.length + S.length : Nat) : Int), fv] σ = some (v, σ') ∧ v = .tr (.tup []) ∧ ∃ S', S'.Perm S ∧ Ris key S' ∧ RowV E (A ++ S' ++ B) id g σ' ∧ Nxt id σ σ' by
    obtain ⟨v, σ', h, rfl, S', h2⟩ := hh
    exact ⟨S', σ', h, h2⟩
  obtain ⟨R, hRd⟩ : ∃ R : V → Store → Prop, R = (fun v σ' => v = .tr (.tup []) ∧ ∃ S', S'.Perm S ∧ Ris key S' ∧ RowV E (A ++ S' ++ B) id g σ' ∧ Nxt id σ σ') := ⟨_, rfl⟩
  suffices hh : ∃ v σ', callL T 40 [own2 id g n cap, iv (A.length : Int), iv ((A.length + S.length : Nat) : Int), fv] σ = some (v, σ') ∧ R v σ' by
    rw [hRd] at hh
    exact hh
  refine call_shared T40 rfl rfl ?_
  have hAb : A.length + S.length + B.length = n := by rw [← hn]; simp; omega
  have w0 : IntKind.i64.wrap ((A.length : Int) + 1) = ((A.length + 1 : Nat) : Int) := wrapN _ (by omega) (by omega)
  by_cases hS : S = []
  · subst hS
    have hlt : ¬ ((A.length + 1 : Nat) : Int) < ((A.length + ([] : List α).length : Nat) : Int) := by simp; omega
    obtain ⟨m, hm⟩ : ∃ m, 1 = m := ⟨_, rfl⟩
    generalize hJ : ((A.length + 1 : Nat) : Int) = J at *
    generalize ((A.length + ([] : List α).length : Nat) : Int) = K at *
    simp [w0]
    refine wpc_up 0 (fun r st => ∃ e Lo, st = ⟨e, Lo, σ⟩ ∧ look e 8 = some (iv J) ∧ look e 2 = some (iv K)) ⟨_, _, rfl, by simp, by simp⟩ ?_
    rintro r st ⟨e, Lo, rfl, g8, g2⟩
    simp [k40_1, g8, g2, hlt]
    rw [hRd]
    exact ⟨rfl, [], List.Perm.refl _, ris_nil, hR, Nxt.refl _ _⟩
  have hSl : 0 < S.length := List.length_pos_iff.2 hS
  generalize hK : ((A.length + S.length : Nat) : Int) = K at *
  generalize hJ : ((A.length + 1 : Nat) : Int) = J at *
  simp [w0]
  obtain ⟨I, hI⟩ : ∃ I : Nat → St → Prop, I = (fun r st => r + 1 ≤ S.length ∧ ∃ P e Lo σ', st = ⟨e, Lo, σ'⟩ ∧ P.length = r + 1 ∧ P.Perm (S.take (r + 1)) ∧ Ris key P ∧ RowV E (A ++ P ++ (S.drop (r + 1) ++ B)) id g σ' ∧ Nxt id σ σ'
    ∧ look e 0 = some (own2 id g n cap) ∧ look e 1 = some (iv (A.length : Int)) ∧ look e 2 = some (iv K) ∧ look e 3 = some fv ∧ look e 8 = some (iv ((A.length + (r + 1) : Nat) : Int))) := ⟨_, rfl⟩
  refine wpc_up S.length I ?_ ?_
  · rw [hI]
    refine ⟨by omega, S.take 1, _, _, σ, rfl, by rw [List.length_take]; omega, List.Perm.refl _, ?_, ?_, Nxt.refl _ _, by simp, by simp, by simp, by simp, by simp [← hJ]⟩
    · match S, hS with
      | s :: S', _ => exact ris_one s
    · have : A ++ S.take (0 + 1) ++ (S.drop (0 + 1) ++ B) = A ++ S ++ B := by
        rw [List.append_assoc, ← List.append_assoc (S.take _), List.take_append_drop, List.append_assoc]
      rw [this]
      exact hR
  intro r st hIs
  rw [hI] at hIs
  obtain ⟨hr, P, e, Lo, σ', rfl, hP, hPp, hPs, hR', hN, g0, g1, g2, g3, g8⟩ := hIs
  by_cases hlt : r + 1 < S.length
  · have hlt' : ((A.length + (r + 1) : Nat) : Int) < K := by rw [← hK]; omega
    obtain ⟨x, hx⟩ := some_at hlt
    have w2 : IntKind.i64.wrap (((A.length + (r + 1) : Nat) : Int) + 1) = ((A.length + (r + 1 + 1) : Nat) : Int) := wrapN _ (by omega) (by omega)
    rw [drop_at hx] at hR'
    have hR2 : RowV E (A ++ P ++ x :: (S.drop (r + 1 + 1) ++ B)) id g σ' := by simpa using hR'
    have hlen : (A ++ P ++ x :: (S.drop (r + 1 + 1) ++ B)).length = n := by
      rw [← hAb]; simp [hP]; omega
    have key' : ∀ e' Lo' σ'' P', Ris key P' → P'.Perm (P ++ [x]) → RowV E (A ++ P' ++ (S.drop (r + 1 + 1) ++ B)) id g σ'' → Nxt id σ' σ'' → look e' 0 = some (own2 id g n cap) → look e' 1 = some (iv (A.length : Int)) → look e' 2 = some (iv K) → look e' 3 = some fv → look e' 8 = some (iv ((A.length + (r + 1 + 1) : Nat) : Int)) → r < S.length ∧ I (r + 1) ⟨e', Lo', σ''⟩ := by
      intro e' Lo' σ'' P' h1 h2 h3 h4 f0 f1 f2 f3 f8
      refine ⟨by omega, ?_⟩
      rw [hI]
      refine ⟨by omega, P', e', Lo', σ'', rfl, ?_, ?_, h1, h3, hN.trans h4, f0, f1, f2, f3, f8⟩
      · rw [h2.length_eq]; simp [hP]
      · rw [take_snoc hx]
        exact h2.trans (hPp.append_right _)
    have hin := fun e Lo Q => ins_innerP (e := e) (Lo := Lo) (Q := Q) (u2 := iv K) (u8 := iv ((A.length + (r + 1) : Nat) : Int)) (cap := cap) hE hO hC hlen hb hPs hR2
    rw [hP] at hin
    generalize hJ1 : ((A.length + (r + 1) : Nat) : Int) = J1 at *
    generalize hJ2 : ((A.length + (r + 1 + 1) : Nat) : Int) = J2 at *
    simp [k40_1, g2, g8, hlt', k40_3]
    refine hin _ _ _ ?_ ?_ ?_ ?_ ?_ ?_ ?_
    rotate_right
    · intro e' L' σ'' P' h1 h2 h3 h4 f0 f1 f2 f3 f8
      simp [k40_8, f8, w2]
      refine key' _ _ _ P' h1 h2 h3 h4 ?_ ?_ ?_ ?_ ?_ <;> simp [f0, f1, f2, f3]
    all_goals simp [g0, g1, g2, g3, g8]
  · have hlt' : ¬ ((A.length + (r + 1) : Nat) : Int) < K := by rw [← hK]; omega
    have hr1 : r + 1 = S.length := by omega
    generalize hJ1 : ((A.length + (r + 1) : Nat) : Int) = J1 at *
    simp [k40_1, g2, g8, hlt']
    rw [hRd]
    refine ⟨rfl, P, ?_, hPs, ?_, hN⟩
    · rw [hr1, List.take_length] at hPp
      exact hPp
    · rw [hr1, List.drop_length, List.nil_append] at hR'
      exact hR'
end
end Go.Proofs.Ytodgdmhifbnofaa.AM.Sn
end
section
set_option maxRecDepth 1000000
set_option linter.unusedVariables false
set_option linter.unusedSimpArgs false
namespace Go.Proofs.Ytodgdmhifbnofaa.AM.Sn
open Go.Proofs
theorem loop_step {T : FTab} {a : HCode} {s : St} {Q : Out → St → Prop} (h : wpc T a s (thenN (fun s' => Wp T (.loop a) s' Q) Q)) : Wp T (.loop a) s Q := by
  obtain ⟨o, s', e, q⟩ := wpc_ok _ _ _ h
  cases o with
  | normal =>
    obtain ⟨o', s2, e', q'⟩ := q
    exact ⟨o', s2, ex_loop e e', q'⟩
  | exit i => exact ⟨_, _, ex_loop_out e (by simp), q⟩
  | ret => exact ⟨_, _, ex_loop_out e (by simp), q⟩
theorem leq_i (a b : Int) : opBin .other .leq (iv a) (iv b) = some (bv (decide (a ≤ b))) := rfl
section
variable {α : Type} {E : α → List V} {key : α → List UInt8} {fv : V} {id g n : Nat} {cap : Option Nat}
theorem stable_ok (hE : ∀ a, (E a).length = 2) (hO : ∀ a, (E a).all oneV = true) (hC : CmpOk E key fv) {l : List α} {σ : Store} (hn : l.length = n) (hb : n ≤ 30) (hR : RowV E l id g σ) :
    ∃ l' σ', callL T 25 [own2 id g n cap, iv (n : Int), fv] σ = some (.tr (.tup []), σ') ∧ l'.Perm l ∧ Ris key l' ∧ RowV E l' id g σ' ∧ Nxt id σ σ' := by
  obtain ⟨R0, hRd⟩ : ∃ R0 : V → Store → Prop, R0 = (fun v σ' => v = .tr (.tup []) ∧ ∃ l', l'.Perm l ∧ Ris key l' ∧ RowV E l' id g σ' ∧ Nxt id σ σ') := ⟨_, rfl⟩
  suffices hh : ∃ v σ', callL T 25 [own2 id g n cap, iv (n : Int), fv] σ = some (v, σ') ∧ R0 v σ' by
    rw [hRd] at hh
    obtain ⟨v, σ', h, rfl, l', h2⟩ := hh
    exact ⟨l', σ', h, h2⟩
  refine call_shared T25 rfl rfl ?_
  have w40 : IntKind.i64.wrap 40 = 40 := by decide
  have w20 : IntKind.i64.wrap 20 = 20 := by decide
  have w402 : IntKind.i64.wrap (2 * 20) = 40 := by decide
  have w020 : IntKind.i64.wrap (0 + 20) = 20 := by decide
  have w403 : IntKind.i64.wrap (20 * 2) = 40 := by decide
  by_cases h20 : n < 20
  · have a1 : ¬ (20 : Int) ≤ (n : Int) := by omega
    have a2 : ¬ (20 : Int) < (n : Int) := by omega
    obtain ⟨S', σ', hc, hp, hs, hR', hN⟩ := ins_ok (cap := cap) (A := []) (S := l) (B := []) hE hO hC (by simpa using hn) (by omega) (by simpa using hR)
    have hc : callL T 37 [own2 id g n cap, iv 0, iv (n : Int), fv] σ = some (.tr (.tup []), σ') := by
      have e : (([] : List α).length + l.length : Nat) = n := by simp [hn]
      rw [e] at hc
      exact hc
    generalize (n : Int) = z at *
    simp
    refine loop_step ?_
    simp [k25_2, leq_i, a1, k25_6, hc]
    refine loop_step ?_
    simp [k25_8, a2]
    rw [hRd]
    exact ⟨rfl, S', hp, hs, by simpa using hR', hN⟩
  · have a1 : (20 : Int) ≤ (n : Int) := by omega
    have a3 : ¬ (40 : Int) ≤ (n : Int) := by omega
    have a4 : ¬ (40 : Int) < (n : Int) := by omega
    have l1 : (l.take 20).length = 20 := by rw [List.length_take]; omega
    obtain ⟨S1, σ1, hc1, hp1, hs1, hR1, hN1⟩ := ins_ok (cap := cap) (A := []) (S := l.take 20) (B := l.drop 20) hE hO hC (by simp; omega) (by omega) (by simpa using hR)
    have ls1 : S1.length = 20 := by rw [hp1.length_eq]; exact l1
    have hc1 : callL T 37 [own2 id g n cap, iv 0, iv 20, fv] σ = some (.tr (.tup []), σ1) := by
      rw [l1] at hc1
      exact hc1
    obtain ⟨S2, σ2, hc2, hp2, hs2, hR2, hN2⟩ := ins_ok (n := n) (cap := cap) (A := S1) (S := l.drop 20) (B := []) hE hO hC (by rw [List.append_nil, List.length_append, ls1, List.length_drop]; omega) (by omega) (by simpa using hR1)
    have ls2 : S2.length = n - 20 := by rw [hp2.length_eq, List.length_drop, hn]
    have hc2 : callL T 37 [own2 id g n cap, iv 20, iv (n : Int), fv] σ1 = some (.tr (.tup []), σ2) := by
      rw [ls1, List.length_drop, show 20 + (l.length - 20) = n by omega] at hc2
      exact hc2
    have hp12 : (S1 ++ S2).Perm l := by
      have := hp1.append hp2
      rwa [List.take_append_drop] at this
    by_cases h21 : 20 < n
    · have a2 : (20 : Int) < (n : Int) := by omega
      have hsym := sym_ok (E := E) (key := key) (fv := fv) (id := id) (g := g) (n := n) (cap := cap) hE hO hC (S1.length + S2.length) [] S1 S2 [] rfl (by rintro rfl; simp at ls1) (by rintro rfl; simp at ls2; omega) hs1 hs2 (by simp [ls1, ls2]; omega) (by omega)
      obtain ⟨S', σ', hc, hp, hs, hR', hN⟩ := hsym σ2 0 20 n rfl (by simp [ls1]) (by simp [ls1, ls2]; omega) (by simpa using hR2)
      have hc : callL T 38 [own2 id g n cap, iv 0, iv 20, iv (n : Int), fv] σ2 = some (.tr (.tup []), σ') := hc
      generalize (n : Int) = z at *
      simp
      refine loop_step ?_
      simp [k25_2, leq_i, a1, k25_4, hc1, w40, w20]
      refine loop_step ?_
      simp [k25_2, leq_i, a3, k25_6, hc2]
      refine loop_step ?_
      simp [k25_8, a2, k25_10, w402, w40, w20]
      refine loop_step ?_
      simp [k25_12, leq_i, a3, k25_16, w020, w20, a2, hc, k25_19, w403, w40, w20]
      refine loop_step ?_
      simp [k25_8, a4]
      rw [hRd]
      exact ⟨rfl, S', hp.trans hp12, hs, by simpa using hR', (hN1.trans hN2).trans hN⟩
    · have a2 : ¬ (20 : Int) < (n : Int) := by omega
      have hS2 : S2 = [] := List.length_eq_zero_iff.1 (by omega)
      subst hS2
      generalize (n : Int) = z at *
      simp
      refine loop_step ?_
      simp [k25_2, leq_i, a1, k25_4, hc1, w40, w20]
      refine loop_step ?_
      simp [k25_2, leq_i, a3, k25_6, hc2]
      refine loop_step ?_
      simp [k25_8, a2]
      rw [hRd]
      exact ⟨rfl, S1, by simpa using hp12, hs1, by simpa using hR2, hN1.trans hN2⟩
theorem sortF_ok (hE : ∀ a, (E a).length = 2) (hO : ∀ a, (E a).all oneV = true) (hC : CmpOk E key fv) {l : List α} {σ : Store} (hn : l.length = n) (hb : n ≤ 30) (hR : RowV E l id g σ) :
    ∃ l' σ', callL T 12 [own2 id g n cap, fv] σ = some (.tr (.tup []), σ') ∧ l'.Perm l ∧ Ris key l' ∧ RowV E l' id g σ' ∧ Nxt id σ σ' := by
  obtain ⟨l', σ', hc, h⟩ := stable_ok (cap := cap) hE hO hC hn hb hR
  suffices hh : ∃ v σ'', callL T 12 [own2 id g n cap, fv] σ = some (v, σ'') ∧ v = .tr (.tup []) ∧ σ'' = σ' by
    obtain ⟨v, σ'', h1, rfl, rfl⟩ := hh
    exact ⟨l', σ'', h1, h⟩
  refine call_shared T12 rfl rfl ?_
  have hl : ∀ σ, opLen 1 (own2 id g n cap) σ = some (iv (n : Int)) := fun σ => rfl
  simp [hl, hc]
  rfl
theorem sortP_ok (hE : ∀ a, (E a).length = 2) (hO : ∀ a, (E a).all oneV = true) (hC : CmpOk E key fv) {l : List α} {σ : Store} (hn : l.length = n) (hb : n < 20) (hR : RowV E l id g σ) :
    ∃ l' σ', callL T 15 [own2 id g n cap, fv] σ = some (.tr (.tup []), σ') ∧ l'.Perm l ∧ Ris key l' ∧ RowV E l' id g σ' ∧ Nxt id σ σ' := by
  have hst : ∃ l' σ', callL T 27 [own2 id g n cap, iv (n : Int), fv] σ = some (.tr (.tup []), σ') ∧ l'.Perm l ∧ Ris key l' ∧ RowV E l' id g σ' ∧ Nxt id σ σ' := by
    obtain ⟨R0, hRd⟩ : ∃ R0 : V → Store → Prop, R0 = (fun v σ' => v = .tr (.tup []) ∧ ∃ l', l'.Perm l ∧ Ris key l' ∧ RowV E l' id g σ' ∧ Nxt id σ σ') := ⟨_, rfl⟩
    suffices hh : ∃ v σ', callL T 27 [own2 id g n cap, iv (n : Int), fv] σ = some (v, σ') ∧ R0 v σ' by
      rw [hRd] at hh
      obtain ⟨v, σ', h, rfl, l', h2⟩ := hh
      exact ⟨l', σ', h, h2⟩
    refine call_shared T27 rfl rfl ?_
    have a1 : ¬ (20 : Int) ≤ (n : Int) := by omega
    have a2 : ¬ (20 : Int) < (n : Int) := by omega
    obtain ⟨S', σ', hc, hp, hs, hR', hN⟩ := ins_okP (cap := cap) (A := []) (S := l) (B := []) hE hO hC (by simpa using hn) (by omega) (by simpa using hR)
    have hc : callL T 40 [own2 id g n cap, iv 0, iv (n : Int), fv] σ = some (.tr (.tup []), σ') := by
      have e : (([] : List α).length + l.length : Nat) = n := by simp [hn]
      rw [e] at hc
      exact hc
    generalize (n : Int) = z at *
    simp
    refine loop_step ?_
    simp [k27_2, leq_i, a1, k27_6, hc]
    refine loop_step ?_
    simp [k27_8, a2]
    rw [hRd]
    exact ⟨rfl, S', hp, hs, by simpa using hR', hN⟩
  obtain ⟨l', σ', hc, h⟩ := hst
  suffices hh : ∃ v σ'', callL T 15 [own2 id g n cap, fv] σ = some (v, σ'') ∧ v = .tr (.tup []) ∧ σ'' = σ' by
    obtain ⟨v, σ'', h1, rfl, rfl⟩ := hh
    exact ⟨l', σ'', h1, h⟩
  refine call_shared T15 rfl rfl ?_
  have hl : ∀ σ, opLen 1 (own2 id g n cap) σ = some (iv (n : Int)) := fun σ => rfl
  simp [hl, hc]
  rfl
end
end Go.Proofs.Ytodgdmhifbnofaa.AM.Sn
end
