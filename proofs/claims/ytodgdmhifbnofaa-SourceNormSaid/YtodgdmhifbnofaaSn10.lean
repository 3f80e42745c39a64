/- the packages: parts 10, 11, 12, 13. -/
import Derived.Test.YtodgdmhifbnofaaSn6
set_option linter.unusedSectionVars false
section
set_option maxRecDepth 1000000
set_option linter.unusedVariables false
set_option linter.unusedSimpArgs false
namespace Go.Proofs.Ytodgdmhifbnofaa.AM.Sn
open Go.Proofs
section
variable {α : Type} {E : α → List V} {key : α → List UInt8} {fv : V} {id g n : Nat} {cap : Option Nat}
theorem sh1 (hE : ∀ a, (E a).length = 2) (hO : ∀ a, (E a).all oneV = true) {A R1 B : List α} {x : α} {i : Nat} {σ : Store} {e Lo : List (Nat × V)} {Q : Out → St → Prop}
    (hn : (A ++ x :: (R1 ++ B)).length = n) (hb : n ≤ 1000) (hi : A.length + 1 + R1.length = i) (hR : RowV E (A ++ x :: (R1 ++ B)) id g σ)
    (g0 : look e 0 = some (own2 id g n cap)) (g10 : look e 10 = some (iv (i : Int))) (g13 : look e 13 = some (iv (A.length : Int)))
    (hQ : ∀ e' L' σ', RowV E (A ++ R1 ++ x :: B) id g σ' → Nxt id σ σ' → Q (.exit 2) ⟨e', L', σ'⟩) :
    Wp T (.loop k38_11) ⟨e, Lo, σ⟩ Q := by
  obtain ⟨I, hI⟩ : ∃ I : Nat → St → Prop, I = (fun r st => r ≤ R1.length ∧ ∃ e Lo σ', st = ⟨e, Lo, σ'⟩ ∧ RowV E (A ++ R1.take r ++ x :: (R1.drop r ++ B)) id g σ' ∧ Nxt id σ σ'
    ∧ look e 0 = some (own2 id g n cap) ∧ look e 10 = some (iv (i : Int)) ∧ look e 13 = some (iv ((A.length + r : Nat) : Int))) := ⟨_, rfl⟩
  refine wpc_up R1.length I ?_ ?_
  · rw [hI]
    exact ⟨by omega, e, Lo, σ, rfl, by simpa using hR, Nxt.refl _ _, g0, g10, g13⟩
  clear g0 g10 g13 hR
  intro r st hIs
  rw [hI] at hIs
  obtain ⟨hr, e, Lo, σ', rfl, hR, hN, g0, g10, g13⟩ := hIs
  have hnl : A.length + 1 + R1.length + B.length = n := by rw [← hn]; simp; omega
  have w1 : IntKind.i64.wrap ((i : Int) - 1) = ((A.length + R1.length : Nat) : Int) := wrapN _ (by omega) (by omega)
  by_cases hlt : r < R1.length
  · have hlt' : ((A.length + r : Nat) : Int) < ((A.length + R1.length : Nat) : Int) := by omega
    obtain ⟨y, hy⟩ := some_at hlt
    have e1 : A ++ R1.take r ++ x :: (R1.drop r ++ B) = (A ++ R1.take r) ++ x :: ([] ++ y :: (R1.drop (r + 1) ++ B)) := by rw [drop_at hy]; simp
    rw [e1] at hR
    have hh : (A ++ R1.take r).length = A.length + r := by rw [List.length_append, List.length_take]; omega
    have hlen : ((A ++ R1.take r) ++ x :: ([] ++ y :: (R1.drop (r + 1) ++ B))).length = n := by
      simp only [List.length_append, List.length_cons, List.length_nil, List.length_drop, List.length_take]
      omega
    obtain ⟨hia, hl1, hl2, σ1, σ2, hs1, hs2, hR1, hR2, hN2⟩ := far_facts (cap := cap) (i := A.length + r) (j := A.length + r + 1) hE hO hR hlen hh (by rw [hh]; rfl)
    have i0 := hia _ ⟨_, hR⟩
    have i1 := hia _ hR1
    have w2 : IntKind.i64.wrap (((A.length + r : Nat) : Int) + 1) = ((A.length + r + 1 : Nat) : Int) := wrapN _ (by omega) (by omega)
    have key' : ∀ e' Lo', look e' 0 = some (own2 id g n cap) → look e' 10 = some (iv (i : Int)) → look e' 13 = some (iv ((A.length + r + 1 : Nat) : Int)) → r < R1.length ∧ I (r + 1) ⟨e', Lo', σ2⟩ := by
      intro e' Lo' f0 f10 f13
      refine ⟨hlt, ?_⟩
      rw [hI]
      refine ⟨by omega, e', Lo', σ2, rfl, ?_, hN.trans hN2, f0, f10, f13⟩
      have e2 : A ++ R1.take (r + 1) ++ x :: (R1.drop (r + 1) ++ B) = (A ++ R1.take r) ++ y :: ([] ++ x :: (R1.drop (r + 1) ++ B)) := by rw [take_snoc hy]; simp
      rw [e2]
      exact hR2
    generalize mkAgg (E x) = vx, mkAgg (E y) = vy at *
    generalize ((A.length + r : Nat) : Int) = k0 at *
    generalize ((A.length + r + 1 : Nat) : Int) = k1 at *
    generalize ((A.length + R1.length : Nat) : Int) = kl at *
    simp [k38_11, g0, g10, g13, w1, hlt', k38_13, w2, i0.1, i0.2, hl1, hl2, hs1, i1.1, i1.2, hs2]
    refine key' _ _ ?_ ?_ ?_ <;> simp [g0, g10]
  · have hlt' : ¬ ((A.length + r : Nat) : Int) < ((A.length + R1.length : Nat) : Int) := by omega
    generalize ((A.length + r : Nat) : Int) = k0 at *
    generalize ((A.length + R1.length : Nat) : Int) = kl at *
    simp [k38_11, g10, g13, w1, hlt']
    refine hQ _ _ _ ?_ hN
    rw [List.take_of_length_le (by omega), List.drop_of_length_le (by omega)] at hR
    simpa using hR
theorem sh2 (hE : ∀ a, (E a).length = 2) (hO : ∀ a, (E a).all oneV = true) {H L2 B : List α} {x : α} {i : Nat} {σ : Store} {e Lo : List (Nat × V)} {Q : Out → St → Prop}
    (hn : (H ++ L2 ++ x :: B).length = n) (hb : n ≤ 1000) (hi : H.length = i) (hR : RowV E (H ++ L2 ++ x :: B) id g σ)
    (g0 : look e 0 = some (own2 id g n cap)) (g14 : look e 14 = some (iv (i : Int))) (g17 : look e 17 = some (iv ((H.length + L2.length : Nat) : Int)))
    (hQ : ∀ e' L' σ', RowV E (H ++ x :: (L2 ++ B)) id g σ' → Nxt id σ σ' → Q (.exit 6) ⟨e', L', σ'⟩) :
    Wp T (.loop k38_26) ⟨e, Lo, σ⟩ Q := by
  obtain ⟨I, hI⟩ : ∃ I : Nat → St → Prop, I = (fun r st => ∃ Q1 Q2 e Lo σ', st = ⟨e, Lo, σ'⟩ ∧ L2 = Q1 ++ Q2 ∧ Q2.length = r ∧ RowV E (H ++ Q1 ++ x :: (Q2 ++ B)) id g σ' ∧ Nxt id σ σ'
    ∧ look e 0 = some (own2 id g n cap) ∧ look e 14 = some (iv (i : Int)) ∧ look e 17 = some (iv ((H.length + Q1.length : Nat) : Int))) := ⟨_, rfl⟩
  refine wpc_up L2.length I ?_ ?_
  · rw [hI]
    exact ⟨L2, [], e, Lo, σ, rfl, by simp, rfl, hR, Nxt.refl _ _, g0, g14, g17⟩
  clear g0 g14 g17 hR
  intro r st hIs
  rw [hI] at hIs
  obtain ⟨Q1, Q2, e, Lo, σ', rfl, hL, hr, hR, hN, g0, g14, g17⟩ := hIs
  have hnl : H.length + L2.length + 1 + B.length = n := by rw [← hn]; simp; omega
  have hLl : L2.length = Q1.length + Q2.length := by rw [hL]; simp
  by_cases hQ1 : Q1 = []
  · subst hQ1
    have hng : ¬ (i : Int) < ((H.length + ([] : List α).length : Nat) : Int) := by simp; omega
    generalize ((H.length + ([] : List α).length : Nat) : Int) = jj at *
    simp [k38_26, g14, g17, hng]
    refine hQ _ _ _ ?_ hN
    rw [hL]
    simpa using hR
  · obtain ⟨Q1', y, rfl⟩ := snoc_of hQ1
    have e1 : H ++ (Q1' ++ [y]) ++ x :: (Q2 ++ B) = (H ++ Q1') ++ y :: x :: (Q2 ++ B) := by simp
    rw [e1] at hR
    simp only [List.length_append, List.length_cons, List.length_nil] at hLl
    have hlen : ((H ++ Q1') ++ y :: x :: (Q2 ++ B)).length = n := by simp; omega
    obtain ⟨hia, hld, σ1, σ2, hs1, hs2, hR1, hR2, hN2⟩ := adj_facts (cap := cap) hE hO hR hlen
    have hh : (H ++ Q1').length = H.length + Q1'.length := List.length_append
    have hh2 : H.length + (Q1' ++ [y]).length = (H ++ Q1').length + 1 := by simp; omega
    rw [hh2] at g17
    have hgt : (i : Int) < (((H ++ Q1').length + 1 : Nat) : Int) := by rw [hh]; omega
    have w1 : IntKind.i64.wrap ((((H ++ Q1').length + 1 : Nat) : Int) - 1) = ((H ++ Q1').length : Int) := wrapN _ (by omega) (by rw [hh]; omega)
    have hia0 := hia σ' ⟨_, hR⟩
    have hia1 := hia σ1 ⟨_, hR1⟩
    have hld0 := hld []
    rw [List.append_nil] at hld0
    generalize hJ : (H ++ Q1').length = J at *
    generalize hJ1 : ((J + 1 : Nat) : Int) = J1 at *
    have key' : ∀ e' Lo', look e' 0 = some (own2 id g n cap) → look e' 14 = some (iv (i : Int)) → look e' 17 = some (iv (J : Int)) → r < L2.length ∧ I (r + 1) ⟨e', Lo', σ2⟩ := by
      intro e' Lo' f0 f14 f17
      refine ⟨by omega, ?_⟩
      rw [hI]
      refine ⟨Q1', y :: Q2, e', Lo', σ2, rfl, by rw [hL]; simp, by simp [hr], ?_, hN.trans hN2, f0, f14, ?_⟩
      · have e2 : H ++ Q1' ++ x :: (y :: Q2 ++ B) = (H ++ Q1') ++ x :: y :: (Q2 ++ B) := by simp
        rw [e2]
        exact hR2
      · rw [← hh]; exact f17
    generalize mkAgg (E x) = vx, mkAgg (E y) = vy at *
    simp [k38_26, g0, g14, g17, hgt, k38_28, w1, hia0.1, hia0.2, hld0.1, hld0.2, hs1, hia1.1, hia1.2, hs2]
    refine key' _ _ ?_ ?_ ?_ <;> simp [g0, g14]
end
end Go.Proofs.Ytodgdmhifbnofaa.AM.Sn
end
section
set_option maxRecDepth 1000000
set_option linter.unusedVariables false
set_option linter.unusedSimpArgs false
namespace Go.Proofs.Ytodgdmhifbnofaa.AM.Sn
open Go.Proofs
section
variable {α : Type} {E : α → List V} {key : α → List UInt8} {fv : V} {id g n : Nat} {cap : Option Nat}
def SymAt (E : α → List V) (key : α → List UInt8) (fv : V) (id g n : Nat) (cap : Option Nat) (A L R B : List α) : Prop :=
  ∀ σ a m b, A.length = a → A.length + L.length = m → A.length + L.length + R.length = b → RowV E (A ++ L ++ R ++ B) id g σ →
    ∃ S' σ', callL T 38 [own2 id g n cap, iv ((a : Nat) : Int), iv ((m : Nat) : Int), iv ((b : Nat) : Int), fv] σ = some (.tr (.tup []), σ') ∧ S'.Perm (L ++ R) ∧ Ris key S' ∧ RowV E (A ++ S' ++ B) id g σ' ∧ Nxt id σ σ'
theorem st48 {H L2 R2 B : List α} {mid en b : Nat} {σ : Store} {e Lo : List (Nat × V)} {Q : Out → St → Prop} (hH : H.length = mid) (hL : mid + L2.length = en) (hRl : en + R2.length = b)
    (hs1 : Ris key L2) (hs2 : Ris key R2) (ih : L2 ≠ [] → R2 ≠ [] → SymAt E key fv id g n cap H L2 R2 B) (hR : RowV E (H ++ L2 ++ R2 ++ B) id g σ)
    (g0 : look e 0 = some (own2 id g n cap)) (g3 : look e 3 = some (iv (b : Int))) (g4 : look e 4 = some fv) (g18 : look e 18 = some (iv (mid : Int))) (g24 : look e 24 = some (iv (en : Int)))
    (hQ : ∀ e' L' σ' S', S'.Perm (L2 ++ R2) → Ris key S' → RowV E (H ++ S' ++ B) id g σ' → Nxt id σ σ' → Q .normal ⟨e', L', σ'⟩) :
    wpc T k38_48 ⟨e, Lo, σ⟩ Q := by
  by_cases h1 : mid < en
  · have h1' : (mid : Int) < (en : Int) := by omega
    by_cases h2 : en < b
    · have h2' : (en : Int) < (b : Int) := by omega
      obtain ⟨S', σ', hc, hp, hs, hR', hN⟩ := ih (by rintro rfl; simp at hL; omega) (by rintro rfl; simp at hRl; omega) σ mid en b hH (by omega) (by omega) hR
      generalize (mid : Int) = z1 at *
      generalize (en : Int) = z2 at *
      generalize (b : Int) = z3 at *
      simp [k38_48, g0, g3, g4, g18, g24, h1', h2', hc]
      exact hQ _ _ _ S' hp hs hR' hN
    · have h2' : ¬ (en : Int) < (b : Int) := by omega
      have hR2 : R2 = [] := List.length_eq_zero_iff.1 (by omega)
      subst hR2
      generalize (mid : Int) = z1 at *
      generalize (en : Int) = z2 at *
      generalize (b : Int) = z3 at *
      simp [k38_48, g0, g3, g4, g18, g24, h1', h2']
      exact hQ _ _ _ L2 (by simp) hs1 (by simpa using hR) (Nxt.refl _ _)
  · have h1' : ¬ (mid : Int) < (en : Int) := by omega
    have hL2 : L2 = [] := List.length_eq_zero_iff.1 (by omega)
    subst hL2
    generalize (mid : Int) = z1 at *
    generalize (en : Int) = z2 at *
    simp [k38_48, g0, g3, g4, g18, g24, h1']
    exact hQ _ _ _ R2 (by simp) hs2 (by simpa using hR) (Nxt.refl _ _)
theorem st46 {A L1 R1 L2 R2 B : List α} {a st mid en b : Nat} {σ : Store} {e Lo : List (Nat × V)} {Q : Out → St → Prop} (hA : A.length = a) (hL1 : a + L1.length = st) (hR1 : st + R1.length = mid) (hL : mid + L2.length = en) (hRl : en + R2.length = b)
    (hs1 : Ris key L1) (hs2 : Ris key R1) (hs3 : Ris key L2) (hs4 : Ris key R2) (ih1 : L1 ≠ [] → R1 ≠ [] → SymAt E key fv id g n cap A L1 R1 (L2 ++ R2 ++ B)) (ih2 : ∀ H : List α, H.length = mid → L2 ≠ [] → R2 ≠ [] → SymAt E key fv id g n cap H L2 R2 B)
    (hR : RowV E (A ++ L1 ++ R1 ++ (L2 ++ R2 ++ B)) id g σ)
    (g0 : look e 0 = some (own2 id g n cap)) (g1 : look e 1 = some (iv (a : Int))) (g3 : look e 3 = some (iv (b : Int))) (g4 : look e 4 = some fv) (g18 : look e 18 = some (iv (mid : Int))) (g20 : look e 20 = some (iv (st : Int))) (g24 : look e 24 = some (iv (en : Int)))
    (hQ : ∀ e' L' σ' S1 S2, S1.Perm (L1 ++ R1) → S2.Perm (L2 ++ R2) → Ris key S1 → Ris key S2 → RowV E (A ++ S1 ++ S2 ++ B) id g σ' → Nxt id σ σ' → Q .normal ⟨e', L', σ'⟩) :
    wpc T k38_46 ⟨e, Lo, σ⟩ Q := by
  have next : ∀ (e' L' : List (Nat × V)) σ' S1, S1.Perm (L1 ++ R1) → Ris key S1 → RowV E (A ++ S1 ++ (L2 ++ R2 ++ B)) id g σ' → Nxt id σ σ' → look e' 0 = some (own2 id g n cap) → look e' 3 = some (iv (b : Int)) → look e' 4 = some fv → look e' 18 = some (iv (mid : Int)) → look e' 24 = some (iv (en : Int)) → wpc T k38_48 ⟨e', L', σ'⟩ Q := by
    intro e' L' σ' S1 hp hs hR' hN f0 f3 f4 f18 f24
    have hl : (A ++ S1).length = mid := by rw [List.length_append, hp.length_eq, List.length_append]; omega
    refine st48 (H := A ++ S1) hl hL hRl hs3 hs4 (ih2 _ hl) (by simpa using hR') f0 f3 f4 f18 f24 ?_
    intro e2 L2' σ2 S2 hp2 hs2' hR2 hN2
    exact hQ _ _ _ S1 S2 hp hp2 hs hs2' hR2 (hN.trans hN2)
  by_cases h1 : a < st
  · have h1' : (a : Int) < (st : Int) := by omega
    by_cases h2 : st < mid
    · have h2' : (st : Int) < (mid : Int) := by omega
      obtain ⟨S', σ', hc, hp, hs, hR', hN⟩ := ih1 (by rintro rfl; simp at hL1; omega) (by rintro rfl; simp at hR1; omega) σ a st mid hA (by omega) (by omega) hR
      generalize (a : Int) = z1 at *
      generalize (st : Int) = z2 at *
      generalize (mid : Int) = z3 at *
      simp [k38_46, g0, g1, g4, g18, g20, h1', h2', hc]
      exact next _ _ _ S' hp hs hR' hN g0 g3 g4 g18 g24
    · have h2' : ¬ (st : Int) < (mid : Int) := by omega
      have hR2 : R1 = [] := List.length_eq_zero_iff.1 (by omega)
      subst hR2
      generalize (a : Int) = z1 at *
      generalize (st : Int) = z2 at *
      generalize (mid : Int) = z3 at *
      simp [k38_46, g0, g1, g4, g18, g20, h1', h2']
      exact next _ _ _ L1 (by simp) hs1 (by simpa using hR) (Nxt.refl _ _) g0 g3 g4 g18 g24
  · have h1' : ¬ (a : Int) < (st : Int) := by omega
    have hL2 : L1 = [] := List.length_eq_zero_iff.1 (by omega)
    subst hL2
    generalize (a : Int) = z1 at *
    generalize (st : Int) = z2 at *
    simp [k38_46, g0, g1, g4, g18, g20, h1']
    exact next _ _ _ R1 (by simp) hs2 (by simpa using hR) (Nxt.refl _ _) g0 g3 g4 g18 g24
end
end Go.Proofs.Ytodgdmhifbnofaa.AM.Sn
end
section
set_option maxRecDepth 1000000
set_option linter.unusedVariables false
set_option linter.unusedSimpArgs false
namespace Go.Proofs.Ytodgdmhifbnofaa.AM.Sn
open Go.Proofs
section
variable {α : Type} {E : α → List V} {key : α → List UInt8} {fv : V} {id g n : Nat} {cap : Option Nat}
theorem st43 (hE : ∀ a, (E a).length = 2) (hO : ∀ a, (E a).all oneV = true) {A L1 R1 L2 R2 B : List α} {a st m mid en b nn : Nat} {σ : Store} {e Lo : List (Nat × V)} {Q : Out → St → Prop} (hA : A.length = a) (hL1 : a + L1.length = st) (hR1 : st + R1.length = mid) (hL : mid + L2.length = en) (hRl : en + R2.length = b) (hm : st + L2.length = m) (hnn : nn = st + en)
    (hlen : (A ++ L1 ++ L2 ++ R1 ++ R2 ++ B).length = n) (hb : n ≤ 1000)
    (hs1 : Ris key L1) (hs2 : Ris key R1) (hs3 : Ris key L2) (hs4 : Ris key R2) (ih1 : L1 ≠ [] → R1 ≠ [] → SymAt E key fv id g n cap A L1 R1 (L2 ++ R2 ++ B)) (ih2 : ∀ H : List α, H.length = mid → L2 ≠ [] → R2 ≠ [] → SymAt E key fv id g n cap H L2 R2 B)
    (hR : RowV E (A ++ L1 ++ L2 ++ R1 ++ R2 ++ B) id g σ)
    (g0 : look e 0 = some (own2 id g n cap)) (g1 : look e 1 = some (iv (a : Int))) (g2 : look e 2 = some (iv (m : Int))) (g3 : look e 3 = some (iv (b : Int))) (g4 : look e 4 = some fv) (g18 : look e 18 = some (iv (mid : Int))) (g19 : look e 19 = some (iv (nn : Int))) (g20 : look e 20 = some (iv (st : Int)))
    (hQ : ∀ e' L' σ' S1 S2, S1.Perm (L1 ++ R1) → S2.Perm (L2 ++ R2) → Ris key S1 → Ris key S2 → RowV E (A ++ S1 ++ S2 ++ B) id g σ' → Nxt id σ σ' → Q .normal ⟨e', L', σ'⟩) :
    wpc T k38_43 ⟨e, Lo, σ⟩ Q := by
  have hlen' : a + L1.length + L2.length + R1.length + R2.length + B.length = n := by rw [← hlen]; simp; omega
  have next : ∀ (e' L' : List (Nat × V)) σ', RowV E (A ++ L1 ++ R1 ++ (L2 ++ R2 ++ B)) id g σ' → Nxt id σ σ' → look e' 0 = some (own2 id g n cap) → look e' 1 = some (iv (a : Int)) → look e' 3 = some (iv (b : Int)) → look e' 4 = some fv → look e' 18 = some (iv (mid : Int)) → look e' 20 = some (iv (st : Int)) → look e' 24 = some (iv (en : Int)) → wpc T k38_46 ⟨e', L', σ'⟩ Q := by
    intro e' L' σ' hR' hN f0 f1 f3 f4 f18 f20 f24
    refine st46 hA hL1 hR1 hL hRl hs1 hs2 hs3 hs4 ih1 ih2 hR' f0 f1 f3 f4 f18 f20 f24 ?_
    intro e2 L2' σ2 S1 S2 p1 p2 q1 q2 hR2 hN2
    exact hQ _ _ _ S1 S2 p1 p2 q1 q2 hR2 (hN.trans hN2)
  have w1 : IntKind.i64.wrap ((nn : Int) - (st : Int)) = (en : Int) := wrapN _ (by omega) (by omega)
  by_cases h1 : st < m
  · have h1' : (st : Int) < (m : Int) := by omega
    by_cases h2 : m < en
    · have h2' : (m : Int) < (en : Int) := by omega
      have e1 : A ++ L1 ++ L2 ++ R1 ++ R2 ++ B = (A ++ L1) ++ L2 ++ R1 ++ (R2 ++ B) := by simp
      obtain ⟨σ', hc, hR', hN⟩ := rot_ok (fv := fv) (cap := cap) (A := A ++ L1) (X := L2) (Y := R1) (B := R2 ++ B) (a := st) (m := m) (b := en) hE hO (by rintro rfl; simp at hm; omega) (by rintro rfl; simp at hR1; omega) (by rw [List.length_append]; omega) (by rw [List.length_append]; omega) (by rw [List.length_append]; omega) (by rw [← e1]; exact hlen) hb (by rw [← e1]; exact hR)
      have hR2 : RowV E (A ++ L1 ++ R1 ++ (L2 ++ R2 ++ B)) id g σ' := by simpa using hR'
      generalize (st : Int) = z1 at *
      generalize (m : Int) = z2 at *
      generalize (en : Int) = z3 at *
      simp [k38_43, g0, g2, g4, g19, g20, w1, h1', h2', hc]
      refine next _ _ σ' hR2 hN ?_ ?_ ?_ ?_ ?_ ?_ ?_ <;> simp [g0, g1, g3, g4, g18, g20]
    · have h2' : ¬ (m : Int) < (en : Int) := by omega
      have hz : R1 = [] := List.length_eq_zero_iff.1 (by omega)
      subst hz
      have hR2 : RowV E (A ++ L1 ++ [] ++ (L2 ++ R2 ++ B)) id g σ := by simpa using hR
      generalize (st : Int) = z1 at *
      generalize (m : Int) = z2 at *
      generalize (en : Int) = z3 at *
      simp [k38_43, g0, g2, g4, g19, g20, w1, h1', h2']
      refine next _ _ σ hR2 (Nxt.refl _ _) ?_ ?_ ?_ ?_ ?_ ?_ ?_ <;> simp [g0, g1, g3, g4, g18, g20]
  · have h1' : ¬ (st : Int) < (m : Int) := by omega
    have hz : L2 = [] := List.length_eq_zero_iff.1 (by omega)
    subst hz
    have hR2 : RowV E (A ++ L1 ++ R1 ++ ([] ++ R2 ++ B)) id g σ := by simpa using hR
    generalize (st : Int) = z1 at *
    generalize (m : Int) = z2 at *
    generalize (en : Int) = z3 at *
    simp [k38_43, g0, g2, g4, g19, g20, w1, h1']
    refine next _ _ σ hR2 (Nxt.refl _ _) ?_ ?_ ?_ ?_ ?_ ?_ ?_ <;> simp [g0, g1, g3, g4, g18, g20]
end
end Go.Proofs.Ytodgdmhifbnofaa.AM.Sn
end
section
set_option maxRecDepth 1000000
set_option linter.unusedVariables false
set_option linter.unusedSimpArgs false
namespace Go.Proofs.Ytodgdmhifbnofaa.AM.Sn
open Go.Proofs
section
variable {α : Type} {E : α → List V} {key : α → List UInt8} {fv : V} {id g n : Nat} {cap : Option Nat}
theorem ris_le {l : List α} (h : Ris key l) {i j : Nat} {x y : α} (hij : i ≤ j) (hx : l[i]? = some x) (hy : l[j]? = some y) : bytesLt (key y) (key x) = false := by
  rcases Nat.lt_or_ge i j with h1 | h1
  · unfold Ris at h
    rw [List.pairwise_iff_getElem] at h
    have := h i j (List.getElem?_eq_some_iff.1 hx).1 (List.getElem?_eq_some_iff.1 hy).1 h1
    rwa [(List.getElem?_eq_some_iff.1 hx).2, (List.getElem?_eq_some_iff.1 hy).2] at this
  · obtain rfl : i = j := by omega
    rw [hx] at hy
    cases hy
    rw [Bool.eq_false_iff]
    intro h2
    rw [bytesLt_lt] at h2
    exact List.lt_irrefl _ h2
theorem ris_sub {l l' : List α} (h : Ris key l) (hs : l'.Sublist l) : Ris key l' := List.Pairwise.sublist hs h
theorem ris_join {l1 l2 : List α} (h1 : Ris key l1) (h2 : Ris key l2) (h : ∀ x ∈ l1, ∀ y ∈ l2, bytesLt (key y) (key x) = false) : Ris key (l1 ++ l2) := List.pairwise_append.2 ⟨h1, h2, h⟩
theorem mem_take_at {l : List α} {k : Nat} {x : α} (h : x ∈ l.take k) : ∃ i : Nat, i < k ∧ l[i]? = some x := by
  obtain ⟨i, hi⟩ := List.getElem?_of_mem h
  have hik : i < k := by
    have := (List.getElem?_eq_some_iff.1 hi).1
    rw [List.length_take] at this
    omega
  rw [List.getElem?_take_of_lt hik] at hi
  exact ⟨i, hik, hi⟩
theorem mem_drop_at {l : List α} {k : Nat} {x : α} (h : x ∈ l.drop k) : ∃ i : Nat, k ≤ i ∧ l[i]? = some x := by
  obtain ⟨i, hi⟩ := List.getElem?_of_mem h
  rw [List.getElem?_drop] at hi
  exact ⟨k + i, by omega, hi⟩
theorem at_L {A L R B : List α} {h : Nat} (h1 : A.length ≤ h) (h2 : h < A.length + L.length) : (A ++ L ++ R ++ B)[h]? = L[h - A.length]? := by
  rw [List.append_assoc, List.append_assoc, List.getElem?_append_right h1, List.getElem?_append_left (by omega)]
theorem at_R {A L R B : List α} {h : Nat} (h1 : A.length + L.length ≤ h) (h2 : h < A.length + L.length + R.length) : (A ++ L ++ R ++ B)[h]? = R[h - (A.length + L.length)]? := by
  rw [List.append_assoc, List.getElem?_append_right (by rw [List.length_append]; exact h1), List.getElem?_append_left (by rw [List.length_append]; omega), List.length_append]
theorem sym_one (hE : ∀ a, (E a).length = 2) (hO : ∀ a, (E a).all oneV = true) (hC : CmpOk E key fv) {A R B : List α} {x : α} (hs : Ris key R) (hn : (A ++ [x] ++ R ++ B).length = n) (hb : n ≤ 1000) : SymAt E key fv id g n cap A [x] R B := by
  intro σ a m b ha hm hbb hR
  obtain ⟨R0, hRd⟩ : ∃ R0 : V → Store → Prop, R0 = (fun v σ' => v = .tr (.tup []) ∧ ∃ S', S'.Perm ([x] ++ R) ∧ Ris key S' ∧ RowV E (A ++ S' ++ B) id g σ' ∧ Nxt id σ σ') := ⟨_, rfl⟩
  suffices hh : ∃ v σ', callL T 38 [own2 id g n cap, iv (a : Int), iv (m : Int), iv (b : Int), fv] σ = some (v, σ') ∧ R0 v σ' by
    rw [hRd] at hh
    obtain ⟨v, σ', h, rfl, S', h2⟩ := hh
    exact ⟨S', σ', h, h2⟩
  refine call_shared T38 rfl rfl ?_
  simp only [List.length_cons, List.length_nil, Nat.zero_add] at hm hbb
  have hnl : A.length + 1 + R.length + B.length = n := by rw [← hn]; simp; omega
  have w1 : IntKind.i64.wrap ((m : Int) - (a : Int)) = 1 := wrapN 1 (by omega) (by omega)
  have hax : (A ++ [x] ++ R ++ B)[a]? = some x := by
    rw [at_L (by omega) (by simp; omega)]
    simp [ha]
  have hrow : A ++ [x] ++ R ++ B = A ++ x :: (R ++ B) := by simp
  obtain ⟨p, hpd⟩ : ∃ p : Nat → Bool, p = (fun h => match R[h - m]? with | some y => bytesLt (key y) (key x) | none => false) := ⟨_, rfl⟩
  have hpa : ∀ (h : Nat) (y : α), R[h - m]? = some y → p h = bytesLt (key y) (key x) := by
    intro h y hy
    rw [hpd]
    simp only [hy]
  have hp : ∀ h, m ≤ h → h < b → ∃ y, (A ++ [x] ++ R ++ B)[h]? = some y ∧ bytesLt (key y) (key x) = p h := by
    intro h h1 h2
    obtain ⟨y, hy⟩ := some_at (l := R) (i := h - m) (by omega)
    refine ⟨y, ?_, (hpa h y hy).symm⟩
    rw [at_R (by simp; omega) (by simp; omega)]
    simp only [List.length_cons, List.length_nil, Nat.zero_add]
    rw [hm]
    exact hy
  have hmono : ∀ s t, m ≤ s → s ≤ t → t < b → p t = true → p s = true := by
    intro s t h1 h2 h3 ht
    obtain ⟨y, hy⟩ := some_at (l := R) (i := s - m) (by omega)
    obtain ⟨z, hz⟩ := some_at (l := R) (i := t - m) (by omega)
    rw [hpa t z hz] at ht
    rw [hpa s y hy]
    have hle := ris_le hs (i := s - m) (j := t - m) (by omega) hy hz
    rcases lex_tri (key y) (key x) with h | h | h
    · rwa [bytesLt_lt]
    · rw [← h] at ht
      rw [hle] at ht
      cases ht
    · have hxy : bytesLt (key x) (key y) = true := by rwa [bytesLt_lt]
      have := blt_asym hxy
      have h4 := ble_trans (a := key x) (b := key y) (c := key z) this hle
      rw [h4] at ht
      cases ht
  simp [w1]
  refine bs1 (cap := cap) (fv := fv) (l := A ++ [x] ++ R ++ B) (x := x) (a := a) (m := m) (b := b) (p := p) (u2 := iv (m : Int)) (u3 := iv (b : Int)) hE hC hn hb hax (by omega) (by omega) hp hmono hR (by simp) (by simp) (by simp) (by simp) (by simp) (by simp) (by simp) ?_
  intro e' L' σ' i h1 h2 hT hF hR' hN f0 f1 f2 f3 f4 f10
  have hR1 : RowV E (A ++ x :: (R.take (i - m) ++ (R.drop (i - m) ++ B))) id g σ' := by
    rw [← List.append_assoc (R.take _), List.take_append_drop, ← hrow]
    exact hR'
  have hl1 : A.length + 1 + (R.take (i - m)).length = i := by rw [List.length_take]; omega
  have hln : (A ++ x :: (R.take (i - m) ++ (R.drop (i - m) ++ B))).length = n := by
    rw [← List.append_assoc (R.take _), List.take_append_drop, ← hrow]
    exact hn
  simp [k38_9, f1]
  refine sh1 (cap := cap) hE hO hln hb hl1 hR1 (by simp [f0]) (by simp [f10]) (by simp [ha]) ?_
  intro e2 L2 σ2 hR2 hN2
  simp
  rw [hRd]
  refine ⟨rfl, R.take (i - m) ++ x :: R.drop (i - m), ?_, ?_, by simpa using hR2, hN.trans hN2⟩
  · have h3 : (R.take (i - m) ++ x :: R.drop (i - m)).Perm (x :: (R.take (i - m) ++ R.drop (i - m))) := List.perm_middle
    rw [List.take_append_drop] at h3
    exact h3
  · refine ris_join (ris_sub hs (List.take_sublist _ _)) (List.pairwise_cons.2 ⟨fun y hy => ?_, ris_sub hs (List.drop_sublist _ _)⟩) ?_
    · obtain ⟨j, hj, hy⟩ := mem_drop_at hy
      have hjl := (List.getElem?_eq_some_iff.1 hy).1
      have := hF (m + j) (by omega) (by omega)
      rw [hpa (m + j) y (by rw [show m + j - m = j by omega]; exact hy)] at this
      exact this
    · intro y hy z hz
      obtain ⟨j, hj, hy⟩ := mem_take_at hy
      have hjl := (List.getElem?_eq_some_iff.1 hy).1
      have hlt := hT (m + j) (by omega) (by omega)
      rw [hpa (m + j) y (by rw [show m + j - m = j by omega]; exact hy)] at hlt
      rcases List.mem_cons.1 hz with rfl | hz
      · exact blt_asym hlt
      · obtain ⟨j2, hj2, hz⟩ := mem_drop_at hz
        exact ris_le hs (by omega) hy hz
end
end Go.Proofs.Ytodgdmhifbnofaa.AM.Sn
end
