/- the packages: parts 2, 3, 4, 5. -/
import Derived.Test.YtodgdmhifbnofaaSn1
import Derived.Test.YtodgdmhifbnofaaAm4
set_option linter.unusedSectionVars false
section
set_option maxRecDepth 1000000
set_option linter.unusedVariables false
set_option linter.unusedSimpArgs false
namespace Go.Proofs.Ytodgdmhifbnofaa.AM.Sn
open Go.Proofs
abbrev sv (s : List UInt8) : V := .tr (.sc (.string ⟨⟨s⟩⟩))
def cmpS (a b : List UInt8) : Int := if bytesLt a b then -1 else if bytesEq a b then 0 else 1
theorem cmpS_lt (a b : List UInt8) : decide (cmpS a b < 0) = bytesLt a b := by
  unfold cmpS
  cases bytesLt a b with
  | true => simp
  | false => cases bytesEq a b <;> simp
theorem lss0 (a b : List UInt8) : opBin .other .lss (iv (cmpS a b)) (iv 0) = some (bv (bytesLt a b)) := by
  rw [← cmpS_lt]; rfl
theorem cmp14 (a b : List UInt8) (σ : Store) : callL T 14 [sv a, sv b] σ = some (iv (cmpS a b), σ) := callL_extV T14 rfl rfl rfl
theorem blt_asym {a b : List UInt8} (h : bytesLt a b = true) : bytesLt b a = false := by
  rw [Bool.eq_false_iff]
  intro h2
  rw [bytesLt_lt] at h h2
  exact List.lt_irrefl _ (List.lt_trans h h2)
theorem ble_trans {a b c : List UInt8} (h1 : bytesLt b a = false) (h2 : bytesLt c b = false) : bytesLt c a = false := by
  rw [Bool.eq_false_iff] at *
  intro h
  rw [Ne, bytesLt_lt] at h1 h2
  rw [bytesLt_lt] at h
  rcases lex_tri a b with h3 | rfl | h3
  · exact h2 (List.lt_trans h h3)
  · exact h2 h
  · exact h1 h3
section
variable {α : Type}
def Ris (key : α → List UInt8) (l : List α) : Prop := l.Pairwise fun a b => bytesLt (key b) (key a) = false
theorem swap_adj (H R : List α) (x y : α) : ((H ++ y :: x :: R).set (H.length + 1) y).set H.length x = H ++ x :: y :: R := by
  simp [List.set_append]
theorem at_0 (H R : List α) (x : α) : (H ++ x :: R)[H.length]? = some x := by simp
theorem at_1 (H R : List α) (x y : α) : (H ++ y :: x :: R)[H.length + 1]? = some x := by
  rw [List.getElem?_append_right (by omega)]
  simp
theorem snoc_of {l : List α} (h : l ≠ []) : ∃ l' x, l = l' ++ [x] := ⟨l.dropLast, l.getLast h, (List.dropLast_concat_getLast h).symm⟩
theorem some_at {l : List α} {i : Nat} (h : i < l.length) : ∃ a, l[i]? = some a := ⟨l[i], List.getElem?_eq_getElem h⟩
def CmpOk (E : α → List V) (key : α → List UInt8) (fv : V) : Prop := ∀ (a b : α) (σ : Store), ∃ τ : Store, callV (callL T) fv [mkAgg (E a), mkAgg (E b)] σ = some (iv (cmpS (key a) (key b)), σ ++ τ)
end
theorem wrapN {z : Int} (n : Nat) (h : z = (n : Int)) (hn : n ≤ 100000) : IntKind.i64.wrap z = (n : Int) := by
  subst h
  exact w64 (by omega) (by omega)
end Go.Proofs.Ytodgdmhifbnofaa.AM.Sn
end
section
set_option maxRecDepth 1000000
set_option linter.unusedVariables false
set_option linter.unusedSimpArgs false
namespace Go.Proofs.Ytodgdmhifbnofaa.AM.Sn
open Go.Proofs
section
variable {α : Type} {E : α → List V} {key : α → List UInt8} {fv : V} {id g n : Nat} {cap : Option Nat}
abbrev own2 (id g n : Nat) (cap : Option Nat) : V := .own id g 0 n 2 cap
theorem adj_facts (hE : ∀ a, (E a).length = 2) (hO : ∀ a, (E a).all oneV = true) {H R : List α} {x y : α} {σ : Store} (h : RowV E (H ++ y :: x :: R) id g σ) (hn : (H ++ y :: x :: R).length = n) :
    (∀ σ' : Store, (∃ l, RowV E l id g σ') → opIaddr 2 (own2 id g n cap) (iv ((H.length + 1 : Nat) : Int)) σ' = some (.ptr id g ((H.length + 1) * 2)) ∧ opIaddr 2 (own2 id g n cap) (iv (H.length : Int)) σ' = some (.ptr id g (H.length * 2))) ∧
    (∀ τ : Store, opLoad 2 true (.ptr id g ((H.length + 1) * 2)) (σ ++ τ) = some (mkAgg (E x)) ∧ opLoad 2 true (.ptr id g (H.length * 2)) (σ ++ τ) = some (mkAgg (E y))) ∧
    ∃ σ1 σ2, opStore 2 (.ptr id g ((H.length + 1) * 2)) (mkAgg (E y)) σ = some σ1 ∧ opStore 2 (.ptr id g (H.length * 2)) (mkAgg (E x)) σ1 = some σ2 ∧ RowV E ((H ++ y :: x :: R).set (H.length + 1) y) id g σ1 ∧ RowV E (H ++ x :: y :: R) id g σ2 ∧ Nxt id σ σ2 := by
  have hl : H.length + 1 < n := by rw [← hn]; simp
  refine ⟨fun σ' ⟨l, hl'⟩ => ⟨hl'.iaddr hl, hl'.iaddr (by omega)⟩, fun τ => ⟨(h.app τ).load hE (at_1 H R x y), (h.app τ).load hE (at_0 H _ y)⟩, ?_⟩
  refine ⟨_, _, h.store hE (hO y) (by rw [hn]; omega), (h.set _).store hE (hO x) (by rw [List.length_set, hn]; omega), h.set _, ?_, ?_⟩
  · have := (h.set ((H ++ y :: x :: R).set (H.length + 1) y)).set (((H ++ y :: x :: R).set (H.length + 1) y).set H.length x)
    rw [swap_adj] at this
    rw [swap_adj]
    exact this
  · exact (nxt_set _).trans (nxt_set _)
theorem ins_inner (hE : ∀ a, (E a).length = 2) (hO : ∀ a, (E a).all oneV = true) (hC : CmpOk E key fv) {A P Q0 : List α} {x : α} {σ : Store} {e Lo : List (Nat × V)} {Q : Out → St → Prop} {u2 u8 : V}
    (hn : (A ++ P ++ x :: Q0).length = n) (hb : n ≤ 1000) (hs : Ris key P) (hR : RowV E (A ++ P ++ x :: Q0) id g σ)
    (g0 : look e 0 = some (own2 id g n cap)) (g1 : look e 1 = some (iv (A.length : Int))) (g2 : look e 2 = some u2) (g3 : look e 3 = some fv) (g8 : look e 8 = some u8) (g9 : look e 9 = some (iv ((A.length + P.length : Nat) : Int)))
    (hQ : ∀ e' L' σ' P', Ris key P' → P'.Perm (P ++ [x]) → RowV E (A ++ P' ++ Q0) id g σ' → Nxt id σ σ' → look e' 0 = some (own2 id g n cap) → look e' 1 = some (iv (A.length : Int)) → look e' 2 = some u2 → look e' 3 = some fv → look e' 8 = some u8 → Q (.exit 2) ⟨e', L', σ'⟩) :
    Wp T (.loop k37_5) ⟨e, Lo, σ⟩ Q := by
  obtain ⟨I, hI⟩ : ∃ I : Nat → St → Prop, I = (fun r st => ∃ P1 P2 e Lo σ', st = ⟨e, Lo, σ'⟩ ∧ P = P1 ++ P2 ∧ P2.length = r ∧ (∀ y ∈ P2, bytesLt (key x) (key y) = true) ∧ RowV E (A ++ P1 ++ x :: (P2 ++ Q0)) id g σ' ∧ Nxt id σ σ'
    ∧ look e 0 = some (own2 id g n cap) ∧ look e 1 = some (iv (A.length : Int)) ∧ look e 2 = some u2 ∧ look e 3 = some fv ∧ look e 8 = some u8 ∧ look e 9 = some (iv ((A.length + P1.length : Nat) : Int))) := ⟨_, rfl⟩
  refine wpc_up P.length I ?_ ?_
  · rw [hI]
    exact ⟨P, [], e, Lo, σ, rfl, by simp, rfl, by simp, hR, Nxt.refl _ _, g0, g1, g2, g3, g8, g9⟩
  clear g0 g1 g2 g3 g8 g9 hR
  intro r st hIs
  rw [hI] at hIs
  obtain ⟨P1, P2, e, Lo, σ', rfl, hP, hr, hlt, hR, hN, g0, g1, g2, g3, g8, g9⟩ := hIs
  have hsP2 : Ris key P2 := by
    unfold Ris at hs ⊢
    rw [hP, List.pairwise_append] at hs
    exact hs.2.1
  have hx2 : Ris key (x :: P2) := by
    unfold Ris at hsP2 ⊢
    exact List.pairwise_cons.2 ⟨fun y hy => blt_asym (hlt y hy), hsP2⟩
  by_cases hP1 : P1 = []
  · subst hP1
    have hng : ¬ (A.length : Int) < ((A.length + ([] : List α).length : Nat) : Int) := by simp
    generalize ((A.length + ([] : List α).length : Nat) : Int) = jj at *
    simp [k37_5, g0, g1, g9, hng]
    have hP : P = P2 := by simpa using hP
    refine hQ _ _ σ' (x :: P2) hx2 ?_ (by simpa using hR) hN g0 g1 g2 g3 g8
    rw [hP]
    exact (List.perm_append_comm (l₁ := [x]) (l₂ := P2))
  · obtain ⟨P1', y, rfl⟩ := snoc_of hP1
    have e1 : A ++ (P1' ++ [y]) ++ x :: (P2 ++ Q0) = (A ++ P1') ++ y :: x :: (P2 ++ Q0) := by simp
    rw [e1] at hR
    have hlen : ((A ++ P1') ++ y :: x :: (P2 ++ Q0)).length = n := by rw [← hn, hP]; simp; omega
    obtain ⟨hia, hld, σ1, σ2, hs1, hs2, hR1, hR2, hN2⟩ := adj_facts (cap := cap) hE hO hR hlen
    have hh : (A ++ P1').length = A.length + P1'.length := List.length_append
    have hh2 : A.length + (P1' ++ [y]).length = (A ++ P1').length + 1 := by simp; omega
    rw [hh2] at g9
    obtain ⟨τ, hcmp⟩ := hC x y σ'
    have hgt : (A.length : Int) < (((A ++ P1').length + 1 : Nat) : Int) := by rw [hh]; omega
    have hb2 : (A ++ P1').length + 1 ≤ 1000 := by rw [← hlen] at hb; simp at hb ⊢; omega
    have w1 : IntKind.i64.wrap ((((A ++ P1').length + 1 : Nat) : Int) - 1) = ((A ++ P1').length : Int) := wrapN _ (by omega) (by omega)
    have hia0 := hia σ' ⟨_, hR⟩
    have hld0 := hld []
    rw [List.append_nil] at hld0
    have hRτ := hR.app τ
    generalize hJ : (A ++ P1').length = J at *
    generalize hJ1 : ((J + 1 : Nat) : Int) = J1 at *
    cases hk : bytesLt (key x) (key y) with
    | false =>
      have hl0 := lss0 (key x) (key y)
      rw [hk] at hl0
      generalize mkAgg (E x) = vx, mkAgg (E y) = vy at *
      simp [k37_5, g0, g1, g3, g9, hgt, hia0.1, hia0.2, hld0.1, hld0.2, w1, hcmp, hl0]
      refine hQ _ _ (σ' ++ τ) (P1' ++ [y] ++ x :: P2) ?_ ?_ ?_ (hN.trans (nxt_app τ)) g0 g1 g2 g3 g8
      · unfold Ris at hs hx2 ⊢
        rw [hP, List.pairwise_append] at hs
        rw [List.pairwise_append]
        refine ⟨hs.1, hx2, fun a ha b hb => ?_⟩
        rcases List.mem_cons.1 hb with rfl | hb
        ·
          have hay : bytesLt (key y) (key a) = false := by
            rcases List.mem_append.1 ha with ha | ha
            · have := hs.1
              rw [List.pairwise_append] at this
              exact this.2.2 a ha y (by simp)
            · obtain rfl := List.mem_singleton.1 ha
              rw [Bool.eq_false_iff]
              intro h
              rw [bytesLt_lt] at h
              exact List.lt_irrefl _ h
          exact ble_trans hay hk
        · exact hs.2.2 a ha b hb
      · rw [hP, List.append_assoc, List.append_assoc, List.append_assoc]
        refine List.Perm.append_left _ (List.Perm.append_left _ ?_)
        exact (List.perm_append_comm (l₁ := [x]) (l₂ := P2))
      · have e2 : A ++ (P1' ++ [y] ++ x :: P2) ++ Q0 = (A ++ P1') ++ y :: x :: (P2 ++ Q0) := by simp
        rw [e2]
        exact hRτ
    | true =>
      have hl0 := lss0 (key x) (key y)
      rw [hk] at hl0
      have hlenτ := hlen
      obtain ⟨hia', hld', σ1', σ2', hs1', hs2', hR1', hR2', hN2'⟩ := adj_facts (cap := cap) hE hO hRτ hlen
      rw [hJ] at hia' hld' hs1' hs2' hR1'
      have hiaτ := hia' _ ⟨_, hRτ⟩
      have hia1 := hia' _ ⟨_, hR1'⟩
      have hldτ := hld' []
      rw [List.append_nil] at hldτ
      rw [hJ1] at hiaτ hia1
      have key' : ∀ e' Lo', look e' 0 = some (own2 id g n cap) → look e' 1 = some (iv (A.length : Int)) → look e' 2 = some u2 → look e' 3 = some fv → look e' 8 = some u8 → look e' 9 = some (iv (J : Int)) → r < P.length ∧ I (r + 1) ⟨e', Lo', σ2'⟩ := by
        intro e' Lo' f0 f1 f2 f3 f8 f9
        refine ⟨by rw [hP, ← hr]; simp; omega, ?_⟩
        rw [hI]
        refine ⟨P1', y :: P2, e', Lo', σ2', rfl, by rw [hP]; simp, by simp [hr], ?_, ?_, (hN.trans (nxt_app τ)).trans hN2', f0, f1, f2, f3, f8, ?_⟩
        · intro z hz
          rcases List.mem_cons.1 hz with rfl | hz
          · exact hk
          · exact hlt z hz
        · have e2 : A ++ P1' ++ x :: (y :: P2 ++ Q0) = (A ++ P1') ++ x :: y :: (P2 ++ Q0) := by simp
          rw [e2]
          exact hR2'
        · rw [← hh]; exact f9
      generalize mkAgg (E x) = vx, mkAgg (E y) = vy at *
      simp [k37_5, g0, g1, g3, g9, hgt, hia0.1, hia0.2, hld0.1, hld0.2, w1, hcmp, hl0, k37_7, hiaτ.1, hiaτ.2, hldτ.1, hldτ.2, hs1', hia1.1, hia1.2, hs2']
      refine key' _ _ ?_ ?_ ?_ ?_ ?_ ?_ <;> simp [g0, g1, g2, g3, g8]
end
end Go.Proofs.Ytodgdmhifbnofaa.AM.Sn
end
section
set_option maxRecDepth 1000000
set_option linter.unusedVariables false
set_option linter.unusedSimpArgs false
namespace Go.Proofs.Ytodgdmhifbnofaa.AM.Sn
open Go.Proofs
section
variable {α : Type} {E : α → List V} {key : α → List UInt8} {fv : V} {id g n : Nat} {cap : Option Nat}
theorem ris_nil : Ris key ([] : List α) := List.Pairwise.nil
theorem ris_one (x : α) : Ris key [x] := by unfold Ris; simp
theorem take_snoc {l : List α} {n : Nat} {c : α} (h : l[n]? = some c) : l.take (n + 1) = l.take n ++ [c] := by
  rw [List.take_add_one, h]
  rfl
theorem drop_at {l : List α} {n : Nat} {c : α} (h : l[n]? = some c) : l.drop n = c :: l.drop (n + 1) := by
  rw [List.drop_eq_getElem_cons (List.getElem?_eq_some_iff.1 h).1, (List.getElem?_eq_some_iff.1 h).2]
theorem ins_ok (hE : ∀ a, (E a).length = 2) (hO : ∀ a, (E a).all oneV = true) (hC : CmpOk E key fv) {A S B : List α} {σ : Store} (hn : (A ++ S ++ B).length = n) (hb : n ≤ 1000) (hR : RowV E (A ++ S ++ B) id g σ) :
    ∃ S' σ', callL T 37 [own2 id g n cap, iv (A.length : Int), iv ((A.length + S.length : Nat) : Int), fv] σ = some (.tr (.tup []), σ') ∧ S'.Perm S ∧ Ris key S' ∧ RowV E (A ++ S' ++ B) id g σ' ∧ Nxt id σ σ' := by
  suffices hh : ∃ v σ', callL T 37 [own2 id g n cap, iv (A.length : Int), iv ((A.length + S.length : Nat) : Int), fv] σ = some (v, σ') ∧ v = .tr (.tup []) ∧ ∃ S', S'.Perm S ∧ Ris key S' ∧ RowV E (A ++ S' ++ B) id g σ' ∧ Nxt id σ σ' by
    obtain ⟨v, σ', h, rfl, S', h2⟩ := hh
    exact ⟨S', σ', h, h2⟩
  obtain ⟨R, hRd⟩ : ∃ R : V → Store → Prop, R = (fun v σ' => v = .tr (.tup []) ∧ ∃ S', S'.Perm S ∧ Ris key S' ∧ RowV E (A ++ S' ++ B) id g σ' ∧ Nxt id σ σ') := ⟨_, rfl⟩
  suffices hh : ∃ v σ', callL T 37 [own2 id g n cap, iv (A.length : Int), iv ((A.length + S.length : Nat) : Int), fv] σ = some (v, σ') ∧ R v σ' by
    rw [hRd] at hh
    exact hh
  refine call_shared T37 rfl rfl ?_
  have hAb : A.length + S.length + B.length = n := by rw [← hn]; simp; omega
  have w0 : IntKind.i64.wrap ((A.length : Int) + 1) = ((A.length + 1 : Nat) : Int) := wrapN _ (by omega) (by omega)
  by_cases hS : S = []
  · subst hS
    have hlt : ¬ ((A.length + 1 : Nat) : Int) < ((A.length + ([] : List α).length : Nat) : Int) := by simp; omega
    obtain ⟨m, hm⟩ : ∃ m, 1 = m := ⟨_, rfl⟩
    generalize hJ : ((A.length + 1 : Nat) : Int) = J at *
    generalize ((A.length + ([] : List α).length : Nat) : Int) = K at *
    simp [w0]
    refine wpc_up 0 (fun r st => ∃ e Lo, st = ⟨e, Lo, σ⟩ ∧ look e 8 = some (iv J) ∧ look e 2 = some (iv K)) ⟨_, _, rfl, by simp, by simp⟩ ?_
    rintro r st ⟨e, Lo, rfl, g8, g2⟩
    simp [k37_1, g8, g2, hlt]
    rw [hRd]
    exact ⟨rfl, [], List.Perm.refl _, ris_nil, hR, Nxt.refl _ _⟩
  have hSl : 0 < S.length := List.length_pos_iff.2 hS
  generalize hK : ((A.length + S.length : Nat) : Int) = K at *
  generalize hJ : ((A.length + 1 : Nat) : Int) = J at *
  simp [w0]
  obtain ⟨I, hI⟩ : ∃ I : Nat → St → Prop, I = (fun r st => r + 1 ≤ S.length ∧ ∃ P e Lo σ', st = ⟨e, Lo, σ'⟩ ∧ P.length = r + 1 ∧ P.Perm (S.take (r + 1)) ∧ Ris key P ∧ RowV E (A ++ P ++ (S.drop (r + 1) ++ B)) id g σ' ∧ Nxt id σ σ'
    ∧ look e 0 = some (own2 id g n cap) ∧ look e 1 = some (iv (A.length : Int)) ∧ look e 2 = some (iv K) ∧ look e 3 = some fv ∧ look e 8 = some (iv ((A.length + (r + 1) : Nat) : Int))) := ⟨_, rfl⟩
  refine wpc_up S.length I ?_ ?_
  · rw [hI]
    refine ⟨by omega, S.take 1, _, _, σ, rfl, by rw [List.length_take]; omega, List.Perm.refl _, ?_, ?_, Nxt.refl _ _, by simp, by simp, by simp, by simp, by simp [← hJ]⟩
    · match S, hS with
      | s :: S', _ => exact ris_one s
    · have : A ++ S.take (0 + 1) ++ (S.drop (0 + 1) ++ B) = A ++ S ++ B := by
        rw [List.append_assoc, ← List.append_assoc (S.take _), List.take_append_drop, List.append_assoc]
      rw [this]
      exact hR
  intro r st hIs
  rw [hI] at hIs
  obtain ⟨hr, P, e, Lo, σ', rfl, hP, hPp, hPs, hR', hN, g0, g1, g2, g3, g8⟩ := hIs
  by_cases hlt : r + 1 < S.length
  · have hlt' : ((A.length + (r + 1) : Nat) : Int) < K := by rw [← hK]; omega
    obtain ⟨x, hx⟩ := some_at hlt
    have w2 : IntKind.i64.wrap (((A.length + (r + 1) : Nat) : Int) + 1) = ((A.length + (r + 1 + 1) : Nat) : Int) := wrapN _ (by omega) (by omega)
    rw [drop_at hx] at hR'
    have hR2 : RowV E (A ++ P ++ x :: (S.drop (r + 1 + 1) ++ B)) id g σ' := by simpa using hR'
    have hlen : (A ++ P ++ x :: (S.drop (r + 1 + 1) ++ B)).length = n := by
      rw [← hAb]; simp [hP]; omega
    have key' : ∀ e' Lo' σ'' P', Ris key P' → P'.Perm (P ++ [x]) → RowV E (A ++ P' ++ (S.drop (r + 1 + 1) ++ B)) id g σ'' → Nxt id σ' σ'' → look e' 0 = some (own2 id g n cap) → look e' 1 = some (iv (A.length : Int)) → look e' 2 = some (iv K) → look e' 3 = some fv → look e' 8 = some (iv ((A.length + (r + 1 + 1) : Nat) : Int)) → r < S.length ∧ I (r + 1) ⟨e', Lo', σ''⟩ := by
      intro e' Lo' σ'' P' h1 h2 h3 h4 f0 f1 f2 f3 f8
      refine ⟨by omega, ?_⟩
      rw [hI]
      refine ⟨by omega, P', e', Lo', σ'', rfl, ?_, ?_, h1, h3, hN.trans h4, f0, f1, f2, f3, f8⟩
      · rw [h2.length_eq]; simp [hP]
      · rw [take_snoc hx]
        exact h2.trans (hPp.append_right _)
    have hin := fun e Lo Q => ins_inner (e := e) (Lo := Lo) (Q := Q) (u2 := iv K) (u8 := iv ((A.length + (r + 1) : Nat) : Int)) (cap := cap) hE hO hC hlen hb hPs hR2
    rw [hP] at hin
    generalize hJ1 : ((A.length + (r + 1) : Nat) : Int) = J1 at *
    generalize hJ2 : ((A.length + (r + 1 + 1) : Nat) : Int) = J2 at *
    simp [k37_1, g2, g8, hlt', k37_3]
    refine hin _ _ _ ?_ ?_ ?_ ?_ ?_ ?_ ?_
    rotate_right
    · intro e' L' σ'' P' h1 h2 h3 h4 f0 f1 f2 f3 f8
      simp [k37_8, f8, w2]
      refine key' _ _ _ P' h1 h2 h3 h4 ?_ ?_ ?_ ?_ ?_ <;> simp [f0, f1, f2, f3]
    all_goals simp [g0, g1, g2, g3, g8]
  · have hlt' : ¬ ((A.length + (r + 1) : Nat) : Int) < K := by rw [← hK]; omega
    have hr1 : r + 1 = S.length := by omega
    generalize hJ1 : ((A.length + (r + 1) : Nat) : Int) = J1 at *
    simp [k37_1, g2, g8, hlt']
    rw [hRd]
    refine ⟨rfl, P, ?_, hPs, ?_, hN⟩
    · rw [hr1, List.take_length] at hPp
      exact hPp
    · rw [hr1, List.drop_length, List.nil_append] at hR'
      exact hR'
end
end Go.Proofs.Ytodgdmhifbnofaa.AM.Sn
end
section
set_option maxRecDepth 1000000
set_option linter.unusedVariables false
set_option linter.unusedSimpArgs false
namespace Go.Proofs.Ytodgdmhifbnofaa.AM.Sn
open Go.Proofs
section
variable {α : Type} {E : α → List V} {key : α → List UInt8} {fv : V} {id g n : Nat} {cap : Option Nat}
theorem swap_far (H N R : List α) (x y : α) : ((H ++ x :: (N ++ y :: R)).set H.length y).set (H.length + 1 + N.length) x = H ++ y :: (N ++ x :: R) := by
  have e : H.length + 1 + N.length = H.length + (1 + N.length) := by omega
  rw [e, List.set_append_right _ _ (Nat.le_refl _), Nat.sub_self, List.set_append_right _ _ (by omega)]
  congr 1
  have e2 : H.length + (1 + N.length) - H.length = N.length + 1 := by omega
  rw [e2, List.set_cons_zero, List.set_cons_succ, List.set_append_right _ _ (Nat.le_refl _), Nat.sub_self, List.set_cons_zero]
theorem at_far (H N R : List α) (x y : α) : (H ++ x :: (N ++ y :: R))[H.length + 1 + N.length]? = some y := by
  rw [List.getElem?_append_right (by omega)]
  have e2 : H.length + 1 + N.length - H.length = N.length + 1 := by omega
  rw [e2, List.getElem?_cons_succ]
  simp
theorem far_facts (hE : ∀ a, (E a).length = 2) (hO : ∀ a, (E a).all oneV = true) {H N R : List α} {x y : α} {i j : Nat} {σ : Store} (h : RowV E (H ++ x :: (N ++ y :: R)) id g σ) (hn : (H ++ x :: (N ++ y :: R)).length = n) (hi : H.length = i) (hj : H.length + 1 + N.length = j) :
    (∀ σ' : Store, (∃ l, RowV E l id g σ') → opIaddr 2 (own2 id g n cap) (iv (i : Int)) σ' = some (.ptr id g (i * 2)) ∧ opIaddr 2 (own2 id g n cap) (iv (j : Int)) σ' = some (.ptr id g (j * 2))) ∧
    opLoad 2 true (.ptr id g (i * 2)) σ = some (mkAgg (E x)) ∧ opLoad 2 true (.ptr id g (j * 2)) σ = some (mkAgg (E y)) ∧
    ∃ σ1 σ2, opStore 2 (.ptr id g (i * 2)) (mkAgg (E y)) σ = some σ1 ∧ opStore 2 (.ptr id g (j * 2)) (mkAgg (E x)) σ1 = some σ2 ∧ (∃ l, RowV E l id g σ1) ∧ RowV E (H ++ y :: (N ++ x :: R)) id g σ2 ∧ Nxt id σ σ2 := by
  subst hi hj
  have hl : H.length + 1 + N.length < n := by rw [← hn]; simp; omega
  refine ⟨fun σ' ⟨l, hl'⟩ => ⟨hl'.iaddr (by omega), hl'.iaddr hl⟩, h.load hE (at_0 H _ x), h.load hE (at_far H N R x y), ?_⟩
  refine ⟨_, _, h.store hE (hO y) (by rw [hn]; omega), (h.set _).store hE (hO x) (by rw [List.length_set, hn]; omega), ⟨_, h.set _⟩, ?_, ?_⟩
  · have := (h.set ((H ++ x :: (N ++ y :: R)).set H.length y)).set (((H ++ x :: (N ++ y :: R)).set H.length y).set (H.length + 1 + N.length) x)
    rw [swap_far] at this
    rw [swap_far]
    exact this
  · exact (nxt_set _).trans (nxt_set _)
theorem swr_ok (hE : ∀ a, (E a).length = 2) (hO : ∀ a, (E a).all oneV = true) {A X M Y B : List α} {σ : Store} {a b k : Nat} (hXY : X.length = k) (hY : Y.length = k) (ha : A.length = a) (hbb : A.length + X.length + M.length = b) (hn : (A ++ X ++ M ++ Y ++ B).length = n) (hb : n ≤ 1000) (hR : RowV E (A ++ X ++ M ++ Y ++ B) id g σ) :
    ∃ σ', callL T 72 [own2 id g n cap, iv (a : Int), iv (b : Int), iv (k : Int), fv] σ = some (.tr (.tup []), σ') ∧ RowV E (A ++ Y ++ M ++ X ++ B) id g σ' ∧ Nxt id σ σ' := by
  obtain ⟨R, hRd⟩ : ∃ R : V → Store → Prop, R = (fun v σ' => v = .tr (.tup []) ∧ RowV E (A ++ Y ++ M ++ X ++ B) id g σ' ∧ Nxt id σ σ') := ⟨_, rfl⟩
  suffices hh : ∃ v σ', callL T 72 [own2 id g n cap, iv (a : Int), iv (b : Int), iv (k : Int), fv] σ = some (v, σ') ∧ R v σ' by
    rw [hRd] at hh
    obtain ⟨v, σ', h, rfl, h2⟩ := hh
    exact ⟨σ', h, h2⟩
  refine call_shared T72 rfl rfl ?_
  have hAb : A.length + X.length + M.length + Y.length + B.length = n := by rw [← hn]; simp; omega
  simp
  obtain ⟨I, hI⟩ : ∃ I : Nat → St → Prop, I = (fun r st => r ≤ k ∧ ∃ e Lo σ', st = ⟨e, Lo, σ'⟩ ∧ RowV E (A ++ Y.take r ++ X.drop r ++ M ++ X.take r ++ Y.drop r ++ B) id g σ' ∧ Nxt id σ σ'
    ∧ look e 0 = some (own2 id g n cap) ∧ look e 1 = some (iv (a : Int)) ∧ look e 2 = some (iv (b : Int)) ∧ look e 3 = some (iv (k : Int)) ∧ look e 10 = some (iv (r : Int))) := ⟨_, rfl⟩
  refine wpc_up k I ?_ ?_
  · rw [hI]
    exact ⟨by omega, _, _, σ, rfl, by simpa using hR, Nxt.refl _ _, by simp, by simp, by simp, by simp, by simp⟩
  intro r st hIs
  rw [hI] at hIs
  obtain ⟨hr, e, Lo, σ', rfl, hR', hN, g0, g1, g2, g3, g10⟩ := hIs
  by_cases hlt : r < k
  · have hlt' : (r : Int) < (k : Int) := by omega
    obtain ⟨x, hx⟩ := some_at (l := X) (i := r) (by omega)
    obtain ⟨y, hy⟩ := some_at (l := Y) (i := r) (by omega)
    have e1 : A ++ Y.take r ++ X.drop r ++ M ++ X.take r ++ Y.drop r ++ B = (A ++ Y.take r) ++ x :: ((X.drop (r + 1) ++ M ++ X.take r) ++ y :: (Y.drop (r + 1) ++ B)) := by
      rw [drop_at hx, drop_at hy]; simp
    rw [e1] at hR'
    have hh : (A ++ Y.take r).length = a + r := by rw [List.length_append, List.length_take]; omega
    have hj : (A ++ Y.take r).length + 1 + (X.drop (r + 1) ++ M ++ X.take r).length = b + r := by
      rw [hh]; simp; omega
    have hlen : ((A ++ Y.take r) ++ x :: ((X.drop (r + 1) ++ M ++ X.take r) ++ y :: (Y.drop (r + 1) ++ B))).length = n := by
      rw [← e1]; simp; omega
    obtain ⟨hia, hl1, hl2, σ1, σ2, hs1, hs2, hR1, hR2, hN2⟩ := far_facts (cap := cap) hE hO hR' hlen hh hj
    have i0 := hia _ ⟨_, hR'⟩
    have i1 := hia _ hR1
    have w1 : IntKind.i64.wrap ((a : Int) + (r : Int)) = ((a + r : Nat) : Int) := wrapN _ (by omega) (by omega)
    have w2 : IntKind.i64.wrap ((b : Int) + (r : Int)) = ((b + r : Nat) : Int) := wrapN _ (by omega) (by omega)
    have w3 : IntKind.i64.wrap ((r : Int) + 1) = ((r + 1 : Nat) : Int) := wrapN _ (by omega) (by omega)
    have key' : ∀ e' Lo', look e' 0 = some (own2 id g n cap) → look e' 1 = some (iv (a : Int)) → look e' 2 = some (iv (b : Int)) → look e' 3 = some (iv (k : Int)) → look e' 10 = some (iv ((r + 1 : Nat) : Int)) → I (r + 1) ⟨e', Lo', σ2⟩ := by
      intro e' Lo' f0 f1 f2 f3 f10
      rw [hI]
      refine ⟨by omega, e', Lo', σ2, rfl, ?_, hN.trans hN2, f0, f1, f2, f3, f10⟩
      have e2 : A ++ Y.take (r + 1) ++ X.drop (r + 1) ++ M ++ X.take (r + 1) ++ Y.drop (r + 1) ++ B = (A ++ Y.take r) ++ y :: ((X.drop (r + 1) ++ M ++ X.take r) ++ x :: (Y.drop (r + 1) ++ B)) := by
        rw [take_snoc hx, take_snoc hy]; simp
      rw [e2]
      exact hR2
    generalize mkAgg (E x) = vx, mkAgg (E y) = vy at *
    generalize ((a + r : Nat) : Int) = ia at *
    generalize ((b + r : Nat) : Int) = ib at *
    generalize ((r + 1 : Nat) : Int) = r1 at *
    simp [k72_1, g0, g1, g2, g3, g10, hlt', k72_3, w1, w2, w3, i0.1, i0.2, hl1, hl2, hs1, i1.1, i1.2, hs2]
    refine ⟨hlt, key' _ _ ?_ ?_ ?_ ?_ ?_⟩ <;> simp [g0, g1, g2, g3]
  · have hlt' : ¬ (r : Int) < (k : Int) := by omega
    have hrk : r = k := by omega
    generalize (r : Int) = rr at *
    simp [k72_1, g3, g10, hlt']
    rw [hRd]
    refine ⟨rfl, ?_, hN⟩
    rw [List.take_of_length_le (by omega), List.drop_of_length_le (by omega), List.take_of_length_le (by omega), List.drop_of_length_le (by omega)] at hR'
    simpa using hR'
end
end Go.Proofs.Ytodgdmhifbnofaa.AM.Sn
end
