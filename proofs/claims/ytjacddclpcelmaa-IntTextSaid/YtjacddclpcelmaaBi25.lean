/- IntText: part 25. -/
import Derived.Test.YtjacddclpcelmaaBi24
set_option maxRecDepth 1000000
set_option linter.unusedVariables false
set_option linter.unusedSimpArgs false
namespace Go.Proofs.Ytjacddclpcelmaa.AM.Bi
open Go.Proofs

/-- What comes behind, with readings that are held. -/
def okH (c : CallA) (i : Nat) (ps : List Pend) (is : List (Nat × List Nat)) (r : List HOp) (K : St → Prop) (s : St) : Prop := okP (opsRunD c i ps is r s) K
/-- A reading that is held from here on. -/
def okB (x : Option (V × Store)) (h : Nat) (c : CallA) (i : Nat) (ps : List Pend) (ns : List Nat) (is : List (Nat × List Nat)) (d : Option Nat) (inK : Bool) (k : HK) (r : List HOp) (K : St → Prop) (st : St) : Prop := match x with
  | some (v, σ) => okP (opsRunD c (i + 1) (⟨h, k, st.only ns, v⟩ :: ps) is r ({ st with σ := σ }.set d inK v)) K
  | none => False
section
variable {c : CallA} {i h : Nat} {p : Pend} {ps : List Pend} {ns : List Nat} {is : List (Nat × List Nat)} {d : Option Nat} {inK : Bool} {k : HK} {r : List HOp} {K : St → Prop} {st : St} {e L : List (Nat × V)} {σ : Store} {v : V} {dd : Nat}
@[simp] theorem okH_iff : okH c i ps is r K st ↔ okP (opsRunD c i ps is r st) K := Iff.rfl
@[simp] theorem opsH_nil : okP (opsRunD c i (p :: ps) [] [] st) K ↔ pendAll c i st.σ (p :: ps) = true ∧ K st := by
  simp only [opsRunD]
  split
  · rename_i h; simp [h]
  · rename_i h; simp [h]
@[simp] theorem opsH_0 : okP (opsRunD c i (p :: ps) ((0, ns) :: is) (⟨d, inK, k, none⟩ :: r) st) K ↔ okA (opA c k (st.only ns)) d inK st (okH c (i + 1) (p :: ps) is r K) := by
  have hb : Nat.beq 0 2 = false := rfl
  have hb1 : Nat.beq 0 1 = false := rfl
  simp only [opsRunD, hb, Bool.false_and, Bool.false_eq_true, if_false]
  unfold opStepD
  simp only [guardA, hb1, Bool.false_and, Bool.false_eq_true, if_false]
  cases hx : opA c k (st.only ns) with
  | none => simp [okA_no]
  | some q => obtain ⟨v, s⟩ := q; simp [okA_sm, pendAdd]
@[simp] theorem opsH_1 : okP (opsRunD c i (p :: ps) ((1, ns) :: is) (⟨d, inK, k, none⟩ :: r) st) K ↔ okA (okF true st.σ (opA (quietCall c) k (st.only ns))) d inK st (okH c (i + 1) (p :: ps) is r K) := by
  have hb : Nat.beq 1 2 = false := rfl
  have hb1 : Nat.beq 1 1 = true := rfl
  simp only [opsRunD, hb, Bool.false_and, Bool.false_eq_true, if_false]
  unfold opStepD okF
  simp only [guardA, hb1, Bool.true_and, if_true]
  cases hx : opA (quietCall c) k (st.only ns) with
  | none => simp [okA_no]
  | some q =>
    obtain ⟨v, s⟩ := q
    cases hf : freshOk st.σ s with
    | true => simp [okA_sm, pendAdd, hf]
    | false => simp [okA_no, hf]
@[simp] theorem opsH_2 : okP (opsRunD c i (p :: ps) ((2, ns) :: is) (⟨d, inK, k, none⟩ :: r) st) K ↔ pendAll c i st.σ (p :: ps) = true ∧ okA (opA c k (st.only ns)) d inK st (okH c (i + 1) (p :: ps) is r K) := by
  have hb : Nat.beq 2 2 = true := rfl
  have hb1 : Nat.beq 2 1 = false := rfl
  simp only [opsRunD, hb, Bool.true_and]
  cases hp : pendAll c i st.σ (p :: ps) with
  | false => simp
  | true =>
    simp only [Bool.not_true, Bool.false_eq_true, if_false, true_and]
    unfold opStepD
    simp only [guardA, hb1, Bool.false_and, Bool.false_eq_true, if_false]
    cases hx : opA c k (st.only ns) with
    | none => simp [okA_no]
    | some q => obtain ⟨v, s⟩ := q; simp [okA_sm, pendAdd]
/-- A reading that is held. -/
theorem ops_hold : okP (opsRunD c i ps ((h + 3, ns) :: is) (⟨d, inK, k, none⟩ :: r) st) K ↔ okB (opA c k (st.only ns)) h c i ps ns is d inK k r K st := by
  have hb : Nat.beq (h + 3) 2 = false := by cases h <;> rfl
  have hb1 : Nat.beq (h + 3) 1 = false := by cases h <;> rfl
  simp only [opsRunD, hb, Bool.false_and, Bool.false_eq_true, if_false]
  unfold opStepD okB
  simp only [guardA, hb1, Bool.false_and, Bool.false_eq_true, if_false]
  cases hx : opA c k (st.only ns) with
  | none => simp
  | some q => obtain ⟨v, s⟩ := q; simp only [pendAdd, guardA, hx]
theorem ops_holdG {x : HO} (hg : (st.only ns).get x = some (.tr (.sc (.bool true)))) : okP (opsRunD c i ps ((h + 3, ns) :: is) (⟨d, inK, k, some (x, true)⟩ :: r) st) K ↔ okB (opA c k (st.only ns)) h c i ps ns is d inK k r K st := by
  have hb : Nat.beq (h + 3) 2 = false := by cases h <;> rfl
  have hb1 : Nat.beq (h + 3) 1 = false := by cases h <;> rfl
  simp only [opsRunD, hb, Bool.false_and, Bool.false_eq_true, if_false]
  unfold opStepD okB
  simp only [guardA, hb1, hg, Bool.false_and, Bool.false_eq_true, if_false, beq_self_eq_true]
  cases hx : opA c k (st.only ns) with
  | none => simp
  | some q => obtain ⟨v, s⟩ := q; simp only [pendAdd, guardA, hx, hg, beq_self_eq_true]
theorem opsH_2G {x : HO} (hg : (st.only ns).get x = some (.tr (.sc (.bool true)))) : okP (opsRunD c i (p :: ps) ((2, ns) :: is) (⟨d, inK, k, some (x, true)⟩ :: r) st) K ↔ pendAll c i st.σ (p :: ps) = true ∧ okA (opA c k (st.only ns)) d inK st (okH c (i + 1) (p :: ps) is r K) := by
  have hb : Nat.beq 2 2 = true := rfl
  have hb1 : Nat.beq 2 1 = false := rfl
  simp only [opsRunD, hb, Bool.true_and]
  cases hp : pendAll c i st.σ (p :: ps) with
  | false => simp
  | true =>
    simp only [Bool.not_true, Bool.false_eq_true, if_false, true_and]
    unfold opStepD
    simp only [guardA, hb1, hg, Bool.false_and, Bool.false_eq_true, if_false, beq_self_eq_true]
    cases hx : opA c k (st.only ns) with
    | none => simp [okA_no]
    | some q => obtain ⟨v, s⟩ := q; simp [okA_sm, pendAdd]
theorem pend_one (hs : (∃ s', opA c p.k { p.st with σ := σ } = some (p.v, s')) ∧ eqV p.v p.v = true) : pendAll c i σ [p] = true := by
  obtain ⟨⟨s', h1⟩, h2⟩ := hs
  simp only [pendAll, List.all_cons, List.all_nil, pendOk, h1, h2, Bool.or_true, Bool.and_true]
end
theorem eqT_int {k : IntKind} {n : Nat} : eqT (.sc (.int k (n : Int))) (.sc (.int k (n : Int))) = true := by
  simp only [eqT, eqS]
  have h1 : Nat.beq (kx k) (kx k) = true := Nat.beq_refl _
  have h2 : eqInt (n : Int) (n : Int) = true := Nat.beq_refl n
  rw [h1, h2]; rfl
theorem eqTL_flat {k : IntKind} : ∀ (l : List Nat), eqTL (l.flatMap (nE k)) (l.flatMap (nE k)) = true
  | [] => by simp [eqTL]
  | x :: l => by
    have := eqTL_flat (k := k) l
    show (eqT (.sc (.int k (x : Int))) (.sc (.int k (x : Int))) && eqTL (l.flatMap (nE k)) (l.flatMap (nE k))) = true
    rw [eqT_int, this]; rfl
theorem eqV_num {N : Nat} {z : Int} {t : Tree} (h : IsNum N z t) : eqV (.tr t) (.tr t) = true := by
  obtain ⟨neg, l, hb, _⟩ := h
  obtain ⟨s, rfl, is⟩ := hb.ex
  have h1 : eqT s s = true := by
    rcases is with ⟨_, h⟩ | ⟨c, h⟩ <;> cases h
    · rfl
    · show (Nat.beq l.length l.length && eqO c c && eqTL (l.flatMap uE) (l.flatMap uE)) = true
      rw [eqTL_flat, Nat.beq_refl]
      cases c with
      | none => rfl
      | some c => show (true && Nat.beq c c && true) = true; rw [Nat.beq_refl]; rfl
  show (eqT (.sc (.bool neg)) (.sc (.bool neg)) && (eqT s s && true)) = true
  rw [h1]
  cases neg <;> rfl

theorem ld_row {i : Nat} {a b : Tree} {σ : Store} (h : σ[i]? = some (.row [.tr a, .tr b] 0)) : opLoad 2 true (.ptr i 0 0) σ = some (.tr (.agg [a, b])) := by
  simp only [opLoad, obCells, h]
  rfl
theorem ld_row1 {i : Nat} {a b : V} {σ : Store} (h : σ[i]? = some (.row [a, b] 0)) : opLoad 1 false (.ptr i 0 1) σ = some b := by
  simp only [opLoad, obCells, h]
  rfl
theorem st_row {i : Nat} {a b : V} {n : Bool} {t : Tree} {σ : Store} (h : σ[i]? = some (.row [a, b] 0)) (ht : oneV (.tr t) = true) : opStore 2 (.ptr i 0 0) (.tr (.agg [.sc (.bool n), t])) σ = some (σ.set i (.row [bv n, .tr t] 0)) := by
  simp [opStore, obPut, h, ht, splice_all]
theorem at_len {σ : Store} {o : Ob} {s : Store} : (σ ++ o :: s)[σ.length]? = some o := by simp
theorem push_at {σ : Store} {i : Nat} {o : Ob} {s : Store} (h : σ[i]? = some o) : (σ ++ s)[i]? = some o := by
  rw [List.getElem?_append_left (List.getElem?_eq_some_iff.1 h).1]; exact h
theorem set_at {σ : Store} {i j : Nat} {o o' : Ob} (h : σ[i]? = some o) (hne : i ≠ j) : (σ.set j o')[i]? = some o := by
  rw [List.getElem?_set_ne (Ne.symm hne)]; exact h
theorem set_same {σ : Store} {i : Nat} {o o' : Ob} (h : σ[i]? = some o) : (σ.set i o')[i]? = some o' := by
  have := (List.getElem?_eq_some_iff.1 h).1
  rw [List.getElem?_set_self this]
theorem num_zero {N : Nat} {r : Tree} (h : IsNum N 0 r) : ∃ s, r = .agg [.sc (.bool false), s] ∧ IsSl uE [] (.tr s) := by
  obtain ⟨neg, l, hb, hc, hne, hv, _⟩ := h
  have hz : val 4294967296 l = 0 := by
    unfold ival at hv
    cases neg <;> simp at hv <;> omega
  have hl := can_zero (B := 4294967296) (by decide) hc hz
  subst hl
  cases neg with
  | true => exact absurd rfl (hne rfl)
  | false =>
    obtain ⟨s, rfl, is⟩ := hb.ex
    exact ⟨s, rfl, is⟩
end Go.Proofs.Ytjacddclpcelmaa.AM.Bi
