/- the places: parts 2, 3, 4, 5. -/
import Derived.Test.YtodgdmhifbnofaaSd1
import Derived.Test.YtodgdmhifbnofaaAm4
set_option linter.unusedSectionVars false
section
set_option maxRecDepth 1000000
set_option linter.unusedVariables false
set_option linter.unusedSimpArgs false
namespace Go.Proofs.Ytodgdmhifbnofaa.AM.Sd
open Go.Proofs
abbrev sv (s : List UInt8) : V := .tr (.sc (.string ⟨⟨s⟩⟩))
def dT (x : Dg) : List Tree := [.sc (.string ⟨⟨x.1⟩⟩), .sc (.string ⟨⟨x.2.1⟩⟩), .sc (.int .i64 x.2.2)]
theorem dT_len (x : Dg) : (dT x).length = 3 := rfl
theorem dT_one (x : Dg) : ((dT x).map V.tr).all oneV = true := rfl
theorem lss_s (a b : List UInt8) : opBin .other .lss (sv a) (sv b) = some (bv (bytesLt a b)) := rfl
theorem eql_s (a b : List UInt8) : opBin .other .eql (sv a) (sv b) = some (bv (bytesEq a b)) := rfl
theorem ld0 (x : Dg) (σ : Store) : opLoad 1 false (.tr (.rptr (dT x) 0)) σ = some (sv x.1) := rfl
theorem ld1 (x : Dg) (σ : Store) : opLoad 1 false (.tr (.rptr (dT x) 1)) σ = some (sv x.2.1) := rfl
theorem ld2 (x : Dg) (σ : Store) : opLoad 1 false (.tr (.rptr (dT x) 2)) σ = some (iv x.2.2) := rfl
theorem box3 (x : Dg) (σ : Store) : opBoxB true (.tr (.agg (dT x))) σ = some (.tr (.rptr (dT x) 0), σ) := rfl
theorem less_ok (a b : Dg) (σ : Store) : callL T 8 [.tr (.agg (dT a)), .tr (.agg (dT b))] σ = some (bv (dLt a b), σ) := by
  suffices hh : ∃ t, (∀ σ, callL T 8 ([.agg (dT a), .agg (dT b)].map .tr) σ = some (.tr t, σ)) ∧ t = .sc (.bool (dLt a b)) by
    obtain ⟨t, h, rfl⟩ := hh
    exact h σ
  refine call_iso T8 rfl rfl ?_
  have f : ∀ (x : Dg) (o n : Nat), opFaddr o (.tr (.rptr (dT x) n)) = some (.tr (.rptr (dT x) (n + o))) := fun x o n => rfl
  have hd : dLt a b = (bytesLt a.1 b.1 || (bytesEq a.1 b.1 && (bytesLt a.2.1 b.2.1 || (bytesEq a.2.1 b.2.1 && decide (a.2.2 < b.2.2))))) := rfl
  cases h1 : bytesLt a.1 b.1 with
  | true => simp [fn8, box3, f, ld0, ld1, ld2, lss_s, eql_s, h1, hd]
  | false =>
    cases h2 : bytesEq a.1 b.1 with
    | false => simp [fn8, box3, f, ld0, ld1, ld2, lss_s, eql_s, h1, h2, hd]
    | true =>
      cases h3 : bytesLt a.2.1 b.2.1 with
      | true => simp [fn8, box3, f, ld0, ld1, ld2, lss_s, eql_s, h1, h2, h3, hd]
      | false =>
        cases h4 : bytesEq a.2.1 b.2.1 with
        | false => simp [fn8, box3, f, ld0, ld1, ld2, lss_s, eql_s, h1, h2, h3, h4, hd]
        | true => simp [fn8, box3, f, ld0, ld1, ld2, lss_s, eql_s, h1, h2, h3, h4, hd]
end Go.Proofs.Ytodgdmhifbnofaa.AM.Sd
end
section
set_option maxRecDepth 1000000
set_option linter.unusedVariables false
set_option linter.unusedSimpArgs false
namespace Go.Proofs.Ytodgdmhifbnofaa.AM.Sd
open Go.Proofs
def cptStep (acc : List Dg) (x : Dg) : List Dg := if acc.getLast? = some x then acc else acc ++ [x]
def cpt (l : List Dg) : List Dg := l.foldl cptStep []
theorem cpt_snoc (l : List Dg) (x : Dg) : cpt (l ++ [x]) = cptStep (cpt l) x := by simp [cpt, List.foldl_append]
theorem snoc_ind {P : List Dg → Prop} (h0 : P []) (h1 : ∀ l x, P l → P (l ++ [x])) : ∀ l, P l := by
  intro l
  rw [← List.reverse_reverse l]
  induction l.reverse with
  | nil => exact h0
  | cons x r ih => rw [List.reverse_cons]; exact h1 _ _ ih
theorem cpt_last : ∀ l, (cpt l).getLast? = l.getLast? := by
  refine snoc_ind rfl fun l x ih => ?_
  rw [cpt_snoc, cptStep]
  split
  · rename_i h; rw [h]; simp
  · simp
theorem cpt_mem (y : Dg) : ∀ l, y ∈ cpt l ↔ y ∈ l := by
  refine snoc_ind (by simp [cpt]) fun l x ih => ?_
  rw [cpt_snoc, cptStep]
  split
  · rename_i h
    have := List.mem_of_getLast? h
    rw [ih, List.mem_append, List.mem_singleton]
    constructor
    · exact .inl
    · rintro (h1 | rfl)
      · exact h1
      · exact ih.1 this
  · rw [List.mem_append, List.mem_append, ih]
theorem cpt_len : ∀ l, (cpt l).length ≤ l.length := by
  refine snoc_ind (Nat.le_refl _) fun l x ih => ?_
  rw [cpt_snoc, cptStep]
  split
  · simp; omega
  · simp; omega
theorem cpt_eq {l : List Dg} {x y : Dg} (h : l.getLast? = some y) : cpt (l ++ [x]) = if x = y then cpt l else cpt l ++ [x] := by
  rw [cpt_snoc, cptStep, cpt_last, h]
  by_cases e : x = y
  · subst e; simp
  · rw [if_neg e, if_neg (by simp; exact fun h => e h.symm)]
theorem cpt_sorted {le : Dg → Dg → Bool} (ha : ∀ a b, le a b = true → le b a = true → a = b) : ∀ l : List Dg, l.Pairwise (fun a b => le a b = true) → (cpt l).Pairwise (fun a b => le a b = true ∧ a ≠ b) := by
  refine snoc_ind (fun _ => by simp [cpt]) fun l x ih h => ?_
  rw [List.pairwise_append] at h
  rw [cpt_snoc, cptStep]
  split
  · exact ih h.1
  · rename_i hn
    rw [List.pairwise_append]
    refine ⟨ih h.1, by simp, fun a hal b hb => ?_⟩
    obtain rfl := List.mem_singleton.1 hb
    refine ⟨h.2.2 a ((cpt_mem a l).1 hal) b (by simp), ?_⟩
    rintro rfl
    apply hn
    have hne : l ≠ [] := by rintro rfl; simp [cpt] at hal
    rw [cpt_last, List.getLast?_eq_some_getLast hne]
    congr 1
    have h1 : le (l.getLast hne) a = true := h.2.2 _ (List.getLast_mem hne) a (by simp)
    have ham := (cpt_mem a l).1 hal
    have h2 : a = l.getLast hne ∨ le a (l.getLast hne) = true := by
      have hs := h.1
      rw [← List.dropLast_concat_getLast hne, List.pairwise_append] at hs
      rw [← List.dropLast_concat_getLast hne, List.mem_append, List.mem_singleton] at ham
      rcases ham with ham | ham
      · exact .inr (hs.2.2 a ham _ (by simp))
      · exact .inl ham
    rcases h2 with h2 | h2
    · exact h2.symm
    · exact ha _ _ h1 h2
theorem some_at {α : Type} {l : List α} {i : Nat} (h : i < l.length) : ∃ a, l[i]? = some a := ⟨l[i], List.getElem?_eq_getElem h⟩
theorem take_snoc {α : Type} {l : List α} {n : Nat} {c : α} (h : l[n]? = some c) : l.take (n + 1) = l.take n ++ [c] := by
  rw [List.take_add_one, h]
  rfl
theorem take_last {α : Type} {l : List α} {n : Nat} {c : α} (h : l[n]? = some c) : (l.take (n + 1)).getLast? = some c := by
  rw [take_snoc h]; simp
theorem cpt_at {L : List Dg} {k : Nat} {x y : Dg} (hx : L[k + 1]? = some x) (hy : L[k]? = some y) : cpt (L.take (k + 1 + 1)) = if x = y then cpt (L.take (k + 1)) else cpt (L.take (k + 1)) ++ [x] := by
  rw [take_snoc hx, cpt_eq (take_last hy)]
theorem eqAt_d (x y : Dg) : eqAt [(0, 1), (1, 1), (2, 0)] (dT x) (dT y) = some (decide (x = y)) := by
  have h : (bytesEq x.1 y.1 && (bytesEq x.2.1 y.2.1 && (x.2.2 == y.2.2))) = decide (x = y) := by
    obtain ⟨a, b, n⟩ := x
    obtain ⟨a', b', n'⟩ := y
    rw [bytesEq_iff', bytesEq_iff', Bool.eq_iff_iff]
    simp
  rw [← h]
  simp only [dT, eqAt, eqSc, List.getElem?_cons_zero, List.getElem?_cons_succ, if_true]
  cases bytesEq x.1 y.1 <;> cases bytesEq x.2.1 y.2.1 <;> cases (x.2.2 == y.2.2) <;> rfl
theorem eqs_f (x y : Dg) : opEqs false [(0, 1), (1, 1), (2, 0)] (.tr (.agg (dT x))) (.tr (.agg (dT y))) = some (bv (decide (x = y))) := by
  simp only [opEqs, eqAt_d]
  rfl
theorem eqs_t (x y : Dg) : opEqs true [(0, 1), (1, 1), (2, 0)] (.tr (.agg (dT x))) (.tr (.agg (dT y))) = some (bv (!decide (x = y))) := by
  simp only [opEqs, eqAt_d]
  rfl
theorem splice_row {α : Type} {E : α → List Tree} {c : Nat} (hE : ∀ a, (E a).length = c) (l r : List α) (i : Nat) (h : i + r.length ≤ l.length) : splice (cE E l) (i * c) (cE E r) = cE E (l.take i ++ r ++ l.drop (i + r.length)) := by
  unfold splice
  rw [cE_take hE, cE_len hE, ← Nat.add_mul, cE_drop hE]
  simp [cE]
theorem rep_row {α : Type} {E : α → List Tree} (z : α) (n : Nat) : (rep n (E z)).map V.tr = cE E (List.replicate n z) := by
  induction n with
  | zero => rfl
  | succ n ih =>
    rw [rep, List.map_append, ih, List.replicate_succ]
    simp [cE]
def zD : Dg := ([], [], 0)
theorem cE_one (l : List Dg) : (cE dT l).all oneV = true := by
  rw [List.all_eq_true]
  intro x hx
  unfold cE at hx
  obtain ⟨t, ht, rfl⟩ := List.mem_map.1 hx
  obtain ⟨d, hd, ht⟩ := List.mem_flatMap.1 ht
  simp [dT] at ht
  rcases ht with rfl | rfl | rfl <;> rfl
theorem clear_row {A : List Dg} {σ : Store} {id g k m : Nat} {cap : Option Nat} (hs : σ[id]? = some (.row (cE dT A) g)) (h : k + (m + 1) = A.length) :
    opClear [.sc (.string ⟨⟨[]⟩⟩), .sc (.string ⟨⟨[]⟩⟩), .sc (.int .i64 0)] (.own id g (k * 3) (m + 1) 3 cap) σ = some (.tr (.tup []), σ.set id (.row (cE dT (A.take k ++ List.replicate (m + 1) zD)) g)) := by
  unfold opClear
  have hr := rep_row (E := dT) zD (m + 1)
  have hz : dT zD = [.sc (.string ⟨⟨[]⟩⟩), .sc (.string ⟨⟨[]⟩⟩), .sc (.int .i64 0)] := rfl
  rw [hz] at hr
  simp only [List.length_cons, List.length_nil, Nat.zero_add, ne_eq, not_true_eq_false, if_false, hr]
  unfold obPut
  rw [hs]
  simp only
  rw [if_pos ⟨trivial, by rw [cE_len dT_len, cE_len dT_len, List.length_replicate]; omega, cE_one _⟩]
  simp only
  rw [splice_row dT_len _ _ _ (by simp; omega)]
  simp only [List.length_replicate]
  rw [List.drop_of_length_le (by omega), List.append_nil]
end Go.Proofs.Ytodgdmhifbnofaa.AM.Sd
end
section
set_option maxRecDepth 1000000
set_option linter.unusedVariables false
set_option linter.unusedSimpArgs false
namespace Go.Proofs.Ytodgdmhifbnofaa.AM.Sd
open Go.Proofs
theorem own3_len {id g off n : Nat} {cap : Option Nat} {σ : Store} : opLen 1 (.own id g off n 3 cap) σ = some (iv n) := rfl
abbrev own3 (id off n : Nat) (cap : Option Nat) : V := .own id 0 off n 3 cap
theorem cpt_inner {L : List Dg} {id k0 : Nat} {σ : Store} {e Lo : List (Nat × V)} {Q : Out → St → Prop} (hid : id < σ.length) (hn : L.length ≤ 1000) (hk0 : 0 < k0) (hk : k0 < L.length)
    (hs : σ[id]? = some (.row (cE dT L) 0)) (hu : cpt (L.take k0) = L.take k0) (he : cpt (L.take (k0 + 1)) = L.take k0)
    (g0 : look e 0 = some (own3 id 0 L.length none)) (g3 : look e 3 = some (iv k0)) (g4 : look e 4 = some (own3 id (k0 * 3) (L.length - k0) none)) (g5 : look e 5 = some (iv 1))
    (hQ : ∀ e' L' A σ', σ'[id]? = some (.row (cE dT A) 0) → A.length = L.length → A.take (cpt L).length = cpt L → (cpt L).length < L.length → look e' 0 = some (own3 id 0 L.length none) → look e' 3 = some (iv ((cpt L).length : Nat)) → Q (.exit 2) ⟨e', L', σ'⟩) :
    Wp T (.loop k21_12) ⟨e, Lo, σ⟩ Q := by
  obtain ⟨I, hI⟩ : ∃ I : Nat → St → Prop, I = (fun r st => k0 + (r + 1) ≤ L.length ∧ ∃ e Lo σ A, ∃ kk : Nat, st = ⟨e, Lo, σ⟩ ∧ id < σ.length ∧ σ[id]? = some (.row (cE dT A) 0) ∧ A.length = L.length ∧ kk + 1 ≤ k0 + (r + 1) ∧ A.take kk = cpt (L.take (k0 + (r + 1))) ∧ (∀ j, k0 + r ≤ j → A[j]? = L[j]?)
    ∧ look e 0 = some (own3 id 0 L.length none) ∧ look e 3 = some (iv kk) ∧ look e 4 = some (own3 id (k0 * 3) (L.length - k0) none) ∧ look e 5 = some (iv ((r + 1 : Nat) : Int))) := ⟨_, rfl⟩
  refine wpc_up (L.length - k0) I ?_ ?_
  · rw [hI]
    exact ⟨by omega, e, Lo, σ, L, k0, rfl, hid, hs, rfl, by omega, he.symm, fun _ _ => rfl, g0, g3, g4, g5⟩
  clear g0 g3 g4 g5 hid hs
  intro r st hIs
  rw [hI] at hIs
  obtain ⟨hr, e, Lo, σ, A, kk, rfl, hid, hs, hA, hkk, hT, hD, g0, g3, g4, g5⟩ := hIs
  by_cases hlt : r + 1 < L.length - k0
  · have hlt' : (((r + 1 : Nat) : Int)) < ((L.length - k0 : Nat) : Int) := by omega
    obtain ⟨x, hx⟩ := some_at (l := L) (i := k0 + r + 1) (by omega)
    obtain ⟨y, hy⟩ := some_at (l := L) (i := k0 + r) (by omega)
    have hxA : A[k0 + (r + 1)]? = some x := by rw [← hx, hD _ (by omega)]; rfl
    have hyA : A[k0 + r]? = some y := by rw [← hy, hD _ (by omega)]
    have w1 : IntKind.i64.wrap (((r + 1 : Nat) : Int) - 1) = (r : Int) := by rw [show ((r + 1 : Nat) : Int) - 1 = (r : Int) by omega]; exact w64 (by omega) (by omega)
    have w2 : IntKind.i64.wrap (((r + 1 : Nat) : Int) + 1) = ((r + 1 + 1 : Nat) : Int) := by rw [show ((r + 1 : Nat) : Int) + 1 = ((r + 1 + 1 : Nat) : Int) by omega]; exact w64 (by omega) (by omega)
    have w3 : IntKind.i64.wrap ((kk : Int) + 1) = ((kk + 1 : Nat) : Int) := by rw [show (kk : Int) + 1 = ((kk + 1 : Nat) : Int) by omega]; exact w64 (by omega) (by omega)
    have ia1 : opIaddr 3 (own3 id (k0 * 3) (L.length - k0) none) (iv ((r + 1 : Nat) : Int)) σ = some (.ptr id 0 ((k0 + (r + 1)) * 3)) := by
      rw [Nat.add_mul]; exact ownE_iaddr hs rfl hlt
    have ia2 : opIaddr 3 (own3 id (k0 * 3) (L.length - k0) none) (iv (r : Int)) σ = some (.ptr id 0 ((k0 + r) * 3)) := by
      rw [Nat.add_mul]; exact ownE_iaddr hs rfl (by omega)
    have ia3 : opIaddr 3 (own3 id 0 L.length none) (iv (kk : Int)) σ = some (.ptr id 0 (kk * 3)) := by
      have := ownE_iaddr (c := 3) (k' := .i64) (cap := none) (off := 0) (n := L.length) (i := kk) hs rfl (by omega)
      rwa [Nat.zero_add] at this
    have l1 : opLoad 3 true (.ptr id 0 ((k0 + (r + 1)) * 3)) σ = some (.tr (.agg (dT x))) := ownE_load dT_len hs hxA
    have l2 : opLoad 3 true (.ptr id 0 ((k0 + r) * 3)) σ = some (.tr (.agg (dT y))) := ownE_load dT_len hs hyA
    have s1 : opStore 3 (.ptr id 0 (kk * 3)) (.tr (.agg (dT x))) σ = some (σ.set id (.row (cE dT (A.set kk x)) 0)) := ownE_store dT_len (dT_one x) hs (by omega)
    have hc := cpt_at (L := L) (k := k0 + r) hx hy
    generalize hrr : ((r + 1 : Nat) : Int) = rr at *
    have key : ∀ e' Lo' σ' A' (kk' : Nat), id < σ'.length → σ'[id]? = some (.row (cE dT A') 0) → A'.length = L.length → kk' + 1 ≤ k0 + (r + 1 + 1) → A'.take kk' = cpt (L.take (k0 + (r + 1 + 1))) → (∀ j, k0 + (r + 1) ≤ j → A'[j]? = L[j]?) → look e' 0 = some (own3 id 0 L.length none) → look e' 3 = some (iv kk') → look e' 4 = some (own3 id (k0 * 3) (L.length - k0) none) → look e' 5 = some (iv ((r + 1 + 1 : Nat) : Int)) → r < L.length - k0 ∧ I (r + 1) ⟨e', Lo', σ'⟩ := by
      intro e' Lo' σ' A' kk' q1 q2 q3 q4 q5 q6 f0 f3 f4 f5
      refine ⟨by omega, ?_⟩
      rw [hI]
      exact ⟨by omega, e', Lo', σ', A', kk', rfl, q1, q2, q3, q4, q5, q6, f0, f3, f4, f5⟩
    by_cases hxy : x = y
    · simp [k21_12, g0, g3, g4, g5, hlt', own3_len, k21_14, ia1, ia2, l1, l2, w1, eqs_t, hxy, k21_17, w2]
      refine key _ _ _ A kk hid hs hA (by omega) ?_ (fun j hj => hD j (by omega)) (by simp [g0]) (by simp [g3]) (by simp [g4]) (by simp)
      rw [hT]
      rw [show k0 + (r + 1 + 1) = k0 + r + 1 + 1 by omega, hc, if_pos hxy]
      rfl
    · simp [k21_12, g0, g3, g4, g5, hlt', own3_len, k21_14, ia1, ia2, ia3, l1, l2, s1, w1, eqs_t, hxy, k21_17, w2, w3]
      refine key _ _ _ (A.set kk x) (kk + 1) (by simpa using hid) (by simp [hid]) (by simp [hA]) (by omega) ?_ (fun j hj => ?_) (by simp [g0]) (by simp) (by simp [g4]) (by simp)
      · have h1 : (A.set kk x)[kk]? = some x := List.getElem?_set_self (by omega)
        rw [take_snoc h1, List.take_set_of_le (Nat.le_refl _), hT]
        rw [show k0 + (r + 1 + 1) = k0 + r + 1 + 1 by omega, hc, if_neg hxy]
        rfl
      · rw [List.getElem?_set_ne (by omega)]
        exact hD j (by omega)
  · have hlt' : ¬ (((r + 1 : Nat) : Int)) < ((L.length - k0 : Nat) : Int) := by omega
    have hall : L.take (k0 + (r + 1)) = L := List.take_of_length_le (by omega)
    rw [hall] at hT
    have hlen : (cpt L).length = kk := by rw [← hT, List.length_take]; omega
    generalize ((r + 1 : Nat) : Int) = rr at *
    simp [k21_12, g0, g3, g4, g5, hlt', own3_len]
    refine hQ _ _ A σ hs hA (by rw [hlen]; exact hT) (by omega) g0 (by rw [hlen]; exact g3)
end Go.Proofs.Ytodgdmhifbnofaa.AM.Sd
end
section
set_option maxRecDepth 1000000
set_option linter.unusedVariables false
set_option linter.unusedSimpArgs false
namespace Go.Proofs.Ytodgdmhifbnofaa.AM.Sd
open Go.Proofs
theorem cpt_short {L : List Dg} (h : L.length < 2) : cpt L = L := by
  match L, h with
  | [], _ => rfl
  | [x], _ => rfl
theorem compact_ok {L : List Dg} {σ : Store} {id : Nat} (hid : id < σ.length) (hs : σ[id]? = some (.row (cE dT L) 0)) (hn : L.length ≤ 1000) :
    ∃ v σ', callL T 21 [own3 id 0 L.length none] σ = some (v, σ') ∧ v = own3 id 0 (cpt L).length none ∧ ∃ A, σ'[id]? = some (.row (cE dT A) 0) ∧ (cpt L).length ≤ A.length ∧ A.take (cpt L).length = cpt L := by
  refine call_shared T21 rfl rfl ?_
  by_cases h2 : L.length < 2
  · have h2' : (L.length : Int) < 2 := by omega
    simp [own3_len, h2']
    rw [cpt_short h2]
    exact ⟨rfl, L, hs, Nat.le_refl _, by simp⟩
  have h2' : ¬ (L.length : Int) < 2 := by omega
  simp [own3_len, h2', k21_3]
  obtain ⟨I, hI⟩ : ∃ I : Nat → St → Prop, I = (fun r st => r + 1 ≤ L.length ∧ ∃ e Lo, st = ⟨e, Lo, σ⟩ ∧ cpt (L.take (r + 1)) = L.take (r + 1)
    ∧ look e 0 = some (own3 id 0 L.length none) ∧ look e 3 = some (iv ((r + 1 : Nat) : Int))) := ⟨_, rfl⟩
  refine wpc_up L.length I ?_ ?_
  · rw [hI]
    refine ⟨by omega, _, _, rfl, ?_, by simp, by simp⟩
    exact cpt_short (by rw [List.length_take]; omega)
  intro r st hIs
  rw [hI] at hIs
  obtain ⟨hr, e, Lo, rfl, hu, g0, g3⟩ := hIs
  by_cases hlt : r + 1 < L.length
  · have hlt' : ((r + 1 : Nat) : Int) < (L.length : Int) := by omega
    obtain ⟨x, hx⟩ := some_at (l := L) (i := r + 1) hlt
    obtain ⟨y, hy⟩ := some_at (l := L) (i := r) (by omega)
    have w1 : IntKind.i64.wrap (((r + 1 : Nat) : Int) - 1) = (r : Int) := by rw [show ((r + 1 : Nat) : Int) - 1 = (r : Int) by omega]; exact w64 (by omega) (by omega)
    have w2 : IntKind.i64.wrap (((r + 1 : Nat) : Int) + 1) = ((r + 1 + 1 : Nat) : Int) := by rw [show ((r + 1 : Nat) : Int) + 1 = ((r + 1 + 1 : Nat) : Int) by omega]; exact w64 (by omega) (by omega)
    have ia : ∀ i : Nat, i < L.length → opIaddr 3 (own3 id 0 L.length none) (iv (i : Int)) σ = some (.ptr id 0 (i * 3)) := fun i hi => by
      have := ownE_iaddr (c := 3) (k' := .i64) (cap := none) (off := 0) (n := L.length) (i := i) hs rfl hi
      rwa [Nat.zero_add] at this
    have ia1 := ia _ hlt
    have ia2 := ia r (by omega)
    have l1 : opLoad 3 true (.ptr id 0 ((r + 1) * 3)) σ = some (.tr (.agg (dT x))) := ownE_load dT_len hs hx
    have l2 : opLoad 3 true (.ptr id 0 (r * 3)) σ = some (.tr (.agg (dT y))) := ownE_load dT_len hs hy
    have hc := cpt_at (L := L) (k := r) hx hy
    by_cases hxy : x = y
    · have hcut : opSlice 3 (own3 id 0 L.length none) (some (iv ((r + 1 : Nat) : Int))) none none σ = some (own3 id ((r + 1) * 3) (L.length - (r + 1)) none) := by
        have hob : obCells σ id 0 = some (cE dT L) := by simp [obCells, hs]
        unfold opSlice
        simp only [optIdx, asIdx_nat, Option.getD_some, Option.getD_none, hob, ne_eq, not_true_eq_false, if_false, cutCap, Option.isSome_none, Bool.false_and, Bool.false_eq_true, Nat.zero_add]
        rw [if_pos ⟨by omega, Nat.le_refl _, .inl (Nat.le_refl _)⟩]
      have hin := fun Lo e Q => cpt_inner (e := e) (Lo := Lo) (Q := Q) hid hn (k0 := r + 1) (by omega) hlt hs hu (by rw [hc, if_pos hxy]; exact hu)
      generalize hrr : ((r + 1 : Nat) : Int) = rr at *
      simp [k21_5, g0, g3, hlt', own3_len, k21_7, ia1, ia2, l1, l2, w1, eqs_f, hxy, hcut]
      subst hrr
      refine hin _ _ _ (by simp [g0]) (by simp [g3]) (by simp) (by simp) ?_
      intro e' L' A σ' q1 q2 q3 q4 f0 f3
      have hob : obCells σ' id 0 = some (cE dT A) := by simp [obCells, q1]
      have hcut1 : opSlice 3 (own3 id 0 L.length none) (some (iv (((cpt L).length : Nat) : Int))) none none σ' = some (own3 id ((cpt L).length * 3) (L.length - (cpt L).length) none) := by
        unfold opSlice
        simp only [optIdx, asIdx_nat, Option.getD_some, Option.getD_none, hob, ne_eq, not_true_eq_false, if_false, cutCap, Option.isSome_none, Bool.false_and, Bool.false_eq_true, Nat.zero_add]
        rw [if_pos ⟨by omega, Nat.le_refl _, .inl (Nat.le_refl _)⟩]
      obtain ⟨m, hm⟩ : ∃ m, L.length - (cpt L).length = m + 1 := ⟨L.length - (cpt L).length - 1, by omega⟩
      rw [hm] at hcut1
      have hcl := clear_row (A := A) (σ := σ') (id := id) (g := 0) (k := (cpt L).length) (m := m) (cap := none) q1 (by omega)
      have hid' : id < σ'.length := by
        rcases Nat.lt_or_ge id σ'.length with h | h
        · exact h
        · rw [List.getElem?_eq_none h] at q1; cases q1
      have hcut2 : ∀ σ2 : Store, σ2[id]? = some (.row (cE dT (A.take (cpt L).length ++ List.replicate (m + 1) zD)) 0) → opSlice 3 (own3 id 0 L.length none) none (some (iv (((cpt L).length : Nat) : Int))) none σ2 = some (own3 id 0 (cpt L).length none) := by
        intro σ2 h2
        have hob : obCells σ2 id 0 = some (cE dT (A.take (cpt L).length ++ List.replicate (m + 1) zD)) := by simp [obCells, h2]
        unfold opSlice
        simp only [optIdx, asIdx_nat, Option.getD_some, Option.getD_none, hob, ne_eq, not_true_eq_false, if_false, cutCap, Option.isSome_none, Bool.false_and, Bool.false_eq_true, Nat.zero_add, Nat.zero_mul, Nat.sub_zero]
        rw [if_pos ⟨Nat.zero_le _, Nat.le_refl _, .inl (by omega)⟩]
      have hs2 : (σ'.set id (.row (cE dT (A.take (cpt L).length ++ List.replicate (m + 1) zD)) 0))[id]? = some (.row (cE dT (A.take (cpt L).length ++ List.replicate (m + 1) zD)) 0) := by simp [hid']
      have hcut2 := hcut2 _ hs2
      simp [k21_18, f0, f3, hcut1, hcl, hcut2]
      refine ⟨_, List.getElem?_set_self hid', ?_, ?_⟩
      · rw [List.length_append, List.length_take]; omega
      · rw [q3, List.take_append_of_le_length (Nat.le_refl _), List.take_of_length_le (Nat.le_refl _)]
    · generalize hrr : ((r + 1 : Nat) : Int) = rr at *
      simp [k21_5, g0, g3, hlt', own3_len, k21_7, ia1, ia2, l1, l2, w1, eqs_f, hxy, k21_20, w2]
      refine ⟨by omega, ?_⟩
      rw [hI]
      refine ⟨by omega, _, _, rfl, ?_, by simp [g0], by simp⟩
      rw [hc, if_neg hxy, hu, ← take_snoc hx]
  · have hlt' : ¬ ((r + 1 : Nat) : Int) < (L.length : Int) := by omega
    have hall : L.take (r + 1) = L := List.take_of_length_le (by omega)
    rw [hall] at hu
    generalize ((r + 1 : Nat) : Int) = rr at *
    simp [k21_5, g0, g3, hlt', own3_len, k21_21]
    rw [hu]
    exact ⟨rfl, L, hs, Nat.le_refl _, by simp⟩
end Go.Proofs.Ytodgdmhifbnofaa.AM.Sd
end
