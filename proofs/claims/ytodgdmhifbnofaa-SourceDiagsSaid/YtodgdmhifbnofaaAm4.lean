/- The abstract machine, part 4: A55 A57. -/
import Derived.Test.YtodgdmhifbnofaaAm3
section
set_option linter.unusedSimpArgs false
set_option linter.unusedVariables false
set_option linter.unusedVariables false
set_option linter.unusedSimpArgs false
namespace Go.Proofs.Ytodgdmhifbnofaa.AM
def GxV (bad : List Nat) (cs : List V) (w : V) (σ : Store) : Prop := (cs = [] ∧ w = nilSl) ∨ ∃ id g, id ∉ bad ∧ cs ≠ [] ∧ w = .own id g 0 cs.length 1 none ∧ σ[id]? = some (.row cs g)
theorem GxV.len {bad : List Nat} {cs : List V} {w : V} {σ σ' : Store} (h : GxV bad cs w σ) : opLen 1 w σ' = some (nv .i64 cs.length) := by
  rcases h with ⟨rfl, rfl⟩ | ⟨id, g, _, _, rfl, _⟩ <;> rfl
theorem GxV.keep {bad : List Nat} {cs : List V} {w : V} {σ σ' : Store} (h : GxV bad cs w σ) (hs : ∀ i, i ∉ bad → i < σ.length → σ'[i]? = σ[i]?) : GxV bad cs w σ' := by
  rcases h with h | ⟨id, g, h1, h2, h3, h4⟩
  · exact .inl h
  · exact .inr ⟨id, g, h1, h2, h3, by rw [hs id h1 (List.getElem?_eq_some_iff.1 h4).1]; exact h4⟩
def Root (r : List Nat) (td : List Tree) (w : V) (σ : Store) : Prop := (r = [] ∧ td = [] ∧ w = nilSl) ∨ ∃ id, r = [id] ∧ td ≠ [] ∧ Stk id td w σ
section
variable {r : List Nat} {td : List Tree} {w : V} {σ σ' : Store} {t : Tree}
theorem Root.nil (σ : Store) : Root [] [] nilSl σ := .inl ⟨rfl, rfl, rfl⟩
theorem Root.lt (h : Root r td w σ) : ∀ i ∈ r, i < σ.length := by
  rcases h with ⟨rfl, _, _⟩ | ⟨id, rfl, _, h⟩
  · simp
  · intro i hi; simp at hi; subst hi; exact h.lt
theorem Root.keep (h : Root r td w σ) (hs : ∀ i ∈ r, σ'[i]? = σ[i]?) : Root r td w σ' := by
  rcases h with h | ⟨id, rfl, h1, h⟩
  · exact .inl h
  · exact .inr ⟨id, rfl, h1, h.mono (hs id (by simp))⟩
theorem Root.len (h : Root r td w σ) : opLen 1 w σ' = some (nv .i64 td.length) := by
  rcases h with ⟨_, rfl, rfl⟩ | ⟨id, _, _, g, cap, pre, post, rfl, _, _⟩ <;> rfl
theorem Root.load (h : Root r td w σ) {i : Nat} (hi : td[i]? = some t) (k : IntKind) : ∃ p, opIaddr 1 w (.tr (.sc (.int k (i : Int)))) σ = some p ∧ opLoad 1 false p σ = some (.tr t) := by
  rcases h with ⟨_, rfl, _⟩ | ⟨id, _, _, h⟩
  · simp at hi
  · exact h.load hi k
theorem Root.snap (h : Root r td w σ) (d : Nat) : ∃ t, Go.Proofs.Ytodgdmhifbnofaa.AM.snap σ (d + 1) w = some t ∧ Rw td (.tr t) := by
  rcases h with ⟨_, h1, h2⟩ | ⟨id, _, _, h⟩
  · exact Gw.snap (id := 0) (.inl ⟨h1, h2⟩) d
  · exact Gw.snap (.inr h) d
end
section
variable {T : FTab} {c : CallA} {σ : Store} {st : St} {K : St → Prop} {k : HK} {r : List HOp} {ns : List Nat} {i : Nat} {is : List (Nat × List Nat)} {d : Option Nat} {inK : Bool}
@[simp] theorem okGD_tf {n : Nat} : okGD (some (.tr (.sc (.bool true)))) false c i n ns is d inK k r K st ↔ okP (opsRunD c (i + 1) [] is r (st.set d inK undefV)) K := by simp [okGD]
@[simp] theorem okGD_ff0 : okGD (some (.tr (.sc (.bool false)))) false c i 0 ns is d inK k r K st ↔ okA (opA c k (st.only ns)) d inK st (okD c (i + 1) is r K) := by
  have hb : Nat.beq 0 1 = false := rfl
  unfold okGD okF
  simp only [hb, Bool.false_and, Bool.false_eq_true, if_false, if_true]
  cases h : opA c k (st.only ns) with
  | none => simp [okA_no]
  | some p => obtain ⟨v, s⟩ := p; simp [okA_sm]
@[simp] theorem okGD_ff2 : okGD (some (.tr (.sc (.bool false)))) false c i 2 ns is d inK k r K st ↔ okA (opA c k (st.only ns)) d inK st (okD c (i + 1) is r K) := by
  have hb : Nat.beq 2 1 = false := rfl
  unfold okGD okF
  simp only [hb, Bool.false_and, Bool.false_eq_true, if_false, if_true]
  cases h : opA c k (st.only ns) with
  | none => simp [okA_no]
  | some p => obtain ⟨v, s⟩ := p; simp [okA_sm]
@[simp] theorem okGD_ff1 : okGD (some (.tr (.sc (.bool false)))) false c i 1 ns is d inK k r K st ↔ okA (okF true st.σ (opA (quietCall c) k (st.only ns))) d inK st (okD c (i + 1) is r K) := by
  have hb : Nat.beq 1 1 = true := rfl
  unfold okGD
  simp only [hb, if_true]
end
end Go.Proofs.Ytodgdmhifbnofaa.AM
end
section
set_option linter.unusedSimpArgs false
set_option linter.unusedVariables false
set_option linter.unusedVariables false
set_option linter.unusedSimpArgs false
namespace Go.Proofs.Ytodgdmhifbnofaa.AM
section
variable {α : Type} {E : α → List Tree} {c : Nat} {l m : List α} {σ : Store} {id n g : Nat} {cap : Option Nat} {a : α}
def cE (E : α → List Tree) (l : List α) : List V := (l.flatMap E).map .tr
theorem cE_len (hE : ∀ a, (E a).length = c) (l : List α) : (cE E l).length = l.length * c := by
  unfold cE
  rw [List.length_map, flat_len hE]
theorem cE_drop (hE : ∀ a, (E a).length = c) (l : List α) (n : Nat) : (cE E l).drop (n * c) = cE E (l.drop n) := by
  unfold cE
  rw [← List.map_drop, flat_drop hE]
theorem cE_take (hE : ∀ a, (E a).length = c) (l : List α) (n : Nat) : (cE E l).take (n * c) = cE E (l.take n) := by
  induction n generalizing l with
  | zero => simp [cE]
  | succ n ih =>
    cases l with
    | nil => simp [cE]
    | cons x l =>
      have h1 : cE E (x :: l) = (E x).map .tr ++ cE E l := by simp [cE]
      have h2 : cE E ((x :: l).take (n + 1)) = (E x).map .tr ++ cE E (l.take n) := by simp [cE]
      rw [h1, h2, List.take_append, List.length_map, hE, List.take_of_length_le (by rw [List.length_map, hE, Nat.add_mul]; omega), show (n + 1) * c - c = n * c by rw [Nat.add_mul]; omega, ih]
theorem cE_slice (hE : ∀ a, (E a).length = c) {i k : Nat} (h : i + k ≤ l.length) : slice? (cE E l) (i * c) (k * c) = some (cE E ((l.drop i).take k)) := by
  unfold slice?
  simp only [cE_drop hE, cE_take hE]
  rw [if_pos (by rw [cE_len hE, List.length_take, List.length_drop, Nat.min_eq_left (by omega)])]
theorem ownE_iaddr {ob : Ob} {off i : Nat} {k' : IntKind} (hs : σ[id]? = some ob) (hg : g = genOf ob) (hi : i < n) : opIaddr c (.own id g off n c cap) (.tr (.sc (.int k' (i : Int)))) σ = some (.ptr id g (off + i * c)) := by
  unfold opIaddr
  rw [asIdx_nat]
  simp only [hs, hi, hg, true_and, if_true]
theorem allTr_map : ∀ ts : List Tree, allTr (ts.map .tr) = some ts
  | [] => rfl
  | t :: ts => by simp only [List.map_cons, allTr, allTr_map ts]
theorem ownE_load (hE : ∀ a, (E a).length = c) {i : Nat} (hs : σ[id]? = some (.row (cE E l) g)) (hi : l[i]? = some a) : opLoad c true (.ptr id g (i * c)) σ = some (.tr (.agg (E a))) := by
  have hlt := (List.getElem?_eq_some_iff.1 hi).1
  have h1 : obCells σ id g = some (cE E l) := by simp [obCells, hs]
  have h2 := cE_slice hE (l := l) (i := i) (k := 1) (by omega)
  rw [Nat.one_mul, List.drop_eq_getElem_cons hlt, (List.getElem?_eq_some_iff.1 hi).2] at h2
  have h3 : cE E ((a :: l.drop (i + 1)).take 1) = (E a).map .tr := by simp [cE]
  rw [h3] at h2
  simp only [opLoad, h1, h2, ofCells, mkAgg, allTr_map]
theorem splice_cE (hE : ∀ a, (E a).length = c) {i : Nat} (hi : i < l.length) : splice (cE E l) (i * c) ((E a).map .tr) = cE E (l.set i a) := by
  unfold splice
  rw [cE_take hE, List.length_map, hE, show i * c + c = (i + 1) * c by rw [Nat.add_mul]; omega, cE_drop hE]
  have : l.set i a = l.take i ++ a :: l.drop (i + 1) := by rw [List.set_eq_take_append_cons_drop, if_pos hi]
  rw [this]
  simp [cE]
theorem ownE_store (hE : ∀ a, (E a).length = c) (ho : ((E a).map V.tr).all oneV = true) {i : Nat} (hs : σ[id]? = some (.row (cE E l) g)) (hi : i < l.length) :
    opStore c (.ptr id g (i * c)) (.tr (.agg (E a))) σ = some (σ.set id (.row (cE E (l.set i a)) g)) := by
  have h1 : cellsOf (.tr (.agg (E a))) = (E a).map .tr := rfl
  unfold opStore
  simp only [h1, List.length_map, hE, if_true]
  unfold obPut
  rw [hs]
  simp only
  have hle : i * c + c ≤ l.length * c := by
    have : (i + 1) * c ≤ l.length * c := Nat.mul_le_mul_right c hi
    rw [Nat.add_mul] at this
    omega
  rw [if_pos ⟨trivial, by rw [cE_len hE, List.length_map, hE]; exact hle, ho⟩, splice_cE hE hi]
theorem isSl_elems {v : V} (hE : ∀ a, (E a).length = c) (h : IsSl E l v) : elems σ c v = some (cE E l, l.length) := by
  rcases h with ⟨rfl, rfl⟩ | ⟨cap, rfl⟩
  · rfl
  · have := flat_len hE l
    simp only [elems, this, if_true]
    rfl
theorem appE_row {v : V} {b : Nat} (hE : ∀ a, (E a).length = c) (h : IsSl E l v) (hl : 0 < l.length) (hr : Go.Proofs.Ytodgdmhifbnofaa.AM.room l.length b = true) : opAppend c b (.tr (.row [] 0 (some 0))) v σ = some (.own σ.length 0 0 l.length c none, σ ++ [.row (cE E l) 0]) := by
  have h0 : Go.Proofs.Ytodgdmhifbnofaa.AM.room 0 b = true := by unfold Go.Proofs.Ytodgdmhifbnofaa.AM.room; rw [Nat.zero_mul]; rfl
  have h1 : ¬ l.length = 0 := by omega
  unfold opAppend
  simp [isSl_elems hE h, hr, h0, h1]
theorem appE_none {v s : V} {b : Nat} (hE : ∀ a, (E a).length = c) (h : IsSl E [] v) (hs : s = nilSl ∨ ∃ c, s = .tr (.row [] 0 c)) : opAppend c b s v σ = some (s, σ) := by
  have h0 : Go.Proofs.Ytodgdmhifbnofaa.AM.room 0 b = true := by unfold Go.Proofs.Ytodgdmhifbnofaa.AM.room; rw [Nat.zero_mul]; rfl
  unfold opAppend
  rcases hs with rfl | ⟨c, rfl⟩ <;> simp [isSl_elems hE h, h0, nilSl]
theorem snapE {d k : Nat} (hE : ∀ a, (E a).length = c) (hs : σ[id]? = some (.row (cE E l) g)) (h : n + k ≤ l.length) : snap σ (d + 1) (.own id g (k * c) n c cap) = some (.row (((l.drop k).take n).flatMap E) n cap) := by
  have h1 : obCells σ id g = some (cE E l) := by simp [obCells, hs]
  have h2 := cE_slice hE (l := l) (i := k) (k := n) (by omega)
  unfold snap
  simp only [h1, h2]
  unfold cE
  rw [snapL_tr]
end
end Go.Proofs.Ytodgdmhifbnofaa.AM
end
