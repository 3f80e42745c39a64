/- The abstract machine, part 4: A55 A57 A58. -/
import Derived.Test.YtodgdmhifbnofaaAm3
section
set_option linter.unusedSimpArgs false
set_option linter.unusedVariables false
set_option linter.unusedVariables false
set_option linter.unusedSimpArgs false
namespace Go.Proofs.Ytodgdmhifbnofaa.AM
def GxV (bad : List Nat) (cs : List V) (w : V) (σ : Store) : Prop := (cs = [] ∧ w = nilSl) ∨ ∃ id g, id ∉ bad ∧ cs ≠ [] ∧ w = .own id g 0 cs.length 1 none ∧ σ[id]? = some (.row cs g)
theorem GxV.len {bad : List Nat} {cs : List V} {w : V} {σ σ' : Store} (h : GxV bad cs w σ) : opLen 1 w σ' = some (nv .i64 cs.length) := by
  rcases h with ⟨rfl, rfl⟩ | ⟨id, g, _, _, rfl, _⟩ <;> rfl
theorem GxV.keep {bad : List Nat} {cs : List V} {w : V} {σ σ' : Store} (h : GxV bad cs w σ) (hs : ∀ i, i ∉ bad → i < σ.length → σ'[i]? = σ[i]?) : GxV bad cs w σ' := by
  rcases h with h | ⟨id, g, h1, h2, h3, h4⟩
  · exact .inl h
  · exact .inr ⟨id, g, h1, h2, h3, by rw [hs id h1 (List.getElem?_eq_some_iff.1 h4).1]; exact h4⟩
def Root (r : List Nat) (td : List Tree) (w : V) (σ : Store) : Prop := (r = [] ∧ td = [] ∧ w = nilSl) ∨ ∃ id, r = [id] ∧ td ≠ [] ∧ Stk id td w σ
section
variable {r : List Nat} {td : List Tree} {w : V} {σ σ' : Store} {t : Tree}
theorem Root.nil (σ : Store) : Root [] [] nilSl σ := .inl ⟨rfl, rfl, rfl⟩
theorem Root.lt (h : Root r td w σ) : ∀ i ∈ r, i < σ.length := by
  rcases h with ⟨rfl, _, _⟩ | ⟨id, rfl, _, h⟩
  · simp
  · intro i hi; simp at hi; subst hi; exact h.lt
theorem Root.keep (h : Root r td w σ) (hs : ∀ i ∈ r, σ'[i]? = σ[i]?) : Root r td w σ' := by
  rcases h with h | ⟨id, rfl, h1, h⟩
  · exact .inl h
  · exact .inr ⟨id, rfl, h1, h.mono (hs id (by simp))⟩
theorem Root.len (h : Root r td w σ) : opLen 1 w σ' = some (nv .i64 td.length) := by
  rcases h with ⟨_, rfl, rfl⟩ | ⟨id, _, _, g, cap, pre, post, rfl, _, _⟩ <;> rfl
theorem Root.load (h : Root r td w σ) {i : Nat} (hi : td[i]? = some t) (k : IntKind) : ∃ p, opIaddr 1 w (.tr (.sc (.int k (i : Int)))) σ = some p ∧ opLoad 1 false p σ = some (.tr t) := by
  rcases h with ⟨_, rfl, _⟩ | ⟨id, _, _, h⟩
  · simp at hi
  · exact h.load hi k
theorem Root.snap (h : Root r td w σ) (d : Nat) : ∃ t, Go.Proofs.Ytodgdmhifbnofaa.AM.snap σ (d + 1) w = some t ∧ Rw td (.tr t) := by
  rcases h with ⟨_, h1, h2⟩ | ⟨id, _, _, h⟩
  · exact Gw.snap (id := 0) (.inl ⟨h1, h2⟩) d
  · exact Gw.snap (.inr h) d
end
section
variable {T : FTab} {c : CallA} {σ : Store} {st : St} {K : St → Prop} {k : HK} {r : List HOp} {ns : List Nat} {i : Nat} {is : List (Nat × List Nat)} {d : Option Nat} {inK : Bool}
@[simp] theorem okGD_tf {n : Nat} : okGD (some (.tr (.sc (.bool true)))) false c i n ns is d inK k r K st ↔ okP (opsRunD c (i + 1) [] is r (st.set d inK undefV)) K := by simp [okGD]
@[simp] theorem okGD_ff0 : okGD (some (.tr (.sc (.bool false)))) false c i 0 ns is d inK k r K st ↔ okA (opA c k (st.only ns)) d inK st (okD c (i + 1) is r K) := by
  have hb : Nat.beq 0 1 = false := rfl
  unfold okGD okF
  simp only [hb, Bool.false_and, Bool.false_eq_true, if_false, if_true]
  cases h : opA c k (st.only ns) with
  | none => simp [okA_no]
  | some p => obtain ⟨v, s⟩ := p; simp [okA_sm]
@[simp] theorem okGD_ff2 : okGD (some (.tr (.sc (.bool false)))) false c i 2 ns is d inK k r K st ↔ okA (opA c k (st.only ns)) d inK st (okD c (i + 1) is r K) := by
  have hb : Nat.beq 2 1 = false := rfl
  unfold okGD okF
  simp only [hb, Bool.false_and, Bool.false_eq_true, if_false, if_true]
  cases h : opA c k (st.only ns) with
  | none => simp [okA_no]
  | some p => obtain ⟨v, s⟩ := p; simp [okA_sm]
@[simp] theorem okGD_ff1 : okGD (some (.tr (.sc (.bool false)))) false c i 1 ns is d inK k r K st ↔ okA (okF true st.σ (opA (quietCall c) k (st.only ns))) d inK st (okD c (i + 1) is r K) := by
  have hb : Nat.beq 1 1 = true := rfl
  unfold okGD
  simp only [hb, if_true]
end
end Go.Proofs.Ytodgdmhifbnofaa.AM
end
section
set_option linter.unusedSimpArgs false
set_option linter.unusedVariables false
set_option linter.unusedVariables false
set_option linter.unusedSimpArgs false
namespace Go.Proofs.Ytodgdmhifbnofaa.AM
section
variable {α : Type} {E : α → List Tree} {c : Nat} {l m : List α} {σ : Store} {id n g : Nat} {cap : Option Nat} {a : α}
theorem ownE_iaddr {ob : Ob} {off i : Nat} {k' : IntKind} (hs : σ[id]? = some ob) (hg : g = genOf ob) (hi : i < n) : opIaddr c (.own id g off n c cap) (.tr (.sc (.int k' (i : Int)))) σ = some (.ptr id g (off + i * c)) := by
  unfold opIaddr
  rw [asIdx_nat]
  simp only [hs, hi, hg, true_and, if_true]
theorem allTr_map : ∀ ts : List Tree, allTr (ts.map .tr) = some ts
  | [] => rfl
  | t :: ts => by simp only [List.map_cons, allTr, allTr_map ts]
end
end Go.Proofs.Ytodgdmhifbnofaa.AM
end
section
set_option linter.unusedSimpArgs false
set_option linter.unusedVariables false
set_option linter.unusedVariables false
set_option linter.unusedSimpArgs false
namespace Go.Proofs.Ytodgdmhifbnofaa.AM
section
variable {α : Type} {E : α → List V} {c : Nat} {l m : List α} {σ : Store} {id n g : Nat} {cap : Option Nat} {a : α}
theorem vE_len (hE : ∀ a, (E a).length = c) : ∀ l : List α, (l.flatMap E).length = l.length * c
  | [] => by simp
  | a :: l => by
    rw [List.flatMap_cons, List.length_append, hE, vE_len hE l, List.length_cons, Nat.add_mul]
    omega
theorem vE_drop (hE : ∀ a, (E a).length = c) : ∀ (l : List α) (n : Nat), (l.flatMap E).drop (n * c) = (l.drop n).flatMap E
  | l, 0 => by simp
  | [], n + 1 => by simp
  | a :: l, n + 1 => by
    rw [List.flatMap_cons, List.drop_append, List.drop_of_length_le (by rw [hE, Nat.add_mul]; omega), hE, List.nil_append, List.drop_succ_cons, ← vE_drop hE l n]
    congr 1
    rw [Nat.add_mul]
    omega
theorem vE_take (hE : ∀ a, (E a).length = c) : ∀ (l : List α) (n : Nat), (l.flatMap E).take (n * c) = (l.take n).flatMap E
  | l, 0 => by simp
  | [], n + 1 => by simp
  | a :: l, n + 1 => by
    rw [List.flatMap_cons, List.take_append, List.take_of_length_le (by rw [hE, Nat.add_mul]; omega), hE, List.take_succ_cons, List.flatMap_cons, ← vE_take hE l n]
    congr 2
    rw [Nat.add_mul]
    omega
theorem vE_slice (hE : ∀ a, (E a).length = c) {i k : Nat} (h : i + k ≤ l.length) : slice? (l.flatMap E) (i * c) (k * c) = some (((l.drop i).take k).flatMap E) := by
  unfold slice?
  simp only [vE_drop hE, vE_take hE]
  rw [if_pos (by rw [vE_len hE, List.length_take, List.length_drop, Nat.min_eq_left (by omega)])]
def RowV (E : α → List V) (l : List α) (id g : Nat) (σ : Store) : Prop := σ[id]? = some (.row (l.flatMap E) g)
theorem RowV.lt (h : RowV E l id g σ) : id < σ.length := (List.getElem?_eq_some_iff.1 h).1
theorem RowV.iaddr (h : RowV E l id g σ) {i : Nat} {k' : IntKind} (hi : i < n) : opIaddr c (.own id g 0 n c cap) (.tr (.sc (.int k' (i : Int)))) σ = some (.ptr id g (i * c)) := by
  have := ownE_iaddr (c := c) (cap := cap) (off := 0) (k' := k') h rfl hi
  rwa [Nat.zero_add] at this
theorem RowV.load (hE : ∀ a, (E a).length = c) (h : RowV E l id g σ) {i : Nat} (hi : l[i]? = some a) : opLoad c true (.ptr id g (i * c)) σ = some (mkAgg (E a)) := by
  have hlt := (List.getElem?_eq_some_iff.1 hi).1
  have h1 : obCells σ id g = some (l.flatMap E) := by unfold RowV at h; simp [obCells, h]
  have h2 := vE_slice hE (l := l) (i := i) (k := 1) (by omega)
  rw [Nat.one_mul, List.drop_eq_getElem_cons hlt, (List.getElem?_eq_some_iff.1 hi).2] at h2
  have h3 : (((a :: l.drop (i + 1)).take 1)).flatMap E = E a := by simp
  rw [h3] at h2
  simp only [opLoad, h1, h2, ofCells]
theorem RowV.load1 (hE : ∀ a, (E a).length = c) (h : RowV E l id g σ) {i o : Nat} {v : V} (hi : l[i]? = some a) (ho : (E a)[o]? = some v) : opLoad 1 false (.ptr id g (i * c + o)) σ = some v := by
  have hlt := (List.getElem?_eq_some_iff.1 hi).1
  have hoc : o < c := by rw [← hE a]; exact (List.getElem?_eq_some_iff.1 ho).1
  have h1 : obCells σ id g = some (l.flatMap E) := by unfold RowV at h; simp [obCells, h]
  have h2 : slice? (l.flatMap E) (i * c + o) 1 = some [v] := by
    unfold slice?
    have : ((l.flatMap E).drop (i * c + o)).take 1 = [v] := by
      rw [← List.drop_drop, vE_drop hE, List.drop_eq_getElem_cons hlt, (List.getElem?_eq_some_iff.1 hi).2, List.flatMap_cons, List.drop_append_of_le_length (by rw [hE]; omega),
        List.drop_eq_getElem_cons (by rw [hE]; exact hoc)]
      simp [(List.getElem?_eq_some_iff.1 ho).2]
    simp only [this]
    rfl
  simp only [opLoad, h1, h2, ofCells]
theorem allTr_some' : ∀ {cs : List V} {ts : List Tree}, allTr cs = some ts → ts.map V.tr = cs
  | [], ts, h => by cases h; rfl
  | v :: cs, ts, h => by
    unfold allTr at h
    split at h
    · rename_i heq; cases heq
    · rename_i t vs heq
      cases heq
      split at h
      · rename_i ts' h2
        cases h
        rw [List.map_cons, allTr_some' h2]
      · cases h
    · cases h
theorem cells_mkAgg {cs : List V} : cellsOf (mkAgg cs) = cs := by
  unfold mkAgg
  cases h : allTr cs with
  | none => rfl
  | some ts => exact allTr_some' h
theorem vE_splice (hE : ∀ a, (E a).length = c) {i : Nat} (hi : i < l.length) : splice (l.flatMap E) (i * c) (E a) = (l.set i a).flatMap E := by
  unfold splice
  rw [vE_take hE, hE, show i * c + c = (i + 1) * c by rw [Nat.add_mul]; omega, vE_drop hE]
  have : l.set i a = l.take i ++ a :: l.drop (i + 1) := by rw [List.set_eq_take_append_cons_drop, if_pos hi]
  rw [this]
  simp
theorem RowV.store (hE : ∀ a, (E a).length = c) (ho : (E a).all oneV = true) (h : RowV E l id g σ) {i : Nat} (hi : i < l.length) :
    opStore c (.ptr id g (i * c)) (mkAgg (E a)) σ = some (σ.set id (.row ((l.set i a).flatMap E) g)) := by
  unfold opStore
  simp only [cells_mkAgg, hE, if_true]
  unfold obPut
  unfold RowV at h
  rw [h]
  simp only
  have hle : i * c + c ≤ l.length * c := by
    have : (i + 1) * c ≤ l.length * c := Nat.mul_le_mul_right c hi
    rw [Nat.add_mul] at this
    omega
  rw [if_pos ⟨trivial, by rw [vE_len hE, hE]; exact hle, ho⟩, vE_splice hE hi]
theorem RowV.set (h : RowV E l id g σ) (m : List α) : RowV E m id g (σ.set id (.row (m.flatMap E) g)) := List.getElem?_set_self h.lt
theorem RowV.app (h : RowV E l id g σ) (τ : Store) : RowV E l id g (σ ++ τ) := by
  unfold RowV at *
  rw [List.getElem?_append_left (List.getElem?_eq_some_iff.1 h).1]
  exact h
theorem nxt_set (o : Ob) : Nxt id σ (σ.set id o) := ⟨by simp, fun i h _ => by rw [List.getElem?_set_ne (Ne.symm h)]⟩
theorem nxt_app (τ : Store) : Nxt id σ (σ ++ τ) := ⟨by simp, fun i _ hi => List.getElem?_append_left hi⟩
theorem Nxt.trans {σ' σ'' : Store} (h : Nxt id σ σ') (h' : Nxt id σ' σ'') : Nxt id σ σ'' := ⟨Nat.le_trans h.1 h'.1, fun i hne hi => by rw [h'.2 i hne (Nat.lt_of_lt_of_le hi h.1), h.2 i hne hi]⟩
end
end Go.Proofs.Ytodgdmhifbnofaa.AM
end
