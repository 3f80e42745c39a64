/- The abstract machine, part 5: A55. -/
import Derived.Test.YtolhjhjlfgfifaaGreatDoorAm4
section
set_option linter.unusedSimpArgs false
set_option linter.unusedVariables false
set_option linter.unusedVariables false
set_option linter.unusedSimpArgs false
namespace Go.Proofs.YtolhjhjlfgfifaaGreatDoor.AM
def GxV (bad : List Nat) (cs : List V) (w : V) (σ : Store) : Prop := (cs = [] ∧ w = nilSl) ∨ ∃ id g, id ∉ bad ∧ cs ≠ [] ∧ w = .own id g 0 cs.length 1 none ∧ σ[id]? = some (.row cs g)
theorem GxV.len {bad : List Nat} {cs : List V} {w : V} {σ σ' : Store} (h : GxV bad cs w σ) : opLen 1 w σ' = some (nv .i64 cs.length) := by
  rcases h with ⟨rfl, rfl⟩ | ⟨id, g, _, _, rfl, _⟩ <;> rfl
theorem GxV.keep {bad : List Nat} {cs : List V} {w : V} {σ σ' : Store} (h : GxV bad cs w σ) (hs : ∀ i, i ∉ bad → i < σ.length → σ'[i]? = σ[i]?) : GxV bad cs w σ' := by
  rcases h with h | ⟨id, g, h1, h2, h3, h4⟩
  · exact .inl h
  · exact .inr ⟨id, g, h1, h2, h3, by rw [hs id h1 (List.getElem?_eq_some_iff.1 h4).1]; exact h4⟩
def Root (r : List Nat) (td : List Tree) (w : V) (σ : Store) : Prop := (r = [] ∧ td = [] ∧ w = nilSl) ∨ ∃ id, r = [id] ∧ td ≠ [] ∧ Stk id td w σ
section
variable {r : List Nat} {td : List Tree} {w : V} {σ σ' : Store} {t : Tree}
theorem Root.nil (σ : Store) : Root [] [] nilSl σ := .inl ⟨rfl, rfl, rfl⟩
theorem Root.lt (h : Root r td w σ) : ∀ i ∈ r, i < σ.length := by
  rcases h with ⟨rfl, _, _⟩ | ⟨id, rfl, _, h⟩
  · simp
  · intro i hi; simp at hi; subst hi; exact h.lt
theorem Root.keep (h : Root r td w σ) (hs : ∀ i ∈ r, σ'[i]? = σ[i]?) : Root r td w σ' := by
  rcases h with h | ⟨id, rfl, h1, h⟩
  · exact .inl h
  · exact .inr ⟨id, rfl, h1, h.mono (hs id (by simp))⟩
theorem Root.len (h : Root r td w σ) : opLen 1 w σ' = some (nv .i64 td.length) := by
  rcases h with ⟨_, rfl, rfl⟩ | ⟨id, _, _, g, cap, pre, post, rfl, _, _⟩ <;> rfl
theorem Root.load (h : Root r td w σ) {i : Nat} (hi : td[i]? = some t) (k : IntKind) : ∃ p, opIaddr 1 w (.tr (.sc (.int k (i : Int)))) σ = some p ∧ opLoad 1 false p σ = some (.tr t) := by
  rcases h with ⟨_, rfl, _⟩ | ⟨id, _, _, h⟩
  · simp at hi
  · exact h.load hi k
theorem Root.snap (h : Root r td w σ) (d : Nat) : ∃ t, Go.Proofs.YtolhjhjlfgfifaaGreatDoor.AM.snap σ (d + 1) w = some t ∧ Rw td (.tr t) := by
  rcases h with ⟨_, h1, h2⟩ | ⟨id, _, _, h⟩
  · exact Gw.snap (id := 0) (.inl ⟨h1, h2⟩) d
  · exact Gw.snap (.inr h) d
end
section
variable {T : FTab} {c : CallA} {σ : Store} {st : St} {K : St → Prop} {k : HK} {r : List HOp} {ns : List Nat} {i : Nat} {is : List (Nat × List Nat)} {d : Option Nat} {inK : Bool}
@[simp] theorem okGD_tf {n : Nat} : okGD (some (.tr (.sc (.bool true)))) false c i n ns is d inK k r K st ↔ okP (opsRunD c (i + 1) [] is r (st.set d inK undefV)) K := by simp [okGD]
@[simp] theorem okGD_ff0 : okGD (some (.tr (.sc (.bool false)))) false c i 0 ns is d inK k r K st ↔ okA (opA c k (st.only ns)) d inK st (okD c (i + 1) is r K) := by
  have hb : Nat.beq 0 1 = false := rfl
  unfold okGD okF
  simp only [hb, Bool.false_and, Bool.false_eq_true, if_false, if_true]
  cases h : opA c k (st.only ns) with
  | none => simp [okA_no]
  | some p => obtain ⟨v, s⟩ := p; simp [okA_sm]
@[simp] theorem okGD_ff2 : okGD (some (.tr (.sc (.bool false)))) false c i 2 ns is d inK k r K st ↔ okA (opA c k (st.only ns)) d inK st (okD c (i + 1) is r K) := by
  have hb : Nat.beq 2 1 = false := rfl
  unfold okGD okF
  simp only [hb, Bool.false_and, Bool.false_eq_true, if_false, if_true]
  cases h : opA c k (st.only ns) with
  | none => simp [okA_no]
  | some p => obtain ⟨v, s⟩ := p; simp [okA_sm]
@[simp] theorem okGD_ff1 : okGD (some (.tr (.sc (.bool false)))) false c i 1 ns is d inK k r K st ↔ okA (okF true st.σ (opA (quietCall c) k (st.only ns))) d inK st (okD c (i + 1) is r K) := by
  have hb : Nat.beq 1 1 = true := rfl
  unfold okGD
  simp only [hb, if_true]
end
end Go.Proofs.YtolhjhjlfgfifaaGreatDoor.AM
end
