/- ImportsOrder: part 34. -/
import Derived.Test.YtknoiiacnfbkaaaIo33
set_option maxRecDepth 1000000
set_option linter.unusedVariables false
set_option linter.unusedSimpArgs false
namespace Go.Proofs.Ytknoiiacnfbkaaa.AM.Io
open Go.Proofs

theorem root_store {r : List Nat} {td : List Tree} {w : V} {σ : Store} {t : Tree} {i : Nat} (h : Root r td w σ) (hi : i < td.length) (ht : oneV (.tr t) = true) : ∃ p σ', opIaddr 1 w (nv .i64 i) σ = some p ∧ opStore 1 p (.tr t) σ = some σ' ∧ Root r (td.set i t) w σ' ∧ (∀ j, j ∉ r → σ'[j]? = σ[j]?) ∧ σ'.length = σ.length := by
  rcases h with ⟨_, rfl, _⟩ | ⟨id, rfl, hne, g, cap, pre, post, rfl, hs, hc⟩
  · simp at hi
  · have hid := (List.getElem?_eq_some_iff.1 hs).1
    refine ⟨.ptr id g (pre.length + i), _, own_iaddr hs hi, ownT_store hs (by simp; omega) ht, .inr ⟨id, rfl, by simpa using hne, g, cap, pre, post, by simp, ?_, fun c hc' => by simpa using hc c hc'⟩, fun j hj => by simp at hj; rw [List.getElem?_set_ne (Ne.symm hj)], by simp⟩
    rw [List.getElem?_set_self hid]
    congr 3
    rw [List.set_append_left _ _ (by simp; omega), List.set_append_right _ _ (by omega), Nat.add_sub_cancel_left]

section
variable {σ : Store} {w6 w10 w15 : V} {r15 : List Nat}

/-- A text put where it belongs. -/
theorem ins_loop {l : List S} {x : S} {e L : List (Nat × V)} {i : Nat} {Q : Out → St → Prop}
    (h15 : Root r15 ((l ++ [x]).map sT) w15 σ) (hs : l.Pairwise lt) (hx : x ∉ l) (hl : l.length ≤ 1000)
    (g6 : look e 6 = some w6) (g10 : look e 10 = some w10) (g15 : look e 15 = some w15) (g16 : look e 16 = some (nv .i64 i)) (g17 : look e 17 = some (nv .i64 l.length))
    (hQ : ∀ e' L' σ' (m : List S), Root r15 (m.map sT) w15 σ' → m.Pairwise lt → (∀ y, y ∈ m ↔ y ∈ l ∨ y = x) → m.length = l.length + 1 → (∀ j, j ∉ r15 → σ'[j]? = σ[j]?) → σ'.length = σ.length → look e' 6 = some w6 → look e' 10 = some w10 → look e' 15 = some w15 → look e' 16 = some (nv .i64 i) → Q (.exit 10) ⟨e', L', σ'⟩) :
    Wp T (.loop k8_45) ⟨e, L, σ⟩ Q := by
  obtain ⟨I, hI⟩ : ∃ I : Nat → St → Prop, I = (fun k st => ∃ e L σ', ∃ a b : List S, st = ⟨e, L, σ'⟩ ∧ l = a ++ b ∧ k = a.length ∧ (∀ y ∈ b, lt x y) ∧ Root r15 ((a ++ x :: b).map sT) w15 σ' ∧ (∀ j, j ∉ r15 → σ'[j]? = σ[j]?) ∧ σ'.length = σ.length
    ∧ look e 6 = some w6 ∧ look e 10 = some w10 ∧ look e 15 = some w15 ∧ look e 16 = some (nv .i64 i) ∧ look e 17 = some (nv .i64 k)) := ⟨_, rfl⟩
  refine wpc_loop I l.length _ ?_ ?_
  · rw [hI]
    exact ⟨e, L, σ, l, [], rfl, by simp, rfl, by simp, h15, fun _ _ => rfl, rfl, g6, g10, g15, g16, g17⟩
  clear h15 g6 g10 g15 g16 g17
  intro k st hIs
  rw [hI] at hIs
  obtain ⟨e, L, σ', a, b, rfl, rfl, rfl, hb, h15, hso, hsl, g6, g10, g15, g16, g17⟩ := hIs
  have fin : (∀ y ∈ a, lt y x) → (a ++ x :: b).Pairwise lt := by
    intro ha
    rw [List.pairwise_append] at hs ⊢
    refine ⟨hs.1, List.pairwise_cons.2 ⟨hb, hs.2.1⟩, fun y hy z hz => ?_⟩
    rcases List.mem_cons.1 hz with rfl | hz
    · exact ha y hy
    · exact hs.2.2 y hy z hz
  have hmem : ∀ y, y ∈ a ++ x :: b ↔ y ∈ a ++ b ∨ y = x := by
    intro y
    simp only [List.mem_append, List.mem_cons]
    constructor
    · rintro (h | rfl | h)
      · exact .inl (.inl h)
      · exact .inr rfl
      · exact .inl (.inr h)
    · rintro ((h | h) | rfl)
      · exact .inl h
      · exact .inr (.inr h)
      · exact .inr (.inl rfl)
  by_cases ha : a = []
  · subst ha
    simp [k8_45, g17]
    exact hQ _ _ σ' (x :: b) h15 (fin (by simp)) hmem (by simp) hso hsl (by simp [g6]) (by simp [g10]) (by simp [g15]) (by simp [g16])
  · obtain ⟨a, y, rfl⟩ : ∃ c y, a = c ++ [y] := ⟨a.dropLast, a.getLast ha, (List.dropLast_concat_getLast ha).symm⟩
    have hpos : (0 : Int) < ((a.length + 1 : Nat) : Int) := by omega
    have hle : a.length + 1 ≤ 1000 := by simp at hl; omega
    have e1 : (a ++ [y]).length = a.length + 1 := by simp
    rw [e1] at g17
    have w1 : IntKind.i64.wrap (((a.length + 1 : Nat) : Int) - 1) = (a.length : Int) := by rw [w64 (by omega) (by omega)]; omega
    have hx1 : ((a ++ [y] ++ x :: b).map sT)[a.length + 1]? = some (sT x) := by
      rw [List.getElem?_map, List.getElem?_append_right (by simp)]
      simp
    have hy1 : ((a ++ [y] ++ x :: b).map sT)[a.length]? = some (sT y) := by
      rw [List.getElem?_map, List.append_assoc, List.getElem?_append_right (by omega)]
      simp
    obtain ⟨px, hpx1, hpx2⟩ := h15.load hx1 .i64
    obtain ⟨py, hpy1, hpy2⟩ := h15.load hy1 .i64
    have hlt := slt_ x y
    cases hc : bytesLt x y with
    | false =>
      rw [hc] at hlt
      have hyx : lt y x := by
        by_cases h : lt y x
        · exact h
        · exfalso
          apply hx
          have := lt_tri (a := x) (b := y) (fun h2 => by unfold lt at h2; rw [hc] at h2; cases h2) h
          rw [this]
          simp
      simp [k8_45, g17, hpos, g15, hpx1, hpx2, w1, hpy1, hpy2, hlt, -Int.natCast_add]
      refine hQ _ _ σ' (a ++ [y] ++ x :: b) h15 (fin fun z hz => ?_) hmem (by simp; omega) hso hsl (by simp [g6]) (by simp [g10]) (by simp [g15]) (by simp [g16])
      rcases List.mem_append.1 hz with h | h
      · have := List.pairwise_append.1 (List.pairwise_append.1 hs).1
        exact lt_trans (this.2.2 z h y (by simp)) hyx
      · simp at h; subst h; exact hyx
    | true =>
      rw [hc] at hlt
      obtain ⟨p1, σ1, s1, s2, s3, s4, s5⟩ := root_store (t := sT x) (i := a.length) h15 (by simp) rfl
      rw [s1] at hpy1
      cases hpy1
      obtain ⟨p2, σ2, u1, u2, u3, u4, u5⟩ := root_store (t := sT y) (i := a.length + 1) s3 (by simp) rfl
      have hfin : (((a ++ [y] ++ x :: b).map sT).set a.length (sT x)).set (a.length + 1) (sT y) = (a ++ x :: (y :: b)).map sT := by
        simp only [List.map_append, List.map_cons, List.map_nil, List.append_assoc, List.cons_append, List.nil_append]
        rw [List.set_append_right _ _ (by simp), List.set_append_right _ _ (by simp)]
        simp
      rw [hfin] at u3
      simp [k8_45, g17, hpos, g15, hpx1, hpx2, w1, s1, hpy2, hlt, k8_47, s2, u1, u2, -Int.natCast_add]
      refine ⟨a.length, by simp, ?_⟩
      rw [hI]
      refine ⟨_, _, σ2, a, y :: b, rfl, by simp, rfl, fun z hz => ?_, u3, fun j hj => by rw [u4 j hj, s4 j hj, hso j hj], by omega, by simp [g6], by simp [g10], by simp [g15], by simp [g16], by simp⟩
      rcases List.mem_cons.1 hz with rfl | h
      · exact hc
      · exact hb z h
end
end Go.Proofs.Ytknoiiacnfbkaaa.AM.Io
