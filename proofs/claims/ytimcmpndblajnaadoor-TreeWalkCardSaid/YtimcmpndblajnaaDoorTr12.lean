/- TreeWalk: part 12. -/
import Derived.Test.YtimcmpndblajnaaDoorTr11
set_option maxRecDepth 1000000
set_option linter.unusedVariables false
set_option linter.unusedSimpArgs false
namespace Go.Proofs.YtimcmpndblajnaaDoor.AM.Tr
open Go.Proofs

theorem dpL_le : ∀ {ks : List Nd} {i : Nat}, dpL (ks.take i) ≤ dpL ks
  | [], i => by simp
  | x :: r, 0 => by simp [dpL]
  | x :: r, i + 1 => by
    have := dpL_le (ks := r) (i := i)
    simp only [List.take_succ_cons, dpL]
    omega
/-- What is asked for: number, depth, tree. -/
abbrev Vs := Nat × Nat × Nd
mutual
def visN (st : List Int) : Nd → Nat → Nat → List Vs
  | .mk k a s ks, d, i => (i, d, .mk k a s ks) :: (if (i : Int) ∈ st then [] else visL st ks (d + 1) (i + 1))
def visL (st : List Int) : List Nd → Nat → Nat → List Vs
  | [], _, _ => []
  | x :: r, d, i => visN st x d i ++ visL st r d (i + cnN x)
end
theorem visL_snoc {st : List Int} {y : Nd} {d : Nat} : ∀ {ks : List Nd} {i : Nat}, visL st (ks ++ [y]) d i = visL st ks d i ++ visN st y d (i + cnL ks)
  | [], i => by simp [visL, cnL]
  | x :: r, i => by
    simp only [List.cons_append, visL, visL_snoc (ks := r), List.append_assoc, cnL, Nat.add_assoc]
theorem visL_take {st : List Int} {ks : List Nd} {d i j : Nat} {x : Nd} (h : ks[j]? = some x) : visL st (ks.take (j + 1)) d i = visL st (ks.take j) d i ++ visN st x d (i + cnL (ks.take j)) := by
  rw [List.take_add_one, h]
  exact visL_snoc
theorem visN_pos {st : List Int} (x : Nd) (d i : Nat) : 0 < (visN st x d i).length := by
  obtain ⟨k, a, s, ks⟩ := x
  simp [visN]
mutual
theorem visN_le {st : List Int} : ∀ (x : Nd) (d i : Nat), (visN st x d i).length ≤ cnN x
  | .mk k a s ks, d, i => by
    have := visL_le (st := st) ks (d + 1) (i + 1)
    simp only [visN, cnN, List.length_cons]
    split
    · simp
    · omega
theorem visL_le {st : List Int} : ∀ (ks : List Nd) (d i : Nat), (visL st ks d i).length ≤ cnL ks
  | [], d, i => by simp [visL]
  | x :: r, d, i => by
    have h1 := visN_le (st := st) x d i
    have h2 := visL_le (st := st) r d (i + cnN x)
    simp only [visL, cnL, List.length_append]; omega
end
/-- As it is laid. -/
abbrev Vq := Nat × Nat × Q
def e6 (v : Vq) : List Tree := .sc (.int .i64 v.1) :: .sc (.int .i64 v.2.1) :: e4 v.2.2
theorem e6_len (v : Vq) : (e6 v).length = 6 := rfl
def VsR : List Vs → List Vq → Prop
  | [], B => B = []
  | a :: A, B => ∃ b B', B = b :: B' ∧ b.1 = a.1 ∧ b.2.1 = a.2.1 ∧ NdQ a.2.2 b.2.2 ∧ VsR A B'
theorem vsR_len : ∀ {A : List Vs} {B : List Vq}, VsR A B → B.length = A.length
  | [], B, h => by simp only [VsR] at h; simp [h]
  | a :: A, B, h => by
    simp only [VsR] at h
    obtain ⟨b, B', rfl, _, _, _, h4⟩ := h
    simp [vsR_len h4]
theorem vsR_app : ∀ {A A' : List Vs} {B B' : List Vq}, VsR A B → VsR A' B' → VsR (A ++ A') (B ++ B')
  | [], A', B, B', h, h' => by simp only [VsR] at h; subst h; simpa using h'
  | a :: A, A', B, B', h, h' => by
    simp only [VsR] at h
    obtain ⟨b, C, rfl, h1, h2, h3, h4⟩ := h
    simp only [List.cons_append, VsR]
    exact ⟨b, C ++ B', rfl, h1, h2, h3, vsR_app h4 h'⟩
theorem vsR_at : ∀ {A : List Vs} {B : List Vq}, VsR A B → ∀ {i : Nat} {a : Vs}, A[i]? = some a → ∃ b, B[i]? = some b ∧ b.1 = a.1 ∧ b.2.1 = a.2.1 ∧ NdQ a.2.2 b.2.2
  | [], B, h, i, a, ha => by simp at ha
  | c :: A, B, h, i, a, ha => by
    simp only [VsR] at h
    obtain ⟨b, C, rfl, h1, h2, h3, h4⟩ := h
    cases i with
    | zero => simp at ha; subst ha; exact ⟨b, rfl, h1, h2, h3⟩
    | succ i => simp at ha; simpa using vsR_at h4 ha
theorem vsR_one : ∀ {A : List Vs} {B : List Vq}, VsR A B → ((B.flatMap e6).map V.tr).all oneV = true
  | [], B, h => by simp only [VsR] at h; subst h; rfl
  | a :: A, B, h => by
    simp only [VsR] at h
    obtain ⟨b, C, rfl, h1, h2, h3, h4⟩ := h
    rw [List.flatMap_cons, List.map_append, List.all_append, vsR_one h4, Bool.and_true]
    have := nd_one h3
    simp only [e6, e4, List.map_cons, List.map_nil, List.all_cons, List.all_nil, this, Bool.and_true]
    rfl
/-- The list's value. -/
def LV (σ : Store) (B : List Vq) (w : V) : Prop := (∃ v, B = [v] ∧ w = .tr (.row (e6 v) 1 (some 1))) ∨ ∃ id g, w = .own id g 0 B.length 6 none ∧ σ[id]? = some (.row ((B.flatMap e6).map .tr) g)
theorem flat6 (B : List Vq) : (B.flatMap e6).length = B.length * 6 := flat_len e6_len B
theorem lv_elems {σ : Store} {B : List Vq} {w : V} (h : LV σ B w) : elems σ 6 w = some ((B.flatMap e6).map .tr, B.length) := by
  rcases h with ⟨v, rfl, rfl⟩ | ⟨id, g, rfl, hs⟩
  · simp [elems, e6_len]
  · have ho : obCells σ id g = some ((B.flatMap e6).map .tr) := by simp [obCells, hs]
    have hsl : slice? ((B.flatMap e6).map V.tr) 0 (B.length * 6) = some ((B.flatMap e6).map .tr) := by
      unfold slice?
      have ht : (((B.flatMap e6).map V.tr).drop 0).take (B.length * 6) = (B.flatMap e6).map .tr := by
        rw [List.drop_zero, List.take_of_length_le (by rw [List.length_map, flat6]; exact Nat.le_refl _)]
      simp only [ht, List.length_map, flat6, if_true]
    simp only [elems, if_true, ho, hsl]
theorem lv_len {σ σ' : Store} {B : List Vq} {w : V} (h : LV σ B w) : opLen 1 w σ' = some (nv .i64 B.length) := by
  rcases h with ⟨v, rfl, rfl⟩ | ⟨id, g, rfl, hs⟩ <;> rfl
theorem lv_mono {σ σ' : Store} {B : List Vq} {w : V} (h : LV σ B w) (hs : ∀ id g n, w = .own id g 0 n 6 none → id < σ.length → σ'[id]? = σ[id]?) : LV σ' B w := by
  rcases h with h | ⟨id, g, rfl, h⟩
  · exact .inl h
  · exact .inr ⟨id, g, rfl, by rw [hs id g _ rfl (List.getElem?_eq_some_iff.1 h).1]; exact h⟩
/-- One list behind another. -/
theorem lv_app {σ : Store} {B C : List Vq} {w x : V} {lo : Nat} (hw : LV σ B w) (hx : LV σ C x) (hC : 0 < C.length) (hCo : ((C.flatMap e6).map V.tr).all oneV = true) (hB : B.length ≤ 1000) (hCl : C.length ≤ 1000) (hwl : ∀ id g n, w = .own id g 0 n 6 none → lo ≤ id) (hlo : lo ≤ σ.length) :
    ∃ w' σ', opAppend 6 72 w x σ = some (w', σ') ∧ LV σ' (B ++ C) w' ∧ (∀ i, i < lo → σ'[i]? = σ[i]?) ∧ σ.length ≤ σ'.length ∧ (∀ id g n, w' = .own id g 0 n 6 none → lo ≤ id) := by
  have hel := lv_elems hx
  have hr : ∀ n, n ≤ 1000 → room n 72 = true := by
    intro n hn
    unfold room
    have : n * (72 + 1) ≤ 1000 * 73 := Nat.mul_le_mul hn (by omega)
    exact Nat.ble_eq_true_of_le (by omega)
  have hr1 := hr C.length hCl
  have hr2 := hr B.length hB
  have hC0 : ¬ C.length = 0 := by omega
  rcases hw with ⟨v, rfl, rfl⟩ | ⟨id, g, rfl, hs⟩
  · have hr3 := hr 1 (by omega)
    refine ⟨.own σ.length 0 0 (1 + C.length) 6 none, σ ++ [.row ((e6 v).map .tr ++ (C.flatMap e6).map .tr) 0], ?_, .inr ⟨σ.length, 0, by simp [Nat.add_comm], by simp⟩, fun i hi => by rw [List.getElem?_append_left (by omega)], by simp, fun id g n h => by cases h; exact hlo⟩
    unfold opAppend
    have hcc : ¬ (1 + C.length ≤ 1) := by omega
    simp only [hel, hr1, hr3, hC0, e6_len, Bool.not_true, Bool.false_eq_true, if_false, Nat.one_mul, and_self, if_true, hcc]
  · have hid := (List.getElem?_eq_some_iff.1 hs).1
    have hold : slice? ((B.flatMap e6).map V.tr) 0 (B.length * 6) = some ((B.flatMap e6).map .tr) := by
      unfold slice?
      have ht : (((B.flatMap e6).map V.tr).drop 0).take (B.length * 6) = (B.flatMap e6).map .tr := by
        rw [List.drop_zero, List.take_of_length_le (by rw [List.length_map, flat6]; exact Nat.le_refl _)]
      simp only [ht, List.length_map, flat6, if_true]
    have hidl := hwl id g _ rfl
    refine ⟨.own id (g + 1) 0 (B.length + C.length) 6 none, σ.set id (.row ((B.flatMap e6).map .tr ++ (C.flatMap e6).map .tr) (g + 1)), ?_, .inr ⟨id, g + 1, by simp, by rw [List.getElem?_set_self hid]; simp⟩, fun i hi => by rw [List.getElem?_set_ne (by omega)], by simp, fun id' g' n h => by cases h; exact hidl⟩
    unfold opAppend
    have hn : ¬ (0 + (B.length + C.length) * 6 ≤ ((B.flatMap e6).map V.tr).length ∧ 0 < 6) := by rw [List.length_map, flat6]; omega
    simp only [hel, hr1, hr2, hs, hold, hC0, Bool.not_true, Bool.false_eq_true, if_false, ne_eq, not_true_eq_false, hn, hCo, if_true]
end Go.Proofs.YtimcmpndblajnaaDoor.AM.Tr
