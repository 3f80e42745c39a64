/- TreeWalk: part 2. -/
import Derived.Test.YtimcmpndblajnaaDoorTrB
set_option maxRecDepth 1000000
set_option linter.unusedVariables false
set_option linter.unusedSimpArgs false
namespace Go.Proofs.YtimcmpndblajnaaDoor.AM.Tr
open Go.Proofs

abbrev S := List UInt8
/-- A tree of the program's. -/
inductive Nd where
  | mk (k a : Int) (s : S) (ks : List Nd)
/-- A tree's cells: the kids as they lie. -/
abbrev Q := Int × Int × S × Tree
def e4 (q : Q) : List Tree := [.sc (.int .i64 q.1), .sc (.int .i64 q.2.1), .sc (.string ⟨⟨q.2.2.1⟩⟩), q.2.2.2]
theorem e4_len (q : Q) : (e4 q).length = 4 := rfl
abbrev ag (q : Q) : Tree := .agg (e4 q)
mutual
def NdQ : Nd → Q → Prop
  | .mk k a s ks, q => q.1 = k ∧ q.2.1 = a ∧ q.2.2.1 = s ∧ ∃ L, IsSl e4 L (.tr q.2.2.2) ∧ NdL ks L
def NdL : List Nd → List Q → Prop
  | [], L => L = []
  | x :: r, L => ∃ q L', L = q :: L' ∧ NdQ x q ∧ NdL r L'
end
theorem ndL_len : ∀ {ks : List Nd} {L : List Q}, NdL ks L → L.length = ks.length
  | [], L, h => by simp [NdL] at h; simp [h]
  | x :: r, L, h => by
    simp only [NdL] at h
    obtain ⟨q, L', rfl, _, h2⟩ := h
    simp [ndL_len h2]
theorem ndL_at : ∀ {ks : List Nd} {L : List Q}, NdL ks L → ∀ {i : Nat} {x : Nd}, ks[i]? = some x → ∃ q, L[i]? = some q ∧ NdQ x q
  | [], L, h, i, x, hx => by simp at hx
  | y :: r, L, h, i, x, hx => by
    simp only [NdL] at h
    obtain ⟨q, L', rfl, h1, h2⟩ := h
    cases i with
    | zero => simp at hx; subst hx; exact ⟨q, rfl, h1⟩
    | succ i => simp at hx; simpa using ndL_at h2 hx
mutual
def smN : Nd → Prop
  | .mk _ _ _ ks => ks.length ≤ 1000 ∧ smL ks
def smL : List Nd → Prop
  | [] => True
  | x :: r => smN x ∧ smL r
end
theorem smL_at : ∀ {ks : List Nd}, smL ks → ∀ {x : Nd}, x ∈ ks → smN x
  | [], _, x, hx => by simp at hx
  | y :: r, h, x, hx => by
    simp only [smL] at h
    rcases List.mem_cons.1 hx with rfl | hx
    · exact h.1
    · exact smL_at h.2 hx
mutual
def eqN : Nd → Nd → Bool
  | .mk k _ s ks, .mk k' _ s' ks' => decide (k = k') && decide (s = s') && decide (ks.length = ks'.length) && eqL ks ks'
def eqL : List Nd → List Nd → Bool
  | [], _ => true
  | _ :: _, [] => true
  | x :: r, y :: r' => eqN x y && eqL r r'
end
mutual
theorem eqN_refl : ∀ x, eqN x x = true
  | .mk k a s ks => by simp [eqN, eqL_refl ks]
theorem eqL_refl : ∀ l, eqL l l = true
  | [] => by simp [eqL]
  | x :: r => by simp [eqL, eqN_refl x, eqL_refl r]
end
mutual
theorem eqN_symm : ∀ x y, eqN x y = eqN y x
  | .mk k a s ks, .mk k' a' s' ks' => by
    simp only [eqN, eqL_symm ks ks', eq_comm (a := k), eq_comm (a := s), eq_comm (a := ks.length)]
theorem eqL_symm : ∀ l m, eqL l m = eqL m l
  | [], [] => rfl
  | [], y :: m => by simp [eqL]
  | x :: l, [] => by simp [eqL]
  | x :: l, y :: m => by simp [eqL, eqN_symm x y, eqL_symm l m]
end
theorem eqL_iff : ∀ {l m : List Nd}, eqL l m = true ↔ ∀ (i : Nat) x y, l[i]? = some x → m[i]? = some y → eqN x y = true
  | [], m => by simp [eqL]
  | x :: l, [] => by simp [eqL]
  | x :: l, y :: m => by
    simp only [eqL, Bool.and_eq_true, eqL_iff (l := l) (m := m)]
    constructor
    · rintro ⟨h1, h2⟩ i a b ha hb
      cases i with
      | zero => simp at ha hb; subst ha; subst hb; exact h1
      | succ i => exact h2 i a b (by simpa using ha) (by simpa using hb)
    · exact fun h => ⟨h 0 x y rfl rfl, fun i a b ha hb => h (i + 1) a b (by simpa using ha) (by simpa using hb)⟩
abbrev nv0 (z : Int) : V := .tr (.sc (.int .i64 z))
theorem kid_load {L : List Q} {q : Q} {t : Tree} {i : Nat} (h : IsSl e4 L (.tr t)) (hi : L[i]? = some q) (σ : Store) :
    ∃ p, opIaddr 4 (.tr t) (nv .i64 i) σ = some (.tr p) ∧ opLoad 4 true (.tr p) σ = some (.tr (ag q)) := by
  refine ⟨_, isSl_iaddr h e4_len (by omega) hi, ?_⟩
  rw [rptr_load0 e4_len hi (by omega)]
  rfl
section
variable {q : Q} {σ : Store}
abbrev rp (q : Q) (i : Nat) : V := .tr (.rptr (e4 q) i)
theorem bx4 : opBoxB true (.tr (ag q)) σ = some (rp q 0, σ) := rfl
theorem fa40 : opFaddr 0 (rp q 0) = some (rp q 0) := rfl
theorem fa41 : opFaddr 1 (rp q 0) = some (rp q 1) := rfl
theorem fa42 : opFaddr 2 (rp q 0) = some (rp q 2) := rfl
theorem fa43 : opFaddr 3 (rp q 0) = some (rp q 3) := rfl
theorem ld40 : opLoad 1 false (rp q 0) σ = some (nv0 q.1) := rfl
theorem ld41 : opLoad 1 false (rp q 1) σ = some (nv0 q.2.1) := rfl
theorem ld42 : opLoad 1 false (rp q 2) σ = some (.tr (.sc (.string ⟨⟨q.2.2.1⟩⟩))) := rfl
theorem ld43 : opLoad 1 false (rp q 3) σ = some (.tr q.2.2.2) := rfl
theorem lt43 : opLdt 1 false (rp q 3) = some (.tr q.2.2.2) := rfl
theorem ld4 : opLoad 4 true (rp q 0) σ = some (.tr (ag q)) := rfl
end
end Go.Proofs.YtimcmpndblajnaaDoor.AM.Tr
