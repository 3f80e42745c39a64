/- Reachability and orders: plain laws, no program in sight. -/
set_option linter.unusedVariables false
set_option linter.unusedSimpArgs false
namespace Go.Proofs.Ytknoiiacnfbkaaa.AM.Io

/-- One step or more. -/
inductive Rch (s : Nat → List Nat) (a : Nat) : Nat → Prop
  | one {b : Nat} : b ∈ s a → Rch s a b
  | more {b c : Nat} : Rch s a b → c ∈ s b → Rch s a c
theorem Rch.trans {s : Nat → List Nat} {a b c : Nat} (h : Rch s a b) (k : Rch s b c) : Rch s a c := by
  induction k with
  | one hb => exact .more h hb
  | more _ hc ih => exact .more ih hc

theorem sorted_uniq {α : Type} {r : α → α → Prop} (asym : ∀ a b, r a b → r b a → False) : ∀ {l m : List α}, l.Pairwise r → m.Pairwise r → (∀ x, x ∈ l ↔ x ∈ m) → l = m
  | [], [], _, _, _ => rfl
  | [], y :: m, _, _, h => by have := (h y).2 (by simp); simp at this
  | x :: l, [], _, _, h => by have := (h x).1 (by simp); simp at this
  | x :: l, y :: m, hl, hm, h => by
    obtain ⟨hx, hl'⟩ := List.pairwise_cons.1 hl
    obtain ⟨hy, hm'⟩ := List.pairwise_cons.1 hm
    have hxy : x = y := by
      have h1 := (h x).1 (by simp)
      have h2 := (h y).2 (by simp)
      simp only [List.mem_cons] at h1 h2
      rcases h1 with h1 | h1
      · exact h1
      · rcases h2 with h2 | h2
        · exact h2.symm
        · exact (asym _ _ (hy x h1) (hx y h2)).elim
    subst hxy
    rw [sorted_uniq asym hl' hm' fun z => ?_]
    constructor
    · intro hz
      have := (h z).1 (by simp [hz])
      simp only [List.mem_cons] at this
      rcases this with rfl | h1
      · exact (asym _ _ (hx z hz) (hx z hz)).elim
      · exact h1
    · intro hz
      have := (h z).2 (by simp [hz])
      simp only [List.mem_cons] at this
      rcases this with rfl | h1
      · exact (asym _ _ (hy z hz) (hy z hz)).elim
      · exact h1

/-- A list each of whose items comes next after those ahead of it. -/
def ChainOk {α : Type} (S : List α → α → Prop) (O : List α) : Prop := ∀ k x, O[k]? = some x → S (O.take k) x
/-- .. and nothing comes next after all. -/
def DoneOk {α : Type} (S : List α → α → Prop) (O : List α) : Prop := ChainOk S O ∧ ∀ p, ¬ S O p
theorem ChainOk.nil {α : Type} {S : List α → α → Prop} : ChainOk S [] := fun k x h => by simp at h
theorem ChainOk.snoc {α : Type} {S : List α → α → Prop} {O : List α} {p : α} (h : ChainOk S O) (hp : S O p) : ChainOk S (O ++ [p]) := by
  intro k x hk
  by_cases hlt : k < O.length
  · rw [List.getElem?_append_left hlt] at hk
    rw [List.take_append_of_le_length (by omega)]
    exact h k x hk
  · rw [List.getElem?_append_right (by omega)] at hk
    have hk0 : k - O.length = 0 := by
      have := (List.getElem?_eq_some_iff.1 hk).1
      simp at this; omega
    rw [hk0] at hk
    simp at hk
    subst hk
    rw [List.take_append_of_le_length (by omega), List.take_of_length_le (by omega)]
    exact hp
theorem done_uniq {α : Type} {S : List α → α → Prop} (func : ∀ O p q, S O p → S O q → p = q) {O O' : List α} (h : DoneOk S O) (h' : DoneOk S O') : O = O' := by
  have key : ∀ k, O.take k = O'.take k ∧ (O[k]? = none ↔ O'[k]? = none) ∧ O[k]? = O'[k]? := by
    have step : ∀ k, O.take k = O'.take k → O[k]? = O'[k]? := by
      intro k hk
      cases h1 : O[k]? with
      | none =>
        cases h2 : O'[k]? with
        | none => rfl
        | some y =>
          have := h'.1 k y h2
          rw [← hk, List.take_of_length_le (by simpa using h1)] at this
          exact (h.2 y this).elim
      | some x =>
        cases h2 : O'[k]? with
        | none =>
          have := h.1 k x h1
          rw [hk, List.take_of_length_le (by simpa using h2)] at this
          exact (h'.2 x this).elim
        | some y =>
          have e1 := h.1 k x h1
          have e2 := h'.1 k y h2
          rw [← hk] at e2
          rw [func _ _ _ e1 e2]
    intro k
    induction k with
    | zero =>
      have := step 0 (by simp)
      exact ⟨by simp, by rw [this], this⟩
    | succ k ih =>
      have e : O.take (k + 1) = O'.take (k + 1) := by rw [List.take_add_one, List.take_add_one, ih.1, ih.2.2]
      have := step (k + 1) e
      exact ⟨e, by rw [this], this⟩
  exact List.ext_getElem? fun k => (key k).2.2

/-- A list of things to do, and what was found. -/
structure Wl (s : Nat → List Nat) (a : Nat) (out todo : List Nat) : Prop where
  nd : out.Nodup
  sound : ∀ x ∈ out, Rch s a x
  todo_in : ∀ x ∈ todo, x = a ∨ x ∈ out
  closed : ∀ x, (x = a ∨ x ∈ out) → x ∉ todo → ∀ d ∈ s x, d ∈ out
/-- The like, while one thing is gone over. -/
structure WlI (s : Nat → List Nat) (a at_ : Nat) (p out todo : List Nat) : Prop where
  nd : out.Nodup
  sound : ∀ x ∈ out, Rch s a x
  todo_in : ∀ x ∈ todo, x = a ∨ x ∈ out
  at_in : at_ = a ∨ at_ ∈ out
  done : ∀ d ∈ p, d ∈ out
  closed : ∀ x, (x = a ∨ x ∈ out) → x ∉ todo → x ≠ at_ → ∀ d ∈ s x, d ∈ out
section
variable {s : Nat → List Nat} {a at_ : Nat} {p out todo : List Nat}
theorem Wl.start : Wl s a [] [a] := ⟨List.nodup_nil, by simp, by simp, fun x hx hn => by
  rcases hx with rfl | h
  · simp at hn
  · simp at h⟩
theorem Wl.all (h : Wl s a out []) {x : Nat} : x ∈ out ↔ Rch s a x := by
  refine ⟨h.sound x, fun hr => ?_⟩
  induction hr with
  | one hb => exact h.closed a (.inl rfl) (by simp) _ hb
  | more _ hc ih => exact h.closed _ (.inr ih) (by simp) _ hc
theorem Wl.pop {t : List Nat} (h : Wl s a out todo) (ht : ∀ x, x ∈ todo ↔ x = at_ ∨ x ∈ t) : WlI s a at_ [] out t :=
  ⟨h.nd, h.sound, fun x hx => h.todo_in x ((ht x).2 (.inr hx)), h.todo_in at_ ((ht at_).2 (.inl rfl)), by simp, fun x hx hn hne => h.closed x hx (fun hm => by
    rcases (ht x).1 hm with h1 | h1
    · exact hne h1
    · exact hn h1)⟩
theorem WlI.old {d : Nat} (h : WlI s a at_ p out todo) (hd : d ∈ out) : WlI s a at_ (p ++ [d]) out todo :=
  ⟨h.nd, h.sound, h.todo_in, h.at_in, fun x hx => by
    simp only [List.mem_append, List.mem_singleton] at hx
    rcases hx with hx | rfl
    · exact h.done x hx
    · exact hd, h.closed⟩
theorem WlI.new {d : Nat} (h : WlI s a at_ p out todo) (hd : d ∉ out) (hs : d ∈ s at_) : WlI s a at_ (p ++ [d]) (out ++ [d]) (todo ++ [d]) := by
  refine ⟨?_, ?_, ?_, ?_, ?_, ?_⟩
  · rw [List.nodup_append]
    exact ⟨h.nd, by simp, fun x hx y hy => by simp only [List.mem_singleton] at hy; subst hy; rintro rfl; exact hd hx⟩
  · intro x hx
    simp only [List.mem_append, List.mem_singleton] at hx
    rcases hx with hx | rfl
    · exact h.sound x hx
    · rcases h.at_in with e | e
      · rw [e] at hs; exact .one hs
      · exact .more (h.sound _ e) hs
  · intro x hx
    simp only [List.mem_append, List.mem_singleton] at hx ⊢
    rcases hx with hx | rfl
    · rcases h.todo_in x hx with e | e
      · exact .inl e
      · exact .inr (.inl e)
    · exact .inr (.inr rfl)
  · rcases h.at_in with e | e
    · exact .inl e
    · exact .inr (by simp [e])
  · intro x hx
    simp only [List.mem_append, List.mem_singleton] at hx ⊢
    rcases hx with hx | rfl
    · exact .inl (h.done x hx)
    · exact .inr rfl
  · intro x hx hn hne z hz
    simp only [List.mem_append, List.mem_singleton, not_or] at hn hx ⊢
    rcases hx with hx | hx | hx
    · exact .inl (h.closed x (.inl hx) hn.1 hne z hz)
    · exact .inl (h.closed x (.inr hx) hn.1 hne z hz)
    · exact absurd hx hn.2
theorem WlI.fin (h : WlI s a at_ p out todo) (hp : ∀ d ∈ s at_, d ∈ p) : Wl s a out todo :=
  ⟨h.nd, h.sound, h.todo_in, fun x hx hn d hd => by
    by_cases hxa : x = at_
    · subst hxa; exact h.done d (hp d hd)
    · exact h.closed x hx hn hxa d hd⟩
/-- One that has no steps, or none that count. -/
theorem WlI.skip (h : WlI s a at_ p out todo) (hs : s at_ = []) : Wl s a out todo := h.fin (by rw [hs]; simp)
end

/-- Those within n, apart from one another, are no more than n. -/
theorem nodup_len : ∀ (n : Nat) (l : List Nat), l.Nodup → (∀ y ∈ l, y < n) → l.length ≤ n
  | 0, l, _, h => by
    cases l with
    | nil => simp
    | cons a b => have := h a (by simp); omega
  | n + 1, l, nd, h => by
    have h1 := nodup_len n (l.erase n) (nd.erase n) (fun y hy => by
      have h2 := h y (List.mem_of_mem_erase hy)
      have h3 : y ≠ n := fun e => by
        subst e
        exact (List.Nodup.mem_erase_iff nd).1 hy |>.1 rfl
      omega)
    rw [List.length_erase] at h1
    split at h1 <;> omega
theorem _root_.List.Nodup.length_le_card_of {n y : Nat} {l : List Nat} (nd : l.Nodup) (h : ∀ y ∈ l, y < n) (hy : y ∉ l) (hn : y < n) : l.length < n := by
  have := nodup_len n (y :: l) (List.nodup_cons.2 ⟨hy, nd⟩) (fun z hz => by
    rcases List.mem_cons.1 hz with rfl | h1
    · exact hn
    · exact h z h1)
  simp at this
  omega
/-- What can be stepped to within n things. -/
def sc (n : Nat) (deps : List (List Int)) (i : Nat) : List Nat := ((deps[i]?).getD []).filterMap fun (d : Int) => if 0 ≤ d ∧ d < (n : Int) then some d.toNat else none
theorem sc_lt {n : Nat} {deps : List (List Int)} {i d : Nat} (h : d ∈ sc n deps i) : d < n := by
  unfold sc at h
  simp only [List.mem_filterMap] at h
  obtain ⟨x, _, hx⟩ := h
  split at hx
  · simp only [Option.some.injEq] at hx; omega
  · cases hx
theorem rch_lt {n : Nat} {deps : List (List Int)} {a d : Nat} (h : Rch (sc n deps) a d) : d < n := by
  cases h with
  | one h => exact sc_lt h
  | more _ h => exact sc_lt h
end Go.Proofs.Ytknoiiacnfbkaaa.AM.Io
