/- The abstract machine, part 3: A42 A401 A43 A44 A45. -/
import Derived.Test.YtndcdolcmkmgbaaAm2
section
set_option linter.unusedSimpArgs false
set_option linter.unusedVariables false
/- Operations on the store in a tree say what those on the list say. -/
set_option linter.unusedVariables false
namespace Go.Proofs.Ytndcdolcmkmgbaa.AM

theorem nthR_eq {α : Type} : ∀ (l : List α) (i : Nat), nthR l i = l[i]?
  | [], i => by simp [nthR]
  | a :: t, 0 => rfl
  | a :: t, i + 1 => by
    have : nthR (a :: t) (i + 1) = nthR t i := rfl
    rw [this, nthR_eq t i]
    simp
theorem dropR_eq {α : Type} : ∀ (l : List α) (i : Nat), dropR l i = l.drop i
  | [], i => by simp [dropR]
  | a :: t, 0 => rfl
  | a :: t, i + 1 => by
    have : dropR (a :: t) (i + 1) = dropR t i := rfl
    rw [this, dropR_eq t i]
    simp
theorem takeR_some {α : Type} : ∀ {l : List α} {i : Nat} {r : List α}, takeR l i = some r → l.take i = r ∧ r.length = i
  | [], 0, r, h => by cases h; exact ⟨rfl, rfl⟩
  | [], i + 1, r, h => by cases h
  | a :: t, 0, r, h => by cases h; exact ⟨rfl, rfl⟩
  | a :: t, i + 1, r, h => by
    have h : optR (takeR t i) (fun r => some (a :: r)) = some r := h
    obtain ⟨u, h1, h2⟩ := optR_some h
    cases h2
    obtain ⟨h3, h4⟩ := takeR_some h1
    exact ⟨by simp [h3], by simp [h4]⟩
theorem sliceR_some {α : Type} {l : List α} {off n : Nat} {r : List α} (h : sliceR l off n = some r) : slice? l off n = some r := by
  unfold sliceR at h
  obtain ⟨h1, h2⟩ := takeR_some h
  rw [dropR_eq] at h1
  unfold slice?
  simp only [h1, h2, if_true]
theorem setR_some {β : Type} : ∀ {l : List V} {v : V} {i : Nat} {k : List V → Option β} {r : β}, setR l v i k = some r → i < l.length ∧ k (l.set i v) = some r
  | [], v, i, k, r, h => by cases h
  | a :: t, v, 0, k, r, h => ⟨by simp, h⟩
  | a :: t, v, i + 1, k, r, h => by
    have h : setR t v i (fun t => k (a :: t)) = some r := h
    obtain ⟨h1, h2⟩ := setR_some h
    exact ⟨by simp; omega, by simpa using h2⟩

variable {s : FS} {σ : Store}

theorem cellsG_some (hs : SRel s σ) {id g : Nat} {cs : List V} (h : cellsG s id g = some cs) : obCells σ id g = some cs := by
  unfold cellsG at h
  rw [hs.2.2] at h
  unfold obCells
  split at h
  · rename_i cs' g' ho
    obtain ⟨h1, h2⟩ := bif2_some h
    rw [ho]
    simp only [Nat.eq_of_beq_eq_true h1, if_true, h2]
  · rename_i cs' g' ho
    obtain ⟨h1, h2⟩ := bif2_some h
    rw [ho]
    simp only [Nat.eq_of_beq_eq_true h1, if_true, h2]
  · cases h
theorem elems_nil {size : Nat} {x : V} {r : List V × Nat} (h : elems [] size x = some r) : elems σ size x = some r := by
  unfold elems at h ⊢
  split at h
  · exact h
  · exact h
  · exact h
  · simp only [obCells, List.getElem?_nil, ite_self] at h
    cases h
  · cases h
theorem elemsG_some (hs : SRel s σ) {size : Nat} {x : V} {r : List V × Nat} (h : elemsG s size x = some r) : elems σ size x = some r := by
  unfold elemsG at h
  split at h
  · obtain ⟨h1, h2⟩ := bif2_some h
    obtain ⟨cs, h3, h4⟩ := optR_some h2
    obtain ⟨q, h5, h6⟩ := optR_some h4
    have h5 := sliceR_some h5
    have hh : Nat.mul = fun a b : Nat => a * b := rfl
    rw [hh] at h5
    simp only at h5
    simp only [elems, Nat.eq_of_beq_eq_true h1, if_true, cellsG_some hs h3, h5]
    exact h6
  · exact elems_nil h
theorem putG_some (hs : SRel s σ) {id g off : Nat} {r : List V} {s' : FS} (h : putG s id g off r = some s') : ∃ σ', obPut σ id g off r = some σ' ∧ SRel s' σ' := by
  unfold putG at h
  rw [hs.2.2] at h
  unfold obPut
  split at h
  · rename_i cs' g' ho
    obtain ⟨h1, h2⟩ := bif2_some h
    obtain ⟨h3, h4⟩ := bif2_some h2
    obtain ⟨h5, h6⟩ := bif2_some h4
    obtain ⟨s2, h7, h8⟩ := setK_ok hs (lt_of_get ho) (.row (splice cs' off r) g')
    rw [h8] at h6
    cases h6
    rw [ho]
    simp only
    rw [if_pos ⟨Nat.eq_of_beq_eq_true h1, Nat.le_of_ble_eq_true h3, h5⟩]
    exact ⟨_, rfl, h7⟩
  · cases h

theorem ofCells_one (c : V) : ofCells false [c] = some c := rfl
theorem slice_one {α : Type} {l : List α} {i : Nat} {a : α} (h : l[i]? = some a) : slice? l i 1 = some [a] := by
  unfold slice?
  have : (l.drop i).take 1 = [a] := by
    rw [List.take_one, List.head?_drop, h]
    rfl
  simp only [this, List.length_singleton, if_true]
theorem ldG1_some (hs : SRel s σ) {a v : V} (h : ldG1 a s = some v) : opLoad 1 false a σ = some v := by
  unfold ldG1 at h
  split at h
  · rw [hs.2.2] at h
    split at h
    · rename_i ho
      obtain ⟨h1, h2⟩ := bif2_some h
      rw [nthR_eq] at h2
      simp only [opLoad, obCells, ho, Nat.eq_of_beq_eq_true h1, if_true, slice_one h2, ofCells_one]
    · rename_i ts g' ho
      obtain ⟨h1, h2⟩ := bif2_some h
      obtain ⟨t, h3, h4⟩ := optR_some h2
      rw [nthR_eq] at h3
      have h5 : (ts.map V.tr)[_]? = some (V.tr t) := (List.getElem?_map ..).trans (by rw [h3]; rfl)
      simp only [opLoad, obCells, ho, Nat.eq_of_beq_eq_true h1, if_true, slice_one h5, ofCells_one]
      exact h4
    · cases h
  · obtain ⟨t, h3, h4⟩ := optR_some h
    rw [nthR_eq] at h3
    simp only [opLoad, slice_one h3, List.map_cons, List.map_nil, ofCells_one]
    exact h4
  · cases h
theorem ldG_some (hs : SRel s σ) {size : Nat} {agg : Bool} {a v : V} (h : ldG size agg a s = some v) : opLoad size agg a σ = some v := by
  unfold ldG at h
  split at h
  · obtain ⟨cs, h1, h2⟩ := optR_some h
    obtain ⟨q, h3, h4⟩ := optR_some h2
    simp only [opLoad, cellsG_some hs h1, sliceR_some h3]
    exact h4
  · unfold opLoad at h ⊢
    split at h
    · simp [obCells] at h
    · exact h
    · cases h
theorem oneV_cells {x : V} (h : oneV x = true) : cellsOf x = [x] := by
  unfold oneV at h
  unfold cellsOf
  split at h
  all_goals first | (cases h; done) | skip
  split
  all_goals first | rfl | (simp_all; done)
theorem splice_set : ∀ (l : List V) (i : Nat) (v : V), i < l.length → splice l i [v] = l.set i v
  | [], i, v, h => by simp at h
  | a :: t, 0, v, h => by simp [splice]
  | a :: t, i + 1, v, h => by
    have := splice_set t i v (by simpa using h)
    simp only [splice, List.length_singleton] at this ⊢
    simp [this]
theorem stG1_some (hs : SRel s σ) {a x : V} {k : FS → R} {r : V × FS} (h : stG1 a x s k = some r) : ∃ s' σ', opStore 1 a x σ = some σ' ∧ SRel s' σ' ∧ k s' = some r := by
  unfold stG1 at h
  split at h
  · rw [hs.2.2] at h
    split at h
    · rename_i cs g' ho
      obtain ⟨h1, h2⟩ := bif2_some h
      obtain ⟨h3, h4⟩ := bif2_some h2
      obtain ⟨h5, h6⟩ := setR_some h4
      obtain ⟨s2, h7, h8⟩ := setK_ok hs (lt_of_get ho) (.row (cs.set _ x) g')
      rw [h8] at h6
      refine ⟨s2, _, ?_, h7, h6⟩
      simp only [opStore, oneV_cells h3, List.length_singleton, if_true, obPut, ho]
      rw [if_pos ⟨Nat.eq_of_beq_eq_true h1, h5, by simp [h3]⟩, splice_set _ _ _ h5]
    · cases h
  · cases h
theorem stG_some (hs : SRel s σ) {size : Nat} {a x : V} {k : FS → R} {r : V × FS} (h : stG size a x s k = some r) : ∃ s' σ', opStore size a x σ = some σ' ∧ SRel s' σ' ∧ k s' = some r := by
  unfold stG at h
  split at h
  · obtain ⟨h1, h2⟩ := bif2_some h
    obtain ⟨s2, h3, h4⟩ := optR_some h2
    obtain ⟨σ', h5, h6⟩ := putG_some hs h3
    refine ⟨s2, σ', ?_, h6, h4⟩
    simp only [opStore, Nat.eq_of_beq_eq_true h1, if_true]
    exact h5
  · cases h
theorem asIdxK_some {i : V} {k : Nat → Option V} {v : V} (h : asIdxK i k = some v) : ∃ n, asIdx? i = some n ∧ k n = some v := by
  unfold asIdxK at h
  split at h
  · rename_i n
    refine ⟨n, ?_, h⟩
    simp [asIdx?]
  · cases h
theorem iaddrG_some (hs : SRel s σ) {size : Nat} {x i v : V} (h : iaddrG size x i s = some v) : opIaddr size x i σ = some v := by
  unfold iaddrG at h
  obtain ⟨n, h1, h2⟩ := asIdxK_some h
  unfold opIaddr
  rw [h1]
  simp only
  split at h2
  · obtain ⟨ob, h3, h4⟩ := optR_some h2
    rw [hs.2.2] at h3
    obtain ⟨h5, h6⟩ := bif2_some h4
    obtain ⟨h7, h8⟩ := bif2_some h6
    obtain ⟨h9, h10⟩ := bif2_some h8
    rw [natK_eq] at h10
    simp only [h3]
    rw [if_pos ⟨by simpa [Nat.blt_eq] using h5, Nat.eq_of_beq_eq_true h7, Nat.eq_of_beq_eq_true h9⟩]
    exact h10
  · obtain ⟨h5, h6⟩ := bif2_some h2
    rename_i cs m cap
    cases hc : cs.isEmpty with
    | true => rw [hc] at h6; cases h6
    | false =>
      rw [hc] at h6
      have h6 : natK (Nat.mul n size) (fun o => some (V.tr (.rptr cs o))) = some v := h6
      rw [natK_eq] at h6
      simp only
      rw [if_pos ⟨by simpa [Nat.blt_eq] using h5, hc⟩]
      exact h6
  · cases h2
theorem allocG_some (hs : SRel s σ) {z : List V} {k : V → FS → R} {r : V × FS} (h : allocG z s k = some r) : ∃ s', SRel s' (σ ++ [.row z 0]) ∧ k (.ptr σ.length 0 0) s' = some r := by
  unfold allocG at h
  obtain ⟨s', h1, h2⟩ := pushK_ok hs (.row z 0)
  rw [h2] at h
  exact ⟨s', h1, h⟩
theorem bsliceG_some (hs : SRel s σ) {own : Bool} {len size : Nat} {zero : List Tree} {parts : List (Nat × Nat × V)} {k : V → FS → R} {r : V × FS} (h : bsliceG own len size zero parts s k = some r) :
    ∃ v s' σ', opBslice own len size zero parts σ = some (v, σ') ∧ SRel s' σ' ∧ k v s' = some r := by
  unfold bsliceG at h
  obtain ⟨cs, h1, h2⟩ := optR_some h
  unfold opBslice
  rw [h1]
  simp only
  obtain ⟨s', h3, h4⟩ := pushK_ok hs (.row cs 0)
  cases own with
  | true =>
    have h2 : s.pushK (.row cs 0) (fun n s => k (.own n 0 0 len size (some len)) s) = some r := h2
    rw [h4] at h2
    exact ⟨_, s', _, rfl, h3, h2⟩
  | false =>
    have h2 : (match allTr cs with
      | some ts => k (.tr (.row ts len (some len))) s
      | none => s.pushK (.row cs 0) fun n s => k (.own n 0 0 len size (some len)) s) = some r := h2
    simp only [Bool.false_eq_true, if_false]
    split at h2
    · rename_i ts hts
      rw [hts]
      exact ⟨_, s, _, rfl, hs, h2⟩
    · rename_i hts
      rw [hts]
      rw [h4] at h2
      exact ⟨_, s', _, rfl, h3, h2⟩
theorem appendG_some (hs : SRel s σ) {size bytes : Nat} {v x : V} {k : V → FS → R} {r : V × FS} (h : appendG size bytes v x s k = some r) :
    ∃ u s' σ', opAppend size bytes v x σ = some (u, σ') ∧ SRel s' σ' ∧ k u s' = some r := by
  unfold appendG at h
  obtain ⟨⟨xs, n⟩, h1, h2⟩ := optR_some h
  unfold opAppend
  rw [elemsG_some hs h1]
  simp only at h2 ⊢
  obtain ⟨h3, h4⟩ := bif2_some h2
  simp only [h3, Bool.not_true, Bool.false_eq_true, if_false]
  split at h4
  · cases n with
    | zero => exact ⟨_, s, σ, by simp, hs, h4⟩
    | succ n =>
      obtain ⟨s', h5, h6⟩ := pushK_ok hs (.row xs 0)
      have h4 : s.pushK (.row xs 0) (fun id s => k (.own id 0 0 (n + 1) size none) s) = some r := h4
      rw [h6] at h4
      exact ⟨_, s', _, by simp, h5, h4⟩
  · rename_i id g off len sz cap
    obtain ⟨h5, h6⟩ := bif2_some h4
    obtain ⟨h7, h8⟩ := bif2_some h6
    have h5 := Nat.eq_of_beq_eq_true h5
    subst h5
    rw [hs.2.2] at h8
    split at h8
    · rename_i cs g' ho
      obtain ⟨h9, h10⟩ := bif2_some h8
      have h9 := Nat.eq_of_beq_eq_true h9
      subst h9
      obtain ⟨old, h11, h12⟩ := optR_some h10
      have h11 := sliceR_some h11
      have hh : Nat.mul = fun a b : Nat => a * b := rfl
      rw [hh] at h11
      simp only at h11
      simp only [ne_eq, not_true_eq_false, if_false, h7, Bool.not_true, Bool.false_eq_true, ho, h11]
      cases n with
      | zero => exact ⟨_, s, σ, by simp, hs, h12⟩
      | succ n =>
        simp only [Nat.succ_ne_zero, if_false]
        cases cap with
        | some c =>
          have h12 : bif2 (Nat.ble (len + (n + 1)) c) (optR (putG s id g (off + len * sz) xs) fun s => k (.own id g off (len + (n + 1)) sz (some c)) s) (s.pushK (.row (old ++ xs) 0) fun i s => k (.own i 0 0 (len + (n + 1)) sz none) s) = some r := h12
          rcases bif2_or h12 with ⟨hb, h13⟩ | ⟨hb, h13⟩
          · obtain ⟨s', h14, h15⟩ := optR_some h13
            obtain ⟨σ', h16, h17⟩ := putG_some hs h14
            simp only
            rw [if_pos (Nat.le_of_ble_eq_true hb), h16]
            exact ⟨_, s', σ', rfl, h17, h15⟩
          · obtain ⟨s', h14, h15⟩ := pushK_ok hs (.row (old ++ xs) 0)
            rw [h15] at h13
            have hb : ¬ len + (n + 1) ≤ c := fun h => by rw [Nat.ble_eq_true_of_le h] at hb; cases hb
            simp only
            rw [if_neg hb]
            exact ⟨_, s', _, rfl, h14, h13⟩
        | none =>
          have h12 : bif2 (Nat.ble (off + (len + (n + 1)) * sz) cs.length && Nat.blt 0 sz) (optR (putG s id g (off + len * sz) xs) fun s => k (.own id g off (len + (n + 1)) sz none) s)
            (bif2 (xs.all oneV) (natK (len + (n + 1)) fun m => s.setK id (.row (old ++ xs) (g + 1)) fun s => k (.own id (g + 1) 0 m sz none) s) none) = some r := h12
          rcases bif2_or h12 with ⟨hb, h13⟩ | ⟨hb, h13⟩
          · obtain ⟨s', h14, h15⟩ := optR_some h13
            obtain ⟨σ', h16, h17⟩ := putG_some hs h14
            simp only [Bool.and_eq_true, Nat.blt_eq] at hb
            simp only
            rw [if_pos ⟨Nat.le_of_ble_eq_true hb.1, hb.2⟩, h16]
            exact ⟨_, s', σ', rfl, h17, h15⟩
          · obtain ⟨ho1, h14⟩ := bif2_some h13
            rw [natK_eq] at h14
            obtain ⟨s', h15, h16⟩ := setK_ok hs (lt_of_get ho) (.row (old ++ xs) (g + 1))
            rw [h16] at h14
            have hb : ¬ (off + (len + (n + 1)) * sz ≤ cs.length ∧ 0 < sz) := fun h => by
              rw [Nat.ble_eq_true_of_le h.1, (Nat.blt_eq).mpr h.2] at hb
              cases hb
            simp only
            rw [if_neg hb, if_pos ho1]
            exact ⟨_, s', _, rfl, h15, h14⟩
    · cases h8
  · rename_i cs len cap
    cases n with
    | zero => exact ⟨_, s, σ, by simp, hs, h4⟩
    | succ n =>
      have h4 : bif2 (Nat.beq cs.length (len * size)) (bif2 (room len bytes) (match cap with
        | some c => bif2 (Nat.ble (len + (n + 1)) c) none (s.pushK (.row (cs.map .tr ++ xs) 0) fun id s => k (.own id 0 0 (len + (n + 1)) size none) s)
        | none => none) none) none = some r := h4
      obtain ⟨h5, h6⟩ := bif2_some h4
      obtain ⟨h7, h8⟩ := bif2_some h6
      simp only [Nat.succ_ne_zero, if_false, Nat.eq_of_beq_eq_true h5, h7, and_self, if_true]
      cases cap with
      | none => cases h8
      | some c =>
        rcases bif2_or h8 with ⟨hb, h13⟩ | ⟨hb, h13⟩
        · cases h13
        · obtain ⟨s', h14, h15⟩ := pushK_ok hs (.row (cs.map .tr ++ xs) 0)
          rw [h15] at h13
          have hb : ¬ len + (n + 1) ≤ c := fun h => by rw [Nat.ble_eq_true_of_le h] at hb; cases hb
          simp only
          rw [if_neg hb]
          exact ⟨_, s', _, rfl, h14, h13⟩
  · cases h4
theorem lookupG_eq (hs : SRel s σ) (kind : TypeDesc) (zero : Tree) (ok : Bool) (m k : V) : lookupG kind zero ok m k s = opLookup kind zero ok m k σ := by
  unfold lookupG opLookup
  simp only [hs.2.2]
  rfl
theorem mupdG_some (hs : SRel s σ) {kind : TypeDesc} {m k v : V} {s' : FS} (h : mupdG kind m k v s = some s') : ∃ σ', opMapUpdate kind m k v σ = some σ' ∧ SRel s' σ' := by
  unfold mupdG at h
  simp only [hs.2.2] at h
  unfold opMapUpdate
  split at h
  · rename_i hk
    split at h
    · rename_i es clock ho
      simp only [hk, ho]
      split at h
      · rename_i hf
        obtain ⟨s2, h1, h2⟩ := setK_ok hs (lt_of_get ho) _
        rw [h2] at h
        cases h
        rw [hf]
        exact ⟨_, rfl, h1⟩
      · rename_i hf
        obtain ⟨s2, h1, h2⟩ := setK_ok hs (lt_of_get ho) _
        rw [h2] at h
        cases h
        rw [hf]
        exact ⟨_, rfl, h1⟩
      · cases h
    · cases h
  · cases h
theorem mentG_some (hs : SRel s σ) {kind : TypeDesc} {zero : Tree} {m k : V} {p : V × FS} (h : mentG kind zero m k s = some p) : ∃ σ', opMapEntry kind zero m k σ = some (p.1, σ') ∧ SRel p.2 σ' := by
  unfold mentG at h
  simp only [hs.2.2] at h
  unfold opMapEntry
  split at h
  · rename_i hk
    split at h
    · rename_i es clock ho
      simp only [hk, ho]
      split at h
      · rename_i hf
        obtain ⟨s2, h1, h2⟩ := setK_ok hs (lt_of_get ho) _
        rw [h2] at h
        cases h
        rw [hf]
        exact ⟨_, rfl, h1⟩
      · rename_i hf
        obtain ⟨s2, h1, h2⟩ := setK_ok hs (lt_of_get ho) _
        rw [h2] at h
        cases h
        rw [hf]
        exact ⟨_, rfl, h1⟩
      · cases h
    · cases h
  · cases h
theorem estoG_some (hs : SRel s σ) {m c v : V} {s' : FS} (h : estoG m c v s = some s') : ∃ σ', opEntryStore m c v σ = some σ' ∧ SRel s' σ' := by
  unfold estoG at h
  simp only [hs.2.2] at h
  unfold opEntryStore
  split at h
  · rename_i hi
    split at h
    · rename_i es clock ho
      simp only [hi, ho]
      split at h
      · rename_i hf
        obtain ⟨s2, h1, h2⟩ := setK_ok hs (lt_of_get ho) _
        rw [h2] at h
        cases h
        rw [hf]
        exact ⟨_, rfl, h1⟩
      · cases h
    · cases h
  · cases h
theorem mkmapG_some (hs : SRel s σ) {k : V → FS → R} {r : V × FS} (h : mkmapG s k = some r) : ∃ s', SRel s' (σ ++ [.map [] 0]) ∧ k (.mp σ.length) s' = some r := by
  unfold mkmapG at h
  obtain ⟨s', h1, h2⟩ := pushK_ok hs (.map [] 0)
  rw [h2] at h
  exact ⟨s', h1, h⟩
theorem mksliceG_some (hs : SRel s σ) {zero : List Tree} {bytes : Nat} {l c : V} {k : V → FS → R} {r : V × FS} (h : mksliceG zero bytes l c s k = some r) :
    ∃ v s' σ', opMkslice zero bytes l c σ = some (v, σ') ∧ SRel s' σ' ∧ k v s' = some r := by
  unfold mksliceG at h
  unfold opMkslice
  split at h
  · rename_i l' c' h1 h2
    obtain ⟨h3, h4⟩ := bif2_some h
    obtain ⟨h5, h6⟩ := bif2_some h4
    obtain ⟨s', h7, h8⟩ := pushK_ok hs (.row ((rep c' zero).map .tr) 0)
    rw [h8] at h6
    simp only [h1, h2]
    rw [if_pos ⟨Nat.le_of_ble_eq_true h3, h5⟩]
    exact ⟨_, s', _, rfl, h7, h6⟩
  · cases h
theorem lenMapG_eq (hs : SRel s σ) (v : V) : lenMapG v s = opLenMap σ v := by
  unfold lenMapG opLenMap
  simp only [hs.2.2]
  rfl
theorem capG_some (hs : SRel s σ) {x v : V} (h : capG x s = some v) : opCap σ x = some v := by
  unfold capG at h
  split at h
  · rw [hs.2.2] at h
    split at h
    · rename_i ho
      obtain ⟨h1, h2⟩ := bif2_some h
      simp only [opCap, ho]
      rw [if_pos (Nat.eq_of_beq_eq_true h1)]
      exact h2
    · cases h
  · unfold opCap at h ⊢
    split at h
    · exact h
    · exact h
    · simp at h
    · cases h
theorem sliceG_some (hs : SRel s σ) {size : Nat} {x v : V} {lo hi mx : Option V} (h : sliceG size x lo hi mx s = some v) : opSlice size x lo hi mx σ = some v := by
  unfold sliceG at h
  split at h
  · rename_i id g off len sz cap
    split at h
    · rename_i lo' hi' mx' h1 h2 h3
      unfold opSlice
      rw [h1, h2, h3]
      simp only
      rcases bif2_or h with ⟨hb, h⟩ | ⟨hb, h⟩
      · cases h
      simp only [hb, Bool.false_eq_true, if_false]
      obtain ⟨h4, h5⟩ := bif2_some h
      have h4 := Nat.eq_of_beq_eq_true h4
      subst h4
      obtain ⟨cs, h6, h7⟩ := optR_some h5
      simp only [ne_eq, not_true_eq_false, if_false, cellsG_some hs h6]
      simp only at h7
      obtain ⟨h8, h9⟩ := bif2_some h7
      obtain ⟨h10, h11⟩ := bif2_some h9
      obtain ⟨h12, h13⟩ := bif2_some h11
      rw [natK_eq, natK_eq] at h13
      rw [if_pos]
      · exact h13
      · refine ⟨Nat.le_of_ble_eq_true h8, Nat.le_of_ble_eq_true h10, ?_⟩
        simp only [Bool.or_eq_true, Bool.and_eq_true, Nat.blt_eq] at h12
        rcases h12 with (h12 | ⟨⟨h12, h14⟩, h15⟩) | h12
        · exact .inl (Nat.le_of_ble_eq_true h12)
        · refine .inr (.inl ⟨?_, Nat.le_of_ble_eq_true h14, h15⟩)
          cases cap with
          | none => rfl
          | some c => cases h12
        · exact .inr (.inr h12)
    · cases h
  · unfold opSlice at h ⊢
    split at h
    · simp only at h ⊢
      split at h
      · cases h
      · rename_i hb
        rw [if_neg hb]
        split at h
        · split at h
          · cases h
          · simp [obCells] at h
        · exact h
        · exact h
        · cases h
    · cases h
theorem bytesStrG_some (hs : SRel s σ) {x v : V} (h : bytesStrG x s = some v) : opConv .bytesStr x σ = some (v, σ) := by
  unfold bytesStrG at h
  split at h
  · cases h
  · rename_i hno
    obtain ⟨⟨cs, n⟩, h1, h2⟩ := optR_some h
    obtain ⟨l, h3, h4⟩ := optR_some h2
    simp only [opConv, elemsG_some hs h1]
    simp only at h3
    split
    · rename_i hl
      rw [h3] at hl
      cases hl
      cases h4
      rfl
    · rename_i hl
      rw [h3] at hl
      cases hl
theorem strBytesG_some (hs : SRel s σ) {x : V} {k : V → FS → R} {r : V × FS} (h : strBytesG x s k = some r) : ∃ v s' σ', opConv .strBytes x σ = some (v, σ') ∧ SRel s' σ' ∧ k v s' = some r := by
  unfold strBytesG at h
  split at h
  · obtain ⟨s', h1, h2⟩ := pushK_ok hs _
    rw [h2] at h
    exact ⟨_, s', _, rfl, h1, h⟩
  · cases h
theorem viaG_some (hs : SRel s σ) {f : Store → Option (V × Store)} {k : V → FS → R} {r : V × FS} (h : viaG f s k = some r) : ∃ v s' σ', f σ = some (v, σ') ∧ SRel s' σ' ∧ k v s' = some r := by
  unfold viaG at h
  rw [toL_eq hs] at h
  split at h
  · rename_i v σ' hf
    exact ⟨v, _, σ', hf, ofL_ok σ', h⟩
  · cases h

theorem eqI_eq (a b : Int) : eqI a b = (a == b) := by
  rw [Bool.eq_iff_iff, beq_iff_eq]
  cases a with
  | ofNat m =>
    cases b with
    | ofNat n =>
      show Nat.beq m n = true ↔ Int.ofNat m = Int.ofNat n
      rw [Nat.beq_eq]
      exact ⟨fun h => by rw [h], fun h => by cases h; rfl⟩
    | negSucc n =>
      show false = true ↔ _
      simp
  | negSucc m =>
    cases b with
    | ofNat n =>
      show false = true ↔ _
      simp
    | negSucc n =>
      show Nat.beq m n = true ↔ _
      rw [Nat.beq_eq]
      simp
theorem normI_eq (k : IntKind) (n : Int) : normI k n = some (.tr (.sc (.int k n))) := by
  cases n with
  | ofNat m => exact natK_eq m fun m => some (V.tr (.sc (.int k (.ofNat m))))
  | negSucc m => exact natK_eq m fun m => some (V.tr (.sc (.int k (.negSucc m))))
theorem normB_eq (b : Bool) : normB b = some (.tr (.sc (.bool b))) := by cases b <;> rfl
theorem opBin_int {ek : EK} {op : BinOp} {k : IntKind} {a b : Int} (hop : sh op = false) : opBin ek op (.tr (.sc (.int k a))) (.tr (.sc (.int k b))) = match intF op k a b with | some v => some (.tr (.sc v)) | none => none := by
  rw [← opBinF_eq]
  have hk : Nat.beq (kix k) (kix k) = true := by cases k <;> rfl
  simp only [opBinF, asI?, hop, hk]
  rfl
theorem intK_eq {ek : EK} {op : BinOp} {g : IntKind → Int → Int → Option V} (hop : sh op = false) (hg : ∀ k a b, g k a b = match intF op k a b with | some v => some (.tr (.sc v)) | none => none) (x y : V) :
    intK g (opBin ek op) x y = opBin ek op x y := by
  unfold intK
  split
  · split
    · rename_i k a _ k' b
      cases hk : Nat.beq (kix k) (kix k') with
      | false => rfl
      | true =>
        have hk := kix_inj hk
        subst hk
        rw [opBin_int hop, ← hg]
    · rfl
  · rfl
noncomputable section
def binG (ek : EK) : BinOp → V → V → Option V
  | .add => binAdd ek
  | .sub => binSub ek
  | .lss => binLss ek
  | .gtr => binGtr ek
  | .leq => binLeq ek
  | .geq => binGeq ek
  | .eql => binEql ek
  | .neq => binNeq ek
  | op => binOther ek op
end
theorem binG_eq (ek : EK) (op : BinOp) (x y : V) : binG ek op x y = opBin ek op x y := by
  cases op
  case add => exact intK_eq rfl (fun k a b => by rw [normI_eq]; rfl) x y
  case sub => exact intK_eq rfl (fun k a b => by rw [normI_eq]; rfl) x y
  case lss => exact intK_eq rfl (fun k a b => by rw [normB_eq]; rfl) x y
  case gtr => exact intK_eq rfl (fun k a b => by rw [normB_eq]; rfl) x y
  case leq => exact intK_eq rfl (fun k a b => by rw [normB_eq]; rfl) x y
  case geq => exact intK_eq rfl (fun k a b => by rw [normB_eq]; rfl) x y
  case eql => exact intK_eq rfl (fun k a b => by rw [normB_eq, eqI_eq]; rfl) x y
  case neq => exact intK_eq rfl (fun k a b => by rw [normB_eq, eqI_eq]; rfl) x y
  all_goals rfl

end Go.Proofs.Ytndcdolcmkmgbaa.AM
end
section
set_option linter.unusedSimpArgs false
set_option linter.unusedVariables false
/- Faster forms: case distinctions whose branches hold no variables. -/
set_option linter.unusedVariables false
namespace Go.Proofs.Ytndcdolcmkmgbaa.AM
noncomputable section

abbrev EI (β : Type) := (IntKind → Int → β) → β → β
/-- Whole numbers. -/
def xI (x : Value) : EI (Option V) := Value.rec (motive_1 := fun _ => EI (Option V)) (motive_2 := fun _ => EI (Option V)) (motive_3 := fun _ => EI (Option V)) (fun _ _ d => d) (fun k n f _ => f k n) (fun _ _ _ d => d) (fun _ _ _ _ d => d) (fun _ _ d => d) (fun _ _ d => d)
  (fun _ _ _ _ d => d) (fun _ _ d => d) (fun _ _ d => d) (fun _ _ _ _ _ _ d => d) (fun _ d => d) (fun _ _ _ _ d => d) (fun _ d => d) (fun _ _ _ d => d) (fun _ _ _ d => d) (fun _ _ _ d => d) (fun _ d => d) (fun _ _ _ _ _ d => d) x
def tI (t : Tree) : EI (Option V) := Tree.rec (motive_1 := fun _ => EI (Option V)) (motive_2 := fun _ => EI (Option V)) (fun v f d => xI v f d) (fun _ _ _ d => d) (fun _ _ _ d => d) (fun _ _ _ _ _ d => d) (fun _ _ _ _ d => d) (fun _ _ _ _ _ _ d => d) (fun _ _ _ _ d => d) (fun _ d => d) (fun _ _ _ _ _ d => d) t
def vI (v : V) : EI (Option V) := V.rec (motive_1 := fun _ => EI (Option V)) (motive_2 := fun _ => EI (Option V)) (fun t f d => tI t f d) (fun _ _ _ d => d) (fun _ _ _ d => d) (fun _ _ _ _ _ _ _ d => d) (fun _ _ _ _ d => d) (fun _ _ _ _ _ _ d => d) (fun _ _ d => d) (fun _ _ _ _ d => d) (fun _ d => d) (fun _ _ _ _ _ d => d) v
/-- Strings. -/
abbrev ES (β : Type) := (ByteArray → β) → β → β
def xS' (x : Value) : ES (Option V) := Value.rec (motive_1 := fun _ => ES (Option V)) (motive_2 := fun _ => ES (Option V)) (motive_3 := fun _ => ES (Option V)) (fun _ _ d => d) (fun _ _ _ d => d) (fun _ _ _ d => d) (fun _ _ _ _ d => d) (fun s f _ => f s) (fun _ _ d => d)
  (fun _ _ _ _ d => d) (fun _ _ d => d) (fun _ _ d => d) (fun _ _ _ _ _ _ d => d) (fun _ d => d) (fun _ _ _ _ d => d) (fun _ d => d) (fun _ _ _ d => d) (fun _ _ _ d => d) (fun _ _ _ d => d) (fun _ d => d) (fun _ _ _ _ _ d => d) x
def tS (t : Tree) : ES (Option V) := Tree.rec (motive_1 := fun _ => ES (Option V)) (motive_2 := fun _ => ES (Option V)) (fun v f d => xS' v f d) (fun _ _ _ d => d) (fun _ _ _ d => d) (fun _ _ _ _ _ d => d) (fun _ _ _ _ d => d) (fun _ _ _ _ _ _ d => d) (fun _ _ _ _ d => d) (fun _ d => d) (fun _ _ _ _ _ d => d) t
def vS (v : V) : ES (Option V) := V.rec (motive_1 := fun _ => ES (Option V)) (motive_2 := fun _ => ES (Option V)) (fun t f d => tS t f d) (fun _ _ _ d => d) (fun _ _ _ d => d) (fun _ _ _ _ _ _ _ d => d) (fun _ _ _ _ d => d) (fun _ _ _ _ _ _ d => d) (fun _ _ d => d) (fun _ _ _ _ d => d) (fun _ d => d) (fun _ _ _ _ _ d => d) v
/-- Truths: if true, if false, else. -/
abbrev EB (β : Type) := β → β → β → β
def xB (x : Value) : EB R := Value.rec (motive_1 := fun _ => EB R) (motive_2 := fun _ => EB R) (motive_3 := fun _ => EB R) (fun b t f _ => Bool.rec (motive := fun _ => R) f t b) (fun _ _ _ _ d => d) (fun _ _ _ _ d => d) (fun _ _ _ _ _ d => d) (fun _ _ _ d => d) (fun _ _ _ d => d)
  (fun _ _ _ _ _ d => d) (fun _ _ _ d => d) (fun _ _ _ d => d) (fun _ _ _ _ _ _ _ d => d) (fun _ _ d => d) (fun _ _ _ _ _ d => d) (fun _ _ d => d) (fun _ _ _ _ d => d) (fun _ _ _ _ d => d) (fun _ _ _ _ d => d) (fun _ _ d => d) (fun _ _ _ _ _ _ d => d) x
def tB (t : Tree) : EB R := Tree.rec (motive_1 := fun _ => EB R) (motive_2 := fun _ => EB R) (fun v t f d => xB v t f d) (fun _ _ _ _ d => d) (fun _ _ _ _ d => d) (fun _ _ _ _ _ _ d => d) (fun _ _ _ _ _ d => d) (fun _ _ _ _ _ _ _ d => d) (fun _ _ _ _ _ d => d) (fun _ _ d => d) (fun _ _ _ _ _ _ d => d) t
def vB (v : V) : EB R := V.rec (motive_1 := fun _ => EB R) (motive_2 := fun _ => EB R) (fun v t f d => tB v t f d) (fun _ _ _ _ d => d) (fun _ _ _ _ d => d) (fun _ _ _ _ _ _ _ _ d => d) (fun _ _ _ _ _ d => d) (fun _ _ _ _ _ _ _ d => d) (fun _ _ _ d => d) (fun _ _ _ _ _ d => d) (fun _ _ d => d) (fun _ _ _ _ _ _ d => d) v
/-- Pointers. -/
abbrev EP (β : Type) := (Nat → Nat → Nat → β) → β → β
def vP (v : V) : EP (Option V) := V.rec (motive_1 := fun _ => EP (Option V)) (motive_2 := fun _ => EP (Option V)) (fun _ _ d => d) (fun _ _ _ d => d) (fun _ _ _ d => d) (fun _ _ _ _ _ _ _ d => d) (fun i g o f _ => f i g o) (fun _ _ _ _ _ _ d => d) (fun _ _ d => d) (fun _ _ _ _ d => d) (fun _ d => d) (fun _ _ _ _ _ d => d) v
def vPR (v : V) : EP R := V.rec (motive_1 := fun _ => EP R) (motive_2 := fun _ => EP R) (fun _ _ d => d) (fun _ _ _ d => d) (fun _ _ _ d => d) (fun _ _ _ _ _ _ _ d => d) (fun i g o f _ => f i g o) (fun _ _ _ _ _ _ d => d) (fun _ _ d => d) (fun _ _ _ _ d => d) (fun _ d => d) (fun _ _ _ _ _ d => d) v
/-- Slices with a place. -/
abbrev EO (β : Type) := (Nat → Nat → Nat → Nat → Nat → β) → β → β
def vO (v : V) : EO (Option V) := V.rec (motive_1 := fun _ => EO (Option V)) (motive_2 := fun _ => EO (Option V)) (fun _ _ d => d) (fun _ _ _ d => d) (fun _ _ _ d => d) (fun i g o l z _ f _ => f i g o l z) (fun _ _ _ _ d => d) (fun _ _ _ _ _ _ d => d) (fun _ _ d => d) (fun _ _ _ _ d => d) (fun _ d => d) (fun _ _ _ _ _ d => d) v
/-- Objects that are rows. -/
def oRow (o : Ob) : (List V → Nat → Option V) → Option V → Option V := Ob.rec (motive := fun _ => (List V → Nat → Option V) → Option V → Option V) (fun cs g f _ => f cs g) (fun _ _ _ d => d) (fun _ _ _ d => d) o
def oRowR (o : Ob) : (List V → Nat → R) → R → R := Ob.rec (motive := fun _ => (List V → Nat → R) → R → R) (fun cs g f _ => f cs g) (fun _ _ _ d => d) (fun _ _ _ d => d) o
def oGen (o : Ob) : Nat := Ob.rec (motive := fun _ => Nat) (fun _ g => g) (fun _ g => g) (fun _ _ => 0) o

theorem vI_eq (v : V) (f : IntKind → Int → Option V) (d : Option V) : vI v f d = match v with | .tr (.sc (.int k n)) => f k n | _ => d := by
  cases v with
  | tr t => cases t with
    | sc x => cases x <;> rfl
    | _ => rfl
  | _ => rfl
theorem vS_eq (v : V) (f : ByteArray → Option V) (d : Option V) : vS v f d = match v with | .tr (.sc (.string k)) => f k | _ => d := by
  cases v with
  | tr t => cases t with
    | sc x => cases x <;> rfl
    | _ => rfl
  | _ => rfl
theorem vB_eq (v : V) (a b d : R) : vB v a b d = match v with | .tr (.sc (.bool u)) => Bool.rec (motive := fun _ => R) b a u | _ => d := by
  cases v with
  | tr t => cases t with
    | sc x => cases x <;> rfl
    | _ => rfl
  | _ => rfl
theorem vP_eq (v : V) (f : Nat → Nat → Nat → Option V) (d : Option V) : vP v f d = match v with | .ptr i g o => f i g o | _ => d := by cases v <;> rfl
theorem vPR_eq (v : V) (f : Nat → Nat → Nat → R) (d : R) : vPR v f d = match v with | .ptr i g o => f i g o | _ => d := by cases v <;> rfl
theorem vO_eq (v : V) (f : Nat → Nat → Nat → Nat → Nat → Option V) (d : Option V) : vO v f d = match v with | .own i g o l z _ => f i g o l z | _ => d := by cases v <;> rfl
theorem oGen_eq (o : Ob) : oGen o = genOf o := by cases o <;> rfl

/-- Guards, tests, picks. -/
def gGF (x : GO) (want : Bool) (a b : GOp) : GOp := fun c k e l s => x (fun v => Bool.rec (motive := fun _ => R) (vB v (b c k e l s) (a c k e l s) (match v with | .tr (.tup []) => b c k e l s | _ => none)) (vB v (a c k e l s) (b c k e l s) (match v with | .tr (.tup []) => b c k e l s | _ => none)) want) e l
theorem gGF_eq (x : GO) (want : Bool) (a b : GOp) : gGF x want a b = gG x want a b := by
  funext c k e l s
  unfold gGF gG
  congr 1
  funext v
  rw [vB_eq, vB_eq]
  cases want with
  | true =>
    cases v with
    | tr t => cases t with
      | sc x => cases x with
        | bool u => cases u <;> rfl
        | _ => rfl
      | tup vs => cases vs <;> rfl
      | _ => rfl
    | _ => rfl
  | false =>
    cases v with
    | tr t => cases t with
      | sc x => cases x with
        | bool u => cases u <;> rfl
        | _ => rfl
      | tup vs => cases vs <;> rfl
      | _ => rfl
    | _ => rfl
def cCondF (x : GO) (a b : GC) : GC := fun c ex ret k e l s => x (fun v => vB v (a c ex ret k e l s) (b c ex ret k e l s) none) e l
theorem cCondF_eq (x : GO) (a b : GC) : cCondF x a b = cCond x a b := by
  funext c ex ret k e l s
  unfold cCondF cCond
  congr 1
  funext v
  rw [vB_eq]
  rfl
def kPickF (x a b : GO) : GK := fun _ k e l s => x (fun v => vB v (a (fun v => k v s) e l) (b (fun v => k v s) e l) none) e l
theorem kPickF_eq (x a b : GO) : kPickF x a b = kPick x a b := by
  funext c k e l s
  unfold kPickF kPick
  congr 1
  funext v
  rw [vB_eq]
  rfl

/-- Loads and stores of one cell. -/
def ldF1 (a : V) (s : FS) : Option V := vP a (fun id g off => optR (s.getO id) fun ob => oRow ob (fun cs g' => Bool.rec (motive := fun _ => Option V) none (nthR cs off) (Nat.beq g g')) (ldG1 a s)) (ldG1 a s)
theorem ldF1_eq (a : V) (s : FS) : ldF1 a s = ldG1 a s := by
  unfold ldF1
  rw [vP_eq]
  cases a with
  | ptr id g off =>
    simp only [ldG1]
    cases h : s.getO id with
    | none => rfl
    | some ob => cases ob <;> rfl
  | _ => rfl
def stF1 (a x : V) (s : FS) (k : FS → R) : R := vPR a (fun id g off => optR (s.getO id) fun ob => oRowR ob (fun cs g' => bif2 (Nat.beq g g') (bif2 (oneV x) (setR cs x off fun cs => s.setK id (.row cs g') k) none) none) none) none
theorem stF1_eq (a x : V) (s : FS) (k : FS → R) : stF1 a x s k = stG1 a x s k := by
  unfold stF1
  rw [vPR_eq]
  cases a with
  | ptr id g off =>
    simp only [stG1]
    cases h : s.getO id with
    | none => rfl
    | some ob => cases ob <;> rfl
  | _ => rfl
def idxF (i : V) (f : Nat → Option V) : Option V := vI i (fun _ n => Int.rec (motive := fun _ => Option V) f (fun _ => none) n) none
theorem idxF_eq (i : V) (f : Nat → Option V) : idxF i f = asIdxK i f := by
  unfold idxF asIdxK
  rw [vI_eq]
  cases i with
  | tr t => cases t with
    | sc x => cases x with
      | int k n => cases n <;> rfl
      | _ => rfl
    | _ => rfl
  | _ => rfl
def iaddrF (size : Nat) (x i : V) (s : FS) : Option V := vO x (fun id g off len sz => idxF i fun i => optR (s.getO id) fun ob => bif2 (Nat.blt i len) (bif2 (Nat.beq sz size) (bif2 (Nat.beq g (oGen ob)) (natK (Nat.add off (Nat.mul i size)) fun o => some (.ptr id g o)) none) none) none) (iaddrG size x i s)
theorem iaddrF_eq (size : Nat) (x i : V) (s : FS) : iaddrF size x i s = iaddrG size x i s := by
  unfold iaddrF
  rw [vO_eq]
  cases x with
  | own id g off len sz cap => simp only [idxF_eq, oGen_eq, iaddrG]
  | _ => rfl

/-- Whole numbers. -/
def halfR (k : IntKind) : Nat := IntKind.rec (motive := fun _ => Nat) 128 32768 2147483648 9223372036854775808 256 65536 4294967296 18446744073709551616 k
def kixR (k : IntKind) : Nat := IntKind.rec (motive := fun _ => Nat) 0 1 2 3 4 5 6 7 k
def intKF (g : Int → Int → IntKind → Option V) (slow : V → V → Option V) (x y : V) : Option V := vI x (fun k a => vI y (fun k' b => Bool.rec (motive := fun _ => Option V) (slow x y) (g a b k) (Nat.beq (kixR k) (kixR k'))) (slow x y)) (slow x y)
theorem intKF_eq {g : Int → Int → IntKind → Option V} {g' : IntKind → Int → Int → Option V} (hg : ∀ k a b, g a b k = g' k a b) (slow : V → V → Option V) (x y : V) : intKF g slow x y = intK g' slow x y := by
  cases x with
  | tr t => cases t with
    | sc u => cases u with
      | int k a => cases y with
        | tr t' => cases t' with
          | sc u' => cases u' with
            | int k' b =>
              show Bool.rec (motive := fun _ => Option V) _ (g a b k) (Nat.beq (kixR k) (kixR k')) = Bool.rec (motive := fun _ => Option V) _ (g' k a b) (Nat.beq (kix k) (kix k'))
              rw [hg, show kixR k = kix k by cases k <;> rfl, show kixR k' = kix k' by cases k' <;> rfl]
            | _ => rfl
          | _ => rfl
        | _ => rfl
      | _ => rfl
    | _ => rfl
  | _ => rfl
def natI (k : IntKind) (r : Nat) : Option V := Bool.rec (motive := fun _ => Option V) (some (.tr (.sc (.int k (k.wrap (.ofNat r)))))) (some (.tr (.sc (.int k (.ofNat r))))) (Nat.blt r (halfR k))
theorem natI_eq (k : IntKind) (r : Nat) : natI k r = some (.tr (.sc (.int k (k.wrap (.ofNat r))))) := by
  unfold natI
  have h : halfR k = half k := by cases k <;> rfl
  rw [h]
  cases hb : Nat.blt r (half k) with
  | false => rfl
  | true =>
    have := wrap_in_pos k r (by simpa only [Nat.blt_eq] using hb)
    show some (V.tr (.sc (.int k (.ofNat r)))) = _
    rw [this]
def addF (a b : Int) : IntKind → Option V := Int.rec (motive := fun _ => Int → IntKind → Option V)
  (fun m b k => Int.rec (motive := fun _ => Nat → IntKind → Option V) (fun n m k => natK (Nat.add m n) fun r => natI k r) (fun n m k => normI k (wrapF k (Int.add (.ofNat m) (.negSucc n)))) b m k)
  (fun m b k => normI k (wrapF k (Int.add (.negSucc m) b))) a b
theorem addF_eq (k : IntKind) (a b : Int) : addF a b k = normI k (wrapF k (Int.add a b)) := by
  cases a with
  | negSucc m => rfl
  | ofNat m => cases b with
    | negSucc n => rfl
    | ofNat n =>
      show natK (Nat.add m n) (fun r => natI k r) = _
      rw [natK_eq, natI_eq, normI_eq, wrapF_eq]
      rfl
def subF (a b : Int) : IntKind → Option V := Int.rec (motive := fun _ => Int → IntKind → Option V)
  (fun m b k => Int.rec (motive := fun _ => Nat → IntKind → Option V) (fun n m k => Bool.rec (motive := fun _ => Option V) (normI k (wrapF k (Int.sub (.ofNat m) (.ofNat n)))) (natK (Nat.sub m n) fun r => natI k r) (Nat.ble n m)) (fun n m k => normI k (wrapF k (Int.sub (.ofNat m) (.negSucc n)))) b m k)
  (fun m b k => normI k (wrapF k (Int.sub (.negSucc m) b))) a b
theorem subF_eq (k : IntKind) (a b : Int) : subF a b k = normI k (wrapF k (Int.sub a b)) := by
  cases a with
  | negSucc m => rfl
  | ofNat m => cases b with
    | negSucc n => rfl
    | ofNat n =>
      show Bool.rec (motive := fun _ => Option V) (normI k (wrapF k (Int.sub (.ofNat m) (.ofNat n)))) (natK (Nat.sub m n) fun r => natI k r) (Nat.ble n m) = _
      cases hb : Nat.ble n m with
      | false => rfl
      | true =>
        show natK (Nat.sub m n) (fun r => natI k r) = _
        have hle := Nat.le_of_ble_eq_true hb
        have : Int.sub (.ofNat m) (.ofNat n) = Int.ofNat (m - n) := by
          show (m : Int) - (n : Int) = ((m - n : Nat) : Int)
          omega
        rw [natK_eq, natI_eq, normI_eq, wrapF_eq, this]
        rfl
def ltR (a b : Int) : Bool := Int.rec (motive := fun _ => Int → Bool) (fun m b => Int.rec (motive := fun _ => Nat → Bool) (fun n m => Nat.blt m n) (fun _ _ => false) b m) (fun m b => Int.rec (motive := fun _ => Nat → Bool) (fun _ _ => true) (fun n m => Nat.blt n m) b m) a b
theorem ltR_eq (a b : Int) : ltR a b = ltF a b := by cases a <;> cases b <;> rfl
def tV : Option V := some (.tr (.sc (.bool true)))
def fV : Option V := some (.tr (.sc (.bool false)))
def boolR (b : Bool) : Option V := Bool.rec (motive := fun _ => Option V) fV tV b
theorem boolR_eq (b : Bool) : boolR b = normB b := rfl
def beqL (a : List UInt8) : List UInt8 → Bool := List.rec (motive := fun _ => List UInt8 → Bool) (fun b => List.rec (motive := fun _ => Bool) true (fun _ _ _ => false) b) (fun x _ ih b => List.rec (motive := fun _ => Bool) false (fun y t _ => Bool.rec (motive := fun _ => Bool) false (ih t) (Nat.beq x.toNat y.toNat)) b) a
theorem beqL_eq : ∀ a b, beqL a b = bytesEq a b
  | [], [] => rfl
  | [], _ :: _ => rfl
  | _ :: _, [] => rfl
  | x :: a, y :: b => by
    show Bool.rec (motive := fun _ => Bool) false (beqL a b) (Nat.beq x.toNat y.toNat) = _
    rw [beqL_eq a b, show bytesEq (x :: a) (y :: b) = (Nat.beq x.toNat y.toNat && bytesEq a b) from rfl]
    cases Nat.beq x.toNat y.toNat <;> cases bytesEq a b <;> rfl
def strF (neg : Bool) (slow : V → V → Option V) (x y : V) : Option V := vS x (fun a => vS y (fun b => boolR (Bool.rec (motive := fun _ => Bool) (beqL a.data.toList b.data.toList) (!beqL a.data.toList b.data.toList) neg)) (slow x y)) (slow x y)
theorem opBin_str (ek : EK) (op : BinOp) (a b : ByteArray) : opBin ek op (.tr (.sc (.string a))) (.tr (.sc (.string b))) = match binStr op a b with | some v => some (.tr (.sc v)) | none => none := by
  cases ek <;> rfl
theorem strF_eql (ek : EK) (x y : V) : strF false (opBin ek .eql) x y = opBin ek .eql x y := by
  cases x with
  | tr t => cases t with
    | sc u => cases u with
      | string a => cases y with
        | tr t' => cases t' with
          | sc u' => cases u' with
            | string b =>
              rw [opBin_str]
              show boolR (Bool.rec (motive := fun _ => Bool) (beqL a.data.toList b.data.toList) (!beqL a.data.toList b.data.toList) false) = _
              rw [boolR_eq, normB_eq, beqL_eq]
              rfl
            | _ => rfl
          | _ => rfl
        | _ => rfl
      | _ => rfl
    | _ => rfl
  | _ => rfl
theorem strF_neq (ek : EK) (x y : V) : strF true (opBin ek .neq) x y = opBin ek .neq x y := by
  cases x with
  | tr t => cases t with
    | sc u => cases u with
      | string a => cases y with
        | tr t' => cases t' with
          | sc u' => cases u' with
            | string b =>
              rw [opBin_str]
              show boolR (Bool.rec (motive := fun _ => Bool) (beqL a.data.toList b.data.toList) (!beqL a.data.toList b.data.toList) true) = _
              rw [boolR_eq, normB_eq, beqL_eq]
              rfl
            | _ => rfl
          | _ => rfl
        | _ => rfl
      | _ => rfl
    | _ => rfl
  | _ => rfl
def addB (ek : EK) : V → V → Option V := intKF addF (opBin ek .add)
def subB (ek : EK) : V → V → Option V := intKF subF (opBin ek .sub)
def lssB (ek : EK) : V → V → Option V := intKF (fun a b _ => boolR (ltR a b)) (opBin ek .lss)
def gtrB (ek : EK) : V → V → Option V := intKF (fun a b _ => boolR (ltR b a)) (opBin ek .gtr)
def leqB (ek : EK) : V → V → Option V := intKF (fun a b _ => boolR (!ltR b a)) (opBin ek .leq)
def geqB (ek : EK) : V → V → Option V := intKF (fun a b _ => boolR (!ltR a b)) (opBin ek .geq)
def eqlB (ek : EK) : V → V → Option V := intKF (fun a b _ => boolR (eqI a b)) (strF false (opBin ek .eql))
def neqB (ek : EK) : V → V → Option V := intKF (fun a b _ => boolR (!eqI a b)) (strF true (opBin ek .neq))
def binH (ek : EK) : BinOp → V → V → Option V
  | .add => addB ek
  | .sub => subB ek
  | .lss => lssB ek
  | .gtr => gtrB ek
  | .leq => leqB ek
  | .geq => geqB ek
  | .eql => eqlB ek
  | .neq => neqB ek
  | op => binOther ek op
theorem binH_eq (ek : EK) (op : BinOp) (x y : V) : binH ek op x y = opBin ek op x y := by
  rw [← binG_eq]
  cases op
  case add => exact intKF_eq addF_eq _ _ _
  case sub => exact intKF_eq subF_eq _ _ _
  case lss => exact intKF_eq (fun k a b => by rw [boolR_eq, ltR_eq]) _ _ _
  case gtr => exact intKF_eq (fun k a b => by rw [boolR_eq, ltR_eq]) _ _ _
  case leq => exact intKF_eq (fun k a b => by rw [boolR_eq, ltR_eq]) _ _ _
  case geq => exact intKF_eq (fun k a b => by rw [boolR_eq, ltR_eq]) _ _ _
  case eql =>
    show intKF (fun a b _ => boolR (eqI a b)) (strF false (opBin ek .eql)) x y = binEql ek x y
    rw [show strF false (opBin ek .eql) = opBin ek .eql from funext fun x => funext fun y => strF_eql ek x y]
    exact intKF_eq (fun k a b => rfl) _ _ _
  case neq =>
    show intKF (fun a b _ => boolR (!eqI a b)) (strF true (opBin ek .neq)) x y = binNeq ek x y
    rw [show strF true (opBin ek .neq) = opBin ek .neq from funext fun x => funext fun y => strF_neq ek x y]
    exact intKF_eq (fun k a b => rfl) _ _ _
  all_goals rfl

/-- Entries of maps. -/
def findS (a : List UInt8) (es : List Ent) : Nat → Option (Option (Nat × Ent)) := List.rec (motive := fun _ => Nat → Option (Option (Nat × Ent))) (fun _ => some none)
  (fun e _ ih i => match e.key with
    | .string b => Bool.rec (motive := fun _ => Option (Option (Nat × Ent))) (ih (Nat.succ i)) (some (some (i, e))) (beqL a b.data.toList)
    | _ => none) es
def findF (k : Value) (es : List Ent) (i : Nat) : Option (Option (Nat × Ent)) := match k with
  | .string a => findS a.data.toList es i
  | k => findEnt k es i
theorem findS_eq (a : ByteArray) : ∀ (es : List Ent) (i : Nat), findS a.data.toList es i = findEnt (.string a) es i
  | [], i => rfl
  | e :: es, i => by
    have ih := findS_eq a es (i + 1)
    show (match e.key with
      | .string b => Bool.rec (motive := fun _ => Option (Option (Nat × Ent))) (findS a.data.toList es (i + 1)) (some (some (i, e))) (beqL a.data.toList b.data.toList)
      | _ => none) = _
    rw [ih]
    have hf : findEnt (.string a) (e :: es) i = match keyEq (.string a) e.key with
      | some true => some (some (i, e))
      | some false => findEnt (.string a) es (i + 1)
      | none => none := rfl
    rw [hf]
    cases hk : e.key with
    | string b =>
      rw [show keyEq (.string a) (.string b) = some (bytesEq a.data.toList b.data.toList) from rfl]
      simp only [beqL_eq]
      cases bytesEq a.data.toList b.data.toList <;> rfl
    | _ => rfl
theorem findF_eq (k : Value) (es : List Ent) (i : Nat) : findF k es i = findEnt k es i := by
  unfold findF
  split
  · exact findS_eq _ _ _
  · rfl

def lookupF (kind : TypeDesc) (zero : Tree) (ok : Bool) (m k : V) (s : FS) : Option V := match asKey kind k, m with
  | some _, .tr (.sc (.map none)) => some (okTup ok (.tr zero) false)
  | some k, .mp id => match s.getO id with
    | some (.map es _) => match findF k es 0 with
      | some (some (_, e)) => some (okTup ok e.val true)
      | some none => some (okTup ok (.tr zero) false)
      | none => none
    | _ => none
  | _, _ => none
theorem lookupF_eq (kind : TypeDesc) (zero : Tree) (ok : Bool) (m k : V) (s : FS) : lookupF kind zero ok m k s = lookupG kind zero ok m k s := by
  unfold lookupF lookupG
  simp only [findF_eq]
  rfl
def mupdF (kind : TypeDesc) (m k v : V) (s : FS) : Option FS := match asKey kind k, m with
  | some k, .mp id => match s.getO id with
    | some (.map es clock) => match findF k es 0 with
      | some (some (i, e)) => s.setK id (.map (es.set i { e with key := k, val := v }) clock) some
      | some none => s.setK id (.map (es ++ [{ key := k, val := v, born := clock }]) (clock + 1)) some
      | none => none
    | _ => none
  | _, _ => none
theorem mupdF_eq (kind : TypeDesc) (m k v : V) (s : FS) : mupdF kind m k v s = mupdG kind m k v s := by
  unfold mupdF mupdG
  simp only [findF_eq]
  rfl
def mentF (kind : TypeDesc) (zero : Tree) (m k : V) (s : FS) : Option (V × FS) := match asKey kind k, m with
  | some k, .mp id => match s.getO id with
    | some (.map es clock) => match findF k es 0 with
      | some (some (i, e)) => s.setK id (.map (es.set i { e with key := k }) clock) fun s => some (mkTup [e.val, int .i64 e.born], s)
      | some none => s.setK id (.map (es ++ [{ key := k, val := .tr zero, born := clock }]) (clock + 1)) fun s => some (mkTup [.tr zero, int .i64 clock], s)
      | none => none
    | _ => none
  | _, _ => none
theorem mentF_eq (kind : TypeDesc) (zero : Tree) (m k : V) (s : FS) : mentF kind zero m k s = mentG kind zero m k s := by
  unfold mentF mentG
  simp only [findF_eq]
  rfl

/-- Copies and clearings. -/
def copyG (size : Nat) (d x : V) (s : FS) (k : V → FS → R) : R := optR (elemsG s size x) fun p => match d with
  | .tr (.sc (.slice none 0 0)) => k (int .i64 0) s
  | .own id g off len sz _ => bif2 (Nat.beq sz size) (Nat.rec (motive := fun _ => R) (k (int .i64 0) s) (fun _ _ => optR (putG s id g off (p.1.take (Nat.min p.2 len * size))) fun s => k (int .i64 (Nat.min p.2 len : Nat)) s) (Nat.min p.2 len)) none
  | .tr (.row _ len _) => Nat.rec (motive := fun _ => R) (k (int .i64 0) s) (fun _ _ => none) (Nat.min p.2 len)
  | _ => none
theorem copyG_some {s : FS} {σ : Store} (hs : SRel s σ) {size : Nat} {d x : V} {k : V → FS → R} {r : V × FS} (h : copyG size d x s k = some r) : ∃ v s' σ', opCopy size d x σ = some (v, σ') ∧ SRel s' σ' ∧ k v s' = some r := by
  unfold copyG at h
  obtain ⟨⟨xs, n⟩, h1, h2⟩ := optR_some h
  unfold opCopy
  rw [elemsG_some hs h1]
  simp only at h2 ⊢
  split at h2
  · exact ⟨_, s, σ, rfl, hs, h2⟩
  · rename_i id g off len sz cap
    obtain ⟨h3, h4⟩ := bif2_some h2
    simp only [Nat.eq_of_beq_eq_true h3, ne_eq, not_true_eq_false, if_false]
    cases hm : Nat.min n len with
    | zero =>
      rw [hm] at h4
      exact ⟨_, s, σ, by simp, hs, h4⟩
    | succ m =>
      rw [hm] at h4
      obtain ⟨s', h5, h6⟩ := optR_some h4
      obtain ⟨σ', h7, h8⟩ := putG_some hs h5
      exact ⟨_, s', σ', by simp [h7], h8, h6⟩
  · rename_i len cap
    cases hm : Nat.min n len with
    | zero =>
      rw [hm] at h2
      exact ⟨_, s, σ, by simp only [hm, if_true], hs, h2⟩
    | succ m =>
      rw [hm] at h2
      cases h2
  · cases h2
def clearG (zero : List Tree) (x : V) (s : FS) (k : V → FS → R) : R := match x with
  | .tr (.sc (.slice none 0 0)) => k (.tr (.tup [])) s
  | .tr (.row _ 0 _) => k (.tr (.tup [])) s
  | .own _ _ _ 0 _ _ => k (.tr (.tup [])) s
  | .own id g off len sz _ => bif2 (Nat.beq sz zero.length) (optR (putG s id g off ((rep len zero).map .tr)) fun s => k (.tr (.tup [])) s) none
  | _ => none
theorem clearG_some {s : FS} {σ : Store} (hs : SRel s σ) {zero : List Tree} {x : V} {k : V → FS → R} {r : V × FS} (h : clearG zero x s k = some r) : ∃ v s' σ', opClear zero x σ = some (v, σ') ∧ SRel s' σ' ∧ k v s' = some r := by
  unfold clearG at h
  unfold opClear
  split at h
  · exact ⟨_, s, σ, rfl, hs, h⟩
  · exact ⟨_, s, σ, rfl, hs, h⟩
  · exact ⟨_, s, σ, rfl, hs, h⟩
  · rename_i id g off len sz cap hno
    obtain ⟨h3, h4⟩ := bif2_some h
    obtain ⟨s', h5, h6⟩ := optR_some h4
    obtain ⟨σ', h7, h8⟩ := putG_some hs h5
    simp only [Nat.eq_of_beq_eq_true h3, ne_eq, not_true_eq_false, if_false, h7]
    exact ⟨_, s', σ', rfl, h8, h6⟩
  · cases h
end
end Go.Proofs.Ytndcdolcmkmgbaa.AM
end
section
set_option linter.unusedSimpArgs false
set_option linter.unusedVariables false
/- Code in continuation form, and that it says what the code says: operands and operations. -/
set_option linter.unusedVariables false
namespace Go.Proofs.Ytndcdolcmkmgbaa.AM

noncomputable section
def gO (D : Nat) (names : List Nat) : HO → GO
  | .val v => oV v
  | .loc k => match ix k names with | some i => oLoc i | none => oBad
  | .env k => match Nat.blt k (2 ^ D) with | true => oE (eP (bits D k)) | false => oBad
def gOs (D : Nat) (names : List Nat) : List HO → GOs
  | [] => aN
  | x :: r => aC (gO D names x) (gOs D names r)
def gPs (D : Nat) (names : List Nat) : List (Nat × Nat × HO) → GPs
  | [] => bN
  | (o, n, x) :: r => bC o n (gO D names x) (gPs D names r)
def gMo (D : Nat) (names : List Nat) : Option HO → GMo
  | none => mN
  | some x => mS (gO D names x)
def convG (c : Conv) (x : V) : Option V := match opConv c x [] with | some (v, _) => some v | none => none
/-- A kind of operation. -/
def gK (D : Nat) (names : List Nat) : HK → GK
  | .mv x => kMv (gO D names x)
  | .pick c a b => kPickF (gO D names c) (gO D names a) (gO D names b)
  | .alloc z => kW0 (allocG (z.map .tr))
  | .box x => kW1 (fun v => allocG (cellsOf v)) (gO D names x)
  | .build z ps => kBuild z (gPs D names ps)
  | .bslice own len size z ps => kBslice own len size z (gPs D names ps)
  | .load size agg a => match size, agg with | 1, false => kR1 ldF1 (gO D names a) | size, agg => kR1 (ldG size agg) (gO D names a)
  | .store size a x => match size with | 1 => kS2 stF1 (gO D names a) (gO D names x) | size => kS2 (stG size) (gO D names a) (gO D names x)
  | .nilchk x => kP1 opNilCheck (gO D names x)
  | .bin ek op x y => kP2 (binH ek op) (gO D names x) (gO D names y)
  | .un op x => kP1 (opUn op) (gO D names x)
  | .conv c x => match c with
    | .bytesStr => kR1 bytesStrG (gO D names x)
    | .strBytes => kW1 strBytesG (gO D names x)
    | c => kP1 (convG c) (gO D names x)
  | .mkfn fn a b => kMkfn fn (gOs D names a) (gOs D names b)
  | .mkmap => kW0 mkmapG
  | .mkslice z bytes l c => kW2 (mksliceG z bytes) (gO D names l) (gO D names c)
  | .faddr off x => kP1 (opFaddr off) (gO D names x)
  | .field off size agg x => kP1 (opField off size agg) (gO D names x)
  | .iaddr size x i => kR2 (iaddrF size) (gO D names x) (gO D names i)
  | .istr x i => kP2 opIndexStr (gO D names x) (gO D names i)
  | .lookup kind z ok m k => kR2 (lookupF kind z ok) (gO D names m) (gO D names k)
  | .mupd kind m k v => kS3 (mupdF kind) (gO D names m) (gO D names k) (gO D names v)
  | .ment kind z m k => kT2 (mentF kind z) (gO D names m) (gO D names k)
  | .esto m c v => kS3 estoG (gO D names m) (gO D names c) (gO D names v)
  | .delete kind m k => kW2 (fun m k => viaG (opDelete kind m k)) (gO D names m) (gO D names k)
  | .extract x i => kP1 (fun v => opExtract v i) (gO D names x)
  | .mkiface t x => kMkiface t (gO D names x)
  | .callf f args => kCallf f (gOs D names args)
  | .callv f args => kCallv (gO D names f) (gOs D names args)
  | .len k x => match k with | 0 => kP1 opLenStr (gO D names x) | 1 => kP1 opLenSl (gO D names x) | _ => kR1 lenMapG (gO D names x)
  | .cap x => kR1 capG (gO D names x)
  | .append size bytes s x => kW2 (appendG size bytes) (gO D names s) (gO D names x)
  | .copy size d x => kW2 (copyG size) (gO D names d) (gO D names x)
  | .clear z x => kW1 (clearG z) (gO D names x)
  | .minmax mx x l => kMinmax mx (gO D names x) (gOs D names l)
  | .slicestr x lo hi => kSlicestr (gO D names x) (gMo D names lo) (gMo D names hi)
  | .slice size x lo hi mx => kSlice size (gO D names x) (gMo D names lo) (gMo D names hi) (gMo D names mx)
  | .bad => kBadK

def gW (D : Nat) (o : HOp) : GK → GOp := match o.dst with
  | none => pN
  | some d => match o.inK with
    | false => pL
    | true => match Nat.blt d (2 ^ D) with | true => pE (sP (bits D d)) | false => fun _ => opBad
def gN (names : List Nat) (o : HOp) : List Nat := match o.dst with
  | none => names
  | some d => match o.inK with | false => d :: names | true => names
def gOp (D : Nat) (names : List Nat) (o : HOp) (g : GK) : GOp := match o.guard with
  | none => gW D o g
  | some (x, want) => gGF (gO D names x) want (gW D o g) (gW D o kUndef)
end

/-- A call in the tree says what calls in the list say. -/
def CallEx (c : GCall) (cas : Nat → CallA) : Prop := ∀ f vs s v s' σ, c f vs s = some (v, s') → SRel s σ → ∃ m σ', cas m f vs σ = some (v, σ') ∧ SRel s' σ'

section
variable {D : Nat} {names : List Nat} {e : ET} {l : List V} {st : St}

theorem gO_some (he : ERel D e st.env) (hl : LRel names l st.loc) {x : HO} {k : V → R} {r : V × FS} (h : gO D names x k e l = some r) : ∃ v, st.get x = some v ∧ k v = some r := by
  cases x with
  | val v => exact ⟨v, rfl, h⟩
  | loc j =>
    cases hi : ix j names with
    | some i =>
      simp only [gO, hi] at h
      obtain ⟨v, h1, h2⟩ := oLoc_some h
      obtain ⟨u, h3, h4⟩ := hl j i hi
      rw [h1] at h3
      cases h3
      exact ⟨v, h4, h2⟩
    | none =>
      simp only [gO, hi] at h
      cases h
  | env j =>
    cases hb : Nat.blt j (2 ^ D) with
    | true =>
      simp only [gO, hb] at h
      obtain ⟨v, h1, h2⟩ := eP_some (k := k) (e := e) h
      rw [he j (by simpa only [Nat.blt_eq] using hb)] at h1
      exact ⟨v, h1, h2⟩
    | false =>
      simp only [gO, hb] at h
      cases h
theorem gOs_some (he : ERel D e st.env) (hl : LRel names l st.loc) : ∀ {xs : List HO} {k : List V → R} {r : V × FS}, gOs D names xs k e l = some r → ∃ vs, st.gets xs = some vs ∧ k vs = some r
  | [], k, r, h => ⟨[], rfl, h⟩
  | x :: xs, k, r, h => by
    obtain ⟨v, h1, h2⟩ := gO_some he hl (x := x) h
    obtain ⟨vs, h3, h4⟩ := gOs_some he hl (xs := xs) h2
    exact ⟨v :: vs, by simp only [St.gets, h1, h3], h4⟩
theorem gPs_some (he : ERel D e st.env) (hl : LRel names l st.loc) : ∀ {xs : List (Nat × Nat × HO)} {k : List (Nat × Nat × V) → R} {r : V × FS}, gPs D names xs k e l = some r → ∃ vs, st.getp xs = some vs ∧ k vs = some r
  | [], k, r, h => ⟨[], rfl, h⟩
  | (o, n, x) :: xs, k, r, h => by
    obtain ⟨v, h1, h2⟩ := gO_some he hl (x := x) h
    obtain ⟨vs, h3, h4⟩ := gPs_some he hl (xs := xs) h2
    exact ⟨(o, n, v) :: vs, by simp only [St.getp, h1, h3], h4⟩
theorem gMo_some (he : ERel D e st.env) (hl : LRel names l st.loc) {x : Option HO} {k : Option V → R} {r : V × FS} (h : gMo D names x k e l = some r) : ∃ v, st.geto x = some v ∧ k v = some r := by
  cases x with
  | none => exact ⟨none, rfl, h⟩
  | some x =>
    obtain ⟨v, h1, h2⟩ := gO_some he hl (x := x) h
    exact ⟨some v, by simp only [St.geto, h1], h2⟩

theorem opConv_st {c : Conv} (x : V) (hc : match c with | .bytesStr => False | .strBytes => False | _ => True) (σ : Store) : opConv c x σ = match opConv c x [] with | some (v, _) => some (v, σ) | none => none := by
  cases c with
  | bytesStr => cases hc
  | strBytes => cases hc
  | strStr =>
    cases x with
    | tr t => cases t with
      | sc v => cases v <;> rfl
      | _ => rfl
    | _ => rfl
  | toInt k =>
    cases x with
    | tr t => cases t with
      | sc v => cases v with
        | float f b =>
          simp only [opConv]
          split
          · split <;> rfl
          · rfl
        | _ => rfl
      | _ => rfl
    | _ => rfl
  | toFloat k =>
    cases x with
    | tr t => cases t with
      | sc v => cases v with
        | float f b =>
          simp only [opConv]
          split
          · rfl
          · split
            · rfl
            · rfl
            · split <;> rfl
        | _ => rfl
      | _ => rfl
    | _ => rfl
theorem convG_some {c : Conv} {x v : V} (hc : match c with | .bytesStr => False | .strBytes => False | _ => True) (h : convG c x = some v) (σ : Store) : opConv c x σ = some (v, σ) := by
  unfold convG at h
  rw [opConv_st x hc σ]
  split at h
  · cases h
    rfl
  · cases h

variable {s : FS} {c : GCall} {cas : Nat → CallA}

theorem gK_some (he : ERel D e st.env) (hl : LRel names l st.loc) (hs : SRel s st.σ) (hc : CallEx c cas) {hk : HK} {k : V → FS → R} {r : V × FS} (h : gK D names hk c k e l s = some r) :
    ∃ m v s' σ', opA (cas m) hk st = some (v, σ') ∧ SRel s' σ' ∧ k v s' = some r := by
  cases hk with
  | mv x =>
    obtain ⟨v, h1, h2⟩ := gO_some he hl (x := x) h
    exact ⟨0, v, s, _, by simp only [opA, o_mv, h1, pure1], hs, h2⟩
  | pick x a b =>
    simp only [gK, kPickF_eq] at h
    obtain ⟨v, h1, h2⟩ := gO_some he hl (x := x) h
    simp only [opA, o_pick, h1, bind1]
    split at h2
    · rename_i u
      cases u with
      | true =>
        obtain ⟨v, h3, h4⟩ := gO_some he hl (x := a) h2
        exact ⟨0, v, s, _, by simp only [asBool?, h3, pure1], hs, h4⟩
      | false =>
        obtain ⟨v, h3, h4⟩ := gO_some he hl (x := b) h2
        exact ⟨0, v, s, _, by simp only [asBool?, h3, pure1], hs, h4⟩
    · cases h2
  | alloc z =>
    obtain ⟨s', h1, h2⟩ := allocG_some hs h
    exact ⟨0, _, s', _, rfl, h1, h2⟩
  | box x =>
    obtain ⟨v, h1, h2⟩ := gO_some he hl (x := x) h
    obtain ⟨s', h3, h4⟩ := allocG_some hs h2
    exact ⟨0, _, s', _, by simp only [opA, o_box, h1, bind1, opBox], h3, h4⟩
  | build z ps =>
    obtain ⟨vs, h1, h2⟩ := gPs_some he hl h
    obtain ⟨v, h3, h4⟩ := optR_some h2
    exact ⟨0, v, s, _, by simp only [opA, o_build, h1, h3, pure1], hs, h4⟩
  | bslice own len size z ps =>
    obtain ⟨vs, h1, h2⟩ := gPs_some he hl h
    obtain ⟨v, s', σ', h3, h4, h5⟩ := bsliceG_some hs h2
    exact ⟨0, v, s', σ', by simp only [opA, o_bslice, h1, h3], h4, h5⟩
  | load size agg a =>
    have key : ∀ {f : V → FS → Option V}, (∀ a v, f a s = some v → opLoad size agg a st.σ = some v) → kR1 f (gO D names a) c k e l s = some r → ∃ m v s' σ', opA (cas m) (.load size agg a) st = some (v, σ') ∧ SRel s' σ' ∧ k v s' = some r := by
      intro f hf h
      obtain ⟨v, h1, h2⟩ := gO_some he hl (x := a) h
      obtain ⟨u, h3, h4⟩ := optR_some h2
      exact ⟨0, u, s, _, by simp only [opA, o_load, h1, bind1, hf _ _ h3, pure1], hs, h4⟩
    simp only [gK] at h
    split at h
    · exact key (fun a v h => ldG1_some hs (by rwa [ldF1_eq] at h)) h
    · exact key (fun a v h => ldG_some hs h) h
  | store size a x =>
    have key : ∀ {f : V → V → FS → (FS → R) → R}, (∀ a x k r, f a x s k = some r → ∃ s' σ', opStore size a x st.σ = some σ' ∧ SRel s' σ' ∧ k s' = some r) → kS2 f (gO D names a) (gO D names x) c k e l s = some r → ∃ m v s' σ', opA (cas m) (.store size a x) st = some (v, σ') ∧ SRel s' σ' ∧ k v s' = some r := by
      intro f hf h
      obtain ⟨v, h1, h2⟩ := gO_some he hl (x := a) h
      obtain ⟨u, h3, h4⟩ := gO_some he hl (x := x) h2
      obtain ⟨s', σ', h5, h6, h7⟩ := hf _ _ _ _ h4
      exact ⟨0, _, s', _, by simp only [opA, o_store, h1, h3, bind1, h5, skip1], h6, h7⟩
    simp only [gK] at h
    split at h
    · exact key (fun a x k r h => stG1_some hs (by rwa [stF1_eq] at h)) h
    · exact key (fun a x k r h => stG_some hs h) h
  | nilchk x =>
    obtain ⟨v, h1, h2⟩ := gO_some he hl (x := x) h
    obtain ⟨u, h3, h4⟩ := optR_some h2
    exact ⟨0, u, s, _, by simp only [opA, o_nilchk, h1, bind1, h3, pure1], hs, h4⟩
  | bin ek op x y =>
    obtain ⟨v, h1, h2⟩ := gO_some he hl (x := x) h
    obtain ⟨u, h3, h4⟩ := gO_some he hl (x := y) h2
    obtain ⟨w, h5, h6⟩ := optR_some h4
    rw [binH_eq] at h5
    exact ⟨0, w, s, _, by simp only [opA, o_bin, h1, h3, bind1, h5, pure1], hs, h6⟩
  | un op x =>
    obtain ⟨v, h1, h2⟩ := gO_some he hl (x := x) h
    obtain ⟨u, h3, h4⟩ := optR_some h2
    exact ⟨0, u, s, _, by simp only [opA, o_un, h1, bind1, h3, pure1], hs, h4⟩
  | conv cv x =>
    simp only [gK] at h
    split at h
    · obtain ⟨v, h1, h2⟩ := gO_some he hl (x := x) h
      obtain ⟨u, h3, h4⟩ := optR_some h2
      exact ⟨0, u, s, _, by simp only [opA, o_conv, h1, bind1, bytesStrG_some hs h3], hs, h4⟩
    · obtain ⟨v, h1, h2⟩ := gO_some he hl (x := x) h
      obtain ⟨u, s', σ', h3, h4, h5⟩ := strBytesG_some hs h2
      exact ⟨0, u, s', _, by simp only [opA, o_conv, h1, bind1, h3], h4, h5⟩
    · rename_i h1 h2
      obtain ⟨v, h3, h4⟩ := gO_some he hl (x := x) h
      obtain ⟨u, h5, h6⟩ := optR_some h4
      refine ⟨0, u, s, _, ?_, hs, h6⟩
      simp only [opA, o_conv, h3, bind1]
      refine convG_some ?_ h5 _
      cases cv <;> first | trivial | (exact h1 rfl) | (exact h2 rfl)
  | mkfn fn a b =>
    obtain ⟨va, h1, h2⟩ := gOs_some he hl (xs := a) h
    obtain ⟨vb, h3, h4⟩ := gOs_some he hl (xs := b) h2
    simp only [opA, o_mkfn, h1, h3]
    split at h4
    · rename_i ta tb h5 h6
      exact ⟨0, _, s, _, by simp only [h5, h6], hs, h4⟩
    · rename_i hno
      refine ⟨0, _, s, _, ?_, hs, h4⟩
      split
      · rename_i ta tb h5 h6
        exact absurd h6 (hno _ _ h5)
      · rfl
  | mkmap =>
    obtain ⟨s', h1, h2⟩ := mkmapG_some hs h
    exact ⟨0, _, s', _, rfl, h1, h2⟩
  | mkslice z bytes x y =>
    obtain ⟨v, h1, h2⟩ := gO_some he hl (x := x) h
    obtain ⟨u, h3, h4⟩ := gO_some he hl (x := y) h2
    obtain ⟨w, s', σ', h5, h6, h7⟩ := mksliceG_some hs h4
    exact ⟨0, w, s', σ', by simp only [opA, o_mkslice, h1, h3, bind1, h5], h6, h7⟩
  | faddr off x =>
    obtain ⟨v, h1, h2⟩ := gO_some he hl (x := x) h
    obtain ⟨u, h3, h4⟩ := optR_some h2
    exact ⟨0, u, s, _, by simp only [opA, o_faddr, h1, bind1, h3, pure1], hs, h4⟩
  | field off size agg x =>
    obtain ⟨v, h1, h2⟩ := gO_some he hl (x := x) h
    obtain ⟨u, h3, h4⟩ := optR_some h2
    exact ⟨0, u, s, _, by simp only [opA, o_field, h1, bind1, h3, pure1], hs, h4⟩
  | iaddr size x y =>
    obtain ⟨v, h1, h2⟩ := gO_some he hl (x := x) h
    obtain ⟨u, h3, h4⟩ := gO_some he hl (x := y) h2
    obtain ⟨w, h5, h6⟩ := optR_some h4
    rw [iaddrF_eq] at h5
    exact ⟨0, w, s, _, by simp only [opA, o_iaddr, h1, h3, bind1, iaddrG_some hs h5, pure1], hs, h6⟩
  | istr x y =>
    obtain ⟨v, h1, h2⟩ := gO_some he hl (x := x) h
    obtain ⟨u, h3, h4⟩ := gO_some he hl (x := y) h2
    obtain ⟨w, h5, h6⟩ := optR_some h4
    exact ⟨0, w, s, _, by simp only [opA, o_istr, h1, h3, bind1, h5, pure1], hs, h6⟩
  | lookup kind z ok x y =>
    obtain ⟨v, h1, h2⟩ := gO_some he hl (x := x) h
    obtain ⟨u, h3, h4⟩ := gO_some he hl (x := y) h2
    obtain ⟨w, h5, h6⟩ := optR_some h4
    rw [lookupF_eq, lookupG_eq hs] at h5
    exact ⟨0, w, s, _, by simp only [opA, o_lookup, h1, h3, bind1, h5, pure1], hs, h6⟩
  | mupd kind x y z =>
    obtain ⟨v, h1, h2⟩ := gO_some he hl (x := x) h
    obtain ⟨u, h3, h4⟩ := gO_some he hl (x := y) h2
    obtain ⟨w, h5, h6⟩ := gO_some he hl (x := z) h4
    obtain ⟨s', h7, h8⟩ := optR_some h6
    rw [mupdF_eq] at h7
    obtain ⟨σ', h9, h10⟩ := mupdG_some hs h7
    exact ⟨0, _, s', _, by simp only [opA, o_mupd, h1, h3, h5, bind1, h9, skip1], h10, h8⟩
  | ment kind z x y =>
    obtain ⟨v, h1, h2⟩ := gO_some he hl (x := x) h
    obtain ⟨u, h3, h4⟩ := gO_some he hl (x := y) h2
    obtain ⟨p, h5, h6⟩ := optR_some h4
    rw [mentF_eq] at h5
    obtain ⟨σ', h7, h8⟩ := mentG_some hs h5
    exact ⟨0, _, _, _, by simp only [opA, o_ment, h1, h3, bind1, h7], h8, h6⟩
  | esto x y z =>
    obtain ⟨v, h1, h2⟩ := gO_some he hl (x := x) h
    obtain ⟨u, h3, h4⟩ := gO_some he hl (x := y) h2
    obtain ⟨w, h5, h6⟩ := gO_some he hl (x := z) h4
    obtain ⟨s', h7, h8⟩ := optR_some h6
    obtain ⟨σ', h9, h10⟩ := estoG_some hs h7
    exact ⟨0, _, s', _, by simp only [opA, o_esto, h1, h3, h5, bind1, h9, skip1], h10, h8⟩
  | delete kind x y =>
    obtain ⟨v, h1, h2⟩ := gO_some he hl (x := x) h
    obtain ⟨u, h3, h4⟩ := gO_some he hl (x := y) h2
    obtain ⟨w, s', σ', h5, h6, h7⟩ := viaG_some hs h4
    exact ⟨0, w, s', σ', by simp only [opA, o_delete, h1, h3, bind1, h5], h6, h7⟩
  | extract x i =>
    obtain ⟨v, h1, h2⟩ := gO_some he hl (x := x) h
    obtain ⟨u, h3, h4⟩ := optR_some h2
    exact ⟨0, u, s, _, by simp only [opA, o_extract, h1, bind1, h3, pure1], hs, h4⟩
  | mkiface t x =>
    obtain ⟨v, h1, h2⟩ := gO_some he hl (x := x) h
    simp only [opA, o_mkiface, h1, bind1]
    split at h2
    · exact ⟨0, _, s, _, rfl, hs, h2⟩
    · rename_i hno
      refine ⟨0, _, s, _, ?_, hs, h2⟩
      split
      · rename_i t' 
        exact (hno _ rfl).elim
      · rfl
  | callf f args =>
    obtain ⟨vs, h1, h2⟩ := gOs_some he hl (xs := args) h
    obtain ⟨⟨v, s'⟩, h3, h4⟩ := optR_some h2
    obtain ⟨m, σ', h5, h6⟩ := hc _ _ _ _ _ _ h3 hs
    exact ⟨m, v, s', σ', by simp only [opA, o_callf, h1, h5], h6, h4⟩
  | callv f args =>
    obtain ⟨vf, h0, h00⟩ := gO_some he hl (x := f) h
    obtain ⟨vs, h1, h2⟩ := gOs_some he hl (xs := args) h00
    obtain ⟨⟨v, s'⟩, h3, h4⟩ := optR_some h2
    unfold callVG at h3
    simp only [opA, o_callv, h0, h1, bind1, callV]
    split at h3
    · obtain ⟨m, σ', h5, h6⟩ := hc _ _ _ _ _ _ h3 hs
      exact ⟨m, v, s', σ', h5, h6, h4⟩
    · obtain ⟨m, σ', h5, h6⟩ := hc _ _ _ _ _ _ h3 hs
      exact ⟨m, v, s', σ', h5, h6, h4⟩
    · cases h3
  | len j x =>
    have key : ∀ {f : V → FS → Option V}, (∀ a v, f a s = some v → opLen j a st.σ = some v) → kR1 f (gO D names x) c k e l s = some r → ∃ m v s' σ', opA (cas m) (.len j x) st = some (v, σ') ∧ SRel s' σ' ∧ k v s' = some r := by
      intro f hf h
      obtain ⟨v, h1, h2⟩ := gO_some he hl (x := x) h
      obtain ⟨u, h3, h4⟩ := optR_some h2
      exact ⟨0, u, s, _, by simp only [opA, o_len, h1, bind1, hf _ _ h3, pure1], hs, h4⟩
    simp only [gK] at h
    split at h
    · exact key (f := fun v _ => opLenStr v) (fun a v h => h) h
    · exact key (f := fun v _ => opLenSl v) (fun a v h => h) h
    · rename_i h0 h1
      refine key (fun a v h => ?_) h
      rw [lenMapG_eq hs] at h
      match j, h0, h1 with
      | 0, h0, _ => exact absurd rfl h0
      | 1, _, h1 => exact absurd rfl h1
      | j + 2, _, _ => exact h
  | cap x =>
    obtain ⟨v, h1, h2⟩ := gO_some he hl (x := x) h
    obtain ⟨u, h3, h4⟩ := optR_some h2
    exact ⟨0, u, s, _, by simp only [opA, o_cap, h1, bind1, capG_some hs h3, pure1], hs, h4⟩
  | append size bytes x y =>
    obtain ⟨v, h1, h2⟩ := gO_some he hl (x := x) h
    obtain ⟨u, h3, h4⟩ := gO_some he hl (x := y) h2
    obtain ⟨w, s', σ', h5, h6, h7⟩ := appendG_some hs h4
    exact ⟨0, w, s', σ', by simp only [opA, o_append, h1, h3, bind1, h5], h6, h7⟩
  | copy size x y =>
    obtain ⟨v, h1, h2⟩ := gO_some he hl (x := x) h
    obtain ⟨u, h3, h4⟩ := gO_some he hl (x := y) h2
    obtain ⟨w, s', σ', h5, h6, h7⟩ := copyG_some hs h4
    exact ⟨0, w, s', σ', by simp only [opA, o_copy, h1, h3, bind1, h5], h6, h7⟩
  | clear z x =>
    obtain ⟨v, h1, h2⟩ := gO_some he hl (x := x) h
    obtain ⟨w, s', σ', h5, h6, h7⟩ := clearG_some hs h2
    exact ⟨0, w, s', σ', by simp only [opA, o_clear, h1, bind1, h5], h6, h7⟩
  | minmax mx x xs =>
    obtain ⟨v, h1, h2⟩ := gO_some he hl (x := x) h
    obtain ⟨vs, h3, h4⟩ := gOs_some he hl (xs := xs) h2
    obtain ⟨u, h5, h6⟩ := optR_some h4
    exact ⟨0, u, s, _, by simp only [opA, o_minmax, h1, h3, bind1, h5, pure1], hs, h6⟩
  | slicestr x lo hi =>
    obtain ⟨v, h1, h2⟩ := gO_some he hl (x := x) h
    obtain ⟨v1, h3, h4⟩ := gMo_some he hl (x := lo) h2
    obtain ⟨v2, h5, h6⟩ := gMo_some he hl (x := hi) h4
    obtain ⟨u, h7, h8⟩ := optR_some h6
    exact ⟨0, u, s, _, by simp only [opA, o_slicestr, h1, h3, h5, bind1, h7, pure1], hs, h8⟩
  | slice size x lo hi mx =>
    obtain ⟨v, h1, h2⟩ := gO_some he hl (x := x) h
    obtain ⟨v1, h3, h4⟩ := gMo_some he hl (x := lo) h2
    obtain ⟨v2, h5, h6⟩ := gMo_some he hl (x := hi) h4
    obtain ⟨v3, h9, h10⟩ := gMo_some he hl (x := mx) h6
    obtain ⟨u, h7, h8⟩ := optR_some h10
    exact ⟨0, u, s, _, by simp only [opA, o_slice, h1, h3, h5, h9, bind1, sliceG_some hs h7, pure1], hs, h8⟩
  | bad => cases h
end

end Go.Proofs.Ytndcdolcmkmgbaa.AM
end
section
set_option linter.unusedSimpArgs false
set_option linter.unusedVariables false
/- Code in continuation form: regions, code, functions, calls. -/
set_option linter.unusedVariables false
namespace Go.Proofs.Ytndcdolcmkmgbaa.AM

noncomputable section
def gOps (D : Nat) : List Nat → List HOp → GOp × List Nat
  | names, [] => (cz, names)
  | names, o :: r => (cs (gOp D names o (gK D names o.k)) (gOps D (gN names o) r).1, (gOps D (gN names o) r).2)

def hoIn (ns : List Nat) : HO → Bool
  | .val _ => true
  | .loc k => memN k ns
  | .env k => memN k ns
def hosIn (ns : List Nat) : List HO → Bool
  | [] => true
  | x :: r => hoIn ns x && hosIn ns r
def hpsIn (ns : List Nat) : List (Nat × Nat × HO) → Bool
  | [] => true
  | (_, _, x) :: r => hoIn ns x && hpsIn ns r
def hmIn (ns : List Nat) : Option HO → Bool
  | none => true
  | some x => hoIn ns x
def hkIn (ns : List Nat) : HK → Bool
  | .mv x => hoIn ns x
  | .pick c a b => hoIn ns c && hoIn ns a && hoIn ns b
  | .alloc z => true
  | .box x => hoIn ns x
  | .build z ps => hpsIn ns ps
  | .bslice own len size z ps => hpsIn ns ps
  | .load size agg a => hoIn ns a
  | .store size a x => hoIn ns a && hoIn ns x
  | .nilchk x => hoIn ns x
  | .bin ek op x y => hoIn ns x && hoIn ns y
  | .un op x => hoIn ns x
  | .conv c x => hoIn ns x
  | .mkfn fn a b => hosIn ns a && hosIn ns b
  | .mkmap => true
  | .mkslice z bytes l c => hoIn ns l && hoIn ns c
  | .faddr off x => hoIn ns x
  | .field off size agg x => hoIn ns x
  | .iaddr size x i => hoIn ns x && hoIn ns i
  | .istr x i => hoIn ns x && hoIn ns i
  | .lookup kind z ok m k => hoIn ns m && hoIn ns k
  | .mupd kind m k v => hoIn ns m && hoIn ns k && hoIn ns v
  | .ment kind z m k => hoIn ns m && hoIn ns k
  | .esto m c v => hoIn ns m && hoIn ns c && hoIn ns v
  | .delete kind m k => hoIn ns m && hoIn ns k
  | .extract x i => hoIn ns x
  | .mkiface t x => hoIn ns x
  | .callf f args => hosIn ns args
  | .callv f args => hoIn ns f && hosIn ns args
  | .len k x => hoIn ns x
  | .cap x => hoIn ns x
  | .append size bytes s x => hoIn ns s && hoIn ns x
  | .copy size d x => hoIn ns d && hoIn ns x
  | .clear z x => hoIn ns x
  | .minmax mx x l => hoIn ns x && hosIn ns l
  | .slicestr x lo hi => hoIn ns x && hmIn ns lo && hmIn ns hi
  | .slice size x lo hi mx => hoIn ns x && hmIn ns lo && hmIn ns hi && hmIn ns mx
  | .bad => true
def hgIn (ns : List Nat) : Option (HO × Bool) → Bool
  | none => true
  | some (x, _) => hoIn ns x

def gOpD (D : Nat) (names : List Nat) (c : Nat) (ns : List Nat) (o : HOp) : GOp :=
  match hkIn ns o.k && hgIn ns o.guard with
  | false => opBad
  | true => gOp D names o (match Nat.beq c 1 with | true => kQuiet (gK D names o.k) | false => gK D names o.k)
def gOpsD (D : Nat) : List Nat → List (Nat × List Nat) → List HOp → GOp × List Nat
  | names, [], [] => (cz, names)
  | names, (c, ns) :: is, o :: os => (cs (gOpD D names c ns o) (gOpsD D (gN names o) is os).1, (gOpsD D (gN names o) is os).2)
  | names, _, _ => (opBad, names)

def xit : Nat → GC
  | 0 => xZ
  | i + 1 => xS (xit i)
def gC (D : Nat) : List Nat → List Nat → HCode → GC × List Nat
  | ids, names, .skip => (cSkip, names)
  | ids, names, .region ops dr => match dr with
    | none => (cReg (gOps D [] ops).1, (gOps D [] ops).2)
    | some is => (cReg (gOpsD D [] is ops).1, (gOpsD D [] is ops).2)
  | ids, names, .seq a b => (cSeq (gC D ids names a).1 (gC D ids (gC D ids names a).2 b).1, (gC D ids (gC D ids names a).2 b).2)
  | ids, names, .cond x a b => (cCondF (gO D names x) (gC D ids names a).1 (gC D ids names b).1, [])
  | ids, names, .block id b => (cBlock (gC D (id :: ids) names b).1, [])
  | ids, names, .loop b => (cLoop (gC D ids [] b).1, [])
  | ids, names, .exit id => (match ix id ids with | some i => xit i | none => cBad, [])
  | ids, names, .ret => (cRet, [])
  | ids, names, .bad => (cBad, [])

abbrev GR := (List V → R) → ET → FS → R
def rN : GR := fun k _ _ => k []
def rT (g : GE) (r : GR) : GR := fun k e s => g (fun v => r (fun vs => k (v :: vs)) e s) e
def rC (g : GE) (size : Nat) (agg : Bool) (r : GR) : GR := fun k e s => g (fun a => optR (ldG size agg a s) fun v => r (fun vs => k (v :: vs)) e s) e
def rBad : GR := fun _ _ _ => none
def gRs (D : Nat) : List HRes → GR
  | [] => rN
  | .tmp x :: r => match Nat.blt x (2 ^ D) with | true => rT (eP (bits D x)) (gRs D r) | false => rBad
  | .cell x size agg :: r => match Nat.blt x (2 ^ D) with | true => rC (eP (bits D x)) size agg (gRs D r) | false => rBad
def fin (r : GR) : K := fun e _ s => r (fun vs => match vs with | [v] => some (v, s) | vs => some (mkTup vs, s)) e s
abbrev GA := (ET → R) → ET → List V → R
def gaN : GA := fun k e vs => List.rec (motive := fun _ => R) (k e) (fun _ _ _ => none) vs
def gaC (w : GS) (r : GA) : GA := fun k e vs => List.rec (motive := fun _ => R) none (fun v t _ => w v (fun e => r k e t) e) vs
def gaBad : GA := fun _ _ _ => none
def gArgs (D : Nat) : Nat → Nat → GA
  | 0, _ => gaN
  | n + 1, i => match Nat.blt i (2 ^ D) with | true => gaC (sP (bits D i)) (gArgs D n (i + 1)) | false => gaBad
abbrev GFn := GCall → List V → FS → R
def fnB (a : GA) (c : GC) (k : K) : GFn := fun call vs s => a (fun e => c call [] k k e [] s) .z0 vs
def gFn (D : Nat) (fn : HFn) : GFn := fnB (gArgs D fn.nargs 0) (gC D [] [] fn.code).1 (fin (gRs D fn.results))
abbrev TabG := FuncId → Option GFn
def callG (TG : TabG) (n : Nat) : GCall := Nat.rec (motive := fun _ => GCall) (fun _ _ _ => none) (fun _ ih f vs s => optR (TG f) (fun g => g ih vs s)) n
end

def Rel (D : Nat) (names : List Nat) (e : ET) (l : List V) (s : FS) (st : St) : Prop := ERel D e st.env ∧ LRel names l st.loc ∧ SRel s st.σ

section
variable {D : Nat} {names : List Nat} {e : ET} {l : List V} {st : St} {s : FS} {c : GCall} {cas : Nat → CallA}

theorem isB_eq (b w : Bool) : isB b w = (b == w) := by cases b <;> cases w <;> rfl
theorem gW_some (hr : Rel D names e l s st) {o : HOp} {g : GK} {k : K} {r : V × FS} {X : Nat → V → Store → Prop}
    (hg : ∀ (k : V → FS → R) (r : V × FS), g c k e l s = some r → ∃ m v s' σ', X m v σ' ∧ SRel s' σ' ∧ k v s' = some r) (h : gW D o g c k e l s = some r) :
    ∃ e' l' s' st' m v σ', Rel D (gN names o) e' l' s' st' ∧ k e' l' s' = some r ∧ X m v σ' ∧ st' = ({ st with σ := σ' } : St).set o.dst o.inK v := by
  unfold gW at h
  unfold gN
  cases hd : o.dst with
  | none =>
    rw [hd] at h
    obtain ⟨m, v, s', σ', h1, h2, h3⟩ := hg _ _ h
    exact ⟨e, l, s', ⟨st.env, st.loc, σ'⟩, m, v, σ', ⟨hr.1, hr.2.1, h2⟩, h3, h1, rfl⟩
  | some d =>
    rw [hd] at h
    cases hk : o.inK with
    | false =>
      rw [hk] at h
      obtain ⟨m, v, s', σ', h1, h2, h3⟩ := hg _ _ h
      exact ⟨e, v :: l, s', ⟨st.env, (d, v) :: st.loc, σ'⟩, m, v, σ', ⟨hr.1, hr.2.1.push d v, h2⟩, h3, h1, rfl⟩
    | true =>
      rw [hk] at h
      cases hb : Nat.blt d (2 ^ D) with
      | false =>
        simp only [hb] at h
        cases h
      | true =>
        simp only [hb] at h
        obtain ⟨m, v, s', σ', h1, h2, h3⟩ := hg _ _ h
        rw [sP_eq] at h3
        exact ⟨_, l, s', ⟨put st.env d v, st.loc, σ'⟩, m, v, σ', ⟨hr.1.put (by simpa only [Nat.blt_eq] using hb) v, hr.2.1, h2⟩, h3, h1, rfl⟩
theorem gOp_some (hr : Rel D names e l s st) {o : HOp} {g : GK} {k : K} {r : V × FS} {X : Nat → V → Store → Prop}
    (hg : ∀ (k : V → FS → R) (r : V × FS), g c k e l s = some r → ∃ m v s' σ', X m v σ' ∧ SRel s' σ' ∧ k v s' = some r) (h : gOp D names o g c k e l s = some r) :
    ∃ e' l' s' st', Rel D (gN names o) e' l' s' st' ∧ k e' l' s' = some r ∧
      ((guardA st o.guard = some true ∧ ∃ m v σ', X m v σ' ∧ st' = ({ st with σ := σ' } : St).set o.dst o.inK v) ∨ (guardA st o.guard = some false ∧ st' = st.set o.dst o.inK undefV)) := by
  have hu : ∀ {k : K} {r : V × FS}, gW D o kUndef c k e l s = some r → ∃ e' l' s' st', Rel D (gN names o) e' l' s' st' ∧ k e' l' s' = some r ∧ st' = st.set o.dst o.inK undefV := by
    intro k r h
    obtain ⟨e', l', s', st', m, v, σ', h1, h2, ⟨h3, h4⟩, h5⟩ := gW_some (X := fun _ v σ' => v = undefV ∧ σ' = st.σ) hr (fun k r h => ⟨0, undefV, s, st.σ, ⟨rfl, rfl⟩, hr.2.2, h⟩) h
    subst h3
    subst h4
    exact ⟨e', l', s', st', h1, h2, h5⟩
  unfold gOp at h
  cases hgd : o.guard with
  | none =>
    rw [hgd] at h
    obtain ⟨e', l', s', st', m, v, σ', h1, h2, h3, h4⟩ := gW_some hr hg h
    exact ⟨e', l', s', st', h1, h2, .inl ⟨rfl, m, v, σ', h3, h4⟩⟩
  | some p =>
    obtain ⟨x, want⟩ := p
    rw [hgd] at h
    simp only [gGF_eq] at h
    obtain ⟨v, h1, h2⟩ := gO_some hr.1 hr.2.1 (x := x) h
    simp only [guardA, h1]
    split at h2
    · rename_i u
      rw [isB_eq] at h2
      cases hb : (u == want) with
      | true =>
        rw [hb] at h2
        obtain ⟨e', l', s', st', m, v, σ', h1, h2, h3, h4⟩ := gW_some hr hg h2
        exact ⟨e', l', s', st', h1, h2, .inl ⟨by simp only [hb], m, v, σ', h3, h4⟩⟩
      | false =>
        rw [hb] at h2
        obtain ⟨e', l', s', st', h1, h2, h3⟩ := hu h2
        exact ⟨e', l', s', st', h1, h2, .inr ⟨by simp only [hb], h3⟩⟩
    · obtain ⟨e', l', s', st', h1, h2, h3⟩ := hu h2
      exact ⟨e', l', s', st', h1, h2, .inr ⟨rfl, h3⟩⟩
    · cases h2

def MonoC (cas : Nat → CallA) : Prop := ∀ m m', m ≤ m' → CallLe (cas m) (cas m')

theorem gOps_some (hc : CallEx c cas) (hm : MonoC cas) : ∀ {ops : List HOp} {names : List Nat} {e : ET} {l : List V} {s : FS} {st : St} {k : K} {r : V × FS}, Rel D names e l s st → (gOps D names ops).1 c k e l s = some r →
    ∃ m e' l' s' st', opsRun (cas m) ops st = some st' ∧ Rel D (gOps D names ops).2 e' l' s' st' ∧ k e' l' s' = some r
  | [], names, e, l, s, st, k, r, hr, h => ⟨0, e, l, s, st, rfl, hr, h⟩
  | o :: os, names, e, l, s, st, k, r, hr, h => by
    obtain ⟨e1, l1, s1, st1, h1, h2, h3⟩ := gOp_some (X := fun m v σ' => opA (cas m) o.k st = some (v, σ')) hr (fun k r h => gK_some hr.1 hr.2.1 hr.2.2 hc h) h
    obtain ⟨m2, e2, l2, s2, st2, h4, h5, h6⟩ := gOps_some hc hm (ops := os) h1 h2
    rcases h3 with ⟨hg, m, v, σ', h7, h8⟩ | ⟨hg, h8⟩
    · refine ⟨max m m2, e2, l2, s2, st2, ?_, h5, h6⟩
      simp only [opsRun, opStep, hg, opA_le (hm m _ (Nat.le_max_left ..)) h7, ← h8]
      exact opsRun_le (hm m2 _ (Nat.le_max_right ..)) h4
    · refine ⟨m2, e2, l2, s2, st2, ?_, h5, h6⟩
      simp only [opsRun, opStep, hg, ← h8]
      exact h4

theorem look_only {k : Nat} (env : List (Nat × V)) : ∀ {ns : List Nat}, memN k ns = true → look (onlyL env ns) k = look env k
  | [], h => by cases h
  | t :: r, h => by
    simp only [memN, Bool.or_eq_true] at h
    simp only [onlyL]
    cases ht : look env t with
    | some v =>
      simp only [look]
      by_cases hk : Nat.beq k t = true
      · rw [if_pos hk, Nat.eq_of_beq_eq_true hk, ht]
      · rw [if_neg hk]
        rcases h with h | h
        · rw [Nat.eq_of_beq_eq_true h] at hk
          simp at hk
        · exact look_only env h
    | none =>
      simp only
      rcases h with h | h
      · have := Nat.eq_of_beq_eq_true h
        subst this
        by_cases hr : memN t r = true
        · exact look_only env hr
        · rw [ht]
          have : ∀ (r : List Nat), ¬ memN t r = true → look (onlyL env r) t = none := by
            intro r
            induction r with
            | nil => intro _; rfl
            | cons a r ih =>
              intro h
              simp only [memN, Bool.or_eq_true, not_or] at h
              simp only [onlyL]
              cases ha : look env a with
              | some u =>
                simp only [look]
                rw [if_neg (fun hh => h.1 (by rw [Nat.eq_of_beq_eq_true hh]; simp))]
                exact ih h.2
              | none => exact ih h.2
          exact this r hr
      · exact look_only env h
theorem get_only {ns : List Nat} {x : HO} (h : hoIn ns x = true) (st : St) : (st.only ns).get x = st.get x := by
  cases x with
  | val v => rfl
  | loc k => exact look_only _ h
  | env k => exact look_only _ h
theorem gets_only {ns : List Nat} (st : St) : ∀ {xs : List HO}, hosIn ns xs = true → (st.only ns).gets xs = st.gets xs
  | [], _ => rfl
  | x :: xs, h => by
    simp only [hosIn, Bool.and_eq_true] at h
    simp only [St.gets, get_only h.1, gets_only st h.2]
theorem getp_only {ns : List Nat} (st : St) : ∀ {xs : List (Nat × Nat × HO)}, hpsIn ns xs = true → (st.only ns).getp xs = st.getp xs
  | [], _ => rfl
  | (_, _, x) :: xs, h => by
    simp only [hpsIn, Bool.and_eq_true] at h
    simp only [St.getp, get_only h.1, getp_only st h.2]
theorem geto_only {ns : List Nat} (st : St) {x : Option HO} (h : hmIn ns x = true) : (st.only ns).geto x = st.geto x := by
  cases x with
  | none => rfl
  | some x => simp only [St.geto, get_only (show hoIn ns x = true from h)]
theorem only_σ (st : St) (ns : List Nat) : (st.only ns).σ = st.σ := rfl
theorem opA_only {ns : List Nat} {hk : HK} (h : hkIn ns hk = true) (call : CallA) (st : St) : opA call hk (st.only ns) = opA call hk st := by
  cases hk <;> simp only [hkIn, Bool.and_eq_true] at h <;>
    simp only [opA, o_mv, o_pick, o_alloc, o_box, o_build, o_bslice, o_load, o_store, o_nilchk, o_bin, o_un, o_conv, o_mkfn, o_mkmap, o_mkslice, o_faddr, o_field, o_iaddr, o_istr, o_lookup, o_mupd, o_ment, o_esto, o_delete,
      o_extract, o_mkiface, o_callf, o_callv, o_len, o_cap, o_append, o_copy, o_clear, o_minmax, o_slicestr, o_slice, only_σ, get_only, gets_only, getp_only, geto_only, h]
theorem guard_only {ns : List Nat} {g : Option (HO × Bool)} (h : hgIn ns g = true) (st : St) : guardA (st.only ns) g = guardA st g := by
  cases g with
  | none => rfl
  | some p =>
    obtain ⟨x, w⟩ := p
    simp only [guardA, get_only (show hoIn ns x = true from h)]

theorem quietG_ex (hc : CallEx c cas) : CallEx (quietG c) (fun m => quietCall (cas m)) := by
  intro f vs s v s' σ h hs
  unfold quietG at h
  rw [toL_eq hs] at h
  unfold quietCall
  split at h
  · cases h
  · rename_i ts hts
    split at h
    · cases h
    · rename_i u s1 hu
      split at h
      · cases h
      · rename_i t ht
        obtain ⟨h1, h2⟩ := bif2_some h
        cases h2
        obtain ⟨m, σ1, h3, h4⟩ := hc _ _ _ _ _ _ hu SRel.nil
        rw [toL_eq h4] at ht
        refine ⟨m, σ, ?_, hs⟩
        simp only [hts, h3, ht, h1, if_true]
theorem freshG_eq {s s' : FS} {σ σ' : Store} (hs : SRel s σ) (hs' : SRel s' σ') : freshG s s' = freshOk σ σ' := by
  unfold freshG freshOk obVs
  rw [hs'.2.2, hs.1]
  split
  · rename_i cs g h
    rw [h]
  · rename_i hno
    split
    · rename_i cs g h
      exact absurd h (hno cs g)
    · rfl

theorem gOpsD_some (hc : CallEx c cas) (hm : MonoC cas) : ∀ {is : List (Nat × List Nat)} {ops : List HOp} {names : List Nat} {e : ET} {l : List V} {s : FS} {st : St} {k : K} {r : V × FS}, Rel D names e l s st → (gOpsD D names is ops).1 c k e l s = some r →
    ∃ m e' l' s' st', opsRunD (cas m) is ops st = some st' ∧ Rel D (gOpsD D names is ops).2 e' l' s' st' ∧ k e' l' s' = some r
  | [], [], names, e, l, s, st, k, r, hr, h => ⟨0, e, l, s, st, rfl, hr, h⟩
  | (i, ns) :: is, o :: os, names, e, l, s, st, k, r, hr, h => by
    have h : gOpD D names i ns o c ((gOpsD D (gN names o) is os).1 c k) e l s = some r := h
    unfold gOpD at h
    cases hin : hkIn ns o.k && hgIn ns o.guard with
    | false => rw [hin] at h; cases h
    | true =>
      rw [hin] at h
      simp only [Bool.and_eq_true] at hin
      have h : gOp D names o (match Nat.beq i 1 with | true => kQuiet (gK D names o.k) | false => gK D names o.k) c ((gOpsD D (gN names o) is os).1 c k) e l s = some r := h
      have hg : ∀ (k : V → FS → R) (r : V × FS), (match Nat.beq i 1 with | true => kQuiet (gK D names o.k) | false => gK D names o.k) c k e l s = some r →
          ∃ m v s' σ', (opA (if Nat.beq i 1 = true then quietCall (cas m) else cas m) o.k st = some (v, σ') ∧ (Nat.beq i 1 = true → freshOk st.σ σ' = true)) ∧ SRel s' σ' ∧ k v s' = some r := by
        intro k r h
        cases hi : Nat.beq i 1 with
        | true =>
          simp only [hi] at h
          obtain ⟨m, v, s', σ', h1, h2, h3⟩ := gK_some hr.1 hr.2.1 hr.2.2 (quietG_ex hc) (k := fun v s' => bif2 (freshG s s') (k v s') none) h
          obtain ⟨h4, h5⟩ := bif2_some h3
          rw [freshG_eq hr.2.2 h2] at h4
          exact ⟨m, v, s', σ', ⟨by simpa using h1, fun _ => h4⟩, h2, h5⟩
        | false =>
          simp only [hi] at h
          obtain ⟨m, v, s', σ', h1, h2, h3⟩ := gK_some hr.1 hr.2.1 hr.2.2 hc h
          exact ⟨m, v, s', σ', ⟨by simpa using h1, fun h => (by cases h)⟩, h2, h3⟩
      obtain ⟨e1, l1, s1, st1, h1, h2, h3⟩ := gOp_some (X := fun m v σ' => opA (if Nat.beq i 1 = true then quietCall (cas m) else cas m) o.k st = some (v, σ') ∧ (Nat.beq i 1 = true → freshOk st.σ σ' = true)) hr hg h
      obtain ⟨m2, e2, l2, s2, st2, h4, h5, h6⟩ := gOpsD_some hc hm (is := is) (ops := os) h1 h2
      rcases h3 with ⟨hgd, m, v, σ', ⟨h7, h9⟩, h8⟩ | ⟨hgd, h8⟩
      · refine ⟨max m m2, e2, l2, s2, st2, ?_, h5, h6⟩
        have hle : CallLe (if Nat.beq i 1 = true then quietCall (cas m) else cas m) (if Nat.beq i 1 = true then quietCall (cas (max m m2)) else cas (max m m2)) := by
          split
          · exact quiet_le (hm m _ (Nat.le_max_left ..))
          · exact hm m _ (Nat.le_max_left ..)
        have h10 := opA_le hle h7
        have h11 : ¬ (Nat.beq i 1 && !freshOk st.σ σ') = true := by
          cases hi : Nat.beq i 1 with
          | true => simp [h9 hi]
          | false => simp
        simp only [opsRunD, opStepD, guard_only hin.2, hgd, opA_only hin.1, h10, if_neg h11, ← h8]
        exact opsRunD_le (hm m2 _ (Nat.le_max_right ..)) h4
      · refine ⟨m2, e2, l2, s2, st2, ?_, h5, h6⟩
        simp only [opsRunD, opStepD, guard_only hin.2, hgd, ← h8]
        exact h4
  | [], _ :: _, names, e, l, s, st, k, r, hr, h => by cases h
  | _ :: _, [], names, e, l, s, st, k, r, hr, h => by cases h
end

end Go.Proofs.Ytndcdolcmkmgbaa.AM
end
section
set_option linter.unusedSimpArgs false
set_option linter.unusedVariables false
/- Code in continuation form says what the code says. -/
set_option linter.unusedVariables false
namespace Go.Proofs.Ytndcdolcmkmgbaa.AM

/-- More fuel says no less. -/
theorem mono1 (T : FTab) : ∀ n,
    (∀ c st r, exec T n c st = some r → exec T (n + 1) c st = some r) ∧ (∀ fn args σ r, runA T n fn args σ = some r → runA T (n + 1) fn args σ = some r) ∧ CallLe (callA T n) (callA T (n + 1))
  | 0 => ⟨fun _ _ _ e => by simp [exec] at e, fun _ _ _ _ e => by simp [runA] at e, fun _ _ _ _ e => by simp [callA] at e⟩
  | n + 1 => by
    obtain ⟨h1, h2, h3⟩ := mono1 T n
    refine ⟨fun c st r e => ?_, fun fn args σ r e => ?_, fun f args σ r e => ?_⟩
    · cases c with
      | skip => simpa only [exec] using e
      | region ops dr =>
        rw [exec] at e ⊢
        split at e
        · rename_i s hs
          have : regionRun (callA T (n + 1)) ops dr st = some s := by
            unfold regionRun at hs ⊢
            cases dr with
            | none => exact opsRun_le h3 hs
            | some is => exact opsRunD_le h3 hs
          rw [this]
          exact e
        · cases e
      | seq a b =>
        rw [exec] at e ⊢
        split at e
        · rename_i s hs
          rw [h1 _ _ _ hs]
          exact h1 _ _ _ e
        · rename_i hno
          rw [h1 _ _ _ e]
          split
          · rename_i s hs
            rw [Option.some.inj hs] at e
            exact absurd e (hno s)
          · rfl
      | cond x a b =>
        rw [exec] at e ⊢
        cases hv : st.get x with
        | none => simp only [hv] at e; cases e
        | some v =>
          simp only [hv] at e ⊢
          cases hb : asBool? v with
          | none => simp only [hb] at e; cases e
          | some u =>
            simp only [hb] at e ⊢
            cases u with
            | true => exact h1 _ _ _ e
            | false => exact h1 _ _ _ e
      | block id b =>
        rw [exec] at e ⊢
        split at e
        · rename_i id' s hs
          rw [h1 _ _ _ hs]
          exact e
        · rename_i hno
          rw [h1 _ _ _ e]
          split
          · rename_i id' s hs
            rw [Option.some.inj hs] at e
            exact absurd e (hno id' s)
          · rfl
      | loop b =>
        rw [exec] at e ⊢
        split at e
        · rename_i s hs
          rw [h1 _ _ _ hs]
          exact h1 (.loop b) _ _ e
        · rename_i hno
          rw [h1 _ _ _ e]
          split
          · rename_i s hs
            rw [Option.some.inj hs] at e
            exact absurd e (hno s)
          · rfl
      | exit id => simpa only [exec] using e
      | ret => simpa only [exec] using e
      | bad => simp [exec] at e
    · rw [runA] at e ⊢
      split at e
      · rename_i s hs
        rw [h1 _ _ _ hs]
        exact e
      · rename_i s hs
        rw [h1 _ _ _ hs]
        exact e
      · cases e
    · rw [callA] at e ⊢
      split at e
      · cases e
      · rename_i fn hf
        split at e
        · rename_i hlen
          rw [if_pos hlen]
          split at e
          · exact h2 _ _ _ _ e
          · split at e
            · cases e
            · rename_i ts hts
              split at e
              · cases e
              · rename_i v σ1 hr
                rw [h2 _ _ _ _ hr]
                exact e
        · cases e
theorem exec_mono (T : FTab) {c : HCode} {st : St} {r : Out × St} {n m : Nat} (h : n ≤ m) (e : exec T n c st = some r) : exec T m c st = some r := by
  induction h with
  | refl => exact e
  | step _ ih => exact (mono1 T _).1 _ _ _ ih
theorem callA_mono (T : FTab) : MonoC (callA T) := by
  intro n m h
  induction h with
  | refl => exact fun _ _ _ _ e => e
  | step _ ih => exact fun f vs σ r e => (mono1 T _).2.2 _ _ _ _ (ih f vs σ r e)

section
variable {D : Nat} {T : FTab} {c : GCall}

/-- How code in continuation form ends. -/
def Ends (D : Nat) (ids names' : List Nat) (ex : List K) (ret k : K) (r : V × FS) (out : Out) (st' : St) : Prop :=
  match out with
  | .normal => ∃ e l s, Rel D names' e l s st' ∧ k e l s = some r
  | .exit id => ∃ i kx e l s, ix id ids = some i ∧ ex[i]? = some kx ∧ Rel D [] e l s st' ∧ kx e l s = some r
  | .ret => ∃ e l s, Rel D [] e l s st' ∧ ret e l s = some r

theorem Rel.weak {names : List Nat} {e : ET} {l : List V} {s : FS} {st : St} (h : Rel D names e l s st) : Rel D [] e l s st := ⟨h.1, LRel.nil _ _, h.2.2⟩
theorem Rel.nilLoc {names : List Nat} {e : ET} {l : List V} {s : FS} {st : St} (h : Rel D names e l s st) : Rel D [] e [] s { st with loc := [] } := ⟨h.1, LRel.nil _ _, h.2.2⟩

theorem xit_some {ret k : K} : ∀ {i : Nat} {ex : List K} {e : ET} {l : List V} {s : FS} {r : V × FS}, xit i c ex ret k e l s = some r → ∃ kx, ex[i]? = some kx ∧ kx e l s = some r
  | 0, [], _, _, _, _, h => by cases h
  | 0, kx :: _, _, _, _, _, h => ⟨kx, rfl, h⟩
  | i + 1, [], _, _, _, _, h => by cases h
  | i + 1, _ :: ex, e, l, s, r, h => by
    obtain ⟨kx, h1, h2⟩ := xit_some (i := i) (ex := ex) h
    exact ⟨kx, by simpa using h1, h2⟩

theorem gC_some (hc : CallEx c (callA T)) : ∀ (co : HCode) {ids names : List Nat} {ex : List K} {ret k : K} {e : ET} {l : List V} {s : FS} {st : St} {r : V × FS}, Rel D names e l s st → (gC D ids names co).1 c ex ret k e l s = some r →
    ∃ n out st', exec T n co st = some (out, st') ∧ Ends D ids (gC D ids names co).2 ex ret k r out st' := by
  intro co
  induction co with
  | skip =>
    intro ids names ex ret k e l s st r hr h
    exact ⟨1, .normal, st, by simp only [exec], e, l, s, hr, h⟩
  | region ops dr =>
    intro ids names ex ret k e l s st r hr h
    cases dr with
    | none =>
      obtain ⟨m, e', l', s', st', h1, h2, h3⟩ := gOps_some hc (callA_mono T) (ops := ops) hr.nilLoc (k := k) h
      exact ⟨m + 1, .normal, st', by simp only [exec, regionRun, h1], e', l', s', h2, h3⟩
    | some is =>
      obtain ⟨m, e', l', s', st', h1, h2, h3⟩ := gOpsD_some hc (callA_mono T) (is := is) (ops := ops) hr.nilLoc (k := k) h
      exact ⟨m + 1, .normal, st', by simp only [exec, regionRun, h1], e', l', s', h2, h3⟩
  | seq a b iha ihb =>
    intro ids names ex ret k e l s st r hr h
    obtain ⟨n1, out, st1, h1, h2⟩ := iha hr (k := (gC D ids (gC D ids names a).2 b).1 c ex ret k) h
    cases out with
    | normal =>
      obtain ⟨e1, l1, s1, h3, h4⟩ := h2
      obtain ⟨n2, out, st2, h5, h6⟩ := ihb h3 h4
      refine ⟨max n1 n2 + 1, out, st2, ?_, h6⟩
      rw [exec]
      simp only [exec_mono T (Nat.le_max_left n1 n2) h1]
      exact exec_mono T (Nat.le_max_right n1 n2) h5
    | exit id => exact ⟨n1 + 1, .exit id, st1, by rw [exec]; simp only [h1], h2⟩
    | ret => exact ⟨n1 + 1, .ret, st1, by rw [exec]; simp only [h1], h2⟩
  | cond x a b iha ihb =>
    intro ids names ex ret k e l s st r hr h
    simp only [gC, cCondF_eq] at h
    obtain ⟨v, h1, h2⟩ := gO_some hr.1 hr.2.1 (x := x) h
    have hw : ∀ {names' : List Nat} {out : Out} {st' : St}, Ends D ids names' ex ret k r out st' → Ends D ids [] ex ret k r out st' := by
      intro names' out st' h
      cases out with
      | normal =>
        obtain ⟨e', l', s', h3, h4⟩ := h
        exact ⟨e', l', s', h3.weak, h4⟩
      | exit id => exact h
      | ret => exact h
    split at h2
    · rename_i u
      cases u with
      | true =>
        obtain ⟨n, out, st', h3, h4⟩ := iha hr h2
        exact ⟨n + 1, out, st', by rw [exec]; simp only [h1, asBool?, h3], hw h4⟩
      | false =>
        obtain ⟨n, out, st', h3, h4⟩ := ihb hr h2
        exact ⟨n + 1, out, st', by rw [exec]; simp only [h1, asBool?, h3], hw h4⟩
    · cases h2
  | block id b ih =>
    intro ids names ex ret k e l s st r hr h
    obtain ⟨n, out, st', h1, h2⟩ := ih hr (ids := id :: ids) (ex := k :: ex) (ret := ret) (k := k) h
    cases out with
    | normal =>
      obtain ⟨e', l', s', h3, h4⟩ := h2
      exact ⟨n + 1, .normal, st', by rw [exec]; simp only [h1], e', l', s', h3.weak, h4⟩
    | exit id' =>
      obtain ⟨i, kx, e', l', s', h3, h4, h5, h6⟩ := h2
      unfold ix at h3
      split at h3
      · rename_i hb
        cases h3
        simp only [List.getElem?_cons_zero, Option.some.injEq] at h4
        subst h4
        exact ⟨n + 1, .normal, st', by rw [exec]; simp only [h1, Nat.eq_of_beq_eq_true hb, if_true], e', l', s', h5, h6⟩
      · rename_i hb
        split at h3
        · rename_i j hj
          cases h3
          refine ⟨n + 1, .exit id', st', ?_, j, kx, e', l', s', hj, by simpa using h4, h5, h6⟩
          rw [exec]
          simp only [h1]
          rw [if_neg]
          rintro rfl
          simp at hb
        · cases h3
    | ret => exact ⟨n + 1, .ret, st', by rw [exec]; simp only [h1], h2⟩
  | loop b ih =>
    intro ids names ex ret k e l s st r hr h
    have key : ∀ (f : Nat) (e : ET) (l : List V) (s : FS) (st : St), Rel D [] e l s st → (Nat.rec (motive := fun _ => K) (fun _ _ _ => none) (fun _ ih => fun e l s => (gC D ids [] b).1 c ex ret ih e l s) f : K) e l s = some r →
        ∃ n out st', exec T n (.loop b) st = some (out, st') ∧ out ≠ .normal ∧ Ends D ids [] ex ret k r out st' := by
      intro f
      induction f with
      | zero => intro e l s st hr h; cases h
      | succ f ihf =>
        intro e l s st hr h
        obtain ⟨n, out, st', h1, h2⟩ := ih hr (ids := ids) (names := []) (ex := ex) (ret := ret) (k := (Nat.rec (motive := fun _ => K) (fun _ _ _ => none) (fun _ ih => fun e l s => (gC D ids [] b).1 c ex ret ih e l s) f : K)) h
        cases out with
        | normal =>
          obtain ⟨e', l', s', h3, h4⟩ := h2
          obtain ⟨n2, out, st2, h5, h6, h7⟩ := ihf e' l' s' st' h3.weak h4
          refine ⟨max n n2 + 1, out, st2, ?_, h6, h7⟩
          rw [exec]
          simp only [exec_mono T (Nat.le_max_left n n2) h1]
          exact exec_mono T (Nat.le_max_right n n2) h5
        | exit id => exact ⟨n + 1, .exit id, st', by rw [exec]; simp only [h1], by simp, h2⟩
        | ret => exact ⟨n + 1, .ret, st', by rw [exec]; simp only [h1], by simp, h2⟩
    have h : cLoop (gC D ids [] b).1 c ex ret k e l s = some r := h
    unfold cLoop at h
    generalize loopFuel = f0 at h
    obtain ⟨n, out, st', h1, _, h2⟩ := key f0 e l s st hr.weak h
    exact ⟨n, out, st', h1, h2⟩
  | exit id =>
    intro ids names ex ret k e l s st r hr h
    cases hi : ix id ids with
    | none =>
      simp only [gC, hi] at h
      cases h
    | some i =>
      simp only [gC, hi] at h
      obtain ⟨kx, h1, h2⟩ := xit_some h
      exact ⟨1, .exit id, st, by simp only [exec], i, kx, e, l, s, hi, h1, hr.weak, h2⟩
  | ret =>
    intro ids names ex ret k e l s st r hr h
    exact ⟨1, .ret, st, by simp only [exec], e, l, s, hr.weak, h⟩
  | bad =>
    intro ids names ex ret k e l s st r hr h
    cases h

theorem gRs_some {names : List Nat} {e : ET} {l : List V} {s : FS} {st : St} (hr : Rel D names e l s st) : ∀ {rs : List HRes} {k : List V → R} {r : V × FS}, gRs D rs k e s = some r → ∃ vs, resultsA st rs = some vs ∧ k vs = some r
  | [], k, r, h => ⟨[], rfl, h⟩
  | .tmp x :: rs, k, r, h => by
    cases hb : Nat.blt x (2 ^ D) with
    | false => simp only [gRs, hb] at h; cases h
    | true =>
      simp only [gRs, hb] at h
      obtain ⟨v, h1, h2⟩ := eP_some h
      rw [hr.1 x (by simpa only [Nat.blt_eq] using hb)] at h1
      obtain ⟨vs, h3, h4⟩ := gRs_some hr (rs := rs) h2
      exact ⟨v :: vs, by simp only [resultsA, h1, h3], h4⟩
  | .cell x size agg :: rs, k, r, h => by
    cases hb : Nat.blt x (2 ^ D) with
    | false => simp only [gRs, hb] at h; cases h
    | true =>
      simp only [gRs, hb] at h
      obtain ⟨a, h1, h2⟩ := eP_some h
      rw [hr.1 x (by simpa only [Nat.blt_eq] using hb)] at h1
      obtain ⟨v, h5, h6⟩ := optR_some h2
      obtain ⟨vs, h3, h4⟩ := gRs_some hr (rs := rs) h6
      exact ⟨v :: vs, by simp only [resultsA, h1, ldG_some hr.2.2 h5, h3], h4⟩
theorem fin_some {names : List Nat} {e : ET} {l : List V} {s : FS} {st : St} (hr : Rel D names e l s st) {rs : List HRes} {v : V} {s' : FS} (h : fin (gRs D rs) e l s = some (v, s')) : resultA st rs = some v ∧ SRel s' st.σ := by
  unfold fin at h
  obtain ⟨vs, h1, h2⟩ := gRs_some hr h
  unfold resultA
  rw [h1]
  split at h2
  · cases h2
    exact ⟨rfl, hr.2.2⟩
  · rename_i hno
    cases h2
    refine ⟨?_, hr.2.2⟩
    split
    · rename_i hv
      exact (hno _ (Option.some.inj hv)).elim
    · rename_i heq
      cases heq
      rfl
    · rename_i heq
      cases heq

theorem look_args : ∀ (vs : List V) (i k : Nat), look (argsEnv vs i) k = if i ≤ k then vs[k - i]? else none
  | [], i, k => by simp [argsEnv, look]
  | v :: vs, i, k => by
    simp only [argsEnv, look, look_args vs (i + 1) k]
    by_cases hk : k = i
    · subst hk
      simp
    · rw [if_neg (fun h => hk (Nat.eq_of_beq_eq_true h))]
      by_cases hi : i + 1 ≤ k
      · rw [if_pos hi, if_pos (by omega)]
        have : k - i = (k - (i + 1)) + 1 := by omega
        rw [this]
        simp
      · rw [if_neg hi, if_neg (by omega)]
theorem gArgs_some : ∀ {n i : Nat} {vs : List V} {e : ET} {k : ET → R} {r : V × FS}, gArgs D n i k e vs = some r → (∀ j, j < 2 ^ D → i ≤ j → getE (bits D j) e = none) →
    ∃ e', vs.length = n ∧ k e' = some r ∧ ∀ j, j < 2 ^ D → getE (bits D j) e' = if i ≤ j then vs[j - i]? else getE (bits D j) e
  | 0, i, vs, e, k, r, h, he => by
    cases vs with
    | cons v t => cases h
    | nil => exact ⟨e, rfl, h, fun j hj => by
      by_cases hi : i ≤ j
      · rw [if_pos hi, he j hj hi]; simp
      · rw [if_neg hi]⟩
  | n + 1, i, vs, e, k, r, h, he => by
    cases hb : Nat.blt i (2 ^ D) with
    | false => simp only [gArgs, hb] at h; cases h
    | true =>
      simp only [gArgs, hb] at h
      have hb : i < 2 ^ D := by simpa only [Nat.blt_eq] using hb
      cases vs with
      | nil => cases h
      | cons v t =>
        have h : sP (bits D i) v (fun e => gArgs D n (i + 1) k e t) e = some r := h
        rw [sP_eq] at h
        have hset : ∀ j, j < 2 ^ D → getE (bits D j) (setE (bits D i) v e) = if j = i then some v else getE (bits D j) e := by
          intro j hj
          rw [getE_set _ _ _ _ (by rw [bits_len, bits_len])]
          by_cases hji : j = i
          · subst hji; simp
          · rw [if_neg hji, if_neg (fun hh => hji (bits_inj D j i hj hb hh))]
        obtain ⟨e', h1, h2, h3⟩ := gArgs_some (n := n) h (fun j hj hij => by rw [hset j hj, if_neg (by omega)]; exact he j hj (by omega))
        refine ⟨e', by simp [h1], h2, fun j hj => ?_⟩
        rw [h3 j hj]
        by_cases hi : i + 1 ≤ j
        · rw [if_pos hi, if_pos (by omega)]
          have : j - i = (j - (i + 1)) + 1 := by omega
          rw [this]
          simp
        · rw [if_neg hi, hset j hj]
          by_cases hji : j = i
          · subst hji; simp
          · rw [if_neg hji, if_neg (by omega)]

theorem callG_some {TG : TabG} (hT : ∀ f g, TG f = some g → ∃ D h, T f = some h ∧ h.mode = .shared ∧ g = gFn D h) : ∀ n, CallEx (callG TG n) (callA T)
  | 0, f, vs, s, v, s', σ, h, hs => by cases h
  | n + 1, f, vs, s, v, s', σ, h, hs => by
    have h : optR (TG f) (fun g => g (callG TG n) vs s) = some (v, s') := h
    obtain ⟨g, h1, h2⟩ := optR_some h
    obtain ⟨D, hf, h3, h4, rfl⟩ := hT f g h1
    have h2 : gArgs D hf.nargs 0 (fun e => (gC D [] [] hf.code).1 (callG TG n) [] (fin (gRs D hf.results)) (fin (gRs D hf.results)) e [] s) .z0 vs = some (v, s') := h2
    obtain ⟨e, h5, h6, h7⟩ := gArgs_some h2 (fun j _ _ => getE_e _)
    have hr : Rel D [] e [] s ⟨argsEnv vs 0, [], σ⟩ := ⟨fun j hj => by rw [h7 j hj, look_args, if_pos (Nat.zero_le j), if_pos (Nat.zero_le j)], LRel.nil _ _, hs⟩
    obtain ⟨m, out, st', h8, h9⟩ := gC_some (callG_some hT n) hf.code hr h6
    cases out with
    | normal =>
      obtain ⟨e', l', s2, h10, h11⟩ := h9
      obtain ⟨h12, h13⟩ := fin_some h10 h11
      refine ⟨m + 2, st'.σ, ?_, h13⟩
      rw [callA, h3]
      simp only [h5, if_true, h4]
      rw [runA, h8]
      simp only [h12]
    | exit id =>
      obtain ⟨i, kx, e', l', s2, h10, _⟩ := h9
      cases h10
    | ret =>
      obtain ⟨e', l', s2, h10, h11⟩ := h9
      obtain ⟨h12, h13⟩ := fin_some h10 h11
      refine ⟨m + 2, st'.σ, ?_, h13⟩
      rw [callA, h3]
      simp only [h5, if_true, h4]
      rw [runA, h8]
      simp only [h12]
end

end Go.Proofs.Ytndcdolcmkmgbaa.AM
end
