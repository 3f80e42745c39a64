/- The abstract machine, part 3: A31 A32 A33 A39 A38 A46 A47 A48 A49 A51 A52 A53 A54. -/
import Derived.Test.YtodgdmhifbnofaaAm2
import Derived.IntWalk
import Derived.ChangeArms
import Derived.WideShapes
section
set_option linter.unusedSimpArgs false
set_option linter.unusedVariables false
set_option linter.unusedVariables false
set_option linter.unusedSimpArgs false
open Go.RowKit
namespace Go.Proofs.Ytodgdmhifbnofaa.AM
section
variable {P : Program} {H : Hints} {DF : List Deferred} {K : List Nat} {N : Nat} {ops : Array Oper} {call : CallA} {is : List (Nat × List Nat)}
variable {n0 : Nat} {w0 : World} {I0 : Nat → Prop} {f : Nat → St} {vals : Nat → V}
abbrev cls (is : List (Nat × List Nat)) (i : Nat) : Nat := clsI is i
theorem cls_of {is : List (Nat × List Nat)} {i c : Nat} {ns : List Nat} (h : is[i]? = some (c, ns)) : cls is i = clsN c := by
  unfold cls clsI
  rw [h]
theorem clsN_two {c : Nat} (h : clsN c = 2) : c = 2 := by
  unfold clsN at h
  split at h <;> omega
theorem clsN_ne {c : Nat} (h : clsN c ≠ 0) : c ≠ 0 ∧ c < 3 := by
  unfold clsN at h
  split at h <;> omega
structure Text (P : Program) (H : Hints) (K : List Nat) (N : Nat) (ops : Array Oper) (call : CallA) (is : List (Nat × List Nat)) (f : Nat → St) (vals : Nat → V) : Prop where
  ok : drawOk P H K N ops (anOf ops) is = true
  tr : ∀ i o, ops[i]? = some o → ∃ c ns, is[i]? = some (c, ns) ∧ StepOf call (cOper P H K N ops o) c ns (f i) (f (i + 1)) (vals i)
  h0 : ∀ b t v, has (f 0) b t v → b = mem t K
  fl : ∀ i o h ns, ops[i]? = some o → is[i]? = some (h + 3, ns) → guardA ((f i).only ns) (cOper P H K N ops o).guard = some true → ∀ e, i < e → e ≤ ops.size → (e = ops.size ∨ cls is e = 2) → e ≤ h →
    pendOk call (f e).σ ⟨h, (cOper P H K N ops o).k, (f i).only ns, vals i⟩ = true
theorem Text.one (T : Text P H K N ops call is f vals) {i : Nat} {o : Oper} (ho : ops[i]? = some o) : drawOne P H K N ops (anOf ops) is i = true := by
  have hi := (Array.getElem?_eq_some_iff.1 ho).1
  have := T.ok
  unfold drawOk at this
  simp only [Bool.and_eq_true, List.all_eq_true, List.mem_range] at this
  exact (this.2 i hi).1
theorem Text.pair (T : Text P H K N ops call is f vals) {i k : Nat} {oi ok : Oper} {ci ck : Nat} {ni nk : List Nat} (hi : ops[i]? = some oi) (hk : ops[k]? = some ok)
    (si : is[i]? = some (ci, ni)) (sk : is[k]? = some (ck, nk)) (hne : i ≠ k) :
    (∀ t, ok.dst = some t → oi.dst ≠ some t) ∧ (∀ t, ok.dst = some t → mem t ni = true → inTurn (anOf ops) i k = true) ∧ (ci = 2 → ck ≠ 0 → ck < 3 → inTurn (anOf ops) i k = true) := by
  have hi' := (Array.getElem?_eq_some_iff.1 hi).1
  have hk' := (Array.getElem?_eq_some_iff.1 hk).1
  have := T.ok
  unfold drawOk at this
  simp only [Bool.and_eq_true, List.all_eq_true, List.mem_range] at this
  have h := (this.2 i hi').2 k hk'
  unfold drawPair at h
  rw [Array.getElem?_toList, Array.getElem?_toList, hi, hk, si, sk] at h
  simp only at h
  have hb : Nat.beq i k = false := by rw [Bool.eq_false_iff]; intro hh; exact hne (Nat.eq_of_beq_eq_true hh)
  rw [hb] at h
  simp only [Bool.false_eq_true, if_false, Bool.and_eq_true, Bool.or_eq_true, Bool.not_eq_true'] at h
  obtain ⟨⟨h1, h2⟩, h3⟩ := h
  refine ⟨fun t ht e => ?_, fun t ht hm => ?_, fun h4 h5 h6 => ?_⟩
  · rw [ht, e] at h1
    simp at h1
  · rw [ht] at h2
    simp only [hm, Bool.not_true, Bool.false_or] at h2
    exact h2
  · subst h4
    rcases h3 with ((h3 | h3) | h3) | h3
    · simp at h3
    · exact absurd (Nat.eq_of_beq_eq_true h3) h5
    · have := Nat.le_of_ble_eq_true h3
      omega
    · exact h3
theorem Text.σ_free (T : Text P H K N ops call is f vals) {i : Nat} {o : Oper} {ns : List Nat} (ho : ops[i]? = some o) (hs : is[i]? = some (0, ns)) : (f (i + 1)).σ = (f i).σ := by
  obtain ⟨c, ns', hs', _, h⟩ := T.tr i o ho
  rw [hs] at hs'
  cases hs'
  rcases h with ⟨_, h, _⟩ | ⟨_, _, h⟩
  · have h1 := T.one ho
    unfold drawOne at h1
    rw [ho, hs] at h1
    simp only [Bool.and_eq_true] at h1
    exact (free_over h1.2 h).1
  · exact h
theorem Text.σ_float (T : Text P H K N ops call is f vals) {i h : Nat} {o : Oper} {ns : List Nat} (ho : ops[i]? = some o) (hs : is[i]? = some (h + 3, ns)) : (f (i + 1)).σ = (f i).σ := by
  obtain ⟨c, ns', hs', _, hh⟩ := T.tr i o ho
  rw [hs] at hs'
  cases hs'
  rcases hh with ⟨_, hh, _⟩ | ⟨_, _, hh⟩
  · have h1 := T.one ho
    unfold drawOne at h1
    rw [ho, hs] at h1
    simp only [Bool.and_eq_true] at h1
    exact read_same (st := (f i).only ns) h1.2.1 hh
  · exact hh
theorem Text.σ_quiet (T : Text P H K N ops call is f vals) {i : Nat} {o : Oper} {ns : List Nat} (ho : ops[i]? = some o) (hs : is[i]? = some (1, ns)) : (f (i + 1)).σ = (f i).σ ∨ ∃ ob, (f (i + 1)).σ = (f i).σ ++ [ob] := by
  obtain ⟨c, ns', hs', _, h⟩ := T.tr i o ho
  rw [hs] at hs'
  cases hs'
  rcases h with ⟨_, h, _⟩ | ⟨_, _, h⟩
  · have h1 := T.one ho
    unfold drawOne at h1
    rw [ho, hs] at h1
    simp only [Bool.and_eq_true] at h1
    rcases quiet_over (quietCall_quiet call) h1.2 h with ⟨h2, _⟩ | ⟨ob, mk, _, _, h2, _⟩
    · exact .inl h2
    · exact .inr ⟨ob, h2⟩
  · exact .inl h
theorem Text.σ_step (T : Text P H K N ops call is f vals) {i : Nat} (hi : i < ops.size) (hc : cls is i ≠ 2) : ∃ τ, (f (i + 1)).σ = (f i).σ ++ τ := by
  have ho : ops[i]? = some ops[i] := Array.getElem?_eq_getElem hi
  obtain ⟨c, ns, hs, _⟩ := T.tr i _ ho
  have h1 := T.one ho
  unfold drawOne at h1
  rw [ho, hs] at h1
  simp only [Bool.and_eq_true] at h1
  rw [cls_of hs] at hc
  match c, hs, h1, hc with
  | 0, hs, _, _ => exact ⟨[], by rw [T.σ_free ho hs]; simp⟩
  | 1, hs, _, _ =>
    rcases T.σ_quiet ho hs with h | ⟨ob, h⟩
    · exact ⟨[], by rw [h]; simp⟩
    · exact ⟨[ob], h⟩
  | 2, _, _, hc => exact absurd rfl hc
  | n + 3, hs, _, _ => exact ⟨[], by rw [T.σ_float ho hs]; simp⟩
theorem Text.σ_ext (T : Text P H K N ops call is f vals) {i : Nat} : ∀ {j : Nat}, i ≤ j → j ≤ ops.size → (∀ x, i ≤ x → x < j → cls is x ≠ 2) → ∃ τ, (f j).σ = (f i).σ ++ τ := by
  intro j
  induction j with
  | zero =>
    intro h _ _
    have : i = 0 := by omega
    subst this
    exact ⟨[], by simp⟩
  | succ j ih =>
    intro h1 h2 h3
    rcases Nat.lt_or_ge i (j + 1) with h | h
    · obtain ⟨τ, hτ⟩ := ih (by omega) (by omega) (fun x hx hx' => h3 x hx (by omega))
      obtain ⟨τ', hτ'⟩ := T.σ_step (show j < ops.size by omega) (h3 j (by omega) (by omega))
      exact ⟨τ ++ τ', by rw [hτ', hτ, List.append_assoc]⟩
    · have : i = j + 1 := by omega
      subst this
      exact ⟨[], by simp⟩
theorem Text.σ_len (T : Text P H K N ops call is f vals) {i j : Nat} (h1 : i ≤ j) (h2 : j ≤ ops.size) (h3 : ∀ x, i ≤ x → x < j → cls is x ≠ 2) : (f i).σ.length ≤ (f j).σ.length := by
  obtain ⟨τ, hτ⟩ := T.σ_ext h1 h2 h3
  rw [hτ]
  simp
structure Slots (DF : List Deferred) (K : List Nat) (N : Nat) (ops : Array Oper) (s0 : St) (vals : Nat → V) (n0 : Nat) (I0 : Nat → Prop) (D : Array Bool) (σ : Store) (ρ : Rho) (h : Array Go.Obj) (a : Act) : Prop where
  defers : a.defers = DF
  size : N ≤ a.tmps.size
  old : ∀ b t v, has s0 b t v → (∀ k, Li D k → dstA ops k ≠ some t) → ∃ x, a.tmps[t]? = some x ∧ RV h (Icur n0 I0 σ ρ h) σ ρ v x
  new : ∀ k t, Li D k → dstA ops k = some t → ∃ x, a.tmps[t]? = some x ∧ RV h (Icur n0 I0 σ ρ h) σ ρ (vals k) x
theorem Li_set {D : Array Bool} {i k : Nat} (hi : i < D.size) : Li (D.setIfInBounds i true) k ↔ k = i ∨ Li D k := by
  unfold Li
  by_cases h : i = k
  · subst h
    simp [hi]
  · rw [getD_set_ne false h]
    constructor
    · exact fun hh => .inr hh
    · rintro (hh | hh)
      · exact absurd hh.symm h
      · exact hh
theorem Text.slots_step (T : Text P H K N ops call is f vals) {D : Array Bool} {i : Nat} {o : Oper} {a : Act} {σ σ' : Store} {ρ ρ' : Rho} {h h' : Array Go.Obj} {x : Value}
    (ho : ops[i]? = some o) (hsz : i < D.size) (hdst : dstOk N o.dst = true) (hD : D.size = ops.size) (hS : Slots DF K N ops (f 0) vals n0 I0 D σ ρ h a) (E : EvoW n0 I0 σ ρ h σ' ρ' h')
    (r : RV h' (Icur n0 I0 σ' ρ' h') σ' ρ' (vals i) x) (hni : ¬ Li D i) : Slots DF K N ops (f 0) vals n0 I0 (D.setIfInBounds i true) σ' ρ' h' (a.put o.dst x) := by
  have hdi : dstA ops i = o.dst := by simp [dstA, ho]
  have keep : ∀ (t : Nat) (y : Value), o.dst ≠ some t → a.tmps[t]? = some y → (a.put o.dst x).tmps[t]? = some y := by
    intro t y hne hy
    cases hd : o.dst with
    | none => exact hy
    | some d => exact tmps_put (fun e => hne (by rw [hd, e])) hy
  refine ⟨?_, ?_, fun b t v hv hk => ?_, fun k t hk hd => ?_⟩
  · cases o.dst <;> exact hS.defers
  · cases o.dst with
    | none => exact hS.size
    | some d => show N ≤ (a.tmps.setIfInBounds d x).size; simpa using hS.size
  · obtain ⟨y, h1, h2⟩ := hS.old b t v hv (fun k hk' => hk k ((Li_set hsz).2 (.inr hk')))
    have := hk i ((Li_set hsz).2 (.inl rfl))
    rw [hdi] at this
    exact ⟨y, keep t y this h1, RV_monoW E _ _ h2⟩
  · rcases (Li_set hsz).1 hk with rfl | hk'
    · rw [hdi] at hd
      rw [hd] at hdst ⊢
      have : t < a.tmps.size := Nat.lt_of_lt_of_le (by simpa [dstOk, Nat.blt_eq] using hdst) hS.size
      exact ⟨x, tmps_put_same this, r⟩
    · obtain ⟨y, h1, h2⟩ := hS.new k t hk' hd
      have hki : k ≠ i := by rintro rfl; exact hni hk'
      obtain ⟨ok, hok⟩ : ∃ ok, ops[k]? = some ok := by
        cases hok : ops[k]? with
        | none => simp [dstA, hok] at hd
        | some ok => exact ⟨ok, rfl⟩
      obtain ⟨_, _, si, _⟩ := T.tr i o ho
      obtain ⟨_, _, sk, _⟩ := T.tr k ok hok
      have hp := (T.pair ho hok si sk (fun e => hki e.symm)).1 t (by simpa [dstA, hok] using hd)
      exact ⟨y, keep t y hp h1, RV_monoW E _ _ h2⟩
theorem Text.dst (T : Text P H K N ops call is f vals) {i : Nat} {o : Oper} (ho : ops[i]? = some o) {c : Nat} {ns : List Nat} {s s' : St} {v : V} (h : StepOf call (cOper P H K N ops o) c ns s s' v) : dstOk N o.dst = true := by
  rcases h with ⟨_, ⟨_, h, _⟩ | ⟨h, _, _⟩⟩
  · cases hd : dstOk N o.dst with
    | true => rfl
    | false => simp [cOper, hd, opA] at h
  · cases hd : dstOk N o.dst with
    | true => rfl
    | false => simp [cOper, hd, guardA] at h
theorem Text.stepf (T : Text P H K N ops call is f vals) : ∀ i o, ops[i]? = some o → f (i + 1) = ({ f i with σ := (f (i + 1)).σ } : St).set o.dst (kOf K o.dst) (vals i) := by
  intro i o ho
  obtain ⟨c, ns, _, h⟩ := T.tr i o ho
  have hd := T.dst ho h
  have := h.1
  simpa only [cOper, hd, if_true] using this
theorem Text.names (T : Text P H K N ops call is f vals) {D : Array Bool} {i : Nat} {o : Oper} {c : Nat} {ns : List Nat} {a : Act} {σ : Store} {ρ : Rho} {w : World}
    (ho : ops[i]? = some o) (si : is[i]? = some (c, ns)) (hcl : ClosedD ops D) (hni : ¬ Li D i) (hrd : ∀ e ∈ o.after, Region.binds .any e = true → Li D e.on)
    (hS : Slots DF K N ops (f 0) vals n0 I0 D σ ρ w.heap a) : StR DF K N n0 I0 ρ w { (f i).only ns with σ := σ } a := by
  have hi := (Array.getElem?_eq_some_iff.1 ho).1
  have key : ∀ b t v, has ((f i).only ns) b t v → mem t K = b ∧ ∃ x, a.tmps[t]? = some x ∧ RV w.heap (Icur n0 I0 σ ρ w.heap) σ ρ v x := by
    intro b t v h
    obtain ⟨hm, h⟩ := has_only h
    have pr : ∀ k, k < ops.size → dstA ops k = some t → k ≠ i → inTurn (anOf ops) i k = true := by
      intro k hk hd hki
      have hok : ops[k]? = some ops[k] := Array.getElem?_eq_getElem hk
      obtain ⟨_, _, sk, _⟩ := T.tr k _ hok
      exact (T.pair ho hok si sk (fun e => hki e.symm)).2.1 t (by simpa [dstA, hok] using hd) hm
    rcases has_f T.stepf T.h0 i (by omega) b t v h with ⟨k, hk, hd, rfl, hb⟩ | ⟨h, hno⟩
    · refine ⟨hb.symm, hS.new k t ?_ hd⟩
      rcases inTurn_iff (pr k (by omega) hd (by omega)) with ⟨_, h2⟩ | ⟨h1, _⟩
      · exact anc_in hcl h2 (fun o' ho' => by rw [ho] at ho'; cases ho'; exact hrd)
      · omega
    · refine ⟨(T.h0 b t v h).symm, hS.old b t v h fun k hk hd => ?_⟩
      have hks : k < ops.size := by
        rcases Nat.lt_or_ge k ops.size with h | h
        · exact h
        · simp [dstA, Array.getElem?_eq_none h] at hd
      rcases Nat.lt_trichotomy k i with h1 | h1 | h1
      · exact hno k h1 hd
      · subst h1; exact hni hk
      · rcases inTurn_iff (pr k hks hd (by omega)) with ⟨h2, _⟩ | ⟨_, h2⟩
        · omega
        · exact hni (anc_of hcl h2 hk)
  exact ⟨hS.defers, hS.size, fun k v h => key true k v h, fun k v h => key false k v h⟩
end
end Go.Proofs.Ytodgdmhifbnofaa.AM
end
section
set_option linter.unusedSimpArgs false
set_option linter.unusedVariables false
set_option linter.unusedVariables false
set_option linter.unusedSimpArgs false
open Go.RowKit
namespace Go.Proofs.Ytodgdmhifbnofaa.AM
section
variable {P : Program} {H : Hints} {DF : List Deferred} {K : List Nat} {N : Nat} {ops : Array Oper} {call : CallA} {is : List (Nat × List Nat)}
variable {n0 : Nat} {w0 : World} {I0 : Nat → Prop} {f : Nat → St} {vals : Nat → V} {ρ0 : Rho} {hp0 : Array Go.Obj}
structure Jat (DF : List Deferred) (ops : Array Oper) (is : List (Nat × List Nat)) (K : List Nat) (N : Nat) (f : Nat → St) (vals : Nat → V) (n0 : Nat) (w0 : World) (I0 : Nat → Prop) (ρ0 : Rho) (hp0 : Array Go.Obj)
    (s e : Nat) (ρ : Rho) (D : Array Bool) (a : Act) (w : World) : Prop where
  se : s ≤ e
  en : e ≤ ops.size
  ne : ¬ Li D e
  eb : e = ops.size ∨ cls is e = 2
  done : ∀ x, x < e → cls is x = 2 → Li D x
  seg : ∀ x, s ≤ x → x < e → cls is x ≠ 2
  start : s = 0 ∨ ∃ q, s = q + 1 ∧ cls is q = 2
  len : (f 0).σ.length ≤ (f s).σ.length
  inv : Inv n0 w0 I0 (f e).σ ρ w
  evo : Evo n0 I0 (f 0).σ ρ0 hp0 (f e).σ ρ w.heap
  unal : ∀ j, j < e → ¬ Li D j → ∀ id, (f j).σ.length ≤ id → id < (f (j + 1)).σ.length → ρ id = none
  slots : Slots DF K N ops (f 0) vals n0 I0 D (f e).σ ρ w.heap a
def JJ (DF : List Deferred) (ops : Array Oper) (is : List (Nat × List Nat)) (K : List Nat) (N : Nat) (f : Nat → St) (vals : Nat → V) (n0 : Nat) (w0 : World) (I0 : Nat → Prop) (ρ0 : Rho) (hp0 : Array Go.Obj)
    (D : Array Bool) (a : Act) (w : World) : Prop :=
  D.size = ops.size ∧ ClosedD ops D ∧ ∃ s e ρ, Jat DF ops is K N f vals n0 w0 I0 ρ0 hp0 s e ρ D a w
theorem Text.bar (T : Text P H K N ops call is f vals) {q i : Nat} (hq : q < ops.size) (hi : i < ops.size) (hne : q ≠ i) (h2 : cls is q = 2) (h0 : cls is i ≠ 0) : (i < q ∧ Anc ops q i) ∨ (q < i ∧ Anc ops i q) := by
  have hoq : ops[q]? = some ops[q] := Array.getElem?_eq_getElem hq
  have hoi : ops[i]? = some ops[i] := Array.getElem?_eq_getElem hi
  obtain ⟨cq, nq, sq, _⟩ := T.tr q _ hoq
  obtain ⟨ci, ni, si, _⟩ := T.tr i _ hoi
  have h := (T.pair hoq hoi sq si hne).2.2
  rw [cls_of sq] at h2
  rw [cls_of si] at h0
  exact inTurn_iff (h (clsN_two h2) (clsN_ne h0).1 (clsN_ne h0).2)
theorem Evo.len {σ σ' : Store} {ρ ρ' : Rho} {h h' : Array Go.Obj} (E : Evo n0 I0 σ ρ h σ' ρ' h') : σ.length ≤ σ'.length := by
  rcases Nat.eq_zero_or_pos σ.length with h | h
  · omega
  · obtain ⟨ob', e', _⟩ := E.ob (σ.length - 1) _ (List.getElem?_eq_getElem (by omega))
    have := (List.getElem?_eq_some_iff.1 e').1
    omega
theorem nextBar (is : List (Nat × List Nat)) (n : Nat) : ∀ k s, s + k = n → ∃ e, s ≤ e ∧ e ≤ n ∧ (e = n ∨ cls is e = 2) ∧ ∀ x, s ≤ x → x < e → cls is x ≠ 2
  | 0, s, h => ⟨s, Nat.le_refl _, by omega, .inl (by omega), fun x h1 h2 => by omega⟩
  | k + 1, s, h => by
    by_cases hs : cls is s = 2
    · exact ⟨s, Nat.le_refl _, by omega, .inr hs, fun x h1 h2 => by omega⟩
    · obtain ⟨e, h1, h2, h3, h4⟩ := nextBar is n k (s + 1) (by omega)
      refine ⟨e, by omega, h2, h3, fun x hx hx' => ?_⟩
      rcases Nat.lt_or_ge s x with h5 | h5
      · exact h4 x (by omega) hx'
      · have : x = s := by omega
        subst this
        exact hs
variable {D : Array Bool} {a : Act} {w : World} {s e : Nat} {ρ : Rho}
theorem Jat.after (T : Text P H K N ops call is f vals) (hcl : ClosedD ops D) (J : Jat DF ops is K N f vals n0 w0 I0 ρ0 hp0 s e ρ D a w) {j : Nat} (hj : j < e) (hn : ¬ Li D j) (h0 : cls is j ≠ 0) :
    s ≤ j ∧ ∀ x, j ≤ x → x < e → cls is x ≠ 2 := by
  have hjn : j < ops.size := Nat.lt_of_lt_of_le hj J.en
  have hlater : ∀ x, j ≤ x → x < e → cls is x ≠ 2 := by
    intro x h1 h2 h3
    have hx := J.done x h2 h3
    have hxn : x < ops.size := Nat.lt_of_lt_of_le h2 J.en
    rcases Nat.lt_or_ge j x with h4 | h4
    · rcases T.bar hxn hjn (by omega) h3 h0 with ⟨_, h5⟩ | ⟨h5, _⟩
      · exact hn (anc_of hcl h5 hx)
      · omega
    · have : x = j := by omega
      subst this
      exact hn hx
  refine ⟨?_, hlater⟩
  rcases J.start with h | ⟨q, hq, h2⟩
  · omega
  · rcases Nat.lt_or_ge j s with h3 | h3
    · exact absurd h2 (hlater q (by omega) (by have := J.se; omega))
    · exact h3
theorem Text.cls_free (T : Text P H K N ops call is f vals) {j : Nat} (hj : j < ops.size) (h : cls is j = 0) : (f (j + 1)).σ = (f j).σ := by
  have ho : ops[j]? = some ops[j] := Array.getElem?_eq_getElem hj
  obtain ⟨c, ns, si, _⟩ := T.tr j _ ho
  rw [cls_of si] at h
  match c, si, h with
  | 0, si, _ => exact T.σ_free ho si
  | 1, _, h => simp [clsN] at h
  | 2, _, h => simp [clsN] at h
  | h + 3, si, _ => exact T.σ_float ho si
theorem Jat.len_e (T : Text P H K N ops call is f vals) (J : Jat DF ops is K N f vals n0 w0 I0 ρ0 hp0 s e ρ D a w) : (f 0).σ.length ≤ (f e).σ.length :=
  Nat.le_trans J.len (T.σ_len J.se J.en J.seg)
theorem closed_set (hcl : ClosedD ops D) {i : Nat} {o : Oper} (ho : ops[i]? = some o) (hsz : i < D.size) (hrd : ∀ e ∈ o.after, Region.binds .any e = true → Li D e.on) : ClosedD ops (D.setIfInBounds i true) := by
  intro j o' ho' hj ed he hb
  refine (Li_set hsz).2 (.inr ?_)
  rcases (Li_set hsz).1 hj with rfl | hj
  · rw [ho] at ho'
    cases ho'
    exact hrd ed he hb
  · exact hcl j o' ho' hj ed he hb
theorem Jat.quiet (T : Text P H K N ops call is f vals) (hD : D.size = ops.size) (J : Jat DF ops is K N f vals n0 w0 I0 ρ0 hp0 s e ρ D a w) {i : Nat} {o : Oper} (ho : ops[i]? = some o) (hni : ¬ Li D i)
    (h2 : cls is i ≠ 2) {ρ' : Rho} {w' : World} {x : Value} (hI : Inv n0 w0 I0 (f e).σ ρ' w') (E : EvoW n0 I0 (f e).σ ρ w.heap (f e).σ ρ' w'.heap)
    (hout : ∀ id, id < (f 0).σ.length → ρ id = none → ρ' id = none)
    (hun : ∀ j, j < e → j ≠ i → ¬ Li D j → ∀ id, (f j).σ.length ≤ id → id < (f (j + 1)).σ.length → ρ id = none → ρ' id = none)
    (r : RV w'.heap (Icur n0 I0 (f e).σ ρ' w'.heap) (f e).σ ρ' (vals i) x) : Jat DF ops is K N f vals n0 w0 I0 ρ0 hp0 s e ρ' (D.setIfInBounds i true) (a.put o.dst x) w' := by
  have hi := (Array.getElem?_eq_some_iff.1 ho).1
  have hsz : i < D.size := by omega
  obtain ⟨c, ns, si, hst⟩ := T.tr i o ho
  have hie : e ≠ i := by
    rintro rfl
    rcases J.eb with h | h
    · omega
    · exact h2 h
  refine ⟨J.se, J.en, fun h => ?_, J.eb, fun x h1 h3 => (Li_set hsz).2 (.inr (J.done x h1 h3)), J.seg, J.start, J.len, hI, ⟨J.evo.toEvoW.trans E, fun id hid hn => hout id hid (J.evo.out id hid hn)⟩, fun j hj hnj id h1 h3 => ?_,
    T.slots_step ho hsz (T.dst ho hst) hD J.slots E r hni⟩
  · rcases (Li_set hsz).1 h with h | h
    · exact hie h
    · exact J.ne h
  · have hji : j ≠ i := by rintro rfl; exact hnj ((Li_set hsz).2 (.inl rfl))
    have hnj' : ¬ Li D j := fun h => hnj ((Li_set hsz).2 (.inr h))
    exact hun j hj hji hnj' id h1 h3 (J.unal j hj hnj' id h1 h3)
theorem wpOp_of {Q : Exit → Act → World → Prop} {i : Nat} {o : Oper} {Kn : Act → World → Prop} (ho : ops[i]? = some o) {b : Bool} (hw : Region.wanted o (yielded ops a.tmps) = b)
    (h1 : b = true → o.wp P a w Kn Q) (h2 : b = false → Kn (a.put o.dst undef) w) : wpOp P ops Q i Kn a w := by
  unfold wpOp
  simp only [ho]
  rw [hw]
  cases b with
  | true => simp only [if_true]; exact .inl (h1 rfl)
  | false => simp only [Bool.false_eq_true, if_false]; exact h2 rfl
theorem JJ.step (T : Text P H K N ops call is f vals) {Gd : Ground} (hgd : GroundOk Gd) (hG : Gd n0 w0) (hcall : CallOk Gd P call) (hJ : JJ DF ops is K N f vals n0 w0 I0 ρ0 hp0 D a w) {i : Nat} (hr : i ∈ Region.ready .any ops D) {Q : Exit → Act → World → Prop} :
    wpOp P ops Q i (JJ DF ops is K N f vals n0 w0 I0 ρ0 hp0 (D.setIfInBounds i true)) a w := by
  obtain ⟨hD, hcl, s, e, ρ, J⟩ := hJ
  obtain ⟨hni', o, ho, hrd⟩ := mem_ready.1 hr
  have hi := (Array.getElem?_eq_some_iff.1 ho).1
  have hsz : i < D.size := by omega
  have hni : ¬ Li D i := by
    unfold Li
    simp only [Array.getD_eq_getD_getElem?, Array.getElem?_eq_getElem hsz, Option.getD_some] at hni' ⊢
    simp [hni']
  obtain ⟨c, ns, si, hst⟩ := T.tr i o ho
  have hdst := T.dst ho hst
  have hcop : cOper P H K N ops o = { dst := o.dst, inK := kOf K o.dst, k := cOp P H K o, guard := cGuard K ops o.guard } := by simp only [cOper, hdst, if_true]
  have hs := T.names (w := w) ho si hcl hni hrd J.slots
  have hclS := closed_set hcl ho hsz hrd
  have hDS : (D.setIfInBounds i true).size = ops.size := by simpa using hD
  have hone := T.one ho
  unfold drawOne at hone
  rw [ho, si] at hone
  simp only [Bool.and_eq_true] at hone
  have hci : cls is i = clsN c := cls_of si
  obtain ⟨hst1, hst2⟩ := hst
  rw [hcop] at hst2 hone
  simp only at hst2 hone
  have hg : ∀ b, guardA ((f i).only ns) (cGuard K ops o.guard) = some b → Region.wanted o (yielded ops a.tmps) = b := by
    intro b hb
    refine guard_sound hs ?_
    rw [guard_over]
    exact hb
  have hfree : ∀ j, j < e → ∀ id, (f j).σ.length ≤ id → id < (f (j + 1)).σ.length → cls is j ≠ 0 := by
    intro j hj id h1 h2 h3
    rw [T.cls_free (Nat.lt_of_lt_of_le hj J.en) h3] at h2
    omega
  have hlt : ∀ j, j < e → ¬ Li D j → ∀ id, (f j).σ.length ≤ id → id < (f (j + 1)).σ.length → id < (f e).σ.length := by
    intro j hj hnj id h1 h2
    have := (J.after T hcl hj hnj (hfree j hj id h1 h2)).2
    have := T.σ_len (i := j + 1) (j := e) (by omega) J.en (fun x h3 h4 => this x (by omega) h4)
    omega
  by_cases hc2 : c = 2
  ·
    subst hc2
    have hie : i = e := by
      rcases Nat.lt_trichotomy i e with h | h | h
      · exact absurd (J.done i h hci) hni
      · exact h
      · rcases J.eb with h1 | h1
        · omega
        · rcases T.bar (show e < ops.size by omega) hi (by omega) h1 (by rw [hci]; decide) with ⟨h2, _⟩ | ⟨_, h2⟩
          · omega
          · exact absurd (anc_in hcl h2 (fun o' ho' => by rw [ho] at ho'; cases ho'; exact hrd)) J.ne
    subst hie
    have hsame : ({ (f i).only ns with σ := (f i).σ } : St) = (f i).only ns := rfl
    obtain ⟨e', he1, he2, he3, he4⟩ := nextBar is ops.size (ops.size - (i + 1)) (i + 1) (by omega)
    obtain ⟨τ, hτ⟩ := T.σ_ext he1 he2 he4
    have all : ∀ (ρ' : Rho) (w' : World) (x : Value), Inv n0 w0 I0 (f (i + 1)).σ ρ' w' → Evo n0 I0 (f i).σ ρ w.heap (f (i + 1)).σ ρ' w'.heap →
        RV w'.heap (Icur n0 I0 (f (i + 1)).σ ρ' w'.heap) (f (i + 1)).σ ρ' (vals i) x → JJ DF ops is K N f vals n0 w0 I0 ρ0 hp0 (D.setIfInBounds i true) (a.put o.dst x) w' := by
      intro ρ' w' x hI' E r
      obtain ⟨hI2, E2⟩ := hI'.pad τ
      rw [← hτ] at hI2 E2
      refine ⟨hDS, hclS, i + 1, e', ρ', he1, he2, fun h => ?_, he3, fun x hx hx2 => ?_, he4, .inr ⟨i, rfl, hci⟩, Nat.le_trans (J.len_e T) E.len, hI2, J.evo.trans (E.trans E2), fun j hj hnj id h1 h2 => ?_,
        T.slots_step ho hsz hdst hD J.slots (E.trans E2).toEvoW (RV_mono E2 _ _ r) hni⟩
      · rcases (Li_set hsz).1 h with h | h
        · omega
        · rcases he3 with h3 | h3
          · subst h3
            unfold Li at h
            rw [Array.getD_eq_getD_getElem?, Array.getElem?_eq_none (by omega)] at h
            cases h
          · have hlt' : e' < ops.size := by
              rcases Nat.lt_or_ge e' ops.size with h5 | h5
              · exact h5
              · unfold Li at h
                rw [Array.getD_eq_getD_getElem?, Array.getElem?_eq_none (by omega)] at h
                cases h
            rcases T.bar hlt' hi (by omega) h3 (by rw [hci]; decide) with ⟨_, h4⟩ | ⟨h4, _⟩
            · exact hni (anc_of hcl h4 h)
            · omega
      · refine (Li_set hsz).2 ?_
        rcases Nat.lt_trichotomy x i with h | h | h
        · exact .inr (J.done x h hx2)
        · exact .inl h
        · exact absurd hx2 (he4 x (by omega) hx)
      · have hji : j ≠ i := by rintro rfl; exact hnj ((Li_set hsz).2 (.inl rfl))
        have hnj' : ¬ Li D j := fun h => hnj ((Li_set hsz).2 (.inr h))
        rcases Nat.lt_or_ge j i with h3 | h3
        · have hj0 := hfree j h3 id h1 h2
          rcases T.bar hi (show j < ops.size by omega) (by omega) hci hj0 with ⟨_, h4⟩ | ⟨h4, _⟩
          · exact absurd (anc_in hcl h4 (fun o' ho' => by rw [ho] at ho'; cases ho'; exact hrd)) hnj'
          · omega
        · have := T.σ_len (i := i + 1) (j := j) (by omega) (by omega) (fun x h4 h5 => he4 x h4 (by omega))
          cases hq : ρ' id with
          | none => rfl
          | some p =>
            have := (hI'.new id p.1 p.2 hq).2.2
            omega
    rcases hst2 with ⟨h1, h2, _⟩ | ⟨h1, h2, h3⟩
    · refine wpOp_of ho (hg _ h1) (fun _ => ?_) (by simp)
      refine op_sound (st := { (f i).only ns with σ := (f i).σ }) (hcall n0 w0 hG) J.inv hs h2 ?_
      rintro x w' ⟨ρ', g1, g2, g3⟩
      exact all ρ' w' x g1 g2 g3
    · refine wpOp_of ho (hg _ h1) (by simp) (fun _ => ?_)
      refine all ρ w undef (by rw [h3]; exact J.inv) (by rw [h3]; exact Evo.refl) ?_
      rw [h2]
      exact RV_undef
  · have fin : ∀ {ρ' : Rho} {w' : World} {x : Value}, Inv n0 w0 I0 (f e).σ ρ' w' → EvoW n0 I0 (f e).σ ρ w.heap (f e).σ ρ' w'.heap → (∀ id, id < (f 0).σ.length → ρ id = none → ρ' id = none) →
        (∀ j, j < e → j ≠ i → ¬ Li D j → ∀ id, (f j).σ.length ≤ id → id < (f (j + 1)).σ.length → ρ id = none → ρ' id = none) →
        RV w'.heap (Icur n0 I0 (f e).σ ρ' w'.heap) (f e).σ ρ' (vals i) x → JJ DF ops is K N f vals n0 w0 I0 ρ0 hp0 (D.setIfInBounds i true) (a.put o.dst x) w' :=
      fun h1 h2 h3 h4 h5 => ⟨hDS, hclS, s, e, _, J.quiet T hD ho hni (by rw [hci]; exact fun h => hc2 (clsN_two h)) h1 h2 h3 h4 h5⟩
    have fin' : ∀ {ρ' : Rho} {w' : World} {x : Value}, Inv n0 w0 I0 (f e).σ ρ' w' → Evo n0 I0 (f e).σ ρ w.heap (f e).σ ρ' w'.heap →
        RV w'.heap (Icur n0 I0 (f e).σ ρ' w'.heap) (f e).σ ρ' (vals i) x → JJ DF ops is K N f vals n0 w0 I0 ρ0 hp0 (D.setIfInBounds i true) (a.put o.dst x) w' :=
      fun h1 h2 h5 => fin h1 h2.toEvoW (fun id hid hn => h2.out id (Nat.lt_of_lt_of_le hid (J.len_e T)) hn) (fun j hj _ hnj id g1 g2 hn => h2.out id (hlt j hj hnj id g1 g2) hn) h5
    rcases hst2 with ⟨h1, h2, h3⟩ | ⟨h1, h2, h3⟩
    · refine wpOp_of ho (hg _ h1) (fun _ => ?_) (by simp)
      match c, si, hone, hci, hc2, h2, h3 with
      | 0, si, hone, hci, hc2, h2, h3 =>
        obtain ⟨_, h4⟩ := free_over hone.2 h2
        refine op_sound (st := { (f i).only ns with σ := (f e).σ }) (hcall n0 w0 hG) J.inv hs (h4 _) ?_
        rintro x w' ⟨ρ', g1, g2, g3⟩
        exact fin' g1 g2 g3
      | h + 3, si, hone, hci, hc2, h2, h3 =>
        have hone2 : readK (cOp P H K o) = true ∧ floatOk (anOf ops) is ops.size i h = true := by simpa only [Bool.and_eq_true] using hone.2
        have hrk := hone2.1
        have hfo := hone2.2
        unfold floatOk at hfo
        simp only [Bool.and_eq_true, List.all_eq_true, List.mem_range, Bool.or_eq_true] at hfo
        obtain ⟨hlo, hhi⟩ := hfo
        have hie : i < e := by
          rcases Nat.lt_trichotomy i e with h' | h' | h'
          · exact h'
          · rcases J.eb with h4 | h4
            · omega
            · rw [← h', hci] at h4
              have := clsN_two h4
              omega
          · rcases J.eb with h4 | h4
            · omega
            · have hes : e < ops.size := by omega
              obtain ⟨ce, ne, se', _⟩ := T.tr e _ (Array.getElem?_eq_getElem hes)
              have hb := hlo e h'
              rw [se'] at hb
              rw [cls_of se'] at h4
              simp only [clsN_two h4] at hb
              have hanc : Anc ops i e := ahead_anc (by simpa using hb)
              exact absurd (anc_in hcl hanc (fun o' ho' => by rw [ho] at ho'; cases ho'; exact hrd)) J.ne
        have heh : e ≤ h := by
          rcases hhi with h4 | h4
          · have := Nat.eq_of_beq_eq_true h4
            have := J.en
            omega
          · rcases Nat.lt_or_ge h e with h5 | h5
            · exfalso
              have hes : h < ops.size := by have := J.en; omega
              obtain ⟨ce, ne, se', _⟩ := T.tr h _ (Array.getElem?_eq_getElem hes)
              rw [se'] at h4
              simp only [Bool.and_eq_true] at h4
              have hc := Nat.eq_of_beq_eq_true h4.1
              have hdone := J.done h h5 (by rw [cls_of se', hc]; rfl)
              exact hni (anc_of hcl (ahead_anc h4.2) hdone)
            · exact h5
        have hp := T.fl i o h ns ho si (by rw [hcop]; exact h1) e hie J.en J.eb heh
        rw [hcop] at hp
        unfold pendOk at hp
        simp only at hp
        split at hp
        · rename_i v' σ'' hop
          have hv := eqV_sound _ _ hp
          subst hv
          have hσ : σ'' = (f e).σ := read_same (st := { (f i).only ns with σ := (f e).σ }) hrk hop
          subst hσ
          refine op_sound (st := { (f i).only ns with σ := (f e).σ }) (hcall n0 w0 hG) J.inv hs hop ?_
          rintro x w' ⟨ρ', g1, g2, g3⟩
          exact fin' g1 g2 g3
        · cases hp
      | 1, si, hone, hci, hc2, h2, h3 =>
        have hie : i < e := by
          rcases Nat.lt_trichotomy i e with h | h | h
          · exact h
          · rcases J.eb with h' | h'
            · omega
            · rw [← h, hci] at h'
              cases h'
          · rcases J.eb with h' | h'
            · omega
            · rcases T.bar (show e < ops.size by omega) hi (by omega) h' (by rw [hci]; decide) with ⟨h2, _⟩ | ⟨_, h2⟩
              · omega
              · exact absurd (anc_in hcl h2 (fun o' ho' => by rw [ho] at ho'; cases ho'; exact hrd)) J.ne
        have hc0 : cls is i ≠ 0 := by rw [hci]; decide
        obtain ⟨hsi, hseg⟩ := J.after T hcl hie hni hc0
        rcases quiet_over (quietCall_quiet call) hone.2 h2 with ⟨h4, h5⟩ | ⟨ob, mk, hmk, hv, h4, hob, h5⟩
        · obtain ⟨τ, hτ⟩ := T.σ_ext (i := i) (j := e) (by omega) J.en hseg
          have h6 := h5 τ
          have he : ((f i).only ns).σ ++ τ = (f e).σ := hτ.symm
          rw [he] at h6
          refine op_sound (st := { (f i).only ns with σ := (f e).σ }) (quietCall_ok hgd hcall n0 w0 hG) J.inv hs h6 ?_
          rintro x w' ⟨ρ', g1, g2, g3⟩
          exact fin' g1 g2 g3
        · have h4' : (f (i + 1)).σ = (f i).σ ++ [ob] := h4
          obtain ⟨τ, hτ⟩ := T.σ_ext (i := i + 1) (j := e) (by omega) J.en (fun x h7 h8 => hseg x (by omega) h8)
          have hτ' : (f e).σ = (f i).σ ++ ([ob] ++ τ) := by rw [hτ, h4', List.append_assoc]
          have h6 := h5 ([ob] ++ τ)
          have he : ((f i).only ns).σ ++ ([ob] ++ τ) = (f e).σ := hτ'.symm
          rw [he] at h6
          have hn : (f i).σ.length < (f e).σ.length := by rw [hτ']; simp
          have hobn : (f e).σ[(f i).σ.length]? = some ob := by
            rw [hτ', List.getElem?_append_right (Nat.le_refl _), Nat.sub_self]
            rfl
          have hρn : ρ (f i).σ.length = none := J.unal i hie hni _ (Nat.le_refl _) (by rw [h4']; simp)
          have hfro : ∀ ts g, ob ≠ .fro ts g := by
            rintro ts g rfl
            rcases hob with ⟨_, _, h⟩ | ⟨_, h⟩ <;> cases h
          refine op_sound (st := { (f i).only ns with σ := (f e).σ }) (quietCall_ok hgd hcall n0 w0 hG) J.inv hs h6 ?_
          rintro x w' ⟨ρ1, g1, g2, g3⟩
          have hnew : (∃ cs g, ob = .row cs g ∧ ∀ j ∈ dirs.dirsL cs, j < (f e).σ.length ∧ j ≠ (f i).σ.length) ∨ (∃ c, ob = .map [] c) := by
            rcases hob with ⟨cs, g, rfl⟩ | h
            · refine .inl ⟨cs, g, rfl, fun j hj => ?_⟩
              have hf := h3 rfl
              unfold freshOk at hf
              rw [h4'] at hf
              have : obVs ((f i).σ ++ [Ob.row cs g]) (f i).σ.length = cs := by
                unfold obVs
                rw [List.getElem?_append_right (Nat.le_refl _), Nat.sub_self]
                rfl
              rw [this] at hf
              have := List.all_eq_true.1 hf j hj
              simp only [Nat.blt_eq] at this
              omega
            · exact .inr h
          have hunal : ∀ j, j < e → j ≠ i → ¬ Li D j → ∀ id, (f j).σ.length ≤ id → id < (f (j + 1)).σ.length → id ≠ (f i).σ.length := by
            intro j hj hji hnj id k1 k2
            have hj0 := hfree j hj id k1 k2
            have hjs := (J.after T hcl hj hnj hj0).2
            rcases Nat.lt_or_ge j i with h7 | h7
            · have := T.σ_len (i := j + 1) (j := i) (by omega) (by omega) (fun x h8 h9 => hjs x (by omega) (by omega))
              omega
            · have := T.σ_len (i := i + 1) (j := j) (by omega) (by have := J.en; omega) (fun x h8 h9 => hseg x (by omega) (by omega))
              rw [h4'] at this
              simp at this
              omega
          refine fin (move_inv hn hobn hfro hρn J.inv g1 g2 hnew) (move_evo hn hobn hfro hρn J.inv g1 g2) (fun id hid hnn => ?_) (fun j hj hji hnj id k1 k2 hnn => ?_) ?_
          · have h8 := T.σ_len (i := s) (j := i) hsi (by omega) (fun x h8 h9 => J.seg x h8 (by omega))
            have := J.len
            exact move_out hn hobn hfro hρn J.inv g1 g2 (Nat.lt_of_lt_of_le hid (J.len_e T)) (by omega) hnn
          · exact move_out hn hobn hfro hρn J.inv g1 g2 (hlt j hj hnj id k1 k2) (hunal j hj hji hnj id k1 k2) hnn
          · rw [hv]
            exact move_mk hn hobn hfro hρn J.inv g1 g2 hmk g3
      | 2, si, hone, hci, hc2, h2, h3 => exact absurd rfl hc2
    · refine wpOp_of ho (hg _ h1) (by simp) (fun _ => ?_)
      refine fin' J.inv Evo.refl ?_
      rw [h2]
      exact RV_undef
end
end Go.Proofs.Ytodgdmhifbnofaa.AM
end
section
set_option linter.unusedSimpArgs false
set_option linter.unusedVariables false
set_option linter.unusedVariables false
set_option linter.unusedSimpArgs false
open Go.RowKit
namespace Go.Proofs.Ytodgdmhifbnofaa.AM
section
variable {P : Program} {H : Hints} {DF : List Deferred} {K : List Nat} {N : Nat} {ops : Array Oper} {call : CallA} {is : List (Nat × List Nat)}
variable {n0 : Nat} {w0 : World} {I0 : Nat → Prop} {f : Nat → St} {vals : Nat → V} {ρ0 : Rho} {hp0 : Array Go.Obj}
variable {D : Array Bool} {a : Act} {w : World}
def unl : List Bool → Nat
  | [] => 0
  | b :: r => (if b then 0 else 1) + unl r
theorem unl_set : ∀ (l : List Bool) (i : Nat), l[i]? = some false → unl (l.set i true) + 1 = unl l
  | [], i, h => by simp at h
  | b :: r, 0, h => by
    simp only [List.getElem?_cons_zero, Option.some.injEq] at h
    subst h
    simp [unl]
    omega
  | b :: r, i + 1, h => by
    have := unl_set r i (by simpa using h)
    simp only [List.set_cons_succ, unl]
    omega
theorem unl_zero : ∀ (l : List Bool), unl l = 0 → ∀ (i : Nat), l[i]? ≠ some false
  | [], _, i => by simp
  | b :: r, h, i => by
    simp only [unl] at h
    cases i with
    | zero =>
      intro hb
      simp only [List.getElem?_cons_zero, Option.some.injEq] at hb
      subst hb
      simp at h
    | succ i => simpa using unl_zero r (by omega) i
theorem JJ.all (T : Text P H K N ops call is f vals) (hJ : JJ DF ops is K N f vals n0 w0 I0 ρ0 hp0 D a w) (hr : Region.ready .any ops D = []) : ∀ i, i < ops.size → Li D i := by
  obtain ⟨hD, _⟩ := hJ
  intro i
  induction i using Nat.strongRecOn with
  | _ i ih =>
    intro hi
    refine Classical.byContradiction fun hni => ?_
    have ho : ops[i]? = some ops[i] := Array.getElem?_eq_getElem hi
    have hm : i ∈ Region.ready .any ops D := by
      refine mem_ready.2 ⟨?_, _, ho, fun e he hb => ?_⟩
      · unfold Li at hni
        simp only [Array.getD_eq_getD_getElem?, Array.getElem?_eq_getElem (show i < D.size by omega), Option.getD_some] at hni ⊢
        simpa using hni
      · have h1 := T.one ho
        unfold drawOne at h1
        obtain ⟨c, ns, si, _⟩ := T.tr i _ ho
        rw [ho, si] at h1
        simp only [Bool.and_eq_true, List.all_eq_true] at h1
        have := h1.1 e (by simpa using he)
        simp only [hb, Bool.not_true, Bool.false_or, Nat.blt_eq] at this
        exact ih e.on this (by omega)
    rw [hr] at hm
    cases hm
theorem JJ.last (T : Text P H K N ops call is f vals) (hJ : JJ DF ops is K N f vals n0 w0 I0 ρ0 hp0 D a w) (hall : ∀ i, i < ops.size → Li D i) :
    ∃ ρ, Inv n0 w0 I0 (f ops.size).σ ρ w ∧ StR DF K N n0 I0 ρ w (f ops.size) a ∧ Evo n0 I0 (f 0).σ ρ0 hp0 (f ops.size).σ ρ w.heap := by
  obtain ⟨hD, hcl, s, e, ρ, J⟩ := hJ
  have he : e = ops.size := by
    rcases Nat.lt_or_ge e ops.size with h | h
    · exact absurd (hall e h) J.ne
    · have := J.en; omega
  subst he
  refine ⟨ρ, J.inv, ?_, J.evo⟩
  have key : ∀ b t v, has (f ops.size) b t v → mem t K = b ∧ ∃ x, a.tmps[t]? = some x ∧ RV w.heap (Icur n0 I0 (f ops.size).σ ρ w.heap) (f ops.size).σ ρ v x := by
    intro b t v h
    rcases has_f T.stepf T.h0 ops.size (Nat.le_refl _) b t v h with ⟨k, hk, hd, rfl, hb⟩ | ⟨h, hno⟩
    · exact ⟨hb.symm, J.slots.new k t (hall k hk) hd⟩
    · refine ⟨(T.h0 b t v h).symm, J.slots.old b t v h fun k hk hd => ?_⟩
      rcases Nat.lt_or_ge k ops.size with h1 | h1
      · exact hno k h1 hd
      · simp [dstA, Array.getElem?_eq_none h1] at hd
  exact ⟨J.slots.defers, J.slots.size, fun k v h => key true k v h, fun k v h => key false k v h⟩
theorem JJ.any (T : Text P H K N ops call is f vals) {Gd : Ground} (hgd : GroundOk Gd) (hG : Gd n0 w0) (hcall : CallOk Gd P call) {Q : Exit → Act → World → Prop}
    (hQ : ∀ a' ρ' w', Inv n0 w0 I0 (f ops.size).σ ρ' w' → StR DF K N n0 I0 ρ' w' (f ops.size) a' → Evo n0 I0 (f 0).σ ρ0 hp0 (f ops.size).σ ρ' w'.heap → Q .normal a' w') :
    ∀ (fuel : Nat) (D : Array Bool) (a : Act) (w : World), unl D.toList ≤ fuel → JJ DF ops is K N f vals n0 w0 I0 ρ0 hp0 D a w → wpAny P .any ops Q fuel D a w := by
  intro fuel
  induction fuel with
  | zero =>
    intro D a w hf hJ
    have hr : Region.ready .any ops D = [] := by
      cases hr : Region.ready .any ops D with
      | nil => rfl
      | cons i r =>
        have hi := List.mem_cons_self (a := i) (l := r)
        rw [← hr] at hi
        obtain ⟨h1, o, ho, _⟩ := mem_ready.1 hi
        have hsz : i < D.size := by rw [hJ.1]; exact (Array.getElem?_eq_some_iff.1 ho).1
        have := unl_zero D.toList (by omega) i
        rw [Array.getElem?_toList, Array.getElem?_eq_getElem hsz] at this
        rw [Array.getD_eq_getD_getElem?, Array.getElem?_eq_getElem hsz] at h1
        simp only [Option.getD_some] at h1
        exact absurd (by rw [h1]) this
    obtain ⟨ρ, h1, h2, h3⟩ := hJ.last T (hJ.all T hr)
    exact ⟨hr, hQ a ρ w h1 h2 h3⟩
  | succ fuel ih =>
    intro D a w hf hJ
    refine ⟨fun hr => ?_, fun i hi => ?_⟩
    · obtain ⟨ρ, h1, h2, h3⟩ := hJ.last T (hJ.all T hr)
      exact hQ a ρ w h1 h2 h3
    · refine wpOp_mono (fun a' w' hJ' => ih _ a' w' ?_ hJ') (hJ.step T hgd hG hcall hi)
      obtain ⟨h1, o, ho, _⟩ := mem_ready.1 hi
      have hsz : i < D.size := by rw [hJ.1]; exact (Array.getElem?_eq_some_iff.1 ho).1
      have hl : D.toList[i]? = some false := by
        rw [Array.getElem?_toList, Array.getElem?_eq_getElem hsz]
        rw [Array.getD_eq_getD_getElem?, Array.getElem?_eq_getElem hsz] at h1
        simp only [Option.getD_some] at h1
        rw [h1]
      have := unl_set D.toList i hl
      rw [Array.toList_setIfInBounds]
      omega
theorem posOf_le (i : Nat) : ∀ (l : List Nat), posOf l i ≤ l.length
  | [] => Nat.le_refl _
  | x :: r => by
    unfold posOf
    split
    · exact Nat.zero_le _
    · have := posOf_le i r; simp; omega
theorem posOf_get (i : Nat) : ∀ (l : List Nat), posOf l i < l.length → l[posOf l i]? = some i
  | [], h => by simp at h
  | x :: r, h => by
    unfold posOf at h ⊢
    split at h
    · rename_i hx
      rw [if_pos hx]
      simp [Nat.eq_of_beq_eq_true hx]
    · rename_i hx
      rw [if_neg hx]
      simp only [List.getElem?_cons_succ]
      exact posOf_get i r (by simpa using h)
theorem wp_permO {l : List Nat} {o : Oper} {Q : Exit → Act → World → Prop} {Kn : Act → World → Prop} : (permO l o).wp P a w Kn Q = o.wp P a w Kn Q := by
  cases o; rfl
theorem asks_permO {l : List Nat} {o : Oper} : (permO l o).asks P a w = o.asks P a w := by
  cases o; rfl
theorem wpAny_perm {ops0 : Array Oper} {l : List Nat} (hl : permOk ops0.size l = true) {Q : Exit → Act → World → Prop} : ∀ (fuel : Nat) (D D' : Array Bool) (a : Act) (w : World), D.size = ops0.size → D'.size = ops0.size →
    (∀ i, i < ops0.size → D'.getD (posOf l i) false = D.getD i false) → wpAny P .any (permOps l ops0) Q fuel D' a w → wpAny P .any ops0 Q fuel D a w := by
  unfold permOk at hl
  simp only [Bool.and_eq_true, List.all_eq_true, List.mem_range, Nat.blt_eq] at hl
  obtain ⟨⟨hlen, hlt⟩, hpos⟩ := hl
  have hlen := Nat.eq_of_beq_eq_true hlen
  have hsz : (permOps l ops0).size = ops0.size := by simp [permOps, hlen]
  have hout : ∀ i, ops0.size ≤ i → posOf l i = ops0.size := by
    intro i hi
    have h1 := posOf_le i l
    rcases Nat.lt_or_ge (posOf l i) l.length with h2 | h2
    · have := posOf_get i l h2
      have := hlt i (List.mem_of_getElem? this)
      omega
    · omega
  have hget : ∀ i, i < ops0.size → (permOps l ops0)[posOf l i]? = (ops0[i]?).map (permO l) := by
    intro i hi
    have h1 := posOf_get i l (by rw [hlen]; exact (hpos i hi).1)
    unfold permOps
    rw [List.getElem?_toArray, List.getElem?_map, h1]
    simp [Array.getD_eq_getD_getElem?, Array.getElem?_eq_getElem hi]
  have hget' : ∀ i, (permOps l ops0)[posOf l i]? = (ops0[i]?).map (permO l) := by
    intro i
    rcases Nat.lt_or_ge i ops0.size with h | h
    · exact hget i h
    · rw [hout i h, Array.getElem?_eq_none (by omega), Array.getElem?_eq_none (by omega)]; rfl
  have hback : ∀ p, p < ops0.size → ∃ i, i < ops0.size ∧ posOf l i = p := by
    intro p hp
    have hp' : p < l.length := by omega
    refine ⟨l[p], hlt _ (List.getElem_mem hp'), ?_⟩
    have := Nat.eq_of_beq_eq_true (hpos p hp).2
    rwa [List.getD_eq_getElem?_getD, List.getElem?_eq_getElem hp', Option.getD_some] at this
  have hy : ∀ (a : Act) j, yielded (permOps l ops0) a.tmps (posOf l j) = yielded ops0 a.tmps j := by
    intro a j
    unfold yielded
    rw [hget' j]
    cases ops0[j]? with
    | none => rfl
    | some o => rfl
  have hw : ∀ (o : Oper) (a : Act), Region.wanted (permO l o) (yielded (permOps l ops0) a.tmps) = Region.wanted o (yielded ops0 a.tmps) := by
    intro o a
    unfold Region.wanted
    cases hg : o.guard with
    | none => simp [permO, hg]
    | some p =>
      obtain ⟨j, b⟩ := p
      simp only [permO, hg, hy]
  have hop : ∀ {i : Nat} {Kn : Act → World → Prop} {a : Act} {w : World}, wpOp P (permOps l ops0) Q (posOf l i) Kn a w → wpOp P ops0 Q i Kn a w := by
    intro i Kn a w h
    unfold wpOp at h ⊢
    rw [hget' i] at h
    cases ho : ops0[i]? with
    | none => rw [ho] at h; exact h
    | some o =>
      rw [ho] at h
      simp only [Option.map_some, hw, wp_permO, asks_permO] at h ⊢
      exact h
  have hD0 : ∀ {D D' : Array Bool}, D.size = ops0.size → D'.size = ops0.size → (∀ i, i < ops0.size → D'.getD (posOf l i) false = D.getD i false) → ∀ i, D'.getD (posOf l i) false = D.getD i false := by
    intro D D' h1 h2 h i
    rcases Nat.lt_or_ge i ops0.size with hi | hi
    · exact h i hi
    · rw [hout i hi, Array.getD_eq_getD_getElem?, Array.getD_eq_getD_getElem?, Array.getElem?_eq_none (by omega), Array.getElem?_eq_none (by omega)]
  have hr : ∀ {D D' : Array Bool}, D.size = ops0.size → D'.size = ops0.size → (∀ i, i < ops0.size → D'.getD (posOf l i) false = D.getD i false) → ∀ i, i < ops0.size →
      (i ∈ Region.ready .any ops0 D ↔ posOf l i ∈ Region.ready .any (permOps l ops0) D') := by
    intro D D' h1 h2 h i hi
    have hp : posOf l i < D'.size := by rw [h2]; exact (hpos i hi).1
    have e1 : D'.getD (posOf l i) true = D.getD i true := by
      have := h i hi
      rw [Array.getD_eq_getD_getElem?, Array.getD_eq_getD_getElem?, Array.getElem?_eq_getElem hp, Array.getElem?_eq_getElem (show i < D.size by omega)] at this ⊢
      simpa using this
    rw [mem_ready, mem_ready, e1, hget' i]
    constructor
    · rintro ⟨h3, o, ho, h4⟩
      refine ⟨h3, permO l o, by rw [ho]; rfl, fun e he hb => ?_⟩
      obtain ⟨e0, he0, rfl⟩ := Array.mem_map.1 (show e ∈ o.after.map _ from he)
      rw [hD0 h1 h2 h]
      exact h4 e0 he0 hb
    · rintro ⟨h3, o, ho, h4⟩
      cases hoo : ops0[i]? with
      | none => rw [hoo] at ho; cases ho
      | some o0 =>
        rw [hoo] at ho
        cases ho
        refine ⟨h3, o0, rfl, fun e he hb => ?_⟩
        have := h4 { e with on := posOf l e.on } (Array.mem_map.2 ⟨e, he, rfl⟩) hb
        rwa [hD0 h1 h2 h] at this
  have hrl : ∀ {D D' : Array Bool}, D.size = ops0.size → D'.size = ops0.size → (∀ i, i < ops0.size → D'.getD (posOf l i) false = D.getD i false) → Region.ready .any ops0 D = [] → Region.ready .any (permOps l ops0) D' = [] := by
    intro D D' h1 h2 h h0
    cases hq : Region.ready .any (permOps l ops0) D' with
    | nil => rfl
    | cons p r =>
      have hm : p ∈ Region.ready .any (permOps l ops0) D' := by rw [hq]; exact List.mem_cons_self
      obtain ⟨_, o, ho, _⟩ := mem_ready.1 hm
      obtain ⟨i, hi, rfl⟩ := hback p (by rw [← hsz]; exact (Array.getElem?_eq_some_iff.1 ho).1)
      have := (hr h1 h2 h i hi).2 hm
      rw [h0] at this
      cases this
  intro fuel
  induction fuel with
  | zero =>
    intro D D' a w h1 h2 h hh
    obtain ⟨h3, h4⟩ := hh
    refine ⟨?_, h4⟩
    cases hq : Region.ready .any ops0 D with
    | nil => rfl
    | cons i r =>
      have hm : i ∈ Region.ready .any ops0 D := by rw [hq]; exact List.mem_cons_self
      obtain ⟨_, o, ho, _⟩ := mem_ready.1 hm
      have := (hr h1 h2 h i (Array.getElem?_eq_some_iff.1 ho).1).1 hm
      rw [h3] at this
      cases this
  | succ fuel ih =>
    intro D D' a w h1 h2 h hh
    obtain ⟨h3, h4⟩ := hh
    refine ⟨fun h0 => h3 (hrl h1 h2 h h0), fun i hi => ?_⟩
    obtain ⟨_, o, ho, _⟩ := mem_ready.1 hi
    have hi' := (Array.getElem?_eq_some_iff.1 ho).1
    refine wpOp_mono (fun a w hk => ih _ _ a w (by simpa using h1) (by simpa using h2) (fun j hj => ?_) hk) (hop (h4 _ ((hr h1 h2 h i hi').1 hi)))
    by_cases hij : j = i
    · subst hij
      have hp : posOf l j < D'.size := by rw [h2]; exact (hpos j hj).1
      simp [Array.getD_eq_getD_getElem?, hp, show j < D.size by omega]
    · have hne : posOf l i ≠ posOf l j := by
        intro he
        have e1 := posOf_get i l (by rw [hlen]; exact (hpos i hi').1)
        have e2 := posOf_get j l (by rw [hlen]; exact (hpos j hj).1)
        rw [he, e2] at e1
        simp only [Option.some.injEq] at e1
        exact hij e1
      rw [getD_set_ne _ hne, getD_set_ne _ (Ne.symm hij)]
      exact h j hj
theorem wpAny_permOf {ops0 : Array Oper} (hp : PermOf ops ops0) {Q : Exit → Act → World → Prop} (h : wpAny P .any ops Q ops.size (Array.replicate ops.size false) a w) :
    wpAny P .any ops0 Q ops0.size (Array.replicate ops0.size false) a w := by
  rcases hp with rfl | ⟨l, hl, rfl⟩
  · exact h
  · have hsz : (permOps l ops0).size = ops0.size := by
      have hl' := hl
      unfold permOk at hl'
      simp only [Bool.and_eq_true] at hl'
      simp [permOps, Nat.eq_of_beq_eq_true hl'.1.1]
    rw [hsz] at h
    refine wpAny_perm hl _ _ _ a w (by simp) (by simp) (fun i hi => ?_) h
    have hr : ∀ n k, (Array.replicate n false).getD k false = false := by
      intro n k
      simp only [Array.getD_eq_getD_getElem?, Array.getElem?_replicate]
      split <;> rfl
    rw [hr, hr]
theorem region_ok {Gd : Ground} (hgd : GroundOk Gd) (hm : P.follows .mixedOrders = true) (hcall : CallOk Gd P call) : RegionOk Gd P call := by
  intro DF H K N id ops ops0 dr is st st' hdr e n0 w0 I0 ρ w a hG hI hs Q hQ
  rcases hdr with ⟨rfl, rfl, rfl⟩ | ⟨rfl, his, hd, hperm⟩
  · simp only [regionRun] at e
    refine wp_region ?_
    rw [← range_ops ops] at e
    exact opsRun_wp (hcall n0 w0 hG) (List.range ops.size) { st with loc := [] } a ρ w e hI hs.noLoc hQ
  · obtain ⟨is, rfl⟩ := Option.isSome_iff_exists.1 his
    simp only [regionRun] at e
    have hok : drawOk P H K N ops (anOf ops) is = true := by
      unfold cDraw at hd
      simp only at hd
      split at hd
      · rename_i h
        simp only [Option.some.injEq] at hd
        rw [← hd]
        exact h
      · cases hd
    obtain ⟨f, vals, h0, hn, hstep, _, hfl⟩ := opsRunD_of _ _ _ _ _ _ e
    have hs0 : StR DF K N n0 I0 ρ w (f 0) a := by rw [h0]; exact hs.noLoc
    have hI0 : Inv n0 w0 I0 (f 0).σ ρ w := by rw [h0]; exact hI
    have T : Text P H K N ops call is f vals := by
      refine ⟨hok, fun i o ho => ?_, fun b t v hv => ?_, fun i o h ns ho hi hg e h1 h2 h3 h4 => ?_⟩
      · refine hstep i (cOper P H K N ops o) ?_
        rw [List.getElem?_map, Array.getElem?_toList, ho]
        rfl
      · cases b with
        | true => exact (hs0.env t v hv).1.symm
        | false => exact (hs0.loc t v hv).1.symm
      · refine hfl i (cOper P H K N ops o) h ns ?_ hi hg e h1 (by simpa using h2) (by simpa using h3) (by omega)
        rw [List.getElem?_map, Array.getElem?_toList, ho]
        rfl
    refine wp_region_any hm ?_
    refine wpAny_permOf hperm ?_
    have hfin : (f ops.size) = st' := by rw [← hn]; simp
    refine JJ.any (DF := DF) T hgd hG hcall (ρ0 := ρ) (hp0 := w.heap) (n0 := n0) (w0 := w0) (I0 := I0) (fun a' ρ' w' h1 h2 h3 => ?_) ops.size (Array.replicate ops.size false) a { w with drawn := w.drawn + 1 } ?_ ?_
    · rw [hfin] at h1 h2 h3
      rw [h0] at h3
      exact hQ a' ρ' w' h1 h2 h3
    · have : ∀ n, unl (List.replicate n false) = n := by
        intro n
        induction n with
        | zero => rfl
        | succ n ih =>
          simp only [List.replicate_succ, unl, ih, Bool.false_eq_true, if_false]
          omega
      rw [Array.toList_replicate, this]
      exact Nat.le_refl _
    · have hnl : ∀ k, ¬ Li (Array.replicate ops.size false) k := by
        intro k hk
        unfold Li at hk
        rw [Array.getD_eq_getD_getElem?, Array.getElem?_replicate] at hk
        split at hk <;> simp at hk
      obtain ⟨e', he1, he2, he3, he4⟩ := nextBar is ops.size ops.size 0 (by omega)
      obtain ⟨τ, hτ⟩ := T.σ_ext he1 he2 (fun x h1 h2 => he4 x h1 h2)
      have hI1 : Inv n0 w0 I0 (f 0).σ ρ w.drew := hI0.drew
      obtain ⟨hI2, E2⟩ := hI1.pad τ
      rw [← hτ] at hI2 E2
      refine ⟨by simp, fun j o ho hj => absurd hj (hnl j), 0, e', ρ, he1, he2, hnl e', he3, fun x hx h2 => absurd h2 (he4 x (Nat.zero_le _) hx), he4, .inl rfl, Nat.le_refl _, hI2, E2, fun j hj _ id h1 h2 => ?_, ?_⟩
      · cases hq : ρ id with
        | none => rfl
        | some p =>
          have h3 := (hI1.new id p.1 p.2 hq).2.2
          have := T.σ_len (i := 0) (j := j) (Nat.zero_le _) (by omega) (fun x h4 h5 => he4 x h4 (by omega))
          omega
      · refine ⟨hs0.defers, hs0.size, fun b t v hv _ => ?_, fun k t hk => absurd hk (hnl k)⟩
        cases b with
        | true =>
          obtain ⟨_, x, h1, h2⟩ := hs0.env t v hv
          exact ⟨x, h1, RV_mono E2 _ _ h2⟩
        | false =>
          obtain ⟨_, x, h1, h2⟩ := hs0.loc t v hv
          exact ⟨x, h1, RV_mono E2 _ _ h2⟩
theorem am_ok {Gd : Ground} {T : FTab} (hm : P.follows .mixedOrders = true) (hT : TabOk Gd P T) (n : Nat) : (∀ m, m ≤ n → ExecOk Gd P T m) ∧ CallOk Gd P (callA T n) :=
  all_ok hT (fun _ hc => region_ok hT.1 hm hc) n
def isT : Option (V × Store) → Bool
  | some (.tr (.sc (.bool true)), _) => true
  | _ => false
theorem ext_true {Gd : Ground} {T : FTab} {f : FuncId} {m : Nat} (hm : P.follows .mixedOrders = true) (hT : TabOk Gd P T) (h : isT (callA T m f [] []) = true) : ExtOk Gd P f 18 := by
  refine ExtOk.pure2 (fun n0 w0 w xs ys r hG hB hn harg hr => ?_) (by decide)
  have hxs : xs = ys := harg
  subst hxs
  cases xs with
  | cons x xs => cases hr
  | nil =>
    cases hr
    unfold isT at h
    split at h
    · rename_i σ' e
      have hG' := hT.1 n0 w0 w hG hB hn
      have hI : Inv w.heap.size w (fun _ => False) [] (fun _ => none) w :=
        ⟨Below.refl _ _, Nat.le_refl _, fun b hb => hb.elim, fun i b o hh => (by cases hh), fun i j b o o' hh => (by cases hh), fun i b o ob hh => (by cases hh)⟩
      refine ((am_ok hm hT m).2 _ _ hG' f [] [] _ _ e (fun _ => False) (fun _ => none) w [] hI (by simp [RVL])).mono fun x w' hp => ?_
      obtain ⟨ρ', hI', _, hv⟩ := hp
      exact ⟨RV_sc.1 hv, hI'.below⟩
    · cases h
end
end Go.Proofs.Ytodgdmhifbnofaa.AM
end
section
set_option linter.unusedSimpArgs false
set_option linter.unusedVariables false
set_option linter.unusedVariables false
set_option linter.unusedSimpArgs false
namespace Go.Proofs.Ytodgdmhifbnofaa.AM
def CallLe (c c' : CallA) : Prop := ∀ f vs σ r, c f vs σ = some r → c' f vs σ = some r
section
variable {c c' : CallA} (hc : CallLe c c')
include hc
theorem opA_le {k : HK} {st : St} {r : V × Store} (e : opA c k st = some r) : opA c' k st = some r := by
  cases k with
  | callf f args =>
    simp only [opA, o_callf] at e ⊢
    split at e
    · exact hc _ _ _ _ e
    · cases e
  | callv f args =>
    simp only [opA, o_callv] at e ⊢
    unfold bind1 at e ⊢
    split at e
    · split at e
      · unfold callV at e ⊢
        simp only at e ⊢
        split at e
        · exact hc _ _ _ _ e
        · exact hc _ _ _ _ e
        · cases e
      · cases e
    · cases e
  | _ => exact e
theorem opStep_le {o : HOp} {st st' : St} (e : opStep c o st = some st') : opStep c' o st = some st' := by
  unfold opStep at e ⊢
  split at e
  · split at e
    · rename_i v σ h
      rw [opA_le hc h]
      exact e
    · cases e
  · exact e
  · cases e
theorem opsRun_le : ∀ {ops : List HOp} {st st' : St}, opsRun c ops st = some st' → opsRun c' ops st = some st'
  | [], st, st', e => e
  | o :: r, st, st', e => by
    simp only [opsRun] at e ⊢
    split at e
    · rename_i s h
      rw [opStep_le hc h]
      exact opsRun_le e
    · cases e
theorem quiet_le : CallLe (quietCall c) (quietCall c') := by
  intro f vs σ r e
  unfold quietCall at e ⊢
  split at e
  · cases e
  · split at e
    · cases e
    · rename_i h
      rw [hc _ _ _ _ h]
      exact e
theorem opStepD_le {k : Nat} {ns : List Nat} {o : HOp} {st st' : St} (e : opStepD c k ns o st = some st') : opStepD c' k ns o st = some st' := by
  unfold opStepD at e ⊢
  split at e
  · split at e
    · rename_i v σ h
      have : opA (if Nat.beq k 1 = true then quietCall c' else c') o.k (st.only ns) = some (v, σ) := by
        split at h
        · rename_i hk
          rw [if_pos hk]
          exact opA_le (quiet_le hc) h
        · rename_i hk
          rw [if_neg hk]
          exact opA_le hc h
      rw [this]
      exact e
    · cases e
  · exact e
  · cases e
theorem pendOk_le {σ : Store} {p : Pend} (e : pendOk c σ p = true) : pendOk c' σ p = true := by
  unfold pendOk at e ⊢
  split at e
  · rename_i v s h
    rw [opA_le hc h]
    exact e
  · cases e
theorem pendAll_le {i : Nat} {σ : Store} {ps : List Pend} (e : pendAll c i σ ps = true) : pendAll c' i σ ps = true := by
  unfold pendAll at e ⊢
  rw [List.all_eq_true] at e ⊢
  intro p hp
  have := e p hp
  simp only [Bool.or_eq_true] at this ⊢
  rcases this with h | h
  · exact .inl h
  · exact .inr (pendOk_le hc h)
theorem pendAdd_le {k : Nat} {ns : List Nat} {o : HOp} {st st' : St} {ps : List Pend} (e : opStepD c k ns o st = some st') : pendAdd c' k ns o st ps = pendAdd c k ns o st ps := by
  unfold pendAdd
  split
  · rename_i h
    unfold opStepD at e
    have hb : ¬ Nat.beq (h + 3) 1 = true := by simp
    simp only [if_neg hb] at e
    split at e
    · rename_i hg
      rw [hg]
      split at e
      · rename_i v s hop
        simp only [opA_le hc hop]
      · cases e
    · rename_i hg
      rw [hg]
    · cases e
  · rfl
theorem opsRunD_le : ∀ {is : List (Nat × List Nat)} {ops : List HOp} {i : Nat} {ps : List Pend} {st st' : St}, opsRunD c i ps is ops st = some st' → opsRunD c' i ps is ops st = some st'
  | [], [], i, ps, st, st', e => by
    simp only [opsRunD] at e ⊢
    split at e
    · rename_i h
      rw [if_pos (pendAll_le hc h)]
      exact e
    · cases e
  | (k, ns) :: is, o :: r, i, ps, st, st', e => by
    simp only [opsRunD] at e ⊢
    split at e
    · cases e
    · rename_i h
      have h' : ¬ (Nat.beq k 2 && !pendAll c' i st.σ ps) = true := by
        intro hh
        simp only [Bool.and_eq_true, Bool.not_eq_true', not_and] at h hh
        have h1 := h hh.1
        rw [Bool.not_eq_false] at h1
        rw [pendAll_le hc h1] at hh
        cases hh.2
      rw [if_neg h']
      split at e
      · rename_i s hs
        rw [opStepD_le hc hs]
        simp only
        rw [pendAdd_le hc hs]
        exact opsRunD_le e
      · cases e
  | [], _ :: _, i, ps, st, st', e => by simp [opsRunD] at e
  | _ :: _, [], i, ps, st, st', e => by simp [opsRunD] at e
end
end Go.Proofs.Ytodgdmhifbnofaa.AM
end
section
set_option linter.unusedSimpArgs false
set_option linter.unusedVariables false
set_option linter.unusedVariables false
set_option linter.unusedSimpArgs false
namespace Go.Proofs.Ytodgdmhifbnofaa.AM
noncomputable def bif2 {β : Type} (b : Bool) (x y : β) : β := Bool.rec (motive := fun _ => β) y x b
theorem bif2_some {α : Type} {b : Bool} {x : Option α} {r : α} (h : bif2 b x none = some r) : b = true ∧ x = some r := by
  cases b with
  | false => cases h
  | true => exact ⟨rfl, h⟩
theorem bif2_or {α : Type} {b : Bool} {x y : Option α} {r : α} (h : bif2 b x y = some r) : (b = true ∧ x = some r) ∨ (b = false ∧ y = some r) := by
  cases b with
  | false => exact .inr ⟨rfl, h⟩
  | true => exact .inl ⟨rfl, h⟩
def MonoC (cas : Nat → CallA) : Prop := ∀ m m', m ≤ m' → CallLe (cas m) (cas m')
theorem mono1 (T : FTab) : ∀ n,
    (∀ c st r, exec T n c st = some r → exec T (n + 1) c st = some r) ∧ (∀ fn args σ r, runA T n fn args σ = some r → runA T (n + 1) fn args σ = some r) ∧ CallLe (callA T n) (callA T (n + 1)) ∧
    (∀ d st r, execD T n d st = some r → execD T (n + 1) d st = some r) ∧ (∀ fv vs σ r, runDf T n fv vs σ = some r → runDf T (n + 1) fv vs σ = some r)
  | 0 => ⟨fun _ _ _ e => by simp [exec] at e, fun _ _ _ _ e => by simp [runA] at e, fun _ _ _ _ e => by simp [callA] at e, fun _ _ _ e => by simp [execD] at e, fun _ _ _ _ e => by simp [runDf] at e⟩
  | n + 1 => by
    obtain ⟨h1, h2, h3, h4, h5⟩ := mono1 T n
    refine ⟨fun c st r e => ?_, fun fn args σ r e => ?_, fun f args σ r e => ?_, fun d st r e => ?_, fun fv vs σ r e => ?_⟩
    · cases c with
      | skip => simpa only [exec] using e
      | region ops dr =>
        rw [exec] at e ⊢
        split at e
        · rename_i s hs
          have : regionRun (callA T (n + 1)) ops dr st = some s := by
            unfold regionRun at hs ⊢
            cases dr with
            | none => exact opsRun_le h3 hs
            | some is => exact opsRunD_le h3 hs
          rw [this]
          exact e
        · cases e
      | seq a b =>
        rw [exec] at e ⊢
        split at e
        · rename_i s hs
          rw [h1 _ _ _ hs]
          exact h1 _ _ _ e
        · rename_i hno
          rw [h1 _ _ _ e]
          split
          · rename_i s hs
            rw [Option.some.inj hs] at e
            exact absurd e (hno s)
          · rfl
      | cond x a b =>
        rw [exec] at e ⊢
        cases hv : st.get x with
        | none => simp only [hv] at e; cases e
        | some v =>
          simp only [hv] at e ⊢
          cases hb : asBool? v with
          | none => simp only [hb] at e; cases e
          | some u =>
            simp only [hb] at e ⊢
            cases u with
            | true => exact h1 _ _ _ e
            | false => exact h1 _ _ _ e
      | block id b =>
        rw [exec] at e ⊢
        split at e
        · rename_i id' s hs
          rw [h1 _ _ _ hs]
          exact e
        · rename_i hno
          rw [h1 _ _ _ e]
          split
          · rename_i id' s hs
            rw [Option.some.inj hs] at e
            exact absurd e (hno id' s)
          · rfl
      | loop b =>
        rw [exec] at e ⊢
        split at e
        · rename_i s hs
          rw [h1 _ _ _ hs]
          exact h1 (.loop b) _ _ e
        · rename_i hno
          rw [h1 _ _ _ e]
          split
          · rename_i s hs
            rw [Option.some.inj hs] at e
            exact absurd e (hno s)
          · rfl
      | exit id => simpa only [exec] using e
      | ret => simpa only [exec] using e
      | bad => simp [exec] at e
    · rw [runA] at e ⊢
      cases hd : fn.dfr with
      | none =>
        simp only [hd] at e ⊢
        split at e
        · rename_i s hs
          rw [h1 _ _ _ hs]
          exact e
        · rename_i s hs
          rw [h1 _ _ _ hs]
          exact e
        · cases e
      | some d =>
        simp only [hd] at e ⊢
        split at e
        · cases e
        · rename_i fv vs o st hno hs
          rw [h4 _ _ _ hs]
          split at e
          · rename_i σ2 h2'
            have h6 := h5 _ _ _ _ h2'
            split
            · rename_i heq
              simp only [Option.some.injEq, Prod.mk.injEq] at heq
              obtain ⟨_, _, rfl, _⟩ := heq
              exact absurd rfl (hno _)
            · rename_i heq
              simp only [Option.some.injEq, Prod.mk.injEq] at heq
              obtain ⟨rfl, rfl, rfl, rfl⟩ := heq
              rw [h6]
              exact e
            · rename_i heq
              cases heq
          · cases e
        · cases e
    · rw [callA] at e ⊢
      split at e
      · cases e
      · rename_i fn hf
        split at e
        · rename_i hlen
          rw [if_pos hlen]
          split at e
          · exact e
          · exact h2 _ _ _ _ e
          · split at e
            · cases e
            · rename_i ts hts
              split at e
              · cases e
              · rename_i v σ1 hr
                rw [h2 _ _ _ _ hr]
                exact e
        · cases e
    · cases d with
      | after c d =>
        rw [execD] at e ⊢
        split at e
        · rename_i s hs
          rw [h1 _ _ _ hs]
          exact h4 _ _ _ e
        · cases e
      | here ops f args dst inK ops2 post =>
        rw [execD] at e ⊢
        split at e
        · cases e
        · rename_i s1 hs1
          rw [opsRun_le h3 hs1]
          simp only
          split at e
          · rename_i fv vs hf hv
            split at e
            · cases e
            · rename_i q hq
              split at e
              · cases e
              · rename_i s2 hs2
                rw [opsRun_le h3 hs2]
                simp only
                split at e
                · rename_i o s3 hs3
                  rw [h1 _ _ _ hs3]
                  exact e
                · cases e
          · cases e
    · rw [runDf] at e ⊢
      cases hf : fnV fv with
      | none => simp only [hf] at e; cases e
      | some p =>
        obtain ⟨g, first, cap⟩ := p
        simp only [hf] at e ⊢
        cases hg : T g with
        | none => simp only [hg] at e; cases e
        | some gn =>
          simp only [hg] at e ⊢
          split at e
          · rename_i hlen
            rw [if_pos hlen]
            split at e
            · exact e
            · split at e
              · cases e
              · rename_i hd
                split at e
                · rename_i v σ2 hr
                  rw [h2 _ _ _ _ hr]
                  exact e
                · cases e
            · cases e
          · cases e
theorem exec_mono (T : FTab) {c : HCode} {st : St} {r : Out × St} {n m : Nat} (h : n ≤ m) (e : exec T n c st = some r) : exec T m c st = some r := by
  induction h with
  | refl => exact e
  | step _ ih => exact (mono1 T _).1 _ _ _ ih
theorem callA_mono (T : FTab) : MonoC (callA T) := by
  intro n m h
  induction h with
  | refl => exact fun _ _ _ _ e => e
  | step _ ih => exact fun f vs σ r e => (mono1 T _).2.2.1 _ _ _ _ (ih f vs σ r e)
end Go.Proofs.Ytodgdmhifbnofaa.AM
end
section
set_option linter.unusedSimpArgs false
set_option linter.unusedVariables false
set_option linter.unusedVariables false
set_option linter.unusedSimpArgs false
namespace Go.Proofs.Ytodgdmhifbnofaa.AM
def Ex (T : FTab) (c : HCode) (st : St) (out : Out) (st' : St) : Prop := ∃ m, exec T m c st = some (out, st')
def Cl (T : FTab) (f : FuncId) (vs : List V) (σ : Store) (v : V) (σ' : Store) : Prop := ∃ m, callA T m f vs σ = some (v, σ')
variable {T : FTab} {st st1 st2 : St} {out : Out} {a b : HCode}
theorem ex_skip : Ex T .skip st .normal st := ⟨1, by simp only [exec]⟩
theorem ex_ret : Ex T .ret st .ret st := ⟨1, by simp only [exec]⟩
theorem ex_exit (i : Nat) : Ex T (.exit i) st (.exit i) st := ⟨1, by simp only [exec]⟩
theorem ex_seq (h1 : Ex T a st .normal st1) (h2 : Ex T b st1 out st2) : Ex T (.seq a b) st out st2 := by
  obtain ⟨m1, h1⟩ := h1
  obtain ⟨m2, h2⟩ := h2
  refine ⟨max m1 m2 + 1, ?_⟩
  rw [exec]
  simp only [exec_mono T (Nat.le_max_left m1 m2) h1]
  exact exec_mono T (Nat.le_max_right m1 m2) h2
theorem ex_stop (h1 : Ex T a st out st1) (hn : out ≠ .normal) : Ex T (.seq a b) st out st1 := by
  obtain ⟨m, h1⟩ := h1
  refine ⟨m + 1, ?_⟩
  rw [exec]
  simp only [h1]
  cases out with
  | normal => exact absurd rfl hn
  | _ => rfl
theorem ex_region {ops : List HOp} (h : ∃ m, opsRun (callA T m) ops { st with loc := [] } = some st1) : Ex T (.region ops none) st .normal st1 := by
  obtain ⟨m, h⟩ := h
  exact ⟨m + 1, by simp only [exec, regionRun, h]⟩
theorem ex_true {x : HO} (hx : st.get x = some (.tr (.sc (.bool true)))) (h : Ex T a st out st1) : Ex T (.cond x a b) st out st1 := by
  obtain ⟨m, h⟩ := h
  exact ⟨m + 1, by rw [exec]; simp only [hx, asBool?, h]⟩
theorem ex_false {x : HO} (hx : st.get x = some (.tr (.sc (.bool false)))) (h : Ex T b st out st1) : Ex T (.cond x a b) st out st1 := by
  obtain ⟨m, h⟩ := h
  exact ⟨m + 1, by rw [exec]; simp only [hx, asBool?, h]⟩
theorem ex_block {i : Nat} (h : Ex T b st .normal st1) : Ex T (.block i b) st .normal st1 := by
  obtain ⟨m, h⟩ := h
  exact ⟨m + 1, by rw [exec]; simp only [h]⟩
theorem ex_block_exit {i : Nat} (h : Ex T b st (.exit i) st1) : Ex T (.block i b) st .normal st1 := by
  obtain ⟨m, h⟩ := h
  exact ⟨m + 1, by rw [exec]; simp only [h, if_true]⟩
theorem ex_block_ret {i : Nat} (h : Ex T b st .ret st1) : Ex T (.block i b) st .ret st1 := by
  obtain ⟨m, h⟩ := h
  exact ⟨m + 1, by rw [exec]; simp only [h]⟩
theorem ex_loop (h1 : Ex T b st .normal st1) (h2 : Ex T (.loop b) st1 out st2) : Ex T (.loop b) st out st2 := by
  obtain ⟨m1, h1⟩ := h1
  obtain ⟨m2, h2⟩ := h2
  refine ⟨max m1 m2 + 1, ?_⟩
  rw [exec]
  simp only [exec_mono T (Nat.le_max_left m1 m2) h1]
  exact exec_mono T (Nat.le_max_right m1 m2) h2
theorem ex_loop_out (h1 : Ex T b st out st1) (hn : out ≠ .normal) : Ex T (.loop b) st out st1 := by
  obtain ⟨m, h1⟩ := h1
  refine ⟨m + 1, ?_⟩
  rw [exec]
  simp only [h1]
  cases out with
  | normal => exact absurd rfl hn
  | _ => rfl
theorem cl_of {f : FuncId} {fn : HFn} {vs : List V} {σ : Store} {v : V} {st : St} (hf : T f = some fn) (hm : fn.mode = .shared) (hl : fn.nargs = vs.length)
    (h : Ex T fn.code ⟨argsEnv vs 0, [], σ⟩ out st) (ho : out = .normal ∨ out = .ret) (hr : resultA st fn.results = some v) (hd : fn.dfr = none := by rfl) : Cl T f vs σ v st.σ := by
  obtain ⟨m, h⟩ := h
  refine ⟨m + 2, ?_⟩
  rw [callA, hf]
  simp only [hl, if_true, hm]
  rw [runA]
  rcases ho with rfl | rfl <;> simp only [hd, h, hr]
theorem bin_lss (k : IntKind) (x y : Int) : opBin .other .lss (.tr (.sc (.int k x))) (.tr (.sc (.int k y))) = some (.tr (.sc (.bool (decide (x < y))))) := by simp [opBin, isNil, notNil, binSc, binInt]
theorem bin_gtr (k : IntKind) (x y : Int) : opBin .other .gtr (.tr (.sc (.int k x))) (.tr (.sc (.int k y))) = some (.tr (.sc (.bool (decide (x > y))))) := by simp [opBin, isNil, notNil, binSc, binInt]
theorem bin_leq (k : IntKind) (x y : Int) : opBin .other .leq (.tr (.sc (.int k x))) (.tr (.sc (.int k y))) = some (.tr (.sc (.bool (decide (x ≤ y))))) := by simp [opBin, isNil, notNil, binSc, binInt]
theorem bin_geq (k : IntKind) (x y : Int) : opBin .other .geq (.tr (.sc (.int k x))) (.tr (.sc (.int k y))) = some (.tr (.sc (.bool (decide (x ≥ y))))) := by simp [opBin, isNil, notNil, binSc, binInt]
theorem bin_eql (k : IntKind) (x y : Int) : opBin .other .eql (.tr (.sc (.int k x))) (.tr (.sc (.int k y))) = some (.tr (.sc (.bool (x == y)))) := by simp [opBin, isNil, notNil, binSc, binInt]
theorem bin_add (k : IntKind) (x y : Int) : opBin .other .add (.tr (.sc (.int k x))) (.tr (.sc (.int k y))) = some (.tr (.sc (.int k (k.wrap (x + y))))) := by simp [opBin, isNil, notNil, binSc, binInt]
theorem bin_sub (k : IntKind) (x y : Int) : opBin .other .sub (.tr (.sc (.int k x))) (.tr (.sc (.int k y))) = some (.tr (.sc (.int k (k.wrap (x - y))))) := by simp [opBin, isNil, notNil, binSc, binInt]
theorem bin_bool (x y : Bool) : opBin .bool .eql (.tr (.sc (.bool x))) (.tr (.sc (.bool y))) = some (.tr (.sc (.bool (x == y)))) := by simp [opBin, isNil, notNil, binSc]
theorem bin_str (s t : ByteArray) : opBin .other .eql (.tr (.sc (.string s))) (.tr (.sc (.string t))) = some (.tr (.sc (.bool (bytesEq s.data.toList t.data.toList)))) := by simp [opBin, isNil, notNil, binSc, binStr]
theorem un_not (b : Bool) : opUn .not (.tr (.sc (.bool b))) = some (.tr (.sc (.bool (!b)))) := rfl
end Go.Proofs.Ytodgdmhifbnofaa.AM
end
section
set_option linter.unusedSimpArgs false
set_option linter.unusedVariables false
set_option linter.unusedVariables false
set_option linter.unusedSimpArgs false
open Go.RowKit Go.WideShapes
namespace Go.Proofs.Ytodgdmhifbnofaa.AM
section
variable {h : Array Go.Obj} {I : Nat → Prop}
theorem RTL_append : ∀ (ts us : List Tree) (xs ys : List Value), RTL h I ts xs → RTL h I us ys → RTL h I (ts ++ us) (xs ++ ys)
  | [], us, xs, ys, h1, h2 => by simp only [RTL] at h1; subst h1; simpa using h2
  | t :: ts, us, xs, ys, h1, h2 => by
    simp only [RTL] at h1
    obtain ⟨y, zs, rfl, r, s⟩ := h1
    simp only [List.cons_append, RTL]
    exact ⟨y, zs ++ ys, rfl, r, RTL_append ts us zs ys s h2⟩
theorem RTC_append : ∀ (ts us : List Tree) (b o : Nat), RTC h I ts b o → RTC h I us b (o + ts.length) → RTC h I (ts ++ us) b o
  | [], us, b, o, h1, h2 => by simpa using h2
  | t :: ts, us, b, o, h1, h2 => by
    simp only [RTC] at h1
    simp only [List.cons_append, RTC]
    refine ⟨h1.1, RTC_append ts us b (o + 1) h1.2 ?_⟩
    rw [List.length_cons] at h2
    rw [show o + 1 + ts.length = o + (ts.length + 1) by omega]; exact h2
theorem RTC_of_RTL (ts : List Tree) (xs : List Value) (b o : Nat) (r : RTL h I ts xs) (hc : ∀ j, j < xs.length → cellAt h b (o + j) = xs[j]?) : RTC h I ts b o := by
  rw [RTC_iff]
  intro k t hk
  obtain ⟨e, s⟩ := (RTL_iff _ _).1 r
  obtain ⟨x, hx, rx⟩ := s k t hk
  have hlt : k < xs.length := by
    have := (List.getElem?_eq_some_iff.1 hx).1
    exact this
  exact ⟨x, by rw [hc k hlt, hx], rx⟩
theorem RTC_flat {α : Type} (E : α → List Tree) (c : Nat) (hE : ∀ a, (E a).length = c) : ∀ (l : List α) (b o : Nat), (∀ (i : Nat) a, l[i]? = some a → RTC h I (E a) b (o + i * c)) → RTC h I (l.flatMap E) b o
  | [], b, o, _ => by simp [RTC]
  | a :: l, b, o, H => by
    rw [List.flatMap_cons]
    refine RTC_append _ _ _ _ (by simpa using H 0 a rfl) (RTC_flat E c hE l b _ fun i a' hi => ?_)
    have := H (i + 1) a' (by simpa using hi)
    rw [hE, show o + c + i * c = o + (i + 1) * c by rw [Nat.add_mul]; omega]
    exact this
end
theorem cellAt_cell? {w : World} {a : Addr} {v : Value} (hv : w.cell? a = some v) : a.spot = none ∧ a.block < w.heap.size ∧ cellAt w.heap a.block a.off = some v := by
  unfold World.cell? at hv
  unfold cellAt
  split at hv
  · rename_i c x y hb
    split at hv
    · cases hv
    · rename_i hs
      refine ⟨by simpa using hs, ?_, ?_⟩
      · exact (Array.getElem?_eq_some_iff.1 hb).1
      · rw [hb]; exact hv
  · cases hv
theorem choose_list {α : Type} (R : Nat → α → Prop) : ∀ (n : Nat), (∀ i, i < n → ∃ a, R i a) → ∃ l : List α, l.length = n ∧ ∀ (i : Nat) a, l[i]? = some a → R i a
  | 0, _ => ⟨[], rfl, fun i a hi => by simp at hi⟩
  | n + 1, H => by
    obtain ⟨l, hl, hr⟩ := choose_list R n fun i hi => H i (by omega)
    obtain ⟨a, ha⟩ := H n (by omega)
    refine ⟨l ++ [a], by simp [hl], fun i b hi => ?_⟩
    by_cases hlt : i < n
    · rw [List.getElem?_append_left (by omega)] at hi
      exact hr i b hi
    · rw [List.getElem?_append_right (by omega)] at hi
      have : i - l.length = 0 := by
        have := (List.getElem?_eq_some_iff.1 hi).1
        simp at this; omega
      rw [this] at hi
      simp at hi; subst hi
      rw [show i = n by omega]; exact ha
section
variable {H : Type} {enc : TypeId × Value → H} {P : Program} {w : World}
def Opens (enc : TypeId × Value → H) (P : Program) (w : World) (n : Nat) (t : TypeId) {α : Type} (E : α → List Tree) (ok : α → Prop) : Prop :=
  ∀ cs x, DataW.trod enc P w 0 (fun _ => true) true n t cs = some x → ∃ a, ok a ∧ RTL w.heap (fun b => b < w.heap.size) (E a) cs
theorem opens_int {n : Nat} {t : TypeId} {k : IntKind} (ht : P.underlying t = some (.int k)) : Opens enc P w n t (fun z : Int => [.sc (.int k z)]) (fun z => (Lit.int k z).wf = true) := by
  intro cs x hx
  obtain ⟨z, rfl, _, hz⟩ := DataW.trod_int ht hx
  exact ⟨z, hz, by simp [RTL, RT]⟩
theorem opens_string {n : Nat} {t : TypeId} (ht : P.underlying t = some .string) : Opens enc P w n t (fun s : ByteArray => [.sc (.string s)]) (fun s => s.size ≤ maxLen) := by
  intro cs x hx
  obtain ⟨z, rfl, _, hz⟩ := DataW.trod_string ht hx
  exact ⟨z, hz, by simp [RTL, RT]⟩
def slE {α : Type} (E : α → List Tree) : Option (List α × Nat) → List Tree
  | none => [.sc (.slice none 0 0)]
  | some (l, c) => [.row (l.flatMap E) l.length (some c)]
theorem Opens.map {n : Nat} {t : TypeId} {α β : Type} {E : α → List Tree} {ok : α → Prop} {F : β → List Tree} {ok' : β → Prop} (h : Opens enc P w n t E ok) (g : α → β) (hg : ∀ a, ok a → F (g a) = E a) (hk : ∀ a, ok a → ok' (g a)) :
    Opens enc P w n t F ok' := by
  intro cs x hx
  obtain ⟨a, ha, ra⟩ := h cs x hx
  exact ⟨g a, hk a ha, by rw [hg a ha]; exact ra⟩
theorem Opens.slice {t e : TypeId} {r : Reach} {b0 : Nat} {v : Value} {d : DataW H} {ps : List MemPlace} {α : Type} {E : α → Tree} {ok : α → Prop} (ht : P.underlying t = some (.slice e))
    (hval : Value.okWide P w r b0 t v) (hd : DataW.Trod enc P w 0 (fun _ => true) true t v d ps) (h : ∀ n, Opens enc P w n t (fun a => [E a]) ok) :
    ∃ a, ok a ∧ RT w.heap (fun b => b < w.heap.size) (E a) v := by
  obtain ⟨a, len, cap, rfl⟩ := okWide_slice ht hval
  obtain ⟨n, hn⟩ := hd
  obtain ⟨x, hx, rx⟩ := h n _ _ hn
  refine ⟨x, hx, ?_⟩
  simp only [Value.cells, RTL] at rx
  obtain ⟨y, ys, e1, r, rfl⟩ := rx
  simp at e1
  rw [e1]; exact r
theorem Opens.one {t e : TypeId} {r : Reach} {b0 : Nat} {v : Value} {d : DataW H} {ps : List MemPlace} {α : Type} {E : α → List Tree} {ok : α → Prop} (ht : P.underlying t = some (.slice e))
    (hval : Value.okWide P w r b0 t v) (hd : DataW.Trod enc P w 0 (fun _ => true) true t v d ps) (h : ∀ n, Opens enc P w n t E ok) :
    ∃ a, ok a ∧ RTL w.heap (fun b => b < w.heap.size) (E a) [v] := by
  obtain ⟨a, len, cap, rfl⟩ := okWide_slice ht hval
  obtain ⟨n, hn⟩ := hd
  obtain ⟨x, hx, rx⟩ := h n _ _ hn
  exact ⟨x, hx, by simpa [Value.cells] using rx⟩
theorem Opens.struct {t : TypeId} {fs : Array Field} {r : Reach} {b0 : Nat} {v : Value} {d : DataW H} {ps : List MemPlace} {α : Type} {E : α → List Tree} {ok : α → Prop} (ht : P.underlying t = some (.struct fs))
    (hval : Value.okWide P w r b0 t v) (hd : DataW.Trod enc P w 0 (fun _ => true) true t v d ps) (h : ∀ n, Opens enc P w n t E ok) :
    ∃ a, ok a ∧ RT w.heap (fun b => b < w.heap.size) (.agg (E a)) v := by
  obtain ⟨cs, rfl, hs⟩ := okWide_struct ht hval
  obtain ⟨n, hn⟩ := hd
  obtain ⟨x, hx, rx⟩ := h n _ _ hn
  refine ⟨x, hx, ?_⟩
  simp only [RT]
  exact ⟨cs.toList, by simp, by simpa [Value.cells] using rx⟩
end
end Go.Proofs.Ytodgdmhifbnofaa.AM
end
section
set_option linter.unusedSimpArgs false
set_option linter.unusedVariables false
set_option linter.unusedVariables false
set_option linter.unusedSimpArgs false
namespace Go.Proofs.Ytodgdmhifbnofaa.AM
def IsSl {α : Type} (E : α → List Tree) (l : List α) (v : V) : Prop := (l = [] ∧ v = nilSl) ∨ ∃ cap, v = .tr (.row (l.flatMap E) l.length cap)
section
variable {α : Type} {E : α → List Tree} {c : Nat} {l : List α} {v : V} {σ : Store}
theorem flat_len (hE : ∀ a, (E a).length = c) : ∀ (l : List α), (l.flatMap E).length = l.length * c
  | [] => by simp
  | a :: l => by
    rw [List.flatMap_cons, List.length_append, hE, flat_len hE l, List.length_cons, Nat.add_mul]
    omega
theorem flat_drop (hE : ∀ a, (E a).length = c) : ∀ (l : List α) (n : Nat), (l.flatMap E).drop (n * c) = (l.drop n).flatMap E
  | l, 0 => by simp
  | [], n + 1 => by simp
  | a :: l, n + 1 => by
    rw [List.flatMap_cons, List.drop_succ_cons, ← flat_drop hE l n, show (n + 1) * c = (E a).length + n * c by rw [hE, Nat.add_mul]; omega, ← List.drop_drop, List.drop_left]
theorem flat_take (hE : ∀ a, (E a).length = c) : ∀ (l : List α) (n : Nat), (l.flatMap E).take (n * c) = (l.take n).flatMap E
  | l, 0 => by simp
  | [], n + 1 => by simp
  | a :: l, n + 1 => by
    rw [List.flatMap_cons, List.take_succ_cons, List.flatMap_cons, ← flat_take hE l n, show (n + 1) * c = (E a).length + n * c by rw [hE, Nat.add_mul]; omega, List.take_append]
    rw [List.take_of_length_le (by omega)]
    congr 2
    omega
theorem flat_at (hE : ∀ a, (E a).length = c) {i : Nat} {a : α} (h : l[i]? = some a) : ((l.flatMap E).drop (i * c)).take c = E a := by
  have hi := (List.getElem?_eq_some_iff.1 h).1
  rw [flat_drop hE, List.drop_eq_getElem_cons hi, List.flatMap_cons]
  have : l[i] = a := (List.getElem?_eq_some_iff.1 h).2
  rw [this, ← hE a, List.take_left]
theorem slice_flat (hE : ∀ a, (E a).length = c) {i o s : Nat} {a : α} (h : l[i]? = some a) (hs : o + s ≤ c) : slice? (l.flatMap E) (i * c + o) s = some (((E a).drop o).take s) := by
  have e : ((l.flatMap E).drop (i * c + o)).take s = ((E a).drop o).take s := by
    rw [← flat_at hE h, List.drop_take, List.take_take, List.drop_drop]
    congr 1
    omega
  unfold slice?
  simp only [e]
  rw [if_pos]
  rw [List.length_take, List.length_drop, hE]
  omega
theorem isSl_len (h : IsSl E l v) : opLen 1 v σ = some (.tr (.sc (.int .i64 l.length))) := by
  rcases h with ⟨rfl, rfl⟩ | ⟨cap, rfl⟩ <;> rfl
theorem asIdx_nat (k : IntKind) (n : Nat) : asIdx? (.tr (.sc (.int k (n : Int)))) = some n := by
  show (if 0 ≤ (n : Int) then some (n : Int).toNat else none) = some n
  rw [if_pos (by omega)]
  congr 1
theorem isSl_iaddr (h : IsSl E l v) (hE : ∀ a, (E a).length = c) (hc : 0 < c) {k : IntKind} {i : Nat} {a : α} (hi : l[i]? = some a) :
    opIaddr c v (.tr (.sc (.int k (i : Int)))) σ = some (.tr (.rptr (l.flatMap E) (i * c))) := by
  have hlt := (List.getElem?_eq_some_iff.1 hi).1
  rcases h with ⟨rfl, rfl⟩ | ⟨cap, rfl⟩
  · simp at hi
  · unfold opIaddr
    rw [asIdx_nat]
    simp only
    have hne : (l.flatMap E).isEmpty = false := by
      have := flat_len hE l
      cases hf : l.flatMap E with
      | nil =>
        rw [hf, List.length_nil] at this
        have h1 : 0 < l.length * c := Nat.mul_pos (by omega) hc
        omega
      | cons x y => rfl
    rw [if_pos ⟨hlt, hne⟩]
theorem rptr_load (hE : ∀ a, (E a).length = c) {i o s : Nat} {agg : Bool} {a : α} (hi : l[i]? = some a) (hs : o + s ≤ c) : opLoad s agg (.tr (.rptr (l.flatMap E) (i * c + o))) σ = ofCells agg ((((E a).drop o).take s).map .tr) := by
  simp only [opLoad, slice_flat hE hi hs]
theorem rptr_load0 (hE : ∀ a, (E a).length = c) {i s : Nat} {agg : Bool} {a : α} (hi : l[i]? = some a) (hs : s ≤ c) : opLoad s agg (.tr (.rptr (l.flatMap E) (i * c))) σ = ofCells agg (((E a).take s).map .tr) := by
  have := rptr_load (σ := σ) (agg := agg) hE (o := 0) (s := s) hi (by omega)
  simpa using this
theorem isSl_cut (h : IsSl E l v) (hE : ∀ a, (E a).length = c) {k k' : IntKind} {lo hi : Nat} (h1 : lo ≤ hi) (h2 : hi ≤ l.length) :
    ∃ v', opSlice c v (some (.tr (.sc (.int k (lo : Int))))) (some (.tr (.sc (.int k' (hi : Int))))) none σ = some v' ∧ IsSl E ((l.take hi).drop lo) v' := by
  rcases h with ⟨rfl, rfl⟩ | ⟨cap, rfl⟩
  · have h3 : hi = 0 := by simpa using h2
    subst h3
    have h4 : lo = 0 := by omega
    subst h4
    exact ⟨nilSl, by rfl, .inl ⟨by simp, rfl⟩⟩
  · refine ⟨_, ?_, .inr ⟨cutCap cap none lo, rfl⟩⟩
    unfold opSlice
    simp only [optIdx, asIdx_nat, Option.isSome_none, Bool.false_and, Bool.false_eq_true, if_false, Option.getD_some, Option.getD_none]
    rw [if_pos ⟨h1, h2, Nat.le_refl _, .inl h2, flat_len hE l⟩]
    congr 3
    · rw [flat_drop hE, flat_take hE, List.drop_take]
    · rw [List.length_drop, List.length_take]; omega
theorem isSl_cut_hi (h : IsSl E l v) (hE : ∀ a, (E a).length = c) {k' : IntKind} {hi : Nat} (h2 : hi ≤ l.length) :
    ∃ v', opSlice c v none (some (.tr (.sc (.int k' (hi : Int))))) none σ = some v' ∧ IsSl E (l.take hi) v' := by
  obtain ⟨v', h3, h4⟩ := isSl_cut (σ := σ) h hE (k := .i64) (k' := k') (lo := 0) (Nat.zero_le _) h2
  refine ⟨v', ?_, by simpa using h4⟩
  rw [← h3]
  unfold opSlice
  simp only [optIdx, asIdx_nat, Option.getD_some, Option.getD_none]
end
def byE (b : UInt8) : List Tree := [.sc (.int .u8 (b.toNat : Int))]
theorem byE_len (b : UInt8) : (byE b).length = 1 := rfl
theorem byE_bytes : ∀ (l : List UInt8), bytesOf? ((l.flatMap byE).map .tr) = some l
  | [] => rfl
  | b :: l => by
    have hb := b.toNat_lt
    simp only [List.flatMap_cons, byE, List.cons_append, List.nil_append, List.map_cons, bytesOf?]
    rw [if_pos ⟨by omega, by omega⟩]
    have h := byE_bytes l
    rw [h]
    simp
section
variable {H : Type} {enc : TypeId × Value → H} {P : Program} {w : World}
end
end Go.Proofs.Ytodgdmhifbnofaa.AM
end
section
set_option linter.unusedSimpArgs false
set_option linter.unusedVariables false
set_option linter.unusedVariables false
set_option linter.unusedSimpArgs false
namespace Go.Proofs.Ytodgdmhifbnofaa.AM
def Wp (T : FTab) (c : HCode) (st : St) (Q : Out → St → Prop) : Prop := ∃ o s, Ex T c st o s ∧ Q o s
def okP (o : Option St) (K : St → Prop) : Prop := ∃ s, o = some s ∧ K s
theorem okP_some {s : St} {K : St → Prop} : okP (some s) K ↔ K s := by
  constructor
  · rintro ⟨_, h, k⟩; cases h; exact k
  · exact fun k => ⟨s, rfl, k⟩
theorem okP_mono {o : Option St} {K K' : St → Prop} (h : okP o K) (hk : ∀ s, K s → K' s) : okP o K' := by
  obtain ⟨s, e, k⟩ := h
  exact ⟨s, e, hk s k⟩
def thenN (K : St → Prop) (Q : Out → St → Prop) : Out → St → Prop
  | .normal, s => K s
  | .exit i, s => Q (.exit i) s
  | .ret, s => Q .ret s
def blk (i : Nat) (Q : Out → St → Prop) : Out → St → Prop
  | .normal, s => Q .normal s
  | .exit j, s => if j = i then Q .normal s else Q (.exit j) s
  | .ret, s => Q .ret s
theorem thenN_n {K : St → Prop} {Q : Out → St → Prop} {s : St} : thenN K Q .normal s = K s := rfl
theorem thenN_e {K : St → Prop} {Q : Out → St → Prop} {s : St} {i : Nat} : thenN K Q (.exit i) s = Q (.exit i) s := rfl
theorem thenN_r {K : St → Prop} {Q : Out → St → Prop} {s : St} : thenN K Q .ret s = Q .ret s := rfl
theorem blk_n {Q : Out → St → Prop} {s : St} {i : Nat} : blk i Q .normal s = Q .normal s := rfl
theorem blk_r {Q : Out → St → Prop} {s : St} {i : Nat} : blk i Q .ret s = Q .ret s := rfl
theorem blk_e {Q : Out → St → Prop} {s : St} {i : Nat} : blk i Q (.exit i) s = Q .normal s := if_pos rfl
theorem blk_o {Q : Out → St → Prop} {s : St} {i j : Nat} (h : j ≠ i) : blk i Q (.exit j) s = Q (.exit j) s := if_neg h
variable {T : FTab} {st : St} {Q Q' : Out → St → Prop} {a b : HCode}
theorem Wp.mono (h : Wp T a st Q) (hq : ∀ o s, Q o s → Q' o s) : Wp T a st Q' := by
  obtain ⟨o, s, e, q⟩ := h
  exact ⟨o, s, e, hq o s q⟩
theorem wp_skip (h : Q .normal st) : Wp T .skip st Q := ⟨_, _, ex_skip, h⟩
theorem wp_ret (h : Q .ret st) : Wp T .ret st Q := ⟨_, _, ex_ret, h⟩
theorem wp_exit {i : Nat} (h : Q (.exit i) st) : Wp T (.exit i) st Q := ⟨_, _, ex_exit i, h⟩
theorem wp_seq (h : Wp T a st (thenN (fun s => Wp T b s Q) Q)) : Wp T (.seq a b) st Q := by
  obtain ⟨o, s, e, q⟩ := h
  cases o with
  | normal =>
    obtain ⟨o', s', e', q'⟩ := q
    exact ⟨o', s', ex_seq e e', q'⟩
  | exit i => exact ⟨_, _, ex_stop e (by simp), q⟩
  | ret => exact ⟨_, _, ex_stop e (by simp), q⟩
theorem wp_region {ops : List HOp} (m : Nat) (h : okP (opsRun (callA T m) ops { st with loc := [] }) (Q .normal)) : Wp T (.region ops none) st Q := by
  obtain ⟨s, e, q⟩ := h
  exact ⟨_, _, ex_region ⟨m, e⟩, q⟩
theorem wp_cond {x : HO} (v : Bool) (hx : st.get x = some (.tr (.sc (.bool v)))) (ht : v = true → Wp T a st Q) (hf : v = false → Wp T b st Q) : Wp T (.cond x a b) st Q := by
  cases v with
  | true => obtain ⟨o, s, e, q⟩ := ht rfl; exact ⟨o, s, ex_true hx e, q⟩
  | false => obtain ⟨o, s, e, q⟩ := hf rfl; exact ⟨o, s, ex_false hx e, q⟩
theorem wp_block {i : Nat} (h : Wp T a st (blk i Q)) : Wp T (.block i a) st Q := by
  obtain ⟨o, s, e, q⟩ := h
  cases o with
  | normal => exact ⟨_, _, ex_block e, q⟩
  | ret => exact ⟨_, _, ex_block_ret e, q⟩
  | exit j =>
    by_cases hj : j = i
    · subst hj
      rw [blk_e] at q
      exact ⟨_, _, ex_block_exit e, q⟩
    · rw [blk_o hj] at q
      obtain ⟨m, e⟩ := e
      exact ⟨.exit j, s, ⟨m + 1, by rw [exec]; simp only [e, if_neg hj]⟩, q⟩
theorem wp_loop (I : Nat → St → Prop) (hr : ∀ n s, I n s → Wp T a s (thenN (fun s' => ∃ k, k < n ∧ I k s') Q)) : ∀ n s, I n s → Wp T (.loop a) s Q := by
  intro n
  induction n using Nat.strongRecOn with
  | ind n ih =>
    intro s hs
    obtain ⟨o, s', e, q⟩ := hr n s hs
    cases o with
    | normal =>
      obtain ⟨k, hk, hI⟩ := q
      obtain ⟨o', s2, e', q'⟩ := ih k hk s' hI
      exact ⟨o', s2, ex_loop e e', q'⟩
    | exit i => exact ⟨_, _, ex_loop_out e (by simp), q⟩
    | ret => exact ⟨_, _, ex_loop_out e (by simp), q⟩
end Go.Proofs.Ytodgdmhifbnofaa.AM
end
section
set_option linter.unusedSimpArgs false
set_option linter.unusedVariables false
set_option linter.unusedVariables false
set_option linter.unusedSimpArgs false
namespace Go.Proofs.Ytodgdmhifbnofaa.AM
open Classical in
noncomputable def callL (T : FTab) : CallA := fun f vs σ => if h : ∃ r, ∃ m, callA T m f vs σ = some r then some (Classical.choose h) else none
variable {T : FTab}
theorem callL_some {f : FuncId} {vs : List V} {σ : Store} {r : V × Store} : callL T f vs σ = some r ↔ ∃ m, callA T m f vs σ = some r := by
  unfold callL
  constructor
  · intro h
    split at h
    · rename_i hx
      cases h
      exact Classical.choose_spec hx
    · cases h
  · rintro ⟨m, h⟩
    have hx : ∃ r, ∃ m, callA T m f vs σ = some r := ⟨r, m, h⟩
    rw [dif_pos hx]
    obtain ⟨m', h'⟩ := Classical.choose_spec hx
    have h1 := callA_mono T m (max m m') (Nat.le_max_left ..) _ _ _ _ h
    have h2 := callA_mono T m' (max m m') (Nat.le_max_right ..) _ _ _ _ h'
    rw [h1] at h2
    exact h2.symm
theorem cl_iff {f : FuncId} {vs : List V} {σ σ' : Store} {v : V} : Cl T f vs σ v σ' ↔ callL T f vs σ = some (v, σ') := callL_some.symm
theorem callA_le_L (m : Nat) : CallLe (callA T m) (callL T) := fun f vs σ r h => callL_some.2 ⟨m, h⟩
theorem opA_fin {k : HK} {st : St} {r : V × Store} (e : opA (callL T) k st = some r) : ∃ m, opA (callA T m) k st = some r := by
  cases k with
  | callf f args =>
    simp only [opA, o_callf] at e ⊢
    split at e
    · rename_i h
      obtain ⟨m, hm⟩ := callL_some.1 e
      exact ⟨m, by simp only [hm]⟩
    · cases e
  | callv f args =>
    simp only [opA, o_callv] at e ⊢
    unfold bind1 at e ⊢
    split at e
    · rename_i hf
      split at e
      · rename_i ha
        unfold callV at e ⊢
        simp only at e ⊢
        split at e
        · obtain ⟨m, hm⟩ := callL_some.1 e
          exact ⟨m, by simp only [hm]⟩
        · obtain ⟨m, hm⟩ := callL_some.1 e
          exact ⟨m, by simp only [hm]⟩
        · cases e
      · cases e
    · cases e
  | _ => exact ⟨0, e⟩
theorem opStep_fin {o : HOp} {st st' : St} (e : opStep (callL T) o st = some st') : ∃ m, opStep (callA T m) o st = some st' := by
  unfold opStep at e ⊢
  cases hg : guardA st o.guard with
  | none => rw [hg] at e; cases e
  | some b =>
    simp only [hg] at e ⊢
    cases b with
    | true =>
      simp only at e ⊢
      split at e
      · rename_i v σ h
        obtain ⟨m, hm⟩ := opA_fin h
        exact ⟨m, by simp only [hm]; exact e⟩
      · cases e
    | false => exact ⟨0, e⟩
theorem opsRun_fin : ∀ {ops : List HOp} {st st' : St}, opsRun (callL T) ops st = some st' → ∃ m, opsRun (callA T m) ops st = some st'
  | [], st, st', e => ⟨0, e⟩
  | o :: r, st, st', e => by
    simp only [opsRun] at e
    split at e
    · rename_i s h
      obtain ⟨m, hm⟩ := opStep_fin h
      obtain ⟨m', hm'⟩ := opsRun_fin e
      refine ⟨max m m', ?_⟩
      simp only [opsRun, opStep_le (callA_mono T _ _ (Nat.le_max_left m m')) hm]
      exact opsRun_le (callA_mono T _ _ (Nat.le_max_right m m')) hm'
    · cases e
theorem quiet_fin {f : FuncId} {vs : List V} {σ : Store} {r : V × Store} (e : quietCall (callL T) f vs σ = some r) : ∃ m, quietCall (callA T m) f vs σ = some r := by
  unfold quietCall at e ⊢
  split at e
  · cases e
  · rename_i hs
    split at e
    · cases e
    · rename_i h
      obtain ⟨m, hm⟩ := callL_some.1 h
      exact ⟨m, by simp only [hm]; exact e⟩
theorem opAq_fin {k : HK} {st : St} {r : V × Store} (e : opA (quietCall (callL T)) k st = some r) : ∃ m, opA (quietCall (callA T m)) k st = some r := by
  cases k with
  | callf f args =>
    simp only [opA, o_callf] at e ⊢
    split at e
    · rename_i h
      obtain ⟨m, hm⟩ := quiet_fin e
      exact ⟨m, by simp only [hm]⟩
    · cases e
  | callv f args =>
    simp only [opA, o_callv] at e ⊢
    unfold bind1 at e ⊢
    split at e
    · rename_i hf
      split at e
      · rename_i ha
        unfold callV at e ⊢
        simp only at e ⊢
        split at e
        · obtain ⟨m, hm⟩ := quiet_fin e
          exact ⟨m, by simp only [hm]⟩
        · obtain ⟨m, hm⟩ := quiet_fin e
          exact ⟨m, by simp only [hm]⟩
        · cases e
      · cases e
    · cases e
  | _ => exact ⟨0, e⟩
theorem opStepD_fin {k : Nat} {ns : List Nat} {o : HOp} {st st' : St} (e : opStepD (callL T) k ns o st = some st') : ∃ m, opStepD (callA T m) k ns o st = some st' := by
  unfold opStepD at e ⊢
  cases hg : guardA (st.only ns) o.guard with
  | none => rw [hg] at e; cases e
  | some b =>
    simp only [hg] at e ⊢
    cases b with
    | true =>
      simp only at e ⊢
      split at e
      · rename_i v σ h
        have : ∃ m, opA (if Nat.beq k 1 = true then quietCall (callA T m) else callA T m) o.k (st.only ns) = some (v, σ) := by
          cases hk : Nat.beq k 1 with
          | true =>
            rw [hk, if_pos rfl] at h
            simp only [if_true]
            exact opAq_fin h
          | false =>
            rw [hk, if_neg (by simp)] at h
            simp only [Bool.false_eq_true, if_false]
            exact opA_fin h
        obtain ⟨m, hm⟩ := this
        exact ⟨m, by simp only [hm]; exact e⟩
      · cases e
    | false => exact ⟨0, e⟩
theorem pendOk_fin {σ : Store} {p : Pend} (e : pendOk (callL T) σ p = true) : ∃ m, pendOk (callA T m) σ p = true := by
  unfold pendOk at e ⊢
  split at e
  · rename_i v s h
    obtain ⟨m, hm⟩ := opA_fin h
    exact ⟨m, by simp only [hm]; exact e⟩
  · cases e
theorem pendAll_fin {i : Nat} {σ : Store} : ∀ {ps : List Pend}, pendAll (callL T) i σ ps = true → ∃ m, pendAll (callA T m) i σ ps = true
  | [], e => ⟨0, e⟩
  | p :: ps, e => by
    have e' : ((Nat.blt p.h i || pendOk (callL T) σ p) && pendAll (callL T) i σ ps) = true := e
    simp only [Bool.and_eq_true] at e'
    obtain ⟨m, hm⟩ := pendAll_fin e'.2
    have : ∃ m', (Nat.blt p.h i || pendOk (callA T m') σ p) = true := by
      cases hb : Nat.blt p.h i with
      | true => exact ⟨0, rfl⟩
      | false =>
        rw [hb, Bool.false_or] at e'
        obtain ⟨m', hm'⟩ := pendOk_fin e'.1
        exact ⟨m', by simpa using hm'⟩
    obtain ⟨m', hm'⟩ := this
    refine ⟨max m m', ?_⟩
    show ((Nat.blt p.h i || pendOk (callA T (max m m')) σ p) && pendAll (callA T (max m m')) i σ ps) = true
    rw [Bool.and_eq_true]
    refine ⟨?_, pendAll_le (callA_mono T _ _ (Nat.le_max_left m m')) hm⟩
    cases hb : Nat.blt p.h i with
    | true => rfl
    | false =>
      rw [hb, Bool.false_or] at hm'
      rw [Bool.false_or]
      exact pendOk_le (callA_mono T _ _ (Nat.le_max_right m m')) hm'
theorem opsRunD_fin : ∀ {is : List (Nat × List Nat)} {ops : List HOp} {i : Nat} {ps : List Pend} {st st' : St}, opsRunD (callL T) i ps is ops st = some st' → ∃ m, opsRunD (callA T m) i ps is ops st = some st'
  | [], [], i, ps, st, st', e => by
    simp only [opsRunD] at e ⊢
    split at e
    · rename_i h
      obtain ⟨m, hm⟩ := pendAll_fin h
      exact ⟨m, by rw [if_pos hm]; exact e⟩
    · cases e
  | (k, ns) :: is, o :: r, i, ps, st, st', e => by
    simp only [opsRunD] at e
    split at e
    · cases e
    · rename_i h
      have hp : ∃ m, ¬ (Nat.beq k 2 && !pendAll (callA T m) i st.σ ps) = true := by
        cases hk : Nat.beq k 2 with
        | false => exact ⟨0, by simp⟩
        | true =>
          rw [hk, Bool.true_and] at h
          have h1 : pendAll (callL T) i st.σ ps = true := by simpa using h
          obtain ⟨m, hm⟩ := pendAll_fin h1
          exact ⟨m, by simp [hm]⟩
      obtain ⟨m0, h0⟩ := hp
      split at e
      · rename_i s hs
        obtain ⟨m1, h1⟩ := opStepD_fin hs
        rw [pendAdd_le (callA_le_L m1) h1] at e
        obtain ⟨m2, h2⟩ := opsRunD_fin e
        refine ⟨max (max m0 m1) m2, ?_⟩
        have l0 : m0 ≤ max (max m0 m1) m2 := by omega
        have l1 : m1 ≤ max (max m0 m1) m2 := by omega
        have l2 : m2 ≤ max (max m0 m1) m2 := by omega
        simp only [opsRunD]
        have h0' : ¬ (Nat.beq k 2 && !pendAll (callA T (max (max m0 m1) m2)) i st.σ ps) = true := by
          cases hk : Nat.beq k 2 with
          | false => simp
          | true =>
            rw [hk, Bool.true_and] at h0
            have h1 : pendAll (callA T m0) i st.σ ps = true := by simpa using h0
            rw [pendAll_le (callA_mono T _ _ l0) h1]
            simp
        rw [if_neg h0', opStepD_le (callA_mono T _ _ l1) h1]
        simp only
        rw [pendAdd_le (callA_mono T _ _ l1) h1]
        exact opsRunD_le (callA_mono T _ _ l2) h2
      · cases e
  | [], _ :: _, _, _, _, _, e => by simp [opsRunD] at e
  | _ :: _, [], _, _, _, _, e => by simp [opsRunD] at e
theorem regionRun_fin {ops : List HOp} {dr : Option (List (Nat × List Nat))} {st st' : St} (e : regionRun (callL T) ops dr st = some st') : ∃ m, regionRun (callA T m) ops dr st = some st' := by
  unfold regionRun at e ⊢
  cases dr with
  | none => exact opsRun_fin e
  | some is => exact opsRunD_fin e
def wpc (T : FTab) : HCode → St → (Out → St → Prop) → Prop
  | .skip, st, Q => Q .normal st
  | .region ops dr, st, Q => okP (regionRun (callL T) ops dr st) (Q .normal)
  | .seq a b, st, Q => wpc T a st (thenN (fun s => wpc T b s Q) Q)
  | .cond x a b, st, Q => ∃ v, st.get x = some (.tr (.sc (.bool v))) ∧ (v = true → wpc T a st Q) ∧ (v = false → wpc T b st Q)
  | .block i b, st, Q => wpc T b st (blk i Q)
  | .loop b, st, Q => Wp T (.loop b) st Q
  | .exit i, st, Q => Q (.exit i) st
  | .ret, st, Q => Q .ret st
  | .bad, _, _ => False
theorem wpc_ok : ∀ (c : HCode) (st : St) (Q : Out → St → Prop), wpc T c st Q → Wp T c st Q
  | .skip, st, Q, h => wp_skip h
  | .region ops dr, st, Q, h => by
    obtain ⟨s, e, q⟩ := h
    obtain ⟨m, e⟩ := regionRun_fin e
    exact ⟨.normal, s, ⟨m + 1, by rw [exec]; simp only [e]⟩, q⟩
  | .seq a b, st, Q, h => by
    refine wp_seq ((wpc_ok a st _ h).mono fun o s hq => ?_)
    cases o with
    | normal => exact wpc_ok b s Q hq
    | exit i => exact hq
    | ret => exact hq
  | .cond x a b, st, Q, ⟨v, hx, ht, hf⟩ => wp_cond v hx (fun e => wpc_ok a st Q (ht e)) (fun e => wpc_ok b st Q (hf e))
  | .block i b, st, Q, h => wp_block (wpc_ok b st _ h)
  | .loop b, st, Q, h => h
  | .exit i, st, Q, h => wp_exit h
  | .ret, st, Q, h => wp_ret h
  | .bad, st, Q, h => h.elim
theorem wpc_loop {a : HCode} {Q : Out → St → Prop} (I : Nat → St → Prop) (n : Nat) (s : St) (h0 : I n s) (hr : ∀ n s, I n s → wpc T a s (thenN (fun s' => ∃ k, k < n ∧ I k s') Q)) : Wp T (.loop a) s Q :=
  wp_loop I (fun n s hI => wpc_ok _ _ _ (hr n s hI)) n s h0
def giv (rs : List HRes) (R : V → Store → Prop) : Out → St → Prop
  | .normal, s => ∃ v, resultA s rs = some v ∧ R v s.σ
  | .ret, s => ∃ v, resultA s rs = some v ∧ R v s.σ
  | .exit _, _ => False
theorem call_shared {f : FuncId} {fn : HFn} {vs : List V} {σ : Store} {R : V → Store → Prop} (hf : T f = some fn) (hm : fn.mode = .shared) (hl : fn.nargs = vs.length)
    (h : wpc T fn.code ⟨argsEnv vs 0, [], σ⟩ (giv fn.results R)) (hd : fn.dfr = none := by rfl) : ∃ v σ', callL T f vs σ = some (v, σ') ∧ R v σ' := by
  obtain ⟨o, s, e, q⟩ := wpc_ok _ _ _ h
  have key : ∃ v, resultA s fn.results = some v ∧ R v s.σ ∧ (o = .normal ∨ o = .ret) := by
    cases o with
    | normal => obtain ⟨v, h1, h2⟩ := q; exact ⟨v, h1, h2, .inl rfl⟩
    | ret => obtain ⟨v, h1, h2⟩ := q; exact ⟨v, h1, h2, .inr rfl⟩
    | exit i => exact q.elim
  obtain ⟨v, h1, h2, h3⟩ := key
  exact ⟨v, s.σ, cl_iff.1 (cl_of hf hm hl e h3 h1 hd), h2⟩
theorem snapL_tr {n : Nat} {σ : Store} : ∀ (ts : List Tree), snapL (snap σ n) (ts.map .tr) = some ts
  | [] => rfl
  | t :: ts => by
    have h : snap σ n (.tr t) = some t := by cases n <;> simp only [snap]
    simp only [List.map_cons, snapL, h, snapL_tr ts]
theorem dirs_tr : ∀ (ts : List Tree), dirs.dirsL (ts.map .tr) = []
  | [] => rfl
  | t :: ts => by simp only [List.map_cons, dirs.dirsL, dirs, dirs_tr ts, List.nil_append]
theorem call_iso {f : FuncId} {fn : HFn} {ts : List Tree} {R : Tree → Prop} (hf : T f = some fn) (hm : fn.mode = .iso) (hl : fn.nargs = ts.length)
    (h : wpc T fn.code ⟨argsEnv (ts.map .tr) 0, [], []⟩ (giv fn.results fun v σ => ∃ t, snap σ deepN v = some t ∧ R t)) (hd : fn.dfr = none := by rfl) : ∃ t, (∀ σ, callL T f (ts.map .tr) σ = some (.tr t, σ)) ∧ R t := by
  obtain ⟨o, s, e, q⟩ := wpc_ok _ _ _ h
  have key : ∃ v t, resultA s fn.results = some v ∧ snap s.σ deepN v = some t ∧ R t ∧ (o = .normal ∨ o = .ret) := by
    cases o with
    | normal => obtain ⟨v, h1, t, h2, h3⟩ := q; exact ⟨v, t, h1, h2, h3, .inl rfl⟩
    | ret => obtain ⟨v, h1, t, h2, h3⟩ := q; exact ⟨v, t, h1, h2, h3, .inr rfl⟩
    | exit i => exact q.elim
  obtain ⟨v, t, h1, h2, h3, h4⟩ := key
  refine ⟨t, fun σ => ?_, h3⟩
  obtain ⟨m, e⟩ := e
  refine callL_some.2 ⟨m + 2, ?_⟩
  have hr : runA T (m + 1) fn (ts.map .tr) [] = some (v, s.σ) := by
    rw [runA]
    rcases h4 with rfl | rfl <;> simp only [hd, e, h1]
  have hz : freezeAll σ (ts.map .tr) = some σ := by
    unfold freezeAll
    rw [dirs_tr]
    have hn : ∀ (n : Nat) (S : List Nat), reachN σ n [] S = S := by
      intro n S
      cases n <;> simp [reachN]
    simp only [hn]
    rfl
  rw [callA, hf]
  simp only [hl, List.length_map, if_true, hm, snapL_tr, hr, h2, hz]
  split <;> rfl
end Go.Proofs.Ytodgdmhifbnofaa.AM
end
section
set_option linter.unusedSimpArgs false
set_option linter.unusedVariables false
set_option linter.unusedVariables false
set_option linter.unusedSimpArgs false
namespace Go.Proofs.Ytodgdmhifbnofaa.AM
def sq (T : FTab) (b : HCode) (Q : Out → St → Prop) : Out → St → Prop := thenN (fun s => wpc T b s Q) Q
def okA (r : Option (V × Store)) (d : Option Nat) (inK : Bool) (st : St) (K : St → Prop) : Prop := ∃ v σ, r = some (v, σ) ∧ K ({ st with σ := σ }.set d inK v)
def okR (c : CallA) (r : List HOp) (K : St → Prop) (s : St) : Prop := okP (opsRun c r s) K
def okD (c : CallA) (i : Nat) (is : List (Nat × List Nat)) (r : List HOp) (K : St → Prop) (s : St) : Prop := okP (opsRunD c i [] is r s) K
def okF (f : Bool) (σ : Store) (r : Option (V × Store)) : Option (V × Store) := match r with
  | some (v, σ') => if f && !freshOk σ σ' then none else some (v, σ')
  | none => none
theorem okA_sm {v : V} {σ : Store} {d : Option Nat} {inK : Bool} {st : St} {K : St → Prop} : okA (some (v, σ)) d inK st K ↔ K ({ st with σ := σ }.set d inK v) := by
  simp only [okA, Option.some.injEq, Prod.mk.injEq]
  exact ⟨by rintro ⟨_, _, ⟨rfl, rfl⟩, h⟩; exact h, fun h => ⟨_, _, ⟨rfl, rfl⟩, h⟩⟩
theorem okA_no {d : Option Nat} {inK : Bool} {st : St} {K : St → Prop} : okA none d inK st K ↔ False := by
  simp [okA]
def okG (g : Option V) (want : Bool) (c : CallA) (d : Option Nat) (inK : Bool) (k : HK) (r : List HOp) (K : St → Prop) (st : St) : Prop :=
  match g with
  | some (.tr (.sc (.bool b))) => if b = want then okA (opA c k st) d inK st (okR c r K) else okP (opsRun c r (st.set d inK undefV)) K
  | some (.tr (.tup [])) => okP (opsRun c r (st.set d inK undefV)) K
  | _ => False
def okGD (g : Option V) (want : Bool) (c : CallA) (i n : Nat) (ns : List Nat) (is : List (Nat × List Nat)) (d : Option Nat) (inK : Bool) (k : HK) (r : List HOp) (K : St → Prop) (st : St) : Prop :=
  match g with
  | some (.tr (.sc (.bool b))) => if b = want then okA (okF (Nat.beq n 1) st.σ (opA (if Nat.beq n 1 then quietCall c else c) k (st.only ns))) d inK st (okD c (i + 1) is r K) else okP (opsRunD c (i + 1) [] is r (st.set d inK undefV)) K
  | some (.tr (.tup [])) => okP (opsRunD c (i + 1) [] is r (st.set d inK undefV)) K
  | _ => False
def okC (g : Option V) (T : FTab) (a b : HCode) (st : St) (Q : Out → St → Prop) : Prop :=
  match g with
  | some (.tr (.sc (.bool v))) => if v = true then wpc T a st Q else wpc T b st Q
  | _ => False
section
variable {T : FTab} {c : CallA} {e L : List (Nat × V)} {σ σ' : Store} {st : St} {Q : Out → St → Prop} {K : St → Prop} {a b : HCode} {v : V} {d : Nat} {k : HK} {r : List HOp} {ns : List Nat} {i : Nat} {is : List (Nat × List Nat)}
@[simp] theorem wpc_skip : wpc T .skip st Q ↔ Q .normal st := Iff.rfl
@[simp] theorem wpc_seq : wpc T (.seq a b) st Q ↔ wpc T a st (sq T b Q) := Iff.rfl
@[simp] theorem wpc_block {i : Nat} : wpc T (.block i b) st Q ↔ wpc T b st (blk i Q) := Iff.rfl
@[simp] theorem wpc_exit {i : Nat} : wpc T (.exit i) st Q ↔ Q (.exit i) st := Iff.rfl
@[simp] theorem wpc_ret : wpc T .ret st Q ↔ Q .ret st := Iff.rfl
@[simp] theorem wpc_loop_iff : wpc T (.loop b) st Q ↔ Wp T (.loop b) st Q := Iff.rfl
@[simp] theorem wpc_region {ops : List HOp} : wpc T (.region ops none) ⟨e, L, σ⟩ Q ↔ okP (opsRun (callL T) ops ⟨e, [], σ⟩) (Q .normal) := Iff.rfl
@[simp] theorem wpc_regionD {ops : List HOp} : wpc T (.region ops (some is)) ⟨e, L, σ⟩ Q ↔ okP (opsRunD (callL T) 0 [] is ops ⟨e, [], σ⟩) (Q .normal) := Iff.rfl
theorem wpc_cond {x : HO} : wpc T (.cond x a b) st Q ↔ ∃ v, st.get x = some (.tr (.sc (.bool v))) ∧ (v = true → wpc T a st Q) ∧ (v = false → wpc T b st Q) := Iff.rfl
theorem wpc_if {x : HO} {v : Bool} (h : st.get x = some (.tr (.sc (.bool v)))) : wpc T (.cond x a b) st Q ↔ (if v = true then wpc T a st Q else wpc T b st Q) := by
  rw [wpc_cond]
  constructor
  · rintro ⟨v', h', h1, h2⟩
    rw [h] at h'
    cases h'
    cases v with
    | true => exact h1 rfl
    | false => exact h2 rfl
  · intro h1
    refine ⟨v, h, fun e => ?_, fun e => ?_⟩ <;> subst e <;> simpa using h1
@[simp] theorem sq_n : sq T b Q .normal st ↔ wpc T b st Q := Iff.rfl
@[simp] theorem sq_e {i : Nat} : sq T b Q (.exit i) st ↔ Q (.exit i) st := Iff.rfl
@[simp] theorem sq_r : sq T b Q .ret st ↔ Q .ret st := Iff.rfl
attribute [simp] thenN_n thenN_e thenN_r blk_n blk_r
@[simp] theorem blk_exit {i j : Nat} : blk i Q (.exit j) st ↔ if Nat.beq j i then Q .normal st else Q (.exit j) st := by
  by_cases h : j = i
  · subst h; rw [blk_e]; simp
  · rw [blk_o h, if_neg]
    intro h2
    exact h (Nat.eq_of_beq_eq_true h2)
@[simp] theorem okP_sm : okP (some st) K ↔ K st := okP_some
@[simp] theorem okP_no : okP none K ↔ False := by simp [okP]
@[simp] theorem okR_iff : okR c r K st ↔ okP (opsRun c r st) K := Iff.rfl
@[simp] theorem okD_iff : okD c i is r K st ↔ okP (opsRunD c i [] is r st) K := Iff.rfl
@[simp] theorem ops_nil : okP (opsRun c [] st) K ↔ K st := okP_some
theorem ops_cons {o : HOp} : okP (opsRun c (o :: r) st) K ↔ okP (opStep c o st) (okR c r K) := by
  simp only [opsRun]
  cases h : opStep c o st with
  | none => simp
  | some s => simp
@[simp] theorem ops_step {d : Option Nat} {inK : Bool} : okP (opsRun c (⟨d, inK, k, none⟩ :: r) st) K ↔ okA (opA c k st) d inK st (okR c r K) := by
  rw [ops_cons]
  unfold opStep
  simp only [guardA]
  cases h : opA c k st with
  | none => simp [okA_no]
  | some p => obtain ⟨v, s⟩ := p; simp [okA_sm]
@[simp] theorem ops_okG {d : Option Nat} {inK want : Bool} {x : HO} :
    okP (opsRun c (⟨d, inK, k, some (x, want)⟩ :: r) st) K ↔ okG (st.get x) want c d inK k r K st := by
  rw [ops_cons]
  have key : ∀ g, st.get x = some (.tr (.sc (.bool g))) → (okP (opStep c ⟨d, inK, k, some (x, want)⟩ st) (okR c r K) ↔ okG (st.get x) want c d inK k r K st) := by
    intro b hg
    unfold opStep okG
    simp only [guardA, hg]
    by_cases h : b = want
    · subst h
      simp only [beq_self_eq_true, if_true]
      cases h : opA c k st with
      | none => simp [okA_no]
      | some p => obtain ⟨v, s⟩ := p; simp [okA_sm]
    · have : (b == want) = false := by simpa using h
      simp [this, h]
  cases hg : st.get x with
  | none => simp [opStep, guardA, hg, okG]
  | some v =>
    cases v with
    | tr t =>
      cases t with
      | sc s =>
        cases s with
        | bool b => rw [key b hg, hg]
        | _ => simp [opStep, guardA, hg, okG]
      | tup l => cases l <;> simp [opStep, guardA, hg, okG]
      | _ => simp [opStep, guardA, hg, okG]
    | _ => simp [opStep, guardA, hg, okG]
@[simp] theorem okG_tt {d : Option Nat} {inK : Bool} : okG (some (.tr (.sc (.bool true)))) true c d inK k r K st ↔ okA (opA c k st) d inK st (okR c r K) := by simp [okG]
@[simp] theorem okG_ff {d : Option Nat} {inK : Bool} : okG (some (.tr (.sc (.bool false)))) false c d inK k r K st ↔ okA (opA c k st) d inK st (okR c r K) := by simp [okG]
@[simp] theorem okG_tf {d : Option Nat} {inK : Bool} : okG (some (.tr (.sc (.bool true)))) false c d inK k r K st ↔ okP (opsRun c r (st.set d inK undefV)) K := by simp [okG]
@[simp] theorem okG_ft {d : Option Nat} {inK : Bool} : okG (some (.tr (.sc (.bool false)))) true c d inK k r K st ↔ okP (opsRun c r (st.set d inK undefV)) K := by simp [okG]
@[simp] theorem okG_u {d : Option Nat} {inK want : Bool} : okG (some undefV) want c d inK k r K st ↔ okP (opsRun c r (st.set d inK undefV)) K := by simp [okG, undefV]
@[simp] theorem wpc_okC {x : HO} : wpc T (.cond x a b) st Q ↔ okC (st.get x) T a b st Q := by
  cases h : st.get x with
  | none => simp [wpc, okC, h]
  | some v =>
    unfold okC
    split
    · rename_i b hb
      cases hb
      exact wpc_if h
    · rename_i hn
      simp only [wpc_cond, h, iff_false]
      rintro ⟨b, hb, _⟩
      exact hn b hb
@[simp] theorem okC_t : okC (some (.tr (.sc (.bool true)))) T a b st Q ↔ wpc T a st Q := by simp [okC]
@[simp] theorem okC_f : okC (some (.tr (.sc (.bool false)))) T a b st Q ↔ wpc T b st Q := by simp [okC]
@[simp] theorem okA_env : okA (some (v, σ')) (some d) true ⟨e, L, σ⟩ K ↔ K ⟨put e d v, L, σ'⟩ := by
  simp only [okA, Option.some.injEq, Prod.mk.injEq]
  exact ⟨by rintro ⟨_, _, ⟨rfl, rfl⟩, h⟩; exact h, fun h => ⟨_, _, ⟨rfl, rfl⟩, h⟩⟩
@[simp] theorem okA_loc : okA (some (v, σ')) (some d) false ⟨e, L, σ⟩ K ↔ K ⟨e, (d, v) :: L, σ'⟩ := by
  simp only [okA, Option.some.injEq, Prod.mk.injEq]
  exact ⟨by rintro ⟨_, _, ⟨rfl, rfl⟩, h⟩; exact h, fun h => ⟨_, _, ⟨rfl, rfl⟩, h⟩⟩
@[simp] theorem okA_none {inK : Bool} : okA (some (v, σ')) none inK ⟨e, L, σ⟩ K ↔ K ⟨e, L, σ'⟩ := by
  simp only [okA, Option.some.injEq, Prod.mk.injEq]
  exact ⟨by rintro ⟨_, _, ⟨rfl, rfl⟩, h⟩; exact h, fun h => ⟨_, _, ⟨rfl, rfl⟩, h⟩⟩
@[simp] theorem set_env : St.set ⟨e, L, σ⟩ (some d) true v = ⟨put e d v, L, σ⟩ := rfl
@[simp] theorem set_loc : St.set ⟨e, L, σ⟩ (some d) false v = ⟨e, (d, v) :: L, σ⟩ := rfl
@[simp] theorem opsD_nil : okP (opsRunD c i [] [] [] st) K ↔ K st := by simp [opsRunD, pendAll]
theorem opsD_cons {o : HOp} {n : Nat} (hn : n < 3) : okP (opsRunD c i [] ((n, ns) :: is) (o :: r) st) K ↔ okP (opStepD c n ns o st) (okD c (i + 1) is r K) := by
  have h1 : pendAll c i st.σ [] = true := rfl
  have h2 : pendAdd c n ns o st [] = [] := by
    unfold pendAdd
    split
    · omega
    · rfl
  simp only [opsRunD, h1, h2, Bool.not_true, Bool.and_false, Bool.false_eq_true, if_false]
  cases h : opStepD c n ns o st with
  | none => simp
  | some s => simp
@[simp] theorem opsD_0 {d : Option Nat} {inK : Bool} : okP (opsRunD c i [] ((0, ns) :: is) (⟨d, inK, k, none⟩ :: r) st) K ↔ okA (opA c k (st.only ns)) d inK st (okD c (i + 1) is r K) := by
  rw [opsD_cons (by omega)]
  have hb : Nat.beq 0 1 = false := rfl
  unfold opStepD
  simp only [guardA, hb, Bool.false_and, Bool.false_eq_true, if_false]
  cases h : opA c k (st.only ns) with
  | none => simp [okA_no]
  | some p => obtain ⟨v, s⟩ := p; simp [okA_sm]
@[simp] theorem opsD_2 {d : Option Nat} {inK : Bool} : okP (opsRunD c i [] ((2, ns) :: is) (⟨d, inK, k, none⟩ :: r) st) K ↔ okA (opA c k (st.only ns)) d inK st (okD c (i + 1) is r K) := by
  rw [opsD_cons (by omega)]
  have hb : Nat.beq 2 1 = false := rfl
  unfold opStepD
  simp only [guardA, hb, Bool.false_and, Bool.false_eq_true, if_false]
  cases h : opA c k (st.only ns) with
  | none => simp [okA_no]
  | some p => obtain ⟨v, s⟩ := p; simp [okA_sm]
@[simp] theorem opsD_1 {d : Option Nat} {inK : Bool} : okP (opsRunD c i [] ((1, ns) :: is) (⟨d, inK, k, none⟩ :: r) st) K ↔ okA (okF true st.σ (opA (quietCall c) k (st.only ns))) d inK st (okD c (i + 1) is r K) := by
  rw [opsD_cons (by omega)]
  have hb : Nat.beq 1 1 = true := rfl
  unfold opStepD okF
  simp only [guardA, hb, Bool.true_and, if_true]
  cases h : opA (quietCall c) k (st.only ns) with
  | none => simp [okA_no]
  | some p =>
    obtain ⟨v, s⟩ := p
    cases hf : freshOk st.σ s with
    | true => simp [okA_sm, hf]
    | false => simp [okA_no, hf]
theorem opsD_guard {d : Option Nat} {inK want g : Bool} {x : HO} {n : Nat} (hn : n < 3) (hg : (st.only ns).get x = some (.tr (.sc (.bool g)))) :
    okP (opsRunD c i [] ((n, ns) :: is) (⟨d, inK, k, some (x, want)⟩ :: r) st) K ↔ (if g = want then okA (okF (Nat.beq n 1) st.σ (opA (if Nat.beq n 1 then quietCall c else c) k (st.only ns))) d inK st (okD c (i + 1) is r K) else okP (opsRunD c (i + 1) [] is r (st.set d inK undefV)) K) := by
  rw [opsD_cons hn]
  unfold opStepD okF
  simp only [guardA, hg]
  by_cases h : g = want
  · subst h
    simp only [beq_self_eq_true, if_true]
    cases h : opA (if Nat.beq n 1 = true then quietCall c else c) k (st.only ns) with
    | none => simp [okA_no]
    | some p =>
      obtain ⟨v, s⟩ := p
      cases hf : freshOk st.σ s with
      | true => simp [okA_sm, hf]
      | false => cases hn : Nat.beq n 1 <;> simp [okA_sm, okA_no, hf]
  · have : (g == want) = false := by simpa using h
    simp [this, h]
@[simp] theorem opsD_okG {d : Option Nat} {inK want : Bool} {x : HO} {n : Nat} (hn : n < 3) :
    okP (opsRunD c i [] ((n, ns) :: is) (⟨d, inK, k, some (x, want)⟩ :: r) st) K ↔ okGD ((st.only ns).get x) want c i n ns is d inK k r K st := by
  have key : ∀ g, (st.only ns).get x = some (.tr (.sc (.bool g))) → (okP (opsRunD c i [] ((n, ns) :: is) (⟨d, inK, k, some (x, want)⟩ :: r) st) K ↔ okGD ((st.only ns).get x) want c i n ns is d inK k r K st) := by
    intro b hg
    rw [opsD_guard hn hg, hg]
    rfl
  cases hg : (st.only ns).get x with
  | none => rw [opsD_cons hn]; simp [opStepD, guardA, hg, okGD]
  | some v =>
    cases v with
    | tr t =>
      cases t with
      | sc s =>
        cases s with
        | bool b => rw [key b hg, hg]
        | _ => rw [opsD_cons hn]; simp [opStepD, guardA, hg, okGD]
      | tup l => rw [opsD_cons hn]; cases l <;> simp [opStepD, guardA, hg, okGD]
      | _ => rw [opsD_cons hn]; simp [opStepD, guardA, hg, okGD]
    | _ => rw [opsD_cons hn]; simp [opStepD, guardA, hg, okGD]
@[simp] theorem okGD_0 {d : Option Nat} {inK : Bool} : okGD (some (.tr (.sc (.bool true)))) true c i 0 ns is d inK k r K st ↔ okA (opA c k (st.only ns)) d inK st (okD c (i + 1) is r K) := by
  have hb : Nat.beq 0 1 = false := rfl
  unfold okGD okF
  simp only [hb, Bool.false_and, Bool.false_eq_true, if_false, if_true]
  cases h : opA c k (st.only ns) with
  | none => simp [okA_no]
  | some p => obtain ⟨v, s⟩ := p; simp [okA_sm]
@[simp] theorem okGD_2 {d : Option Nat} {inK : Bool} : okGD (some (.tr (.sc (.bool true)))) true c i 2 ns is d inK k r K st ↔ okA (opA c k (st.only ns)) d inK st (okD c (i + 1) is r K) := by
  have hb : Nat.beq 2 1 = false := rfl
  unfold okGD okF
  simp only [hb, Bool.false_and, Bool.false_eq_true, if_false, if_true]
  cases h : opA c k (st.only ns) with
  | none => simp [okA_no]
  | some p => obtain ⟨v, s⟩ := p; simp [okA_sm]
@[simp] theorem okGD_1 {d : Option Nat} {inK : Bool} : okGD (some (.tr (.sc (.bool true)))) true c i 1 ns is d inK k r K st ↔ okA (okF true st.σ (opA (quietCall c) k (st.only ns))) d inK st (okD c (i + 1) is r K) := by
  have hb : Nat.beq 1 1 = true := rfl
  unfold okGD
  simp only [hb, if_true]
@[simp] theorem okGD_f {d : Option Nat} {inK : Bool} {n : Nat} : okGD (some (.tr (.sc (.bool false)))) true c i n ns is d inK k r K st ↔ okP (opsRunD c (i + 1) [] is r (st.set d inK undefV)) K := by simp [okGD]
@[simp] theorem okGD_u {d : Option Nat} {inK want : Bool} {n : Nat} : okGD (some undefV) want c i n ns is d inK k r K st ↔ okP (opsRunD c (i + 1) [] is r (st.set d inK undefV)) K := by simp [okGD, undefV]
@[simp] theorem okF_same : okF true σ (some (v, σ)) = some (v, σ) := by
  have : freshOk σ σ = true := by
    unfold freshOk obVs
    simp [dirs.dirsL]
  simp [okF, this]
@[simp] theorem okF_false : okF false σ (some (v, σ')) = some (v, σ') := by simp [okF]
theorem lookOnly (k : Nat) : ∀ (ns : List Nat), look (onlyL e ns) k = if memN k ns then look e k else none
  | [] => rfl
  | t :: r => by
    have ih := lookOnly k r
    simp only [onlyL]
    cases h : Nat.beq t k with
    | true =>
      have := Nat.eq_of_beq_eq_true h
      subst this
      cases hl : look e t with
      | none => simp only [ih, memN, h, hl]; simp
      | some v => simp [look, memN]
    | false =>
      have hk : Nat.beq k t = false := by
        cases h2 : Nat.beq k t with
        | false => rfl
        | true => rw [Nat.eq_of_beq_eq_true h2] at h; simp at h
      cases hl : look e t with
      | none => simp only [ih, memN, h, Bool.false_or]
      | some v => simp only [look, hk, ih, memN, h, Bool.false_or, Bool.false_eq_true, if_false]
@[simp] theorem get_loc : St.get ⟨e, L, σ⟩ (.loc d) = look L d := rfl
@[simp] theorem get_env : St.get ⟨e, L, σ⟩ (.env d) = look e d := rfl
@[simp] theorem get_val : St.get st (.val v) = some v := rfl
@[simp] theorem only_loc : St.get (St.only ⟨e, L, σ⟩ ns) (.loc d) = if memN d ns then look L d else none := lookOnly d ns
@[simp] theorem only_env : St.get (St.only ⟨e, L, σ⟩ ns) (.env d) = if memN d ns then look e d else none := lookOnly d ns
@[simp] theorem only_st : (St.only st ns).σ = st.σ := rfl
@[simp] theorem gets_nil : St.gets st [] = some [] := rfl
attribute [simp] St.gets St.getp St.geto
theorem lookPut {k j : Nat} : ∀ {e : List (Nat × V)}, look (put e k v) j = if Nat.beq j k then some v else look e j
  | [] => rfl
  | (k', u) :: r => by
    unfold put
    cases h : Nat.beq k k' with
    | true =>
      simp only [if_true]
      have := Nat.eq_of_beq_eq_true h
      subst this
      unfold look
      cases h2 : Nat.beq j k <;> simp
    | false =>
      simp only [Bool.false_eq_true, if_false]
      unfold look
      rw [lookPut]
      cases h2 : Nat.beq j k' with
      | false => simp
      | true =>
        have := Nat.eq_of_beq_eq_true h2
        subst this
        cases h3 : Nat.beq j k with
        | false => simp
        | true =>
          have := Nat.eq_of_beq_eq_true h3
          subst this
          simp at h
attribute [simp] lookPut
@[simp] theorem look_cons {k j : Nat} : look ((k, v) :: e) j = if Nat.beq j k then some v else look e j := rfl
@[simp] theorem look_nil {j : Nat} : look [] j = none := rfl
attribute [simp] argsEnv memN
@[simp] theorem bind1_sm {β : Type} {f : V → Option β} : bind1 (some v) f = f v := rfl
@[simp] theorem bind1_no {β : Type} {f : V → Option β} : bind1 none f = none := rfl
@[simp] theorem pure1_sm : pure1 σ (some v) = some (v, σ) := rfl
@[simp] theorem pure1_no : pure1 σ none = none := rfl
@[simp] theorem skip1_sm : skip1 (some σ) = some (undefV, σ) := rfl
@[simp] theorem skip1_no : skip1 none = none := rfl
attribute [simp] opA o_mv o_pick o_alloc o_box o_build o_bslice o_load o_ldt o_store o_nilchk o_bin o_eqs o_un o_conv o_mkfn o_mkmap o_mkslice o_faddr o_field o_iaddr o_istr o_lookup o_mupd o_ment o_esto o_delete o_extract o_mkiface o_callf o_callv o_len o_cap o_append o_qappend o_copy o_clear o_minmax o_slicestr o_slice asBool?
attribute [simp] resultA resultsA
@[simp] theorem giv_n {rs : List HRes} {R : V → Store → Prop} : giv rs R .normal st ↔ ∃ v, resultA st rs = some v ∧ R v st.σ := Iff.rfl
@[simp] theorem giv_r {rs : List HRes} {R : V → Store → Prop} : giv rs R .ret st ↔ ∃ v, resultA st rs = some v ∧ R v st.σ := Iff.rfl
attribute [simp] bin_lss bin_gtr bin_leq bin_geq bin_add bin_sub bin_bool bin_str un_not
section
variable (k : IntKind) (x y : Int)
@[simp] theorem bin_eq : opBin .other .eql (.tr (.sc (.int k x))) (.tr (.sc (.int k y))) = some (.tr (.sc (.bool (decide (x = y))))) := by
  rw [bin_eql]
  congr 4
@[simp] theorem bin_neq : opBin .other .neq (.tr (.sc (.int k x))) (.tr (.sc (.int k y))) = some (.tr (.sc (.bool (!decide (x = y))))) := by
  have : (x != y) = !decide (x = y) := rfl
  simp [opBin, isNil, notNil, binSc, binInt, this]
@[simp] theorem bin_mul : opBin .other .mul (.tr (.sc (.int k x))) (.tr (.sc (.int k y))) = some (.tr (.sc (.int k (k.wrap (x * y))))) := by simp [opBin, isNil, notNil, binSc, binInt]
theorem bin_shr {k' : IntKind} (h : 0 ≤ y) : opBin .other .shr (.tr (.sc (.int k x))) (.tr (.sc (.int k' y))) = some (.tr (.sc (.int k (x.fdiv (2 ^ (min y.toNat k.bits)))))) := by
  have : ¬ y < 0 := by omega
  simp [opBin, isNil, notNil, binSc, binShift, this]
@[simp] theorem bin_boolne (x y : Bool) : opBin .bool .neq (.tr (.sc (.bool x))) (.tr (.sc (.bool y))) = some (.tr (.sc (.bool (!(x == y))))) := by simp [opBin, isNil, notNil, binSc]
@[simp] theorem bin_strne (s t : ByteArray) : opBin .other .neq (.tr (.sc (.string s))) (.tr (.sc (.string t))) = some (.tr (.sc (.bool (!bytesEq s.data.toList t.data.toList)))) := by simp [opBin, isNil, notNil, binSc, binStr]
@[simp] theorem conv_int {k' : IntKind} {σ : Store} : opConv (.toInt k) (.tr (.sc (.int k' x))) σ = some (.tr (.sc (.int k (k.wrap x))), σ) := rfl
end
end
end Go.Proofs.Ytodgdmhifbnofaa.AM
end
section
set_option linter.unusedSimpArgs false
set_option linter.unusedVariables false
set_option linter.unusedVariables false
set_option linter.unusedSimpArgs false
namespace Go.Proofs.Ytodgdmhifbnofaa.AM
abbrev nv (k : IntKind) (x : Nat) : V := .tr (.sc (.int k (x : Int)))
abbrev iv (x : Int) : V := .tr (.sc (.int .i64 x))
abbrev bv (b : Bool) : V := .tr (.sc (.bool b))
section
variable {k : IntKind} {l : List Nat} {i x : Nat} {σ : Store} {id n : Nat} {cap : Option Nat}
theorem own_iaddr {g off : Nat} {k' : IntKind} {cs : List V} (hs : σ[id]? = some (.row cs g)) (hi : i < n) : opIaddr 1 (.own id g off n 1 cap) (.tr (.sc (.int k' (i : Int)))) σ = some (.ptr id g (off + i)) := by
  unfold opIaddr
  rw [asIdx_nat]
  simp only [hs, genOf, hi, true_and, Nat.mul_one]
  rw [if_pos trivial]
end
theorem wpc_mono {T : FTab} : ∀ (a : HCode) (s : St) (Q Q' : Out → St → Prop), (∀ o s, Q o s → Q' o s) → wpc T a s Q → wpc T a s Q'
  | .skip, s, Q, Q', h, hw => h _ _ hw
  | .region ops dr, s, Q, Q', h, hw => okP_mono hw (h _)
  | .seq a b, s, Q, Q', h, hw => by
    refine wpc_mono a s _ _ (fun o s' hq => ?_) hw
    cases o with
    | normal => exact wpc_mono b s' Q Q' h hq
    | exit i => exact h _ _ hq
    | ret => exact h _ _ hq
  | .cond x a b, s, Q, Q', h, ⟨v, hx, ht, hf⟩ => ⟨v, hx, fun e => wpc_mono a s Q Q' h (ht e), fun e => wpc_mono b s Q Q' h (hf e)⟩
  | .block i b, s, Q, Q', h, hw => by
    refine wpc_mono b s _ _ (fun o s' hq => ?_) hw
    cases o with
    | normal => exact h _ _ hq
    | ret => exact h _ _ hq
    | exit j =>
      by_cases hj : j = i
      · subst hj
        rw [blk_e] at hq ⊢
        exact h _ _ hq
      · rw [blk_o hj] at hq ⊢
        exact h _ _ hq
  | .loop b, s, Q, Q', h, hw => Wp.mono hw h
  | .exit i, s, Q, Q', h, hw => h _ _ hw
  | .ret, s, Q, Q', h, hw => h _ _ hw
  | .bad, s, Q, Q', h, hw => hw
theorem wpc_up {T : FTab} {a : HCode} {Q : Out → St → Prop} (N : Nat) (I : Nat → St → Prop) {s : St} (h0 : I 0 s) (hr : ∀ i s, I i s → wpc T a s (thenN (fun s' => i < N ∧ I (i + 1) s') Q)) : Wp T (.loop a) s Q := by
  refine wpc_loop (fun n s => ∃ i, n = N - i ∧ I i s) N s ⟨0, rfl, h0⟩ ?_
  rintro n s ⟨i, rfl, hI⟩
  obtain h := hr i s hI
  have key : ∀ o s', thenN (fun s' => i < N ∧ I (i + 1) s') Q o s' → thenN (fun s' => ∃ k, k < N - i ∧ ∃ i, k = N - i ∧ I i s') Q o s' := by
    intro o s' hq
    cases o with
    | normal => exact ⟨N - (i + 1), by have := hq.1; omega, i + 1, rfl, hq.2⟩
    | exit j => exact hq
    | ret => exact hq
  exact wpc_mono a s _ _ key h
section
variable {n : Int}
theorem w64 (h0 : -9223372036854775808 ≤ n) (h : n ≤ 9223372036854775807) : IntKind.i64.wrap n = n := IntWalk.i64_in n ⟨h0, h⟩
@[simp] theorem shr_u64_32 (n : Int) : opBin .other .shr (.tr (.sc (.int .u64 n))) (.tr (.sc (.int .u64 32))) = some (.tr (.sc (.int .u64 (n / 4294967296)))) := by
  rw [bin_shr _ _ _ (by omega)]
  congr 4
  exact Int.fdiv_eq_ediv_of_nonneg _ (by decide)
@[simp] theorem shr_i64_32 (n : Int) : opBin .other .shr (.tr (.sc (.int .i64 n))) (.tr (.sc (.int .u64 32))) = some (.tr (.sc (.int .i64 (n / 4294967296)))) := by
  rw [bin_shr _ _ _ (by omega)]
  congr 4
  exact Int.fdiv_eq_ediv_of_nonneg _ (by decide)
end
attribute [simp] Int.natCast_inj
attribute [simp] opBuild fillV mkAgg allTr
theorem splice_0 (a : V) (r : List V) (s : V) : splice (a :: r) 0 [s] = s :: r := by simp [splice]
theorem splice_1 (a b : V) (r : List V) (s : V) : splice (a :: b :: r) 1 [s] = a :: s :: r := by simp [splice]
@[simp] theorem one_b {b : Bool} : oneV (.tr (.sc (.bool b))) = true := rfl
@[simp] theorem one_i {k : IntKind} {n : Int} : oneV (.tr (.sc (.int k n))) = true := rfl
@[simp] theorem one_s {s : ByteArray} : oneV (.tr (.sc (.string s))) = true := rfl
@[simp] theorem one_l {a : Option Addr} {n c : Nat} : oneV (.tr (.sc (.slice a n c))) = true := rfl
@[simp] theorem one_r {cs : List Tree} {n : Nat} {c : Option Nat} : oneV (.tr (.row cs n c)) = true := rfl
@[simp] theorem one_p {cs : List Tree} {n : Nat} : oneV (.tr (.rptr cs n)) = true := rfl
@[simp] theorem one_o {i g o n s : Nat} {c : Option Nat} : oneV (.own i g o n s c) = true := rfl
@[simp] theorem one_q {i g o : Nat} : oneV (.ptr i g o) = true := rfl
@[simp] theorem one_m {i : Nat} : oneV (.mp i) = true := rfl
@[simp] theorem one_f {t : TypeId} {v : Tree} : oneV (.tr (.iface t v)) = true := rfl
@[simp] theorem cells_agg {cs : List V} : cellsOf (.agg cs) = cs := rfl
@[simp] theorem cells_tr {ts : List Tree} : cellsOf (.tr (.agg ts)) = ts.map .tr := rfl
theorem cells_one {v : V} (h : oneV v = true) : cellsOf v = [v] := by
  cases v with
  | tr t =>
    cases t with
    | sc s => cases s <;> first | rfl | cases h
    | _ => first | rfl | cases h
  | _ => first | rfl | cases h
@[simp] theorem cells_b {b : Bool} : cellsOf (.tr (.sc (.bool b))) = [.tr (.sc (.bool b))] := rfl
@[simp] theorem cells_i {k : IntKind} {n : Int} : cellsOf (.tr (.sc (.int k n))) = [.tr (.sc (.int k n))] := rfl
@[simp] theorem cells_s {s : ByteArray} : cellsOf (.tr (.sc (.string s))) = [.tr (.sc (.string s))] := rfl
@[simp] theorem cells_l {a : Option Addr} {n c : Nat} : cellsOf (.tr (.sc (.slice a n c))) = [.tr (.sc (.slice a n c))] := rfl
@[simp] theorem cells_r {cs : List Tree} {n : Nat} {c : Option Nat} : cellsOf (.tr (.row cs n c)) = [.tr (.row cs n c)] := rfl
@[simp] theorem cells_p {cs : List Tree} {n : Nat} : cellsOf (.tr (.rptr cs n)) = [.tr (.rptr cs n)] := rfl
@[simp] theorem cells_o {i g o n s : Nat} {c : Option Nat} : cellsOf (.own i g o n s c) = [.own i g o n s c] := rfl
@[simp] theorem cells_q {i g o : Nat} : cellsOf (.ptr i g o) = [.ptr i g o] := rfl
@[simp] theorem cells_m {i : Nat} : cellsOf (.mp i) = [.mp i] := rfl
@[simp] theorem cells_f {t : TypeId} {v : Tree} : cellsOf (.tr (.iface t v)) = [.tr (.iface t v)] := rfl
attribute [simp] splice_0 splice_1 snapL ofCells opAlloc
@[simp] theorem snap_tr {σ : Store} {n : Nat} {t : Tree} : snap σ n (.tr t) = some t := by cases n <;> simp only [snap]
@[simp] theorem noNil_row {cs : List Tree} {n : Nat} {c : Option Nat} : opBin .slice .eql (.tr (.row cs n c)) (.tr (.sc (.slice none 0 0))) = some (.tr (.sc (.bool false))) := rfl
@[simp] theorem noNil_own {i g o n s : Nat} {c : Option Nat} : opBin .slice .eql (.own i g o n s c) (.tr (.sc (.slice none 0 0))) = some (.tr (.sc (.bool false))) := rfl
@[simp] theorem isNil_nil : opBin .slice .eql (.tr (.sc (.slice none 0 0))) (.tr (.sc (.slice none 0 0))) = some (.tr (.sc (.bool true))) := rfl
end Go.Proofs.Ytodgdmhifbnofaa.AM
end
section
set_option linter.unusedSimpArgs false
set_option linter.unusedVariables false
set_option linter.unusedVariables false
set_option linter.unusedSimpArgs false
namespace Go.Proofs.Ytodgdmhifbnofaa.AM
def Rw (ts : List Tree) (v : V) : Prop := (ts = [] ∧ v = nilSl) ∨ ∃ cap, v = .tr (.row ts ts.length cap)
section
variable {ts : List Tree} {t : Tree} {v : V} {σ : Store} {id g n i : Nat} {cap : Option Nat}
theorem bs1 (z : Tree) (h : oneV (.tr t) = true) : opBslice false 1 1 [z] [(0, 1, .tr t)] σ = some (.tr (.row [t] 1 (some 1)), σ) := by
  unfold opBslice
  simp [rep, fillV, cells_one h, splice, allTr]
theorem ownT_load (hs : σ[id]? = some (.row (ts.map .tr) g)) (hi : ts[i]? = some t) : opLoad 1 false (.ptr id g i) σ = some (.tr t) := by
  have h1 : obCells σ id g = some (ts.map .tr) := by simp [obCells, hs]
  have hlt := (List.getElem?_eq_some_iff.1 hi).1
  have hx : ts[i] = t := (List.getElem?_eq_some_iff.1 hi).2
  have h2 : slice? (ts.map V.tr) i 1 = some [.tr t] := by
    unfold slice?
    have : ((ts.map V.tr).drop i).take 1 = [.tr t] := by
      rw [List.drop_eq_getElem_cons (by rw [List.length_map]; exact hlt)]
      simp [hx]
    simp only [this]
    rfl
  simp only [opLoad, h1, h2, ofCells]
theorem snapT {off : Nat} {pre post : List Tree} {d : Nat} (hs : σ[id]? = some (.row ((pre ++ ts ++ post).map .tr) g)) (ho : pre.length = off) (hn : n = ts.length) : snap σ (d + 1) (.own id g off n 1 cap) = some (.row ts ts.length cap) := by
  subst hn
  have h1 : obCells σ id g = some ((pre ++ ts ++ post).map .tr) := by simp [obCells, hs]
  have h2 : slice? ((pre ++ ts ++ post).map V.tr) off (ts.length * 1) = some (ts.map .tr) := by
    unfold slice?
    have : (((pre ++ ts ++ post).map V.tr).drop off).take (ts.length * 1) = ts.map .tr := by
      rw [← ho, Nat.mul_one]
      simp
    simp only [this]
    rw [if_pos (by simp)]
  unfold snap
  simp only [h1, h2]
  rw [snapL_tr]
end
def Stk (id : Nat) (td : List Tree) (w : V) (σ : Store) : Prop := ∃ g cap pre post, w = .own id g pre.length td.length 1 cap ∧ σ[id]? = some (.row ((pre ++ td ++ post).map .tr) g) ∧ ∀ c, cap = some c → c ≤ td.length + post.length
def Gw (id : Nat) (td : List Tree) (w : V) (σ : Store) : Prop := (td = [] ∧ w = nilSl) ∨ Stk id td w σ
structure Nxt (id : Nat) (σ σ' : Store) : Prop where
  len : σ.length ≤ σ'.length
  same : ∀ i, i ≠ id → i < σ.length → σ'[i]? = σ[i]?
theorem Nxt.refl (id : Nat) (σ : Store) : Nxt id σ σ := ⟨Nat.le_refl _, fun _ _ _ => rfl⟩
theorem Nxt.at {id i : Nat} {σ σ' : Store} {o : Ob} (h : Nxt id σ σ') (hs : σ[i]? = some o) (hi : i ≠ id) : σ'[i]? = some o := by
  rw [h.same i hi (List.getElem?_eq_some_iff.1 hs).1]; exact hs
section
variable {id : Nat} {td : List Tree} {t : Tree} {w v : V} {σ : Store} {b : Nat}
theorem Stk.len (h : Stk id td w σ) : opLen 1 w σ = some (nv .i64 td.length) := by
  obtain ⟨g, cap, pre, post, rfl, _, _⟩ := h
  rfl
theorem Gw.len (h : Gw id td w σ) : opLen 1 w σ = some (nv .i64 td.length) := by
  rcases h with ⟨rfl, rfl⟩ | h
  · rfl
  · exact h.len
theorem Stk.lt (h : Stk id td w σ) : id < σ.length := by
  obtain ⟨g, cap, pre, post, rfl, hs, _⟩ := h
  exact (List.getElem?_eq_some_iff.1 hs).1
theorem Stk.load (h : Stk id td w σ) {i : Nat} (hi : td[i]? = some t) (k : IntKind) : ∃ p, opIaddr 1 w (.tr (.sc (.int k (i : Int)))) σ = some p ∧ opLoad 1 false p σ = some (.tr t) := by
  obtain ⟨g, cap, pre, post, rfl, hs, _⟩ := h
  have hlt := (List.getElem?_eq_some_iff.1 hi).1
  refine ⟨.ptr id g (pre.length + i), own_iaddr hs hlt, ownT_load hs ?_⟩
  rw [List.getElem?_append_left (by simp; omega), List.getElem?_append_right (by omega), Nat.add_sub_cancel_left]
  exact hi
theorem Gw.load (h : Gw id td w σ) {i : Nat} (hi : td[i]? = some t) (k : IntKind) : ∃ p, opIaddr 1 w (.tr (.sc (.int k (i : Int)))) σ = some p ∧ opLoad 1 false p σ = some (.tr t) := by
  rcases h with ⟨rfl, rfl⟩ | h
  · simp at hi
  · exact h.load hi k
theorem Stk.snap (h : Stk id td w σ) (d : Nat) : ∃ cap, snap σ (d + 1) w = some (.row td td.length cap) := by
  obtain ⟨g, cap, pre, post, rfl, hs, _⟩ := h
  exact ⟨cap, snapT hs rfl rfl⟩
theorem Gw.snap (h : Gw id td w σ) (d : Nat) : ∃ t, Go.Proofs.Ytodgdmhifbnofaa.AM.snap σ (d + 1) w = some t ∧ Rw td (.tr t) := by
  rcases h with ⟨rfl, rfl⟩ | h
  · exact ⟨.sc (.slice none 0 0), by simp [nilSl], .inl ⟨rfl, rfl⟩⟩
  · obtain ⟨c, hc⟩ := h.snap d
    exact ⟨_, hc, .inr ⟨c, rfl⟩⟩
theorem Stk.mono (h : Stk id td w σ) {σ' : Store} (hs : σ'[id]? = σ[id]?) : Stk id td w σ' := by
  obtain ⟨g, cap, pre, post, rfl, h1, h2⟩ := h
  exact ⟨g, cap, pre, post, rfl, by rw [hs]; exact h1, h2⟩
theorem Gw.mono (h : Gw id td w σ) {σ' : Store} (hs : id < σ.length → σ'[id]? = σ[id]?) : Gw id td w σ' := by
  rcases h with h | h
  · exact .inl h
  · exact .inr (h.mono (hs h.lt))
def Gx (bad : List Nat) (td : List Tree) (w : V) (σ : Store) : Prop := (td = [] ∧ w = nilSl) ∨ ∃ id, id ∉ bad ∧ td ≠ [] ∧ Stk id td w σ
theorem Gx.len {bad : List Nat} (h : Gx bad td w σ) : opLen 1 w σ = some (nv .i64 td.length) := by
  rcases h with ⟨rfl, rfl⟩ | ⟨id, _, _, h⟩
  · rfl
  · exact h.len
theorem Gx.load {bad : List Nat} (h : Gx bad td w σ) {i : Nat} (hi : td[i]? = some t) (k : IntKind) : ∃ p, opIaddr 1 w (.tr (.sc (.int k (i : Int)))) σ = some p ∧ opLoad 1 false p σ = some (.tr t) := by
  rcases h with ⟨rfl, rfl⟩ | ⟨id, _, _, h⟩
  · simp at hi
  · exact h.load hi k
theorem Gx.snap {bad : List Nat} (h : Gx bad td w σ) (d : Nat) : ∃ t, Go.Proofs.Ytodgdmhifbnofaa.AM.snap σ (d + 1) w = some t ∧ Rw td (.tr t) := by
  rcases h with h | ⟨id, _, _, h⟩
  · exact Gw.snap (id := 0) (.inl h) d
  · exact Gw.snap (.inr h) d
theorem Gx.sub {bad bad' : List Nat} (h : Gx bad td w σ) (hs : ∀ i ∈ bad', i ∈ bad) : Gx bad' td w σ := by
  rcases h with h | ⟨id, hb, hne, h⟩
  · exact .inl h
  · exact .inr ⟨id, fun hi => hb (hs _ hi), hne, h⟩
theorem Gx.move {bad bad' : List Nat} {j : Nat} {σ' : Store} (h : Gx bad td w σ) (hj : j ∈ bad) (hn : Nxt j σ σ') (hb : ∀ i ∈ bad', i ∈ bad ∨ σ.length ≤ i) : Gx bad' td w σ' := by
  rcases h with h | ⟨id, hi, hne, h⟩
  · exact .inl h
  · refine .inr ⟨id, fun hm => ?_, hne, h.mono (hn.same id (fun e => hi (e ▸ hj)) h.lt)⟩
    rcases hb id hm with h1 | h1
    · exact hi h1
    · have := h.lt; omega
end
theorem callL_extF {T : FTab} {f : FuncId} {fn : HFn} {vs : List V} {σ : Store} {r : V × Store} {k : Nat} (hf : T f = some fn) (hm : fn.mode = .ext k) (hl : fn.nargs = vs.length) (h1 : extV k vs σ = none) (h : extF k vs σ = some r) : callL T f vs σ = some r := by
  refine callL_some.2 ⟨1, ?_⟩
  rw [callA, hf]
  simp only [hl, if_true, hm, h1, extU, h]
theorem callL_extV {T : FTab} {f : FuncId} {fn : HFn} {vs : List V} {σ : Store} {v : V} {k : Nat} (hf : T f = some fn) (hm : fn.mode = .ext k) (hl : fn.nargs = vs.length) (h1 : extV k vs σ = some v) : callL T f vs σ = some (v, σ) := by
  refine callL_some.2 ⟨1, ?_⟩
  rw [callA, hf]
  simp only [hl, if_true, hm, h1]
section
variable {id : Nat} {w : V} {σ : Store}
end
def MapOf {κ : Type} (enc : κ → Value) (kv : List (κ × V)) (id : Nat) (σ : Store) : Prop := ∃ es clock, σ[id]? = some (.map es clock) ∧ es.map (fun e => (e.key, e.val)) = kv.map fun p => (enc p.1, p.2)
section
variable {κ : Type} [DecidableEq κ] {enc : κ → Value} {kv : List (κ × V)} {id : Nat} {σ : Store}
theorem bytesEq_iff' : ∀ a b : List UInt8, bytesEq a b = decide (a = b)
  | [], [] => by simp [bytesEq]
  | [], _ :: _ => by simp [bytesEq]
  | _ :: _, [] => by simp [bytesEq]
  | a :: x, b :: y => by
    rw [bytesEq, bytesEq_iff' x y, Bool.eq_iff_iff]
    simp only [Bool.and_eq_true, Nat.beq_eq, decide_eq_true_eq, List.cons.injEq, UInt8.toNat_inj]
end
theorem MapOf.mono {κ : Type} {enc : κ → Value} {kv : List (κ × V)} {id : Nat} {σ σ' : Store} (h : MapOf enc kv id σ) (hs : σ'[id]? = σ[id]?) : MapOf enc kv id σ' := by
  obtain ⟨es, c, h1, h2⟩ := h
  exact ⟨es, c, by rw [hs]; exact h1, h2⟩
theorem MapOf.lt {κ : Type} {enc : κ → Value} {kv : List (κ × V)} {id : Nat} {σ : Store} (h : MapOf enc kv id σ) : id < σ.length := by
  obtain ⟨es, c, h1, h2⟩ := h
  exact (List.getElem?_eq_some_iff.1 h1).1
end Go.Proofs.Ytodgdmhifbnofaa.AM
end
