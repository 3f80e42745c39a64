/- The abstract machine, part 3: A32 A33 A36 A37 A39 A38 A40 A41 A42 A401 A43. -/
import Derived.Test.YtolhjhjlfgfifaaGreatDoorAm2
import Derived.IntWalk
section
set_option linter.unusedSimpArgs false
set_option linter.unusedVariables false
set_option linter.unusedVariables false
set_option linter.unusedSimpArgs false
open Go.RowKit
namespace Go.Proofs.YtolhjhjlfgfifaaGreatDoor.AM
section
variable {P : Program} {H : Hints} {DF : List Deferred} {K : List Nat} {N : Nat} {ops : Array Oper} {call : CallA} {is : List (Nat × List Nat)}
variable {n0 : Nat} {w0 : World} {I0 : Nat → Prop} {f : Nat → St} {vals : Nat → V} {ρ0 : Rho} {hp0 : Array Go.Obj}
structure Jat (DF : List Deferred) (ops : Array Oper) (is : List (Nat × List Nat)) (K : List Nat) (N : Nat) (f : Nat → St) (vals : Nat → V) (n0 : Nat) (w0 : World) (I0 : Nat → Prop) (ρ0 : Rho) (hp0 : Array Go.Obj)
    (s e : Nat) (ρ : Rho) (D : Array Bool) (a : Act) (w : World) : Prop where
  se : s ≤ e
  en : e ≤ ops.size
  ne : ¬ Li D e
  eb : e = ops.size ∨ cls is e = 2
  done : ∀ x, x < e → cls is x = 2 → Li D x
  seg : ∀ x, s ≤ x → x < e → cls is x ≠ 2
  start : s = 0 ∨ ∃ q, s = q + 1 ∧ cls is q = 2
  len : (f 0).σ.length ≤ (f s).σ.length
  inv : Inv n0 w0 I0 (f e).σ ρ w
  evo : Evo n0 I0 (f 0).σ ρ0 hp0 (f e).σ ρ w.heap
  unal : ∀ j, j < e → ¬ Li D j → ∀ id, (f j).σ.length ≤ id → id < (f (j + 1)).σ.length → ρ id = none
  slots : Slots DF K N ops (f 0) vals n0 I0 D (f e).σ ρ w.heap a
def JJ (DF : List Deferred) (ops : Array Oper) (is : List (Nat × List Nat)) (K : List Nat) (N : Nat) (f : Nat → St) (vals : Nat → V) (n0 : Nat) (w0 : World) (I0 : Nat → Prop) (ρ0 : Rho) (hp0 : Array Go.Obj)
    (D : Array Bool) (a : Act) (w : World) : Prop :=
  D.size = ops.size ∧ ClosedD ops D ∧ ∃ s e ρ, Jat DF ops is K N f vals n0 w0 I0 ρ0 hp0 s e ρ D a w
theorem Text.bar (T : Text P H K N ops call is f vals) {q i : Nat} (hq : q < ops.size) (hi : i < ops.size) (hne : q ≠ i) (h2 : cls is q = 2) (h0 : cls is i ≠ 0) : (i < q ∧ Anc ops q i) ∨ (q < i ∧ Anc ops i q) := by
  have hoq : ops[q]? = some ops[q] := Array.getElem?_eq_getElem hq
  have hoi : ops[i]? = some ops[i] := Array.getElem?_eq_getElem hi
  obtain ⟨cq, nq, sq, _⟩ := T.tr q _ hoq
  obtain ⟨ci, ni, si, _⟩ := T.tr i _ hoi
  have h := (T.pair hoq hoi sq si hne).2.2
  rw [cls_of sq] at h2
  rw [cls_of si] at h0
  exact inTurn_iff (h (clsN_two h2) (clsN_ne h0).1 (clsN_ne h0).2)
theorem Evo.len {σ σ' : Store} {ρ ρ' : Rho} {h h' : Array Go.Obj} (E : Evo n0 I0 σ ρ h σ' ρ' h') : σ.length ≤ σ'.length := by
  rcases Nat.eq_zero_or_pos σ.length with h | h
  · omega
  · obtain ⟨ob', e', _⟩ := E.ob (σ.length - 1) _ (List.getElem?_eq_getElem (by omega))
    have := (List.getElem?_eq_some_iff.1 e').1
    omega
theorem nextBar (is : List (Nat × List Nat)) (n : Nat) : ∀ k s, s + k = n → ∃ e, s ≤ e ∧ e ≤ n ∧ (e = n ∨ cls is e = 2) ∧ ∀ x, s ≤ x → x < e → cls is x ≠ 2
  | 0, s, h => ⟨s, Nat.le_refl _, by omega, .inl (by omega), fun x h1 h2 => by omega⟩
  | k + 1, s, h => by
    by_cases hs : cls is s = 2
    · exact ⟨s, Nat.le_refl _, by omega, .inr hs, fun x h1 h2 => by omega⟩
    · obtain ⟨e, h1, h2, h3, h4⟩ := nextBar is n k (s + 1) (by omega)
      refine ⟨e, by omega, h2, h3, fun x hx hx' => ?_⟩
      rcases Nat.lt_or_ge s x with h5 | h5
      · exact h4 x (by omega) hx'
      · have : x = s := by omega
        subst this
        exact hs
variable {D : Array Bool} {a : Act} {w : World} {s e : Nat} {ρ : Rho}
theorem Jat.after (T : Text P H K N ops call is f vals) (hcl : ClosedD ops D) (J : Jat DF ops is K N f vals n0 w0 I0 ρ0 hp0 s e ρ D a w) {j : Nat} (hj : j < e) (hn : ¬ Li D j) (h0 : cls is j ≠ 0) :
    s ≤ j ∧ ∀ x, j ≤ x → x < e → cls is x ≠ 2 := by
  have hjn : j < ops.size := Nat.lt_of_lt_of_le hj J.en
  have hlater : ∀ x, j ≤ x → x < e → cls is x ≠ 2 := by
    intro x h1 h2 h3
    have hx := J.done x h2 h3
    have hxn : x < ops.size := Nat.lt_of_lt_of_le h2 J.en
    rcases Nat.lt_or_ge j x with h4 | h4
    · rcases T.bar hxn hjn (by omega) h3 h0 with ⟨_, h5⟩ | ⟨h5, _⟩
      · exact hn (anc_of hcl h5 hx)
      · omega
    · have : x = j := by omega
      subst this
      exact hn hx
  refine ⟨?_, hlater⟩
  rcases J.start with h | ⟨q, hq, h2⟩
  · omega
  · rcases Nat.lt_or_ge j s with h3 | h3
    · exact absurd h2 (hlater q (by omega) (by have := J.se; omega))
    · exact h3
theorem Text.cls_free (T : Text P H K N ops call is f vals) {j : Nat} (hj : j < ops.size) (h : cls is j = 0) : (f (j + 1)).σ = (f j).σ := by
  have ho : ops[j]? = some ops[j] := Array.getElem?_eq_getElem hj
  obtain ⟨c, ns, si, _⟩ := T.tr j _ ho
  rw [cls_of si] at h
  match c, si, h with
  | 0, si, _ => exact T.σ_free ho si
  | 1, _, h => simp [clsN] at h
  | 2, _, h => simp [clsN] at h
  | h + 3, si, _ => exact T.σ_float ho si
theorem Jat.len_e (T : Text P H K N ops call is f vals) (J : Jat DF ops is K N f vals n0 w0 I0 ρ0 hp0 s e ρ D a w) : (f 0).σ.length ≤ (f e).σ.length :=
  Nat.le_trans J.len (T.σ_len J.se J.en J.seg)
theorem closed_set (hcl : ClosedD ops D) {i : Nat} {o : Oper} (ho : ops[i]? = some o) (hsz : i < D.size) (hrd : ∀ e ∈ o.after, Region.binds .any e = true → Li D e.on) : ClosedD ops (D.setIfInBounds i true) := by
  intro j o' ho' hj ed he hb
  refine (Li_set hsz).2 (.inr ?_)
  rcases (Li_set hsz).1 hj with rfl | hj
  · rw [ho] at ho'
    cases ho'
    exact hrd ed he hb
  · exact hcl j o' ho' hj ed he hb
theorem Jat.quiet (T : Text P H K N ops call is f vals) (hD : D.size = ops.size) (J : Jat DF ops is K N f vals n0 w0 I0 ρ0 hp0 s e ρ D a w) {i : Nat} {o : Oper} (ho : ops[i]? = some o) (hni : ¬ Li D i)
    (h2 : cls is i ≠ 2) {ρ' : Rho} {w' : World} {x : Value} (hI : Inv n0 w0 I0 (f e).σ ρ' w') (E : EvoW n0 I0 (f e).σ ρ w.heap (f e).σ ρ' w'.heap)
    (hout : ∀ id, id < (f 0).σ.length → ρ id = none → ρ' id = none)
    (hun : ∀ j, j < e → j ≠ i → ¬ Li D j → ∀ id, (f j).σ.length ≤ id → id < (f (j + 1)).σ.length → ρ id = none → ρ' id = none)
    (r : RV w'.heap (Icur n0 I0 (f e).σ ρ' w'.heap) (f e).σ ρ' (vals i) x) : Jat DF ops is K N f vals n0 w0 I0 ρ0 hp0 s e ρ' (D.setIfInBounds i true) (a.put o.dst x) w' := by
  have hi := (Array.getElem?_eq_some_iff.1 ho).1
  have hsz : i < D.size := by omega
  obtain ⟨c, ns, si, hst⟩ := T.tr i o ho
  have hie : e ≠ i := by
    rintro rfl
    rcases J.eb with h | h
    · omega
    · exact h2 h
  refine ⟨J.se, J.en, fun h => ?_, J.eb, fun x h1 h3 => (Li_set hsz).2 (.inr (J.done x h1 h3)), J.seg, J.start, J.len, hI, ⟨J.evo.toEvoW.trans E, fun id hid hn => hout id hid (J.evo.out id hid hn)⟩, fun j hj hnj id h1 h3 => ?_,
    T.slots_step ho hsz (T.dst ho hst) hD J.slots E r hni⟩
  · rcases (Li_set hsz).1 h with h | h
    · exact hie h
    · exact J.ne h
  · have hji : j ≠ i := by rintro rfl; exact hnj ((Li_set hsz).2 (.inl rfl))
    have hnj' : ¬ Li D j := fun h => hnj ((Li_set hsz).2 (.inr h))
    exact hun j hj hji hnj' id h1 h3 (J.unal j hj hnj' id h1 h3)
theorem wpOp_of {Q : Exit → Act → World → Prop} {i : Nat} {o : Oper} {Kn : Act → World → Prop} (ho : ops[i]? = some o) {b : Bool} (hw : Region.wanted o (yielded ops a.tmps) = b)
    (h1 : b = true → o.wp P a w Kn Q) (h2 : b = false → Kn (a.put o.dst undef) w) : wpOp P ops Q i Kn a w := by
  unfold wpOp
  simp only [ho]
  rw [hw]
  cases b with
  | true => simp only [if_true]; exact .inl (h1 rfl)
  | false => simp only [Bool.false_eq_true, if_false]; exact h2 rfl
theorem JJ.step (T : Text P H K N ops call is f vals) {Gd : Ground} (hgd : GroundOk Gd) (hG : Gd n0 w0) (hcall : CallOk Gd P call) (hJ : JJ DF ops is K N f vals n0 w0 I0 ρ0 hp0 D a w) {i : Nat} (hr : i ∈ Region.ready .any ops D) {Q : Exit → Act → World → Prop} :
    wpOp P ops Q i (JJ DF ops is K N f vals n0 w0 I0 ρ0 hp0 (D.setIfInBounds i true)) a w := by
  obtain ⟨hD, hcl, s, e, ρ, J⟩ := hJ
  obtain ⟨hni', o, ho, hrd⟩ := mem_ready.1 hr
  have hi := (Array.getElem?_eq_some_iff.1 ho).1
  have hsz : i < D.size := by omega
  have hni : ¬ Li D i := by
    unfold Li
    simp only [Array.getD_eq_getD_getElem?, Array.getElem?_eq_getElem hsz, Option.getD_some] at hni' ⊢
    simp [hni']
  obtain ⟨c, ns, si, hst⟩ := T.tr i o ho
  have hdst := T.dst ho hst
  have hcop : cOper P H K N ops o = { dst := o.dst, inK := kOf K o.dst, k := cOp P H K o, guard := cGuard K ops o.guard } := by simp only [cOper, hdst, if_true]
  have hs := T.names (w := w) ho si hcl hni hrd J.slots
  have hclS := closed_set hcl ho hsz hrd
  have hDS : (D.setIfInBounds i true).size = ops.size := by simpa using hD
  have hone := T.one ho
  unfold drawOne at hone
  rw [ho, si] at hone
  simp only [Bool.and_eq_true] at hone
  have hci : cls is i = clsN c := cls_of si
  obtain ⟨hst1, hst2⟩ := hst
  rw [hcop] at hst2 hone
  simp only at hst2 hone
  have hg : ∀ b, guardA ((f i).only ns) (cGuard K ops o.guard) = some b → Region.wanted o (yielded ops a.tmps) = b := by
    intro b hb
    refine guard_sound hs ?_
    rw [guard_over]
    exact hb
  have hfree : ∀ j, j < e → ∀ id, (f j).σ.length ≤ id → id < (f (j + 1)).σ.length → cls is j ≠ 0 := by
    intro j hj id h1 h2 h3
    rw [T.cls_free (Nat.lt_of_lt_of_le hj J.en) h3] at h2
    omega
  have hlt : ∀ j, j < e → ¬ Li D j → ∀ id, (f j).σ.length ≤ id → id < (f (j + 1)).σ.length → id < (f e).σ.length := by
    intro j hj hnj id h1 h2
    have := (J.after T hcl hj hnj (hfree j hj id h1 h2)).2
    have := T.σ_len (i := j + 1) (j := e) (by omega) J.en (fun x h3 h4 => this x (by omega) h4)
    omega
  by_cases hc2 : c = 2
  ·
    subst hc2
    have hie : i = e := by
      rcases Nat.lt_trichotomy i e with h | h | h
      · exact absurd (J.done i h hci) hni
      · exact h
      · rcases J.eb with h1 | h1
        · omega
        · rcases T.bar (show e < ops.size by omega) hi (by omega) h1 (by rw [hci]; decide) with ⟨h2, _⟩ | ⟨_, h2⟩
          · omega
          · exact absurd (anc_in hcl h2 (fun o' ho' => by rw [ho] at ho'; cases ho'; exact hrd)) J.ne
    subst hie
    have hsame : ({ (f i).only ns with σ := (f i).σ } : St) = (f i).only ns := rfl
    obtain ⟨e', he1, he2, he3, he4⟩ := nextBar is ops.size (ops.size - (i + 1)) (i + 1) (by omega)
    obtain ⟨τ, hτ⟩ := T.σ_ext he1 he2 he4
    have all : ∀ (ρ' : Rho) (w' : World) (x : Value), Inv n0 w0 I0 (f (i + 1)).σ ρ' w' → Evo n0 I0 (f i).σ ρ w.heap (f (i + 1)).σ ρ' w'.heap →
        RV w'.heap (Icur n0 I0 (f (i + 1)).σ ρ' w'.heap) (f (i + 1)).σ ρ' (vals i) x → JJ DF ops is K N f vals n0 w0 I0 ρ0 hp0 (D.setIfInBounds i true) (a.put o.dst x) w' := by
      intro ρ' w' x hI' E r
      obtain ⟨hI2, E2⟩ := hI'.pad τ
      rw [← hτ] at hI2 E2
      refine ⟨hDS, hclS, i + 1, e', ρ', he1, he2, fun h => ?_, he3, fun x hx hx2 => ?_, he4, .inr ⟨i, rfl, hci⟩, Nat.le_trans (J.len_e T) E.len, hI2, J.evo.trans (E.trans E2), fun j hj hnj id h1 h2 => ?_,
        T.slots_step ho hsz hdst hD J.slots (E.trans E2).toEvoW (RV_mono E2 _ _ r) hni⟩
      · rcases (Li_set hsz).1 h with h | h
        · omega
        · rcases he3 with h3 | h3
          · subst h3
            unfold Li at h
            rw [Array.getD_eq_getD_getElem?, Array.getElem?_eq_none (by omega)] at h
            cases h
          · have hlt' : e' < ops.size := by
              rcases Nat.lt_or_ge e' ops.size with h5 | h5
              · exact h5
              · unfold Li at h
                rw [Array.getD_eq_getD_getElem?, Array.getElem?_eq_none (by omega)] at h
                cases h
            rcases T.bar hlt' hi (by omega) h3 (by rw [hci]; decide) with ⟨_, h4⟩ | ⟨h4, _⟩
            · exact hni (anc_of hcl h4 h)
            · omega
      · refine (Li_set hsz).2 ?_
        rcases Nat.lt_trichotomy x i with h | h | h
        · exact .inr (J.done x h hx2)
        · exact .inl h
        · exact absurd hx2 (he4 x (by omega) hx)
      · have hji : j ≠ i := by rintro rfl; exact hnj ((Li_set hsz).2 (.inl rfl))
        have hnj' : ¬ Li D j := fun h => hnj ((Li_set hsz).2 (.inr h))
        rcases Nat.lt_or_ge j i with h3 | h3
        · have hj0 := hfree j h3 id h1 h2
          rcases T.bar hi (show j < ops.size by omega) (by omega) hci hj0 with ⟨_, h4⟩ | ⟨h4, _⟩
          · exact absurd (anc_in hcl h4 (fun o' ho' => by rw [ho] at ho'; cases ho'; exact hrd)) hnj'
          · omega
        · have := T.σ_len (i := i + 1) (j := j) (by omega) (by omega) (fun x h4 h5 => he4 x h4 (by omega))
          cases hq : ρ' id with
          | none => rfl
          | some p =>
            have := (hI'.new id p.1 p.2 hq).2.2
            omega
    rcases hst2 with ⟨h1, h2, _⟩ | ⟨h1, h2, h3⟩
    · refine wpOp_of ho (hg _ h1) (fun _ => ?_) (by simp)
      refine op_sound (st := { (f i).only ns with σ := (f i).σ }) (hcall n0 w0 hG) J.inv hs h2 ?_
      rintro x w' ⟨ρ', g1, g2, g3⟩
      exact all ρ' w' x g1 g2 g3
    · refine wpOp_of ho (hg _ h1) (by simp) (fun _ => ?_)
      refine all ρ w undef (by rw [h3]; exact J.inv) (by rw [h3]; exact Evo.refl) ?_
      rw [h2]
      exact RV_undef
  · have fin : ∀ {ρ' : Rho} {w' : World} {x : Value}, Inv n0 w0 I0 (f e).σ ρ' w' → EvoW n0 I0 (f e).σ ρ w.heap (f e).σ ρ' w'.heap → (∀ id, id < (f 0).σ.length → ρ id = none → ρ' id = none) →
        (∀ j, j < e → j ≠ i → ¬ Li D j → ∀ id, (f j).σ.length ≤ id → id < (f (j + 1)).σ.length → ρ id = none → ρ' id = none) →
        RV w'.heap (Icur n0 I0 (f e).σ ρ' w'.heap) (f e).σ ρ' (vals i) x → JJ DF ops is K N f vals n0 w0 I0 ρ0 hp0 (D.setIfInBounds i true) (a.put o.dst x) w' :=
      fun h1 h2 h3 h4 h5 => ⟨hDS, hclS, s, e, _, J.quiet T hD ho hni (by rw [hci]; exact fun h => hc2 (clsN_two h)) h1 h2 h3 h4 h5⟩
    have fin' : ∀ {ρ' : Rho} {w' : World} {x : Value}, Inv n0 w0 I0 (f e).σ ρ' w' → Evo n0 I0 (f e).σ ρ w.heap (f e).σ ρ' w'.heap →
        RV w'.heap (Icur n0 I0 (f e).σ ρ' w'.heap) (f e).σ ρ' (vals i) x → JJ DF ops is K N f vals n0 w0 I0 ρ0 hp0 (D.setIfInBounds i true) (a.put o.dst x) w' :=
      fun h1 h2 h5 => fin h1 h2.toEvoW (fun id hid hn => h2.out id (Nat.lt_of_lt_of_le hid (J.len_e T)) hn) (fun j hj _ hnj id g1 g2 hn => h2.out id (hlt j hj hnj id g1 g2) hn) h5
    rcases hst2 with ⟨h1, h2, h3⟩ | ⟨h1, h2, h3⟩
    · refine wpOp_of ho (hg _ h1) (fun _ => ?_) (by simp)
      match c, si, hone, hci, hc2, h2, h3 with
      | 0, si, hone, hci, hc2, h2, h3 =>
        obtain ⟨_, h4⟩ := free_over hone.2 h2
        refine op_sound (st := { (f i).only ns with σ := (f e).σ }) (hcall n0 w0 hG) J.inv hs (h4 _) ?_
        rintro x w' ⟨ρ', g1, g2, g3⟩
        exact fin' g1 g2 g3
      | h + 3, si, hone, hci, hc2, h2, h3 =>
        have hone2 : readK (cOp P H K o) = true ∧ floatOk (anOf ops) is ops.size i h = true := by simpa only [Bool.and_eq_true] using hone.2
        have hrk := hone2.1
        have hfo := hone2.2
        unfold floatOk at hfo
        simp only [Bool.and_eq_true, List.all_eq_true, List.mem_range, Bool.or_eq_true] at hfo
        obtain ⟨hlo, hhi⟩ := hfo
        have hie : i < e := by
          rcases Nat.lt_trichotomy i e with h' | h' | h'
          · exact h'
          · rcases J.eb with h4 | h4
            · omega
            · rw [← h', hci] at h4
              have := clsN_two h4
              omega
          · rcases J.eb with h4 | h4
            · omega
            · have hes : e < ops.size := by omega
              obtain ⟨ce, ne, se', _⟩ := T.tr e _ (Array.getElem?_eq_getElem hes)
              have hb := hlo e h'
              rw [se'] at hb
              rw [cls_of se'] at h4
              simp only [clsN_two h4] at hb
              have hanc : Anc ops i e := ahead_anc (by simpa using hb)
              exact absurd (anc_in hcl hanc (fun o' ho' => by rw [ho] at ho'; cases ho'; exact hrd)) J.ne
        have heh : e ≤ h := by
          rcases hhi with h4 | h4
          · have := Nat.eq_of_beq_eq_true h4
            have := J.en
            omega
          · rcases Nat.lt_or_ge h e with h5 | h5
            · exfalso
              have hes : h < ops.size := by have := J.en; omega
              obtain ⟨ce, ne, se', _⟩ := T.tr h _ (Array.getElem?_eq_getElem hes)
              rw [se'] at h4
              simp only [Bool.and_eq_true] at h4
              have hc := Nat.eq_of_beq_eq_true h4.1
              have hdone := J.done h h5 (by rw [cls_of se', hc]; rfl)
              exact hni (anc_of hcl (ahead_anc h4.2) hdone)
            · exact h5
        have hp := T.fl i o h ns ho si (by rw [hcop]; exact h1) e hie J.en J.eb heh
        rw [hcop] at hp
        unfold pendOk at hp
        simp only at hp
        split at hp
        · rename_i v' σ'' hop
          have hv := eqV_sound _ _ hp
          subst hv
          have hσ : σ'' = (f e).σ := read_same (st := { (f i).only ns with σ := (f e).σ }) hrk hop
          subst hσ
          refine op_sound (st := { (f i).only ns with σ := (f e).σ }) (hcall n0 w0 hG) J.inv hs hop ?_
          rintro x w' ⟨ρ', g1, g2, g3⟩
          exact fin' g1 g2 g3
        · cases hp
      | 1, si, hone, hci, hc2, h2, h3 =>
        have hie : i < e := by
          rcases Nat.lt_trichotomy i e with h | h | h
          · exact h
          · rcases J.eb with h' | h'
            · omega
            · rw [← h, hci] at h'
              cases h'
          · rcases J.eb with h' | h'
            · omega
            · rcases T.bar (show e < ops.size by omega) hi (by omega) h' (by rw [hci]; decide) with ⟨h2, _⟩ | ⟨_, h2⟩
              · omega
              · exact absurd (anc_in hcl h2 (fun o' ho' => by rw [ho] at ho'; cases ho'; exact hrd)) J.ne
        have hc0 : cls is i ≠ 0 := by rw [hci]; decide
        obtain ⟨hsi, hseg⟩ := J.after T hcl hie hni hc0
        rcases quiet_over (quietCall_quiet call) hone.2 h2 with ⟨h4, h5⟩ | ⟨ob, mk, hmk, hv, h4, hob, h5⟩
        · obtain ⟨τ, hτ⟩ := T.σ_ext (i := i) (j := e) (by omega) J.en hseg
          have h6 := h5 τ
          have he : ((f i).only ns).σ ++ τ = (f e).σ := hτ.symm
          rw [he] at h6
          refine op_sound (st := { (f i).only ns with σ := (f e).σ }) (quietCall_ok hgd hcall n0 w0 hG) J.inv hs h6 ?_
          rintro x w' ⟨ρ', g1, g2, g3⟩
          exact fin' g1 g2 g3
        · have h4' : (f (i + 1)).σ = (f i).σ ++ [ob] := h4
          obtain ⟨τ, hτ⟩ := T.σ_ext (i := i + 1) (j := e) (by omega) J.en (fun x h7 h8 => hseg x (by omega) h8)
          have hτ' : (f e).σ = (f i).σ ++ ([ob] ++ τ) := by rw [hτ, h4', List.append_assoc]
          have h6 := h5 ([ob] ++ τ)
          have he : ((f i).only ns).σ ++ ([ob] ++ τ) = (f e).σ := hτ'.symm
          rw [he] at h6
          have hn : (f i).σ.length < (f e).σ.length := by rw [hτ']; simp
          have hobn : (f e).σ[(f i).σ.length]? = some ob := by
            rw [hτ', List.getElem?_append_right (Nat.le_refl _), Nat.sub_self]
            rfl
          have hρn : ρ (f i).σ.length = none := J.unal i hie hni _ (Nat.le_refl _) (by rw [h4']; simp)
          have hfro : ∀ ts g, ob ≠ .fro ts g := by
            rintro ts g rfl
            rcases hob with ⟨_, _, h⟩ | ⟨_, h⟩ <;> cases h
          refine op_sound (st := { (f i).only ns with σ := (f e).σ }) (quietCall_ok hgd hcall n0 w0 hG) J.inv hs h6 ?_
          rintro x w' ⟨ρ1, g1, g2, g3⟩
          have hnew : (∃ cs g, ob = .row cs g ∧ ∀ j ∈ dirs.dirsL cs, j < (f e).σ.length ∧ j ≠ (f i).σ.length) ∨ (∃ c, ob = .map [] c) := by
            rcases hob with ⟨cs, g, rfl⟩ | h
            · refine .inl ⟨cs, g, rfl, fun j hj => ?_⟩
              have hf := h3 rfl
              unfold freshOk at hf
              rw [h4'] at hf
              have : obVs ((f i).σ ++ [Ob.row cs g]) (f i).σ.length = cs := by
                unfold obVs
                rw [List.getElem?_append_right (Nat.le_refl _), Nat.sub_self]
                rfl
              rw [this] at hf
              have := List.all_eq_true.1 hf j hj
              simp only [Nat.blt_eq] at this
              omega
            · exact .inr h
          have hunal : ∀ j, j < e → j ≠ i → ¬ Li D j → ∀ id, (f j).σ.length ≤ id → id < (f (j + 1)).σ.length → id ≠ (f i).σ.length := by
            intro j hj hji hnj id k1 k2
            have hj0 := hfree j hj id k1 k2
            have hjs := (J.after T hcl hj hnj hj0).2
            rcases Nat.lt_or_ge j i with h7 | h7
            · have := T.σ_len (i := j + 1) (j := i) (by omega) (by omega) (fun x h8 h9 => hjs x (by omega) (by omega))
              omega
            · have := T.σ_len (i := i + 1) (j := j) (by omega) (by have := J.en; omega) (fun x h8 h9 => hseg x (by omega) (by omega))
              rw [h4'] at this
              simp at this
              omega
          refine fin (move_inv hn hobn hfro hρn J.inv g1 g2 hnew) (move_evo hn hobn hfro hρn J.inv g1 g2) (fun id hid hnn => ?_) (fun j hj hji hnj id k1 k2 hnn => ?_) ?_
          · have h8 := T.σ_len (i := s) (j := i) hsi (by omega) (fun x h8 h9 => J.seg x h8 (by omega))
            have := J.len
            exact move_out hn hobn hfro hρn J.inv g1 g2 (Nat.lt_of_lt_of_le hid (J.len_e T)) (by omega) hnn
          · exact move_out hn hobn hfro hρn J.inv g1 g2 (hlt j hj hnj id k1 k2) (hunal j hj hji hnj id k1 k2) hnn
          · rw [hv]
            exact move_mk hn hobn hfro hρn J.inv g1 g2 hmk g3
      | 2, si, hone, hci, hc2, h2, h3 => exact absurd rfl hc2
    · refine wpOp_of ho (hg _ h1) (by simp) (fun _ => ?_)
      refine fin' J.inv Evo.refl ?_
      rw [h2]
      exact RV_undef
end
end Go.Proofs.YtolhjhjlfgfifaaGreatDoor.AM
end
section
set_option linter.unusedSimpArgs false
set_option linter.unusedVariables false
set_option linter.unusedVariables false
set_option linter.unusedSimpArgs false
open Go.RowKit
namespace Go.Proofs.YtolhjhjlfgfifaaGreatDoor.AM
section
variable {P : Program} {H : Hints} {DF : List Deferred} {K : List Nat} {N : Nat} {ops : Array Oper} {call : CallA} {is : List (Nat × List Nat)}
variable {n0 : Nat} {w0 : World} {I0 : Nat → Prop} {f : Nat → St} {vals : Nat → V} {ρ0 : Rho} {hp0 : Array Go.Obj}
variable {D : Array Bool} {a : Act} {w : World}
def unl : List Bool → Nat
  | [] => 0
  | b :: r => (if b then 0 else 1) + unl r
theorem unl_set : ∀ (l : List Bool) (i : Nat), l[i]? = some false → unl (l.set i true) + 1 = unl l
  | [], i, h => by simp at h
  | b :: r, 0, h => by
    simp only [List.getElem?_cons_zero, Option.some.injEq] at h
    subst h
    simp [unl]
    omega
  | b :: r, i + 1, h => by
    have := unl_set r i (by simpa using h)
    simp only [List.set_cons_succ, unl]
    omega
theorem unl_zero : ∀ (l : List Bool), unl l = 0 → ∀ (i : Nat), l[i]? ≠ some false
  | [], _, i => by simp
  | b :: r, h, i => by
    simp only [unl] at h
    cases i with
    | zero =>
      intro hb
      simp only [List.getElem?_cons_zero, Option.some.injEq] at hb
      subst hb
      simp at h
    | succ i => simpa using unl_zero r (by omega) i
theorem JJ.all (T : Text P H K N ops call is f vals) (hJ : JJ DF ops is K N f vals n0 w0 I0 ρ0 hp0 D a w) (hr : Region.ready .any ops D = []) : ∀ i, i < ops.size → Li D i := by
  obtain ⟨hD, _⟩ := hJ
  intro i
  induction i using Nat.strongRecOn with
  | _ i ih =>
    intro hi
    refine Classical.byContradiction fun hni => ?_
    have ho : ops[i]? = some ops[i] := Array.getElem?_eq_getElem hi
    have hm : i ∈ Region.ready .any ops D := by
      refine mem_ready.2 ⟨?_, _, ho, fun e he hb => ?_⟩
      · unfold Li at hni
        simp only [Array.getD_eq_getD_getElem?, Array.getElem?_eq_getElem (show i < D.size by omega), Option.getD_some] at hni ⊢
        simpa using hni
      · have h1 := T.one ho
        unfold drawOne at h1
        obtain ⟨c, ns, si, _⟩ := T.tr i _ ho
        rw [ho, si] at h1
        simp only [Bool.and_eq_true, List.all_eq_true] at h1
        have := h1.1 e (by simpa using he)
        simp only [hb, Bool.not_true, Bool.false_or, Nat.blt_eq] at this
        exact ih e.on this (by omega)
    rw [hr] at hm
    cases hm
theorem JJ.last (T : Text P H K N ops call is f vals) (hJ : JJ DF ops is K N f vals n0 w0 I0 ρ0 hp0 D a w) (hall : ∀ i, i < ops.size → Li D i) :
    ∃ ρ, Inv n0 w0 I0 (f ops.size).σ ρ w ∧ StR DF K N n0 I0 ρ w (f ops.size) a ∧ Evo n0 I0 (f 0).σ ρ0 hp0 (f ops.size).σ ρ w.heap := by
  obtain ⟨hD, hcl, s, e, ρ, J⟩ := hJ
  have he : e = ops.size := by
    rcases Nat.lt_or_ge e ops.size with h | h
    · exact absurd (hall e h) J.ne
    · have := J.en; omega
  subst he
  refine ⟨ρ, J.inv, ?_, J.evo⟩
  have key : ∀ b t v, has (f ops.size) b t v → mem t K = b ∧ ∃ x, a.tmps[t]? = some x ∧ RV w.heap (Icur n0 I0 (f ops.size).σ ρ w.heap) (f ops.size).σ ρ v x := by
    intro b t v h
    rcases has_f T.stepf T.h0 ops.size (Nat.le_refl _) b t v h with ⟨k, hk, hd, rfl, hb⟩ | ⟨h, hno⟩
    · exact ⟨hb.symm, J.slots.new k t (hall k hk) hd⟩
    · refine ⟨(T.h0 b t v h).symm, J.slots.old b t v h fun k hk hd => ?_⟩
      rcases Nat.lt_or_ge k ops.size with h1 | h1
      · exact hno k h1 hd
      · simp [dstA, Array.getElem?_eq_none h1] at hd
  exact ⟨J.slots.defers, J.slots.size, fun k v h => key true k v h, fun k v h => key false k v h⟩
theorem JJ.any (T : Text P H K N ops call is f vals) {Gd : Ground} (hgd : GroundOk Gd) (hG : Gd n0 w0) (hcall : CallOk Gd P call) {Q : Exit → Act → World → Prop}
    (hQ : ∀ a' ρ' w', Inv n0 w0 I0 (f ops.size).σ ρ' w' → StR DF K N n0 I0 ρ' w' (f ops.size) a' → Evo n0 I0 (f 0).σ ρ0 hp0 (f ops.size).σ ρ' w'.heap → Q .normal a' w') :
    ∀ (fuel : Nat) (D : Array Bool) (a : Act) (w : World), unl D.toList ≤ fuel → JJ DF ops is K N f vals n0 w0 I0 ρ0 hp0 D a w → wpAny P .any ops Q fuel D a w := by
  intro fuel
  induction fuel with
  | zero =>
    intro D a w hf hJ
    have hr : Region.ready .any ops D = [] := by
      cases hr : Region.ready .any ops D with
      | nil => rfl
      | cons i r =>
        have hi := List.mem_cons_self (a := i) (l := r)
        rw [← hr] at hi
        obtain ⟨h1, o, ho, _⟩ := mem_ready.1 hi
        have hsz : i < D.size := by rw [hJ.1]; exact (Array.getElem?_eq_some_iff.1 ho).1
        have := unl_zero D.toList (by omega) i
        rw [Array.getElem?_toList, Array.getElem?_eq_getElem hsz] at this
        rw [Array.getD_eq_getD_getElem?, Array.getElem?_eq_getElem hsz] at h1
        simp only [Option.getD_some] at h1
        exact absurd (by rw [h1]) this
    obtain ⟨ρ, h1, h2, h3⟩ := hJ.last T (hJ.all T hr)
    exact ⟨hr, hQ a ρ w h1 h2 h3⟩
  | succ fuel ih =>
    intro D a w hf hJ
    refine ⟨fun hr => ?_, fun i hi => ?_⟩
    · obtain ⟨ρ, h1, h2, h3⟩ := hJ.last T (hJ.all T hr)
      exact hQ a ρ w h1 h2 h3
    · refine wpOp_mono (fun a' w' hJ' => ih _ a' w' ?_ hJ') (hJ.step T hgd hG hcall hi)
      obtain ⟨h1, o, ho, _⟩ := mem_ready.1 hi
      have hsz : i < D.size := by rw [hJ.1]; exact (Array.getElem?_eq_some_iff.1 ho).1
      have hl : D.toList[i]? = some false := by
        rw [Array.getElem?_toList, Array.getElem?_eq_getElem hsz]
        rw [Array.getD_eq_getD_getElem?, Array.getElem?_eq_getElem hsz] at h1
        simp only [Option.getD_some] at h1
        rw [h1]
      have := unl_set D.toList i hl
      rw [Array.toList_setIfInBounds]
      omega
theorem posOf_le (i : Nat) : ∀ (l : List Nat), posOf l i ≤ l.length
  | [] => Nat.le_refl _
  | x :: r => by
    unfold posOf
    split
    · exact Nat.zero_le _
    · have := posOf_le i r; simp; omega
theorem posOf_get (i : Nat) : ∀ (l : List Nat), posOf l i < l.length → l[posOf l i]? = some i
  | [], h => by simp at h
  | x :: r, h => by
    unfold posOf at h ⊢
    split at h
    · rename_i hx
      rw [if_pos hx]
      simp [Nat.eq_of_beq_eq_true hx]
    · rename_i hx
      rw [if_neg hx]
      simp only [List.getElem?_cons_succ]
      exact posOf_get i r (by simpa using h)
theorem wp_permO {l : List Nat} {o : Oper} {Q : Exit → Act → World → Prop} {Kn : Act → World → Prop} : (permO l o).wp P a w Kn Q = o.wp P a w Kn Q := by
  cases o; rfl
theorem asks_permO {l : List Nat} {o : Oper} : (permO l o).asks P a w = o.asks P a w := by
  cases o; rfl
theorem wpAny_perm {ops0 : Array Oper} {l : List Nat} (hl : permOk ops0.size l = true) {Q : Exit → Act → World → Prop} : ∀ (fuel : Nat) (D D' : Array Bool) (a : Act) (w : World), D.size = ops0.size → D'.size = ops0.size →
    (∀ i, i < ops0.size → D'.getD (posOf l i) false = D.getD i false) → wpAny P .any (permOps l ops0) Q fuel D' a w → wpAny P .any ops0 Q fuel D a w := by
  unfold permOk at hl
  simp only [Bool.and_eq_true, List.all_eq_true, List.mem_range, Nat.blt_eq] at hl
  obtain ⟨⟨hlen, hlt⟩, hpos⟩ := hl
  have hlen := Nat.eq_of_beq_eq_true hlen
  have hsz : (permOps l ops0).size = ops0.size := by simp [permOps, hlen]
  have hout : ∀ i, ops0.size ≤ i → posOf l i = ops0.size := by
    intro i hi
    have h1 := posOf_le i l
    rcases Nat.lt_or_ge (posOf l i) l.length with h2 | h2
    · have := posOf_get i l h2
      have := hlt i (List.mem_of_getElem? this)
      omega
    · omega
  have hget : ∀ i, i < ops0.size → (permOps l ops0)[posOf l i]? = (ops0[i]?).map (permO l) := by
    intro i hi
    have h1 := posOf_get i l (by rw [hlen]; exact (hpos i hi).1)
    unfold permOps
    rw [List.getElem?_toArray, List.getElem?_map, h1]
    simp [Array.getD_eq_getD_getElem?, Array.getElem?_eq_getElem hi]
  have hget' : ∀ i, (permOps l ops0)[posOf l i]? = (ops0[i]?).map (permO l) := by
    intro i
    rcases Nat.lt_or_ge i ops0.size with h | h
    · exact hget i h
    · rw [hout i h, Array.getElem?_eq_none (by omega), Array.getElem?_eq_none (by omega)]; rfl
  have hback : ∀ p, p < ops0.size → ∃ i, i < ops0.size ∧ posOf l i = p := by
    intro p hp
    have hp' : p < l.length := by omega
    refine ⟨l[p], hlt _ (List.getElem_mem hp'), ?_⟩
    have := Nat.eq_of_beq_eq_true (hpos p hp).2
    rwa [List.getD_eq_getElem?_getD, List.getElem?_eq_getElem hp', Option.getD_some] at this
  have hy : ∀ (a : Act) j, yielded (permOps l ops0) a.tmps (posOf l j) = yielded ops0 a.tmps j := by
    intro a j
    unfold yielded
    rw [hget' j]
    cases ops0[j]? with
    | none => rfl
    | some o => rfl
  have hw : ∀ (o : Oper) (a : Act), Region.wanted (permO l o) (yielded (permOps l ops0) a.tmps) = Region.wanted o (yielded ops0 a.tmps) := by
    intro o a
    unfold Region.wanted
    cases hg : o.guard with
    | none => simp [permO, hg]
    | some p =>
      obtain ⟨j, b⟩ := p
      simp only [permO, hg, hy]
  have hop : ∀ {i : Nat} {Kn : Act → World → Prop} {a : Act} {w : World}, wpOp P (permOps l ops0) Q (posOf l i) Kn a w → wpOp P ops0 Q i Kn a w := by
    intro i Kn a w h
    unfold wpOp at h ⊢
    rw [hget' i] at h
    cases ho : ops0[i]? with
    | none => rw [ho] at h; exact h
    | some o =>
      rw [ho] at h
      simp only [Option.map_some, hw, wp_permO, asks_permO] at h ⊢
      exact h
  have hD0 : ∀ {D D' : Array Bool}, D.size = ops0.size → D'.size = ops0.size → (∀ i, i < ops0.size → D'.getD (posOf l i) false = D.getD i false) → ∀ i, D'.getD (posOf l i) false = D.getD i false := by
    intro D D' h1 h2 h i
    rcases Nat.lt_or_ge i ops0.size with hi | hi
    · exact h i hi
    · rw [hout i hi, Array.getD_eq_getD_getElem?, Array.getD_eq_getD_getElem?, Array.getElem?_eq_none (by omega), Array.getElem?_eq_none (by omega)]
  have hr : ∀ {D D' : Array Bool}, D.size = ops0.size → D'.size = ops0.size → (∀ i, i < ops0.size → D'.getD (posOf l i) false = D.getD i false) → ∀ i, i < ops0.size →
      (i ∈ Region.ready .any ops0 D ↔ posOf l i ∈ Region.ready .any (permOps l ops0) D') := by
    intro D D' h1 h2 h i hi
    have hp : posOf l i < D'.size := by rw [h2]; exact (hpos i hi).1
    have e1 : D'.getD (posOf l i) true = D.getD i true := by
      have := h i hi
      rw [Array.getD_eq_getD_getElem?, Array.getD_eq_getD_getElem?, Array.getElem?_eq_getElem hp, Array.getElem?_eq_getElem (show i < D.size by omega)] at this ⊢
      simpa using this
    rw [mem_ready, mem_ready, e1, hget' i]
    constructor
    · rintro ⟨h3, o, ho, h4⟩
      refine ⟨h3, permO l o, by rw [ho]; rfl, fun e he hb => ?_⟩
      obtain ⟨e0, he0, rfl⟩ := Array.mem_map.1 (show e ∈ o.after.map _ from he)
      rw [hD0 h1 h2 h]
      exact h4 e0 he0 hb
    · rintro ⟨h3, o, ho, h4⟩
      cases hoo : ops0[i]? with
      | none => rw [hoo] at ho; cases ho
      | some o0 =>
        rw [hoo] at ho
        cases ho
        refine ⟨h3, o0, rfl, fun e he hb => ?_⟩
        have := h4 { e with on := posOf l e.on } (Array.mem_map.2 ⟨e, he, rfl⟩) hb
        rwa [hD0 h1 h2 h] at this
  have hrl : ∀ {D D' : Array Bool}, D.size = ops0.size → D'.size = ops0.size → (∀ i, i < ops0.size → D'.getD (posOf l i) false = D.getD i false) → Region.ready .any ops0 D = [] → Region.ready .any (permOps l ops0) D' = [] := by
    intro D D' h1 h2 h h0
    cases hq : Region.ready .any (permOps l ops0) D' with
    | nil => rfl
    | cons p r =>
      have hm : p ∈ Region.ready .any (permOps l ops0) D' := by rw [hq]; exact List.mem_cons_self
      obtain ⟨_, o, ho, _⟩ := mem_ready.1 hm
      obtain ⟨i, hi, rfl⟩ := hback p (by rw [← hsz]; exact (Array.getElem?_eq_some_iff.1 ho).1)
      have := (hr h1 h2 h i hi).2 hm
      rw [h0] at this
      cases this
  intro fuel
  induction fuel with
  | zero =>
    intro D D' a w h1 h2 h hh
    obtain ⟨h3, h4⟩ := hh
    refine ⟨?_, h4⟩
    cases hq : Region.ready .any ops0 D with
    | nil => rfl
    | cons i r =>
      have hm : i ∈ Region.ready .any ops0 D := by rw [hq]; exact List.mem_cons_self
      obtain ⟨_, o, ho, _⟩ := mem_ready.1 hm
      have := (hr h1 h2 h i (Array.getElem?_eq_some_iff.1 ho).1).1 hm
      rw [h3] at this
      cases this
  | succ fuel ih =>
    intro D D' a w h1 h2 h hh
    obtain ⟨h3, h4⟩ := hh
    refine ⟨fun h0 => h3 (hrl h1 h2 h h0), fun i hi => ?_⟩
    obtain ⟨_, o, ho, _⟩ := mem_ready.1 hi
    have hi' := (Array.getElem?_eq_some_iff.1 ho).1
    refine wpOp_mono (fun a w hk => ih _ _ a w (by simpa using h1) (by simpa using h2) (fun j hj => ?_) hk) (hop (h4 _ ((hr h1 h2 h i hi').1 hi)))
    by_cases hij : j = i
    · subst hij
      have hp : posOf l j < D'.size := by rw [h2]; exact (hpos j hj).1
      simp [Array.getD_eq_getD_getElem?, hp, show j < D.size by omega]
    · have hne : posOf l i ≠ posOf l j := by
        intro he
        have e1 := posOf_get i l (by rw [hlen]; exact (hpos i hi').1)
        have e2 := posOf_get j l (by rw [hlen]; exact (hpos j hj).1)
        rw [he, e2] at e1
        simp only [Option.some.injEq] at e1
        exact hij e1
      rw [getD_set_ne _ hne, getD_set_ne _ (Ne.symm hij)]
      exact h j hj
theorem wpAny_permOf {ops0 : Array Oper} (hp : PermOf ops ops0) {Q : Exit → Act → World → Prop} (h : wpAny P .any ops Q ops.size (Array.replicate ops.size false) a w) :
    wpAny P .any ops0 Q ops0.size (Array.replicate ops0.size false) a w := by
  rcases hp with rfl | ⟨l, hl, rfl⟩
  · exact h
  · have hsz : (permOps l ops0).size = ops0.size := by
      have hl' := hl
      unfold permOk at hl'
      simp only [Bool.and_eq_true] at hl'
      simp [permOps, Nat.eq_of_beq_eq_true hl'.1.1]
    rw [hsz] at h
    refine wpAny_perm hl _ _ _ a w (by simp) (by simp) (fun i hi => ?_) h
    have hr : ∀ n k, (Array.replicate n false).getD k false = false := by
      intro n k
      simp only [Array.getD_eq_getD_getElem?, Array.getElem?_replicate]
      split <;> rfl
    rw [hr, hr]
theorem region_ok {Gd : Ground} (hgd : GroundOk Gd) (hm : P.follows .mixedOrders = true) (hcall : CallOk Gd P call) : RegionOk Gd P call := by
  intro DF H K N id ops ops0 dr is st st' hdr e n0 w0 I0 ρ w a hG hI hs Q hQ
  rcases hdr with ⟨rfl, rfl, rfl⟩ | ⟨rfl, his, hd, hperm⟩
  · simp only [regionRun] at e
    refine wp_region ?_
    rw [← range_ops ops] at e
    exact opsRun_wp (hcall n0 w0 hG) (List.range ops.size) { st with loc := [] } a ρ w e hI hs.noLoc hQ
  · obtain ⟨is, rfl⟩ := Option.isSome_iff_exists.1 his
    simp only [regionRun] at e
    have hok : drawOk P H K N ops (anOf ops) is = true := by
      unfold cDraw at hd
      simp only at hd
      split at hd
      · rename_i h
        simp only [Option.some.injEq] at hd
        rw [← hd]
        exact h
      · cases hd
    obtain ⟨f, vals, h0, hn, hstep, _, hfl⟩ := opsRunD_of _ _ _ _ _ _ e
    have hs0 : StR DF K N n0 I0 ρ w (f 0) a := by rw [h0]; exact hs.noLoc
    have hI0 : Inv n0 w0 I0 (f 0).σ ρ w := by rw [h0]; exact hI
    have T : Text P H K N ops call is f vals := by
      refine ⟨hok, fun i o ho => ?_, fun b t v hv => ?_, fun i o h ns ho hi hg e h1 h2 h3 h4 => ?_⟩
      · refine hstep i (cOper P H K N ops o) ?_
        rw [List.getElem?_map, Array.getElem?_toList, ho]
        rfl
      · cases b with
        | true => exact (hs0.env t v hv).1.symm
        | false => exact (hs0.loc t v hv).1.symm
      · refine hfl i (cOper P H K N ops o) h ns ?_ hi hg e h1 (by simpa using h2) (by simpa using h3) (by omega)
        rw [List.getElem?_map, Array.getElem?_toList, ho]
        rfl
    refine wp_region_any hm ?_
    refine wpAny_permOf hperm ?_
    have hfin : (f ops.size) = st' := by rw [← hn]; simp
    refine JJ.any (DF := DF) T hgd hG hcall (ρ0 := ρ) (hp0 := w.heap) (n0 := n0) (w0 := w0) (I0 := I0) (fun a' ρ' w' h1 h2 h3 => ?_) ops.size (Array.replicate ops.size false) a { w with drawn := w.drawn + 1 } ?_ ?_
    · rw [hfin] at h1 h2 h3
      rw [h0] at h3
      exact hQ a' ρ' w' h1 h2 h3
    · have : ∀ n, unl (List.replicate n false) = n := by
        intro n
        induction n with
        | zero => rfl
        | succ n ih =>
          simp only [List.replicate_succ, unl, ih, Bool.false_eq_true, if_false]
          omega
      rw [Array.toList_replicate, this]
      exact Nat.le_refl _
    · have hnl : ∀ k, ¬ Li (Array.replicate ops.size false) k := by
        intro k hk
        unfold Li at hk
        rw [Array.getD_eq_getD_getElem?, Array.getElem?_replicate] at hk
        split at hk <;> simp at hk
      obtain ⟨e', he1, he2, he3, he4⟩ := nextBar is ops.size ops.size 0 (by omega)
      obtain ⟨τ, hτ⟩ := T.σ_ext he1 he2 (fun x h1 h2 => he4 x h1 h2)
      have hI1 : Inv n0 w0 I0 (f 0).σ ρ w.drew := hI0.drew
      obtain ⟨hI2, E2⟩ := hI1.pad τ
      rw [← hτ] at hI2 E2
      refine ⟨by simp, fun j o ho hj => absurd hj (hnl j), 0, e', ρ, he1, he2, hnl e', he3, fun x hx h2 => absurd h2 (he4 x (Nat.zero_le _) hx), he4, .inl rfl, Nat.le_refl _, hI2, E2, fun j hj _ id h1 h2 => ?_, ?_⟩
      · cases hq : ρ id with
        | none => rfl
        | some p =>
          have h3 := (hI1.new id p.1 p.2 hq).2.2
          have := T.σ_len (i := 0) (j := j) (Nat.zero_le _) (by omega) (fun x h4 h5 => he4 x h4 (by omega))
          omega
      · refine ⟨hs0.defers, hs0.size, fun b t v hv _ => ?_, fun k t hk => absurd hk (hnl k)⟩
        cases b with
        | true =>
          obtain ⟨_, x, h1, h2⟩ := hs0.env t v hv
          exact ⟨x, h1, RV_mono E2 _ _ h2⟩
        | false =>
          obtain ⟨_, x, h1, h2⟩ := hs0.loc t v hv
          exact ⟨x, h1, RV_mono E2 _ _ h2⟩
theorem am_ok {Gd : Ground} {T : FTab} (hm : P.follows .mixedOrders = true) (hT : TabOk Gd P T) (n : Nat) : (∀ m, m ≤ n → ExecOk Gd P T m) ∧ CallOk Gd P (callA T n) :=
  all_ok hT (fun _ hc => region_ok hT.1 hm hc) n
def isT : Option (V × Store) → Bool
  | some (.tr (.sc (.bool true)), _) => true
  | _ => false
theorem ext_true {Gd : Ground} {T : FTab} {f : FuncId} {m : Nat} (hm : P.follows .mixedOrders = true) (hT : TabOk Gd P T) (h : isT (callA T m f [] []) = true) : ExtOk Gd P f 18 := by
  refine ExtOk.pure2 (fun n0 w0 w xs ys r hG hB hn harg hr => ?_) (by decide)
  have hxs : xs = ys := harg
  subst hxs
  cases xs with
  | cons x xs => cases hr
  | nil =>
    cases hr
    unfold isT at h
    split at h
    · rename_i σ' e
      have hG' := hT.1 n0 w0 w hG hB hn
      have hI : Inv w.heap.size w (fun _ => False) [] (fun _ => none) w :=
        ⟨Below.refl _ _, Nat.le_refl _, fun b hb => hb.elim, fun i b o hh => (by cases hh), fun i j b o o' hh => (by cases hh), fun i b o ob hh => (by cases hh)⟩
      refine ((am_ok hm hT m).2 _ _ hG' f [] [] _ _ e (fun _ => False) (fun _ => none) w [] hI (by simp [RVL])).mono fun x w' hp => ?_
      obtain ⟨ρ', hI', _, hv⟩ := hp
      exact ⟨RV_sc.1 hv, hI'.below⟩
    · cases h
end
end Go.Proofs.YtolhjhjlfgfifaaGreatDoor.AM
end
section
set_option linter.unusedSimpArgs false
set_option linter.unusedVariables false
set_option linter.unusedVariables false
set_option linter.unusedSimpArgs false
namespace Go.Proofs.YtolhjhjlfgfifaaGreatDoor.AM
def half : IntKind → Nat
  | .i8 => 128 | .i16 => 32768 | .i32 => 2147483648 | .i64 => 9223372036854775808
  | .u8 => 256 | .u16 => 65536 | .u32 => 4294967296 | .u64 => 18446744073709551616
def sg : IntKind → Bool
  | .i8 => true | .i16 => true | .i32 => true | .i64 => true
  | _ => false
def wrapF (k : IntKind) (n : Int) : Int := match n with
  | .ofNat m => match Nat.blt m (half k) with | true => .ofNat m | false => k.wrap n
  | .negSucc m => match sg k with | true => (match Nat.blt m (half k) with | true => .negSucc m | false => k.wrap n) | false => k.wrap n
def ltF (a b : Int) : Bool := match a with
  | .ofNat m => match b with | .ofNat n => Nat.blt m n | .negSucc _ => false
  | .negSucc m => match b with | .ofNat _ => true | .negSucc n => Nat.blt n m
theorem wrap_in_pos (k : IntKind) (m : Nat) (h : m < half k) : k.wrap (Int.ofNat m) = Int.ofNat m := by
  have e : Int.ofNat m = (m : Int) := rfl
  rw [e]
  cases k with
  | i8 => exact IntWalk.i8_in _ (by have : m < 128 := h; omega)
  | i16 => exact IntWalk.i16_in _ (by have : m < 32768 := h; omega)
  | i32 => exact IntWalk.i32_in _ (by have : m < 2147483648 := h; omega)
  | i64 => exact IntWalk.i64_in _ (by have : m < 9223372036854775808 := h; omega)
  | u8 => exact IntWalk.u8_in _ (by have : m < 256 := h; omega)
  | u16 => exact IntWalk.u16_in _ (by have : m < 65536 := h; omega)
  | u32 => exact IntWalk.u32_in _ (by have : m < 4294967296 := h; omega)
  | u64 => exact IntWalk.u64_in _ (by have : m < 18446744073709551616 := h; omega)
theorem wrap_in_neg (k : IntKind) (m : Nat) (hs : sg k = true) (h : m < half k) : k.wrap (Int.negSucc m) = Int.negSucc m := by
  have e : Int.negSucc m = -((m : Int) + 1) := rfl
  rw [e]
  cases k with
  | i8 => exact IntWalk.i8_in _ (by have : m < 128 := h; omega)
  | i16 => exact IntWalk.i16_in _ (by have : m < 32768 := h; omega)
  | i32 => exact IntWalk.i32_in _ (by have : m < 2147483648 := h; omega)
  | i64 => exact IntWalk.i64_in _ (by have : m < 9223372036854775808 := h; omega)
  | _ => cases hs
theorem wrapF_eq (k : IntKind) (n : Int) : wrapF k n = k.wrap n := by
  unfold wrapF
  cases n with
  | ofNat m =>
    simp only
    split
    · rename_i h
      exact (wrap_in_pos k m ((by simpa only [Nat.blt_eq] using h))).symm
    · rfl
  | negSucc m =>
    simp only
    split
    · rename_i hs
      split
      · rename_i h
        exact (wrap_in_neg k m hs ((by simpa only [Nat.blt_eq] using h))).symm
      · rfl
    · rfl
theorem ltF_iff (a b : Int) : ltF a b = true ↔ a < b := by
  cases a with
  | ofNat m =>
    cases b with
    | ofNat n =>
      show Nat.blt m n = true ↔ (m : Int) < (n : Int)
      rw [Nat.blt_eq]
      omega
    | negSucc n =>
      show false = true ↔ (m : Int) < -((n : Int) + 1)
      constructor
      · intro h; cases h
      · intro h; omega
  | negSucc m =>
    cases b with
    | ofNat n =>
      show true = true ↔ -((m : Int) + 1) < (n : Int)
      constructor
      · intro _; omega
      · intro _; rfl
    | negSucc n =>
      show Nat.blt n m = true ↔ -((m : Int) + 1) < -((n : Int) + 1)
      rw [Nat.blt_eq]
      omega
theorem ltF_eq (a b : Int) : ltF a b = decide (a < b) := by
  rw [Bool.eq_iff_iff, ltF_iff, decide_eq_true_eq]
end Go.Proofs.YtolhjhjlfgfifaaGreatDoor.AM
end
section
set_option linter.unusedSimpArgs false
set_option linter.unusedVariables false
set_option linter.unusedVariables false
set_option linter.unusedSimpArgs false
namespace Go.Proofs.YtolhjhjlfgfifaaGreatDoor.AM
def asI? : V → Option (IntKind × Int)
  | .tr (.sc (.int k n)) => some (k, n)
  | _ => none
def kix : IntKind → Nat
  | .i8 => 0 | .i16 => 1 | .i32 => 2 | .i64 => 3 | .u8 => 4 | .u16 => 5 | .u32 => 6 | .u64 => 7
theorem kix_inj {k k' : IntKind} (h : Nat.beq (kix k) (kix k') = true) : k = k' := by
  cases k <;> cases k' <;> first | rfl | (exact absurd h (by decide))
def intF (op : BinOp) (k : IntKind) (a b : Int) : Option Value :=
  match op with
  | .add => some (.int k (wrapF k (a + b)))
  | .sub => some (.int k (wrapF k (a - b)))
  | .mul => some (.int k (wrapF k (a * b)))
  | .lss => some (.bool (ltF a b))
  | .gtr => some (.bool (ltF b a))
  | .leq => some (.bool (!ltF b a))
  | .geq => some (.bool (!ltF a b))
  | op => binInt op k a b
theorem intF_eq (op : BinOp) (k : IntKind) (a b : Int) : intF op k a b = binInt op k a b := by
  cases op <;> simp only [intF, binInt, wrapF_eq, ltF_eq] <;> congr 2
  · rw [Bool.eq_iff_iff]; simp
  · rw [Bool.eq_iff_iff]; simp
def sh : BinOp → Bool
  | .shl => true
  | .shr => true
  | _ => false
def opBinF (ek : EK) (op : BinOp) (x y : V) : Option V :=
  match asI? x with
  | some (k, a) => match asI? y with
    | some (k', b) => match sh op with
      | true => opBin ek op x y
      | false => match Nat.beq (kix k) (kix k') with
        | true => match intF op k a b with | some v => some (.tr (.sc v)) | none => none
        | false => opBin ek op x y
    | none => opBin ek op x y
  | none => opBin ek op x y
theorem asI_some {x : V} {k : IntKind} {n : Int} (h : asI? x = some (k, n)) : x = .tr (.sc (.int k n)) := by
  unfold asI? at h
  split at h
  · cases h; rfl
  · cases h
theorem opBinF_eq (ek : EK) (op : BinOp) (x y : V) : opBinF ek op x y = opBin ek op x y := by
  unfold opBinF
  split
  · rename_i k a hx
    split
    · rename_i k' b hy
      split
      · rfl
      · rename_i hs
        split
        · rename_i hk
          have hk := kix_inj hk
          subst hk
          rw [asI_some hx, asI_some hy, intF_eq]
          unfold opBin
          have h1 : ∀ v : V, v = .tr (.sc (.int k a)) → isNil ek v = false ∧ notNil ek v = false := by
            rintro v rfl
            cases ek <;> exact ⟨rfl, rfl⟩
          rw [(h1 _ rfl).1, (h1 _ rfl).2]
          simp only [Bool.false_eq_true, if_false, binSc]
          cases op <;> first | rfl | (cases hs; done) | simp
        · rfl
    · rfl
  · rfl
end Go.Proofs.YtolhjhjlfgfifaaGreatDoor.AM
end
section
set_option linter.unusedSimpArgs false
set_option linter.unusedVariables false
set_option linter.unusedVariables false
set_option linter.unusedSimpArgs false
namespace Go.Proofs.YtolhjhjlfgfifaaGreatDoor.AM
def CallLe (c c' : CallA) : Prop := ∀ f vs σ r, c f vs σ = some r → c' f vs σ = some r
section
variable {c c' : CallA} (hc : CallLe c c')
include hc
theorem opA_le {k : HK} {st : St} {r : V × Store} (e : opA c k st = some r) : opA c' k st = some r := by
  cases k with
  | callf f args =>
    simp only [opA, o_callf] at e ⊢
    split at e
    · exact hc _ _ _ _ e
    · cases e
  | callv f args =>
    simp only [opA, o_callv] at e ⊢
    unfold bind1 at e ⊢
    split at e
    · split at e
      · unfold callV at e ⊢
        simp only at e ⊢
        split at e
        · exact hc _ _ _ _ e
        · exact hc _ _ _ _ e
        · cases e
      · cases e
    · cases e
  | _ => exact e
theorem opStep_le {o : HOp} {st st' : St} (e : opStep c o st = some st') : opStep c' o st = some st' := by
  unfold opStep at e ⊢
  split at e
  · split at e
    · rename_i v σ h
      rw [opA_le hc h]
      exact e
    · cases e
  · exact e
  · cases e
theorem opsRun_le : ∀ {ops : List HOp} {st st' : St}, opsRun c ops st = some st' → opsRun c' ops st = some st'
  | [], st, st', e => e
  | o :: r, st, st', e => by
    simp only [opsRun] at e ⊢
    split at e
    · rename_i s h
      rw [opStep_le hc h]
      exact opsRun_le e
    · cases e
theorem quiet_le : CallLe (quietCall c) (quietCall c') := by
  intro f vs σ r e
  unfold quietCall at e ⊢
  split at e
  · cases e
  · split at e
    · cases e
    · rename_i h
      rw [hc _ _ _ _ h]
      exact e
theorem opStepD_le {k : Nat} {ns : List Nat} {o : HOp} {st st' : St} (e : opStepD c k ns o st = some st') : opStepD c' k ns o st = some st' := by
  unfold opStepD at e ⊢
  split at e
  · split at e
    · rename_i v σ h
      have : opA (if Nat.beq k 1 = true then quietCall c' else c') o.k (st.only ns) = some (v, σ) := by
        split at h
        · rename_i hk
          rw [if_pos hk]
          exact opA_le (quiet_le hc) h
        · rename_i hk
          rw [if_neg hk]
          exact opA_le hc h
      rw [this]
      exact e
    · cases e
  · exact e
  · cases e
theorem pendOk_le {σ : Store} {p : Pend} (e : pendOk c σ p = true) : pendOk c' σ p = true := by
  unfold pendOk at e ⊢
  split at e
  · rename_i v s h
    rw [opA_le hc h]
    exact e
  · cases e
theorem pendAll_le {i : Nat} {σ : Store} {ps : List Pend} (e : pendAll c i σ ps = true) : pendAll c' i σ ps = true := by
  unfold pendAll at e ⊢
  rw [List.all_eq_true] at e ⊢
  intro p hp
  have := e p hp
  simp only [Bool.or_eq_true] at this ⊢
  rcases this with h | h
  · exact .inl h
  · exact .inr (pendOk_le hc h)
theorem pendAdd_le {k : Nat} {ns : List Nat} {o : HOp} {st st' : St} {ps : List Pend} (e : opStepD c k ns o st = some st') : pendAdd c' k ns o st ps = pendAdd c k ns o st ps := by
  unfold pendAdd
  split
  · rename_i h
    unfold opStepD at e
    have hb : ¬ Nat.beq (h + 3) 1 = true := by simp
    simp only [if_neg hb] at e
    split at e
    · rename_i hg
      rw [hg]
      split at e
      · rename_i v s hop
        simp only [opA_le hc hop]
      · cases e
    · rename_i hg
      rw [hg]
    · cases e
  · rfl
theorem opsRunD_le : ∀ {is : List (Nat × List Nat)} {ops : List HOp} {i : Nat} {ps : List Pend} {st st' : St}, opsRunD c i ps is ops st = some st' → opsRunD c' i ps is ops st = some st'
  | [], [], i, ps, st, st', e => by
    simp only [opsRunD] at e ⊢
    split at e
    · rename_i h
      rw [if_pos (pendAll_le hc h)]
      exact e
    · cases e
  | (k, ns) :: is, o :: r, i, ps, st, st', e => by
    simp only [opsRunD] at e ⊢
    split at e
    · cases e
    · rename_i h
      have h' : ¬ (Nat.beq k 2 && !pendAll c' i st.σ ps) = true := by
        intro hh
        simp only [Bool.and_eq_true, Bool.not_eq_true', not_and] at h hh
        have h1 := h hh.1
        rw [Bool.not_eq_false] at h1
        rw [pendAll_le hc h1] at hh
        cases hh.2
      rw [if_neg h']
      split at e
      · rename_i s hs
        rw [opStepD_le hc hs]
        simp only
        rw [pendAdd_le hc hs]
        exact opsRunD_le e
      · cases e
  | [], _ :: _, i, ps, st, st', e => by simp [opsRunD] at e
  | _ :: _, [], i, ps, st, st', e => by simp [opsRunD] at e
end
end Go.Proofs.YtolhjhjlfgfifaaGreatDoor.AM
end
section
set_option linter.unusedSimpArgs false
set_option linter.unusedVariables false
set_option linter.unusedVariables false
set_option linter.unusedSimpArgs false
namespace Go.Proofs.YtolhjhjlfgfifaaGreatDoor.AM
noncomputable def bif2 {β : Type} (b : Bool) (x y : β) : β := Bool.rec (motive := fun _ => β) y x b
theorem bif2_some {α : Type} {b : Bool} {x : Option α} {r : α} (h : bif2 b x none = some r) : b = true ∧ x = some r := by
  cases b with
  | false => cases h
  | true => exact ⟨rfl, h⟩
theorem bif2_or {α : Type} {b : Bool} {x y : Option α} {r : α} (h : bif2 b x y = some r) : (b = true ∧ x = some r) ∨ (b = false ∧ y = some r) := by
  cases b with
  | false => exact .inr ⟨rfl, h⟩
  | true => exact .inl ⟨rfl, h⟩
def MonoC (cas : Nat → CallA) : Prop := ∀ m m', m ≤ m' → CallLe (cas m) (cas m')
theorem mono1 (T : FTab) : ∀ n,
    (∀ c st r, exec T n c st = some r → exec T (n + 1) c st = some r) ∧ (∀ fn args σ r, runA T n fn args σ = some r → runA T (n + 1) fn args σ = some r) ∧ CallLe (callA T n) (callA T (n + 1)) ∧
    (∀ d st r, execD T n d st = some r → execD T (n + 1) d st = some r) ∧ (∀ fv vs σ r, runDf T n fv vs σ = some r → runDf T (n + 1) fv vs σ = some r)
  | 0 => ⟨fun _ _ _ e => by simp [exec] at e, fun _ _ _ _ e => by simp [runA] at e, fun _ _ _ _ e => by simp [callA] at e, fun _ _ _ e => by simp [execD] at e, fun _ _ _ _ e => by simp [runDf] at e⟩
  | n + 1 => by
    obtain ⟨h1, h2, h3, h4, h5⟩ := mono1 T n
    refine ⟨fun c st r e => ?_, fun fn args σ r e => ?_, fun f args σ r e => ?_, fun d st r e => ?_, fun fv vs σ r e => ?_⟩
    · cases c with
      | skip => simpa only [exec] using e
      | region ops dr =>
        rw [exec] at e ⊢
        split at e
        · rename_i s hs
          have : regionRun (callA T (n + 1)) ops dr st = some s := by
            unfold regionRun at hs ⊢
            cases dr with
            | none => exact opsRun_le h3 hs
            | some is => exact opsRunD_le h3 hs
          rw [this]
          exact e
        · cases e
      | seq a b =>
        rw [exec] at e ⊢
        split at e
        · rename_i s hs
          rw [h1 _ _ _ hs]
          exact h1 _ _ _ e
        · rename_i hno
          rw [h1 _ _ _ e]
          split
          · rename_i s hs
            rw [Option.some.inj hs] at e
            exact absurd e (hno s)
          · rfl
      | cond x a b =>
        rw [exec] at e ⊢
        cases hv : st.get x with
        | none => simp only [hv] at e; cases e
        | some v =>
          simp only [hv] at e ⊢
          cases hb : asBool? v with
          | none => simp only [hb] at e; cases e
          | some u =>
            simp only [hb] at e ⊢
            cases u with
            | true => exact h1 _ _ _ e
            | false => exact h1 _ _ _ e
      | block id b =>
        rw [exec] at e ⊢
        split at e
        · rename_i id' s hs
          rw [h1 _ _ _ hs]
          exact e
        · rename_i hno
          rw [h1 _ _ _ e]
          split
          · rename_i id' s hs
            rw [Option.some.inj hs] at e
            exact absurd e (hno id' s)
          · rfl
      | loop b =>
        rw [exec] at e ⊢
        split at e
        · rename_i s hs
          rw [h1 _ _ _ hs]
          exact h1 (.loop b) _ _ e
        · rename_i hno
          rw [h1 _ _ _ e]
          split
          · rename_i s hs
            rw [Option.some.inj hs] at e
            exact absurd e (hno s)
          · rfl
      | exit id => simpa only [exec] using e
      | ret => simpa only [exec] using e
      | bad => simp [exec] at e
    · rw [runA] at e ⊢
      cases hd : fn.dfr with
      | none =>
        simp only [hd] at e ⊢
        split at e
        · rename_i s hs
          rw [h1 _ _ _ hs]
          exact e
        · rename_i s hs
          rw [h1 _ _ _ hs]
          exact e
        · cases e
      | some d =>
        simp only [hd] at e ⊢
        split at e
        · cases e
        · rename_i fv vs o st hno hs
          rw [h4 _ _ _ hs]
          split at e
          · rename_i σ2 h2'
            have h6 := h5 _ _ _ _ h2'
            split
            · rename_i heq
              simp only [Option.some.injEq, Prod.mk.injEq] at heq
              obtain ⟨_, _, rfl, _⟩ := heq
              exact absurd rfl (hno _)
            · rename_i heq
              simp only [Option.some.injEq, Prod.mk.injEq] at heq
              obtain ⟨rfl, rfl, rfl, rfl⟩ := heq
              rw [h6]
              exact e
            · rename_i heq
              cases heq
          · cases e
        · cases e
    · rw [callA] at e ⊢
      split at e
      · cases e
      · rename_i fn hf
        split at e
        · rename_i hlen
          rw [if_pos hlen]
          split at e
          · exact e
          · exact h2 _ _ _ _ e
          · split at e
            · cases e
            · rename_i ts hts
              split at e
              · cases e
              · rename_i v σ1 hr
                rw [h2 _ _ _ _ hr]
                exact e
        · cases e
    · cases d with
      | after c d =>
        rw [execD] at e ⊢
        split at e
        · rename_i s hs
          rw [h1 _ _ _ hs]
          exact h4 _ _ _ e
        · cases e
      | here ops f args dst inK ops2 post =>
        rw [execD] at e ⊢
        split at e
        · cases e
        · rename_i s1 hs1
          rw [opsRun_le h3 hs1]
          simp only
          split at e
          · rename_i fv vs hf hv
            split at e
            · cases e
            · rename_i q hq
              split at e
              · cases e
              · rename_i s2 hs2
                rw [opsRun_le h3 hs2]
                simp only
                split at e
                · rename_i o s3 hs3
                  rw [h1 _ _ _ hs3]
                  exact e
                · cases e
          · cases e
    · rw [runDf] at e ⊢
      cases hf : fnV fv with
      | none => simp only [hf] at e; cases e
      | some p =>
        obtain ⟨g, first, cap⟩ := p
        simp only [hf] at e ⊢
        cases hg : T g with
        | none => simp only [hg] at e; cases e
        | some gn =>
          simp only [hg] at e ⊢
          split at e
          · rename_i hlen
            rw [if_pos hlen]
            split at e
            · exact e
            · split at e
              · cases e
              · rename_i hd
                split at e
                · rename_i v σ2 hr
                  rw [h2 _ _ _ _ hr]
                  exact e
                · cases e
            · cases e
          · cases e
theorem exec_mono (T : FTab) {c : HCode} {st : St} {r : Out × St} {n m : Nat} (h : n ≤ m) (e : exec T n c st = some r) : exec T m c st = some r := by
  induction h with
  | refl => exact e
  | step _ ih => exact (mono1 T _).1 _ _ _ ih
theorem callA_mono (T : FTab) : MonoC (callA T) := by
  intro n m h
  induction h with
  | refl => exact fun _ _ _ _ e => e
  | step _ ih => exact fun f vs σ r e => (mono1 T _).2.2.1 _ _ _ _ (ih f vs σ r e)
end Go.Proofs.YtolhjhjlfgfifaaGreatDoor.AM
end
section
set_option linter.unusedSimpArgs false
set_option linter.unusedVariables false
set_option linter.unusedVariables false
set_option linter.unusedSimpArgs false
namespace Go.Proofs.YtolhjhjlfgfifaaGreatDoor.AM
inductive BT where
  | z0
  | n (v : Ob) (l r : BT)
structure FS where
  t : BT
  len : Nat
inductive ET where
  | z0
  | v (x : V)
  | n (l r : ET)
noncomputable section
def natK {β : Type} (m : Nat) (f : Nat → β) : β := Nat.rec (motive := fun _ => β) (f 0) (fun p _ => f (Nat.succ p)) m
theorem natK_eq {β : Type} (m : Nat) (f : Nat → β) : natK m f = f m := by cases m <;> rfl
def optR {α β : Type} (x : Option α) (f : α → Option β) : Option β := Option.rec (motive := fun _ => Option β) none f x
theorem optR_some {α β : Type} {x : Option α} {f : α → Option β} {r : β} (h : optR x f = some r) : ∃ a, x = some a ∧ f a = some r := by
  cases x with
  | none => cases h
  | some a => exact ⟨a, rfl, h⟩
def BT.get (t : BT) : Nat → Option Ob :=
  BT.rec (motive := fun _ => Nat → Option Ob) (fun _ => none)
    (fun v _ _ gl gr i => Nat.rec (motive := fun _ => Option Ob) (some v) (fun j _ => Bool.rec (motive := fun _ => Option Ob) (gr (Nat.div j 2)) (gl (Nat.div j 2)) (Nat.beq (Nat.mod j 2) 0)) i) t
def BT.setK {β : Type} (t : BT) : Nat → Ob → (BT → β) → β :=
  BT.rec (motive := fun _ => Nat → Ob → (BT → β) → β) (fun _ o k => k (.n o .z0 .z0))
    (fun v l r sl sr i o k => Nat.rec (motive := fun _ => β) (k (.n o l r))
      (fun j _ => Bool.rec (motive := fun _ => β) (sr (Nat.div j 2) o (fun r' => k (.n v l r'))) (sl (Nat.div j 2) o (fun l' => k (.n v l' r))) (Nat.beq (Nat.mod j 2) 0)) i) t
def FS.getO (s : FS) (i : Nat) : Option Ob := s.t.get i
def FS.setK {β : Type} (s : FS) (i : Nat) (o : Ob) (k : FS → β) : β := s.t.setK i o (fun t => k ⟨t, s.len⟩)
def FS.pushK {β : Type} (s : FS) (o : Ob) (k : Nat → FS → β) : β := natK s.len fun n => s.t.setK n o (fun t => k n ⟨t, Nat.succ n⟩)
def FS.nil : FS := ⟨.z0, 0⟩
def toL (s : FS) : Store := (List.range s.len).map fun i => ((s.getO i).getD (.map [] 0))
def ofL (σ : Store) : FS := σ.foldl (fun s o => s.pushK o (fun _ s => s)) FS.nil
abbrev R := Option (V × FS)
abbrev K := ET → List V → FS → R
abbrev GCall := FuncId → List V → FS → R
abbrev GO := (V → R) → ET → List V → R
abbrev GK := GCall → (V → FS → R) → ET → List V → FS → R
abbrev GOp := GCall → K → K
abbrev GE := (V → R) → ET → R
abbrev GS := V → (ET → R) → ET → R
abbrev GC := GCall → List K → K → K → K
def eV : GE := fun k e => ET.rec (motive := fun _ => R) none (fun x => k x) (fun _ _ _ _ => none) e
def eL (g : GE) : GE := fun k e => ET.rec (motive := fun _ => R) none (fun _ => none) (fun l _ _ _ => g k l) e
def eR (g : GE) : GE := fun k e => ET.rec (motive := fun _ => R) none (fun _ => none) (fun _ r _ _ => g k r) e
def sV : GS := fun x k _ => k (.v x)
def sL (g : GS) : GS := fun x k e => ET.rec (motive := fun _ => R) (g x (fun l => k (.n l .z0)) .z0) (fun _ => g x (fun l => k (.n l .z0)) .z0) (fun l r _ _ => g x (fun l => k (.n l r)) l) e
def sR (g : GS) : GS := fun x k e => ET.rec (motive := fun _ => R) (g x (fun r => k (.n .z0 r)) .z0) (fun _ => g x (fun r => k (.n .z0 r)) .z0) (fun l r _ _ => g x (fun r => k (.n l r)) r) e
def oV (v : V) : GO := fun k _ _ => k v
def oE (g : GE) : GO := fun k e _ => g k e
def oZ : GO := fun k _ l => List.rec (motive := fun _ => R) none (fun h _ _ => k h) l
def oS (g : GO) : GO := fun k e l => List.rec (motive := fun _ => R) none (fun _ t _ => g k e t) l
def oBad : GO := fun _ _ _ => none
abbrev GOs := (List V → R) → ET → List V → R
def aN : GOs := fun k _ _ => k []
def aC (x : GO) (r : GOs) : GOs := fun k e l => x (fun v => r (fun vs => k (v :: vs)) e l) e l
abbrev GPs := (List (Nat × Nat × V) → R) → ET → List V → R
def bN : GPs := fun k _ _ => k []
def bC (o n : Nat) (x : GO) (r : GPs) : GPs := fun k e l => x (fun v => r (fun vs => k ((o, n, v) :: vs)) e l) e l
abbrev GMo := (Option V → R) → ET → List V → R
def mN : GMo := fun k _ _ => k none
def mS (x : GO) : GMo := fun k e l => x (fun v => k (some v)) e l
def pN (g : GK) : GOp := fun c k e l s => g c (fun _ s => k e l s) e l s
def pL (g : GK) : GOp := fun c k e l s => g c (fun v s => k e (v :: l) s) e l s
def pE (w : GS) (g : GK) : GOp := fun c k e l s => g c (fun v s => w v (fun e => k e l s) e) e l s
def kUndef : GK := fun _ k _ _ s => k undefV s
def isB (b want : Bool) : Bool := Bool.rec (motive := fun _ => Bool) (Bool.rec (motive := fun _ => Bool) true false want) want b
def gG (x : GO) (want : Bool) (a b : GOp) : GOp := fun c k e l s => x (fun v => match v with
  | .tr (.sc (.bool u)) => Bool.rec (motive := fun _ => R) (b c k e l s) (a c k e l s) (isB u want)
  | .tr (.tup []) => b c k e l s
  | _ => none) e l
def opBad : GOp := fun _ _ _ _ _ => none
def cs (a b : GOp) : GOp := fun c k => a c (b c k)
def cz : GOp := fun _ k => k
def cSkip : GC := fun _ _ _ k => k
def cReg (o : GOp) : GC := fun c _ _ k e _ s => o c k e [] s
def cSeq (a b : GC) : GC := fun c ex ret k => a c ex ret (b c ex ret k)
def cCond (x : GO) (a b : GC) : GC := fun c ex ret k e l s => x (fun v => match v with
  | .tr (.sc (.bool u)) => Bool.rec (motive := fun _ => R) (b c ex ret k e l s) (a c ex ret k e l s) u
  | _ => none) e l
def cBlock (b : GC) : GC := fun c ex ret k => b c (k :: ex) ret k
def loopFuel : Nat := 100000
def cLoop (b : GC) : GC := fun c ex ret _ => Nat.rec (motive := fun _ => K) (fun _ _ _ => none) (fun _ ih => fun e l s => b c ex ret ih e l s) loopFuel
def xZ : GC := fun _ ex _ _ e l s => List.rec (motive := fun _ => R) none (fun h _ _ => h e l s) ex
def xS (g : GC) : GC := fun c ex ret k e l s => List.rec (motive := fun _ => R) none (fun _ t _ => g c t ret k e l s) ex
def cRet : GC := fun _ _ ret _ => ret
def cBad : GC := fun _ _ _ _ _ _ _ => none
def nthR {α : Type} (l : List α) : Nat → Option α := List.rec (motive := fun _ => Nat → Option α) (fun _ => none) (fun h _ ih n => Nat.rec (motive := fun _ => Option α) (some h) (fun m _ => ih m) n) l
def dropR {α : Type} (l : List α) : Nat → List α := List.rec (motive := fun _ => Nat → List α) (fun _ => []) (fun h t ih n => Nat.rec (motive := fun _ => List α) (h :: t) (fun m _ => ih m) n) l
def takeR {α : Type} (l : List α) : Nat → Option (List α) := List.rec (motive := fun _ => Nat → Option (List α)) (fun n => Nat.rec (motive := fun _ => Option (List α)) (some []) (fun _ _ => none) n)
  (fun h _ ih n => Nat.rec (motive := fun _ => Option (List α)) (some []) (fun m _ => optR (ih m) (fun r => some (h :: r))) n) l
def setR {β : Type} (l : List V) (v : V) : Nat → (List V → Option β) → Option β := List.rec (motive := fun _ => Nat → (List V → Option β) → Option β) (fun _ _ => none)
  (fun h t ih n k => Nat.rec (motive := fun _ => Option β) (k (v :: t)) (fun m _ => ih m (fun t => k (h :: t))) n) l
def sliceR {α : Type} (l : List α) (off n : Nat) : Option (List α) := takeR (dropR l off) n
def cellsG (s : FS) (id g : Nat) : Option (List V) := match s.getO id with
  | some (.row cs g') => bif2 (Nat.beq g g') (some cs) none
  | some (.fro ts g') => bif2 (Nat.beq g g') (some (ts.map .tr)) none
  | _ => none
def elemsG (s : FS) (size : Nat) (x : V) : Option (List V × Nat) := match x with
  | .own id g off len sz _ => bif2 (Nat.beq sz size) (optR (cellsG s id g) fun cs => optR (sliceR cs off (Nat.mul len size)) fun r => some (r, len)) none
  | x => elems [] size x
def putG (s : FS) (id g off : Nat) (r : List V) : Option FS := match s.getO id with
  | some (.row cs g') => bif2 (Nat.beq g g') (bif2 (Nat.ble (off + r.length) cs.length) (bif2 (r.all oneV) (s.setK id (.row (splice cs off r) g') some) none) none) none
  | _ => none
def ldG1 (a : V) (s : FS) : Option V := match a with
  | .ptr id g off => match s.getO id with
    | some (.row cs g') => bif2 (Nat.beq g g') (nthR cs off) none
    | some (.fro ts g') => bif2 (Nat.beq g g') (optR (nthR ts off) fun t => some (.tr t)) none
    | _ => none
  | .tr (.rptr ts off) => optR (nthR ts off) fun t => some (.tr t)
  | _ => none
def ldG (size : Nat) (agg : Bool) (a : V) (s : FS) : Option V := match a with
  | .ptr id g off => optR (cellsG s id g) fun cs => optR (sliceR cs off size) fun r => ofCells agg r
  | a => opLoad size agg a []
def stG1 (a x : V) (s : FS) (k : FS → R) : R := match a with
  | .ptr id g off => match s.getO id with
    | some (.row cs g') => bif2 (Nat.beq g g') (bif2 (oneV x) (setR cs x off fun cs => s.setK id (.row cs g') k) none) none
    | _ => none
  | _ => none
def stG (size : Nat) (a x : V) (s : FS) (k : FS → R) : R := match a with
  | .ptr id g off => bif2 (Nat.beq (cellsOf x).length size) (optR (putG s id g off (cellsOf x)) k) none
  | _ => none
def asIdxK (i : V) (k : Nat → Option V) : Option V := match i with
  | .tr (.sc (.int _ (.ofNat n))) => k n
  | _ => none
def iaddrG (size : Nat) (x i : V) (s : FS) : Option V := asIdxK i fun i => match x with
  | .own id g off len sz _ => optR (s.getO id) fun ob => bif2 (Nat.blt i len) (bif2 (Nat.beq sz size) (bif2 (Nat.beq g (genOf ob)) (natK (Nat.add off (Nat.mul i size)) fun o => some (.ptr id g o)) none) none) none
  | .tr (.row cs n _) => bif2 (Nat.blt i n) (bif2 cs.isEmpty none (natK (Nat.mul i size) fun o => some (.tr (.rptr cs o)))) none
  | _ => none
def allocG (z : List V) (s : FS) (k : V → FS → R) : R := s.pushK (.row z 0) fun n s => k (.ptr n 0 0) s
def bsliceG (own : Bool) (len size : Nat) (zero : List Tree) (parts : List (Nat × Nat × V)) (s : FS) (k : V → FS → R) : R :=
  optR (fillV ((rep len zero).map .tr) parts) fun cs =>
    bif2 own (s.pushK (.row cs 0) fun n s => k (.own n 0 0 len size (some len)) s) (match allTr cs with
    | some ts => k (.tr (.row ts len (some len))) s
    | none => none)
def appendG (size bytes : Nat) (v x : V) (s : FS) (k : V → FS → R) : R := optR (elemsG s size x) fun p => match p with
  | (xs, n) => bif2 (room n bytes) (match v with
    | .tr (.sc (.slice none 0 0)) => Nat.rec (motive := fun _ => R) (k v s) (fun _ _ => s.pushK (.row xs 0) fun id s => k (.own id 0 0 n size none) s) n
    | .own id g off len sz cap => bif2 (Nat.beq sz size) (bif2 (room len bytes) (match s.getO id with
      | some (.row cs g') => bif2 (Nat.beq g g') (optR (sliceR cs off (Nat.mul len size)) fun old => Nat.rec (motive := fun _ => R) (k v s) (fun _ _ => match cap with
        | some c => bif2 (Nat.ble (len + n) c)
          (optR (putG s id g (off + len * size) xs) fun s => k (.own id g off (len + n) size cap) s)
          (s.pushK (.row (old ++ xs) 0) fun i s => k (.own i 0 0 (len + n) size none) s)
        | none => bif2 (Nat.ble (off + (len + n) * size) cs.length && Nat.blt 0 size)
          (optR (putG s id g (off + len * size) xs) fun s => k (.own id g off (len + n) size cap) s)
          (bif2 (xs.all oneV) (natK (len + n) fun m => s.setK id (.row (old ++ xs) (g + 1)) fun s => k (.own id (g + 1) 0 m size none) s) none)) n) none
      | _ => none) none) none
    | .tr (.row cs len cap) => Nat.rec (motive := fun _ => R) (k v s) (fun _ _ => bif2 (Nat.beq cs.length (len * size)) (bif2 (room len bytes) (match cap with
      | some c => bif2 (Nat.ble (len + n) c) none (s.pushK (.row (cs.map .tr ++ xs) 0) fun id s => k (.own id 0 0 (len + n) size none) s)
      | none => none) none) none) n
    | _ => none) none
def lookupG (kind : TypeDesc) (zero : Tree) (ok : Bool) (m k : V) (s : FS) : Option V := match asKey kind k, m with
  | some _, .tr (.sc (.map none)) => some (okTup ok (.tr zero) false)
  | some k, .mp id => match s.getO id with
    | some (.map es _) => match findEnt k es 0 with
      | some (some (_, e)) => some (okTup ok e.val true)
      | some none => some (okTup ok (.tr zero) false)
      | none => none
    | _ => none
  | _, _ => none
def mupdG (kind : TypeDesc) (m k v : V) (s : FS) : Option FS := match asKey kind k, m with
  | some k, .mp id => match s.getO id with
    | some (.map es clock) => match findEnt k es 0 with
      | some (some (i, e)) => s.setK id (.map (es.set i { e with key := k, val := v }) clock) some
      | some none => s.setK id (.map (es ++ [{ key := k, val := v, born := clock }]) (clock + 1)) some
      | none => none
    | _ => none
  | _, _ => none
def mentG (kind : TypeDesc) (zero : Tree) (m k : V) (s : FS) : Option (V × FS) := match asKey kind k, m with
  | some k, .mp id => match s.getO id with
    | some (.map es clock) => match findEnt k es 0 with
      | some (some (i, e)) => s.setK id (.map (es.set i { e with key := k }) clock) fun s => some (mkTup [e.val, int .i64 e.born], s)
      | some none => s.setK id (.map (es ++ [{ key := k, val := .tr zero, born := clock }]) (clock + 1)) fun s => some (mkTup [.tr zero, int .i64 clock], s)
      | none => none
    | _ => none
  | _, _ => none
def estoG (m c v : V) (s : FS) : Option FS := match m, asIdx? c with
  | .mp id, some born => match s.getO id with
    | some (.map es clock) => match setBorn born v es with
      | some es => s.setK id (.map es clock) some
      | none => none
    | _ => none
  | _, _ => none
def mkmapG (s : FS) (k : V → FS → R) : R := s.pushK (.map [] 0) fun n s => k (.mp n) s
def mksliceG (zero : List Tree) (bytes : Nat) (l c : V) (s : FS) (k : V → FS → R) : R := match asIdx? l, asIdx? c with
  | some l, some c => bif2 (Nat.ble l c) (bif2 (room c bytes) (s.pushK (.row ((rep c zero).map .tr) 0) fun n s => k (.own n 0 0 l zero.length (some c)) s) none) none
  | _, _ => none
def lenMapG (v : V) (s : FS) : Option V := match v with
  | .tr (.sc (.map none)) => some (int .i64 0)
  | .mp id => match s.getO id with
    | some (.map es _) => some (int .i64 es.length)
    | _ => none
  | _ => none
def capG (v : V) (s : FS) : Option V := match v with
  | .own id g _ _ _ (some c) => match s.getO id with
    | some ob => bif2 (Nat.beq g (genOf ob)) (some (int .i64 c)) none
    | none => none
  | v => opCap [] v
def sliceG (size : Nat) (x : V) (lo hi mx : Option V) (s : FS) : Option V := match x with
  | .own id g off len sz cap => match optIdx lo, optIdx hi, optIdx mx with
    | some lo, some hi, some mx =>
      bif2 (mx.isSome && hi.isNone) none (bif2 (Nat.beq sz size) (optR (cellsG s id g) fun cs =>
        let h := hi.getD len
        let l := lo.getD 0
        let m := mx.getD h
        bif2 (Nat.ble l h) (bif2 (Nat.ble h m) (bif2 (Nat.ble m len || ((match cap with | none => true | some _ => false) && Nat.ble (off + m * size) cs.length && Nat.blt 0 size) || leCap m cap)
          (natK (off + l * size) fun o => natK (h - l) fun d => some (.own id g o d size (cutCap cap mx l))) none) none) none) none)
    | _, _, _ => none
  | x => opSlice size x lo hi mx []
def bytesStrG (x : V) (s : FS) : Option V := match x with
  | .tr (.sc (.string _)) => none
  | x => optR (elemsG s 1 x) fun p => optR (bytesOf? p.1) fun l => some (.tr (.sc (.string ⟨⟨l⟩⟩)))
def strBytesG (x : V) (s : FS) (k : V → FS → R) : R := match x with
  | .tr (.sc (.string b)) => s.pushK (.row (b.data.toList.map fun b => .tr (.sc (.int .u8 b.toNat))) 0) fun n s => k (.own n 0 0 b.data.toList.length 1 none) s
  | _ => none
def viaG (f : Store → Option (V × Store)) (s : FS) (k : V → FS → R) : R := match f (toL s) with
  | some (v, σ) => k v (ofL σ)
  | none => none
def intK (g : IntKind → Int → Int → Option V) (slow : V → V → Option V) (x y : V) : Option V := match x with
  | .tr (.sc (.int k a)) => match y with
    | .tr (.sc (.int k' b)) => Bool.rec (motive := fun _ => Option V) (slow x y) (g k a b) (Nat.beq (kix k) (kix k'))
    | _ => slow x y
  | _ => slow x y
def normI (k : IntKind) (n : Int) : Option V := Int.rec (motive := fun _ => Option V) (fun m => natK m fun m => some (.tr (.sc (.int k (.ofNat m))))) (fun m => natK m fun m => some (.tr (.sc (.int k (.negSucc m))))) n
def normB (b : Bool) : Option V := Bool.rec (motive := fun _ => Option V) (some (.tr (.sc (.bool false)))) (some (.tr (.sc (.bool true)))) b
def eqI (a b : Int) : Bool := Int.rec (motive := fun _ => Bool) (fun m => Int.rec (motive := fun _ => Bool) (fun n => Nat.beq m n) (fun _ => false) b) (fun m => Int.rec (motive := fun _ => Bool) (fun _ => false) (fun n => Nat.beq m n) b) a
def binAdd (ek : EK) : V → V → Option V := intK (fun k a b => normI k (wrapF k (Int.add a b))) (opBin ek .add)
def binSub (ek : EK) : V → V → Option V := intK (fun k a b => normI k (wrapF k (Int.sub a b))) (opBin ek .sub)
def binLss (ek : EK) : V → V → Option V := intK (fun k a b => normB (ltF a b)) (opBin ek .lss)
def binGtr (ek : EK) : V → V → Option V := intK (fun k a b => normB (ltF b a)) (opBin ek .gtr)
def binLeq (ek : EK) : V → V → Option V := intK (fun k a b => normB (!ltF b a)) (opBin ek .leq)
def binGeq (ek : EK) : V → V → Option V := intK (fun k a b => normB (!ltF a b)) (opBin ek .geq)
def binEql (ek : EK) : V → V → Option V := intK (fun k a b => normB (eqI a b)) (opBin ek .eql)
def binNeq (ek : EK) : V → V → Option V := intK (fun k a b => normB (!eqI a b)) (opBin ek .neq)
def binOther (ek : EK) (op : BinOp) : V → V → Option V := opBin ek op
def kMv (x : GO) : GK := fun _ k e l s => x (fun v => k v s) e l
def kPick (x a b : GO) : GK := fun _ k e l s => x (fun v => match v with
  | .tr (.sc (.bool u)) => Bool.rec (motive := fun _ => R) (b (fun v => k v s) e l) (a (fun v => k v s) e l) u
  | _ => none) e l
def kP1 (f : V → Option V) (x : GO) : GK := fun _ k e l s => x (fun a => optR (f a) fun v => k v s) e l
def kP2 (f : V → V → Option V) (x y : GO) : GK := fun _ k e l s => x (fun a => y (fun b => optR (f a b) fun v => k v s) e l) e l
def kR1 (f : V → FS → Option V) (x : GO) : GK := fun _ k e l s => x (fun a => optR (f a s) fun v => k v s) e l
def kR2 (f : V → V → FS → Option V) (x y : GO) : GK := fun _ k e l s => x (fun a => y (fun b => optR (f a b s) fun v => k v s) e l) e l
def kW0 (f : FS → (V → FS → R) → R) : GK := fun _ k e l s => f s k
def kW1 (f : V → FS → (V → FS → R) → R) (x : GO) : GK := fun _ k e l s => x (fun a => f a s k) e l
def kW2 (f : V → V → FS → (V → FS → R) → R) (x y : GO) : GK := fun _ k e l s => x (fun a => y (fun b => f a b s k) e l) e l
def kS2 (f : V → V → FS → (FS → R) → R) (x y : GO) : GK := fun _ k e l s => x (fun a => y (fun b => f a b s (fun s => k undefV s)) e l) e l
def kS3 (f : V → V → V → FS → Option FS) (x y z : GO) : GK := fun _ k e l s => x (fun a => y (fun b => z (fun d => optR (f a b d s) (fun s => k undefV s)) e l) e l) e l
def kT2 (f : V → V → FS → Option (V × FS)) (x y : GO) : GK := fun _ k e l s => x (fun a => y (fun b => optR (f a b s) (fun p => k p.1 p.2)) e l) e l
def kCallf (f : FuncId) (as : GOs) : GK := fun c k e l s => as (fun vs => optR (c f vs s) fun p => k p.1 p.2) e l
def callVG (c : GCall) (f : V) (vs : List V) (s : FS) : R := match f with
  | .fn (.func f) a b => c f (a ++ vs ++ b) s
  | .tr (.fn (.func f) a b) => c f (a.map .tr ++ vs ++ b.map .tr) s
  | _ => none
def kCallv (f : GO) (as : GOs) : GK := fun c k e l s => f (fun f => as (fun vs => optR (callVG c f vs s) fun p => k p.1 p.2) e l) e l
def kBuild (z : List Tree) (ps : GPs) : GK := fun _ k e l s => ps (fun ps => optR (opBuild z ps) fun v => k v s) e l
def kBslice (own : Bool) (len size : Nat) (z : List Tree) (ps : GPs) : GK := fun _ k e l s => ps (fun ps => bsliceG own len size z ps s k) e l
def kMkfn (fn : Fn) (a b : GOs) : GK := fun _ k e l s => a (fun a => b (fun b => match allTr a, allTr b with
  | some a, some b => k (.tr (.fn fn a b)) s
  | _, _ => k (.fn fn a b) s) e l) e l
def kMinmax (mx : Bool) (x : GO) (as : GOs) : GK := fun _ k e l s => x (fun a => as (fun vs => optR (minmaxAll mx a vs) fun v => k v s) e l) e l
def kSlicestr (x : GO) (lo hi : GMo) : GK := fun _ k e l s => x (fun a => lo (fun lo => hi (fun hi => optR (opSliceStr a lo hi) fun v => k v s) e l) e l) e l
def kSlice (size : Nat) (x : GO) (lo hi mx : GMo) : GK := fun _ k e l s => x (fun a => lo (fun lo => hi (fun hi => mx (fun mx => optR (sliceG size a lo hi mx s) fun v => k v s) e l) e l) e l) e l
def kMkiface (t : TypeId) (x : GO) : GK := fun _ k e l s => x (fun v => match v with
  | .tr v => k (.tr (.iface t v)) s
  | v => k (.iface t v) s) e l
def kBadK : GK := fun _ _ _ _ _ => none
def quietG (c : GCall) : GCall := fun f vs s => match snapL (snap (toL s) deepN) vs with
  | none => none
  | some ts => match c f (ts.map .tr) FS.nil with
    | none => none
    | some (v, s1) => match snapF (toL s1) deepN v with
      | some t => some (.tr t, s)
      | none => match snap (toL s1) deepN v with
        | none => none
        | some t => bif2 ((dirs.dirsL vs).isEmpty) (some (.tr t, s)) none
def freshG (s s' : FS) : Bool := match s'.getO s.len with
  | some (.row cs _) => (dirs.dirsL cs).all fun j => Nat.blt j s.len
  | _ => true
def kQuiet (g : GK) : GK := fun c k e l s => g (quietG c) (fun v s' => bif2 (freshG s s') (k v s') none) e l s
end
end Go.Proofs.YtolhjhjlfgfifaaGreatDoor.AM
end
section
set_option linter.unusedSimpArgs false
set_option linter.unusedVariables false
set_option linter.unusedVariables false
set_option linter.unusedSimpArgs false
namespace Go.Proofs.YtolhjhjlfgfifaaGreatDoor.AM
def Br : BT → Nat → Prop
  | .z0, n => n = 0
  | .n _ l r, n => ∃ m, n = m + 1 ∧ Br l ((m + 1) / 2) ∧ Br r (m / 2)
theorem get_e (i : Nat) : BT.get .z0 i = none := rfl
theorem get_0 (v : Ob) (l r : BT) : BT.get (.n v l r) 0 = some v := rfl
theorem get_s (v : Ob) (l r : BT) (j : Nat) : BT.get (.n v l r) (j + 1) = if j % 2 = 0 then l.get (j / 2) else r.get (j / 2) := by
  show Bool.rec (motive := fun _ => Option Ob) (r.get (Nat.div j 2)) (l.get (Nat.div j 2)) (Nat.beq (Nat.mod j 2) 0) = _
  by_cases h : j % 2 = 0
  · have : Nat.beq (Nat.mod j 2) 0 = true := by
      rw [show Nat.mod j 2 = j % 2 from rfl, h]
      rfl
    rw [this, if_pos h]
    rfl
  · have : Nat.beq (Nat.mod j 2) 0 = false := by
      rw [show Nat.mod j 2 = j % 2 from rfl]
      cases hb : Nat.beq (j % 2) 0 with
      | false => rfl
      | true => exact absurd (Nat.eq_of_beq_eq_true hb) h
    rw [this, if_neg h]
    rfl
theorem set_s {β : Type} (v : Ob) (l r : BT) (j : Nat) (o : Ob) (k : BT → β) : BT.setK (.n v l r) (j + 1) o k = if j % 2 = 0 then l.setK (j / 2) o (fun l' => k (.n v l' r)) else r.setK (j / 2) o (fun r' => k (.n v l r')) := by
  show Bool.rec (motive := fun _ => β) (r.setK (Nat.div j 2) o (fun r' => k (.n v l r'))) (l.setK (Nat.div j 2) o (fun l' => k (.n v l' r))) (Nat.beq (Nat.mod j 2) 0) = _
  by_cases h : j % 2 = 0
  · have : Nat.beq (Nat.mod j 2) 0 = true := by
      rw [show Nat.mod j 2 = j % 2 from rfl, h]
      rfl
    rw [this, if_pos h]
    rfl
  · have : Nat.beq (Nat.mod j 2) 0 = false := by
      rw [show Nat.mod j 2 = j % 2 from rfl]
      cases hb : Nat.beq (j % 2) 0 with
      | false => rfl
      | true => exact absurd (Nat.eq_of_beq_eq_true hb) h
    rw [this, if_neg h]
    rfl
theorem set_spec : ∀ (t : BT) (n i : Nat) (o : Ob), Br t n → i ≤ n → ∃ t', (∀ {β : Type} (k : BT → β), t.setK i o k = k t') ∧ Br t' (if i = n then n + 1 else n) ∧ ∀ j, t'.get j = if j = i then some o else t.get j
  | .z0, n, i, o, h, hi => by
    have h : n = 0 := h
    subst h
    have : i = 0 := by omega
    subst this
    refine ⟨.n o .z0 .z0, fun k => rfl, ⟨0, rfl, rfl, rfl⟩, fun j => ?_⟩
    cases j with
    | zero => rfl
    | succ j => rw [get_s]; simp [get_e]
  | .n v l r, n, i, o, h, hi => by
    obtain ⟨m, rfl, hl, hr⟩ := h
    cases i with
    | zero =>
      refine ⟨.n o l r, fun k => rfl, ?_, fun j => ?_⟩
      · rw [if_neg (by omega)]
        exact ⟨m, rfl, hl, hr⟩
      · cases j with
        | zero => rfl
        | succ j => rw [get_s, get_s, if_neg (Nat.succ_ne_zero j)]
    | succ j =>
      by_cases hj : j % 2 = 0
      · obtain ⟨l', h1, h2, h3⟩ := set_spec l _ (j / 2) o hl (by omega)
        refine ⟨.n v l' r, fun k => ?_, ?_, fun i => ?_⟩
        · rw [set_s, if_pos hj, h1]
        · by_cases hm : j + 1 = m + 1
          · rw [if_pos hm]
            rw [if_pos (by omega)] at h2
            refine ⟨m + 1, rfl, ?_, ?_⟩
            · have : (m + 1 + 1) / 2 = (m + 1) / 2 + 1 := by omega
              rw [this]; exact h2
            · have : (m + 1) / 2 = m / 2 := by omega
              rw [this]; exact hr
          · rw [if_neg hm]
            rw [if_neg (by omega)] at h2
            exact ⟨m, rfl, h2, hr⟩
        · cases i with
          | zero => rw [get_0, if_neg (by omega), get_0]
          | succ i =>
            rw [get_s, get_s]
            by_cases hi2 : i % 2 = 0
            · rw [if_pos hi2, if_pos hi2, h3]
              by_cases hij : i = j
              · subst hij; simp
              · rw [if_neg (by omega), if_neg (by omega)]
            · rw [if_neg hi2, if_neg hi2, if_neg (by omega)]
      · obtain ⟨r', h1, h2, h3⟩ := set_spec r _ (j / 2) o hr (by omega)
        refine ⟨.n v l r', fun k => ?_, ?_, fun i => ?_⟩
        · rw [set_s, if_neg hj, h1]
        · by_cases hm : j + 1 = m + 1
          · rw [if_pos hm]
            rw [if_pos (by omega)] at h2
            refine ⟨m + 1, rfl, ?_, ?_⟩
            · have : (m + 1 + 1) / 2 = (m + 1) / 2 := by omega
              rw [this]; exact hl
            · have : (m + 1) / 2 = m / 2 + 1 := by omega
              rw [this]; exact h2
          · rw [if_neg hm]
            rw [if_neg (by omega)] at h2
            exact ⟨m, rfl, hl, h2⟩
        · cases i with
          | zero => rw [get_0, if_neg (by omega), get_0]
          | succ i =>
            rw [get_s, get_s]
            by_cases hi2 : i % 2 = 0
            · rw [if_pos hi2, if_pos hi2, if_neg (by omega)]
            · rw [if_neg hi2, if_neg hi2, h3]
              by_cases hij : i = j
              · subst hij; simp
              · rw [if_neg (by omega), if_neg (by omega)]
def SRel (s : FS) (σ : Store) : Prop := s.len = σ.length ∧ Br s.t s.len ∧ ∀ i, s.getO i = σ[i]?
theorem SRel.nil : SRel FS.nil [] := ⟨rfl, rfl, fun i => rfl⟩
theorem setK_ok {s : FS} {σ : Store} (h : SRel s σ) {id : Nat} (hid : id < σ.length) (o : Ob) : ∃ s', SRel s' (σ.set id o) ∧ ∀ {β : Type} (k : FS → β), s.setK id o k = k s' := by
  obtain ⟨h1, h2, h3⟩ := h
  obtain ⟨t', e1, e2, e3⟩ := set_spec s.t s.len id o h2 (by omega)
  refine ⟨⟨t', s.len⟩, ⟨by simpa using h1, ?_, fun i => ?_⟩, fun k => e1 _⟩
  · rw [if_neg (by omega)] at e2
    exact e2
  · have h3i := h3 i
    unfold FS.getO at h3i ⊢
    simp only [e3, List.getElem?_set]
    by_cases hi : i = id
    · subst hi
      rw [if_pos rfl, if_pos rfl, if_pos hid]
    · rw [if_neg hi, if_neg (fun h => hi h.symm), h3i]
theorem pushK_ok {s : FS} {σ : Store} (h : SRel s σ) (o : Ob) : ∃ s', SRel s' (σ ++ [o]) ∧ ∀ {β : Type} (k : Nat → FS → β), s.pushK o k = k σ.length s' := by
  obtain ⟨h1, h2, h3⟩ := h
  obtain ⟨t', e1, e2, e3⟩ := set_spec s.t s.len s.len o h2 (by omega)
  rw [if_pos rfl] at e2
  refine ⟨⟨t', s.len + 1⟩, ⟨by simp [h1], e2, fun i => ?_⟩, fun k => ?_⟩
  · have h3i := h3 i
    unfold FS.getO at h3i ⊢
    simp only [e3]
    by_cases hi : i = s.len
    · rw [if_pos hi, hi, h1]
      simp
    · rw [if_neg hi, h3i]
      by_cases hlt : i < σ.length
      · rw [List.getElem?_append_left hlt]
      · rw [List.getElem?_append_right (by omega), List.getElem?_eq_none (by omega), List.getElem?_eq_none]
        simp; omega
  · unfold FS.pushK
    rw [natK_eq, e1, h1]
theorem toL_eq {s : FS} {σ : Store} (h : SRel s σ) : toL s = σ := by
  obtain ⟨h1, h2, h3⟩ := h
  unfold toL
  apply List.ext_getElem?
  intro i
  simp only [List.getElem?_map]
  by_cases hi : i < σ.length
  · rw [List.getElem?_range (by omega)]
    simp [h3, hi]
  · rw [List.getElem?_eq_none (by simp; omega), List.getElem?_eq_none (by omega)]
    rfl
theorem ofL_go : ∀ (τ : Store) (s : FS) (σ : Store), SRel s σ → SRel (τ.foldl (fun s o => s.pushK o (fun _ s => s)) s) (σ ++ τ)
  | [], s, σ, h => by simpa using h
  | o :: τ, s, σ, h => by
    obtain ⟨s', h1, h2⟩ := pushK_ok h o
    simp only [List.foldl_cons]
    rw [h2]
    have := ofL_go τ s' (σ ++ [o]) h1
    simpa [List.append_assoc] using this
theorem ofL_ok (σ : Store) : SRel (ofL σ) σ := by simpa [ofL] using ofL_go σ FS.nil [] SRel.nil
theorem lt_of_get {σ : Store} {id : Nat} {o : Ob} (h : σ[id]? = some o) : id < σ.length := by
  by_cases hl : id < σ.length
  · exact hl
  · rw [List.getElem?_eq_none (by omega)] at h
    cases h
def getE : List Bool → ET → Option V
  | [], .v x => some x
  | false :: p, .n l r => getE p l
  | true :: p, .n l r => getE p r
  | _, _ => none
def setE : List Bool → V → ET → ET
  | [], x, _ => .v x
  | false :: p, x, .n l r => .n (setE p x l) r
  | true :: p, x, .n l r => .n l (setE p x r)
  | false :: p, x, _ => .n (setE p x .z0) .z0
  | true :: p, x, _ => .n .z0 (setE p x .z0)
noncomputable section
def eP : List Bool → GE
  | [] => eV
  | false :: p => eL (eP p)
  | true :: p => eR (eP p)
def sP : List Bool → GS
  | [] => sV
  | false :: p => sL (sP p)
  | true :: p => sR (sP p)
end
theorem eP_some : ∀ {p : List Bool} {k : V → R} {e : ET} {r : V × FS}, eP p k e = some r → ∃ v, getE p e = some v ∧ k v = some r
  | [], k, e, r, h => by
    cases e with
    | v x => exact ⟨x, rfl, h⟩
    | z0 => cases h
    | n l r => cases h
  | false :: p, k, e, r, h => by
    cases e with
    | v x => cases h
    | z0 => cases h
    | n l r => exact eP_some (p := p) h
  | true :: p, k, e, r, h => by
    cases e with
    | v x => cases h
    | z0 => cases h
    | n l r => exact eP_some (p := p) h
theorem sP_eq : ∀ (p : List Bool) (x : V) (k : ET → R) (e : ET), sP p x k e = k (setE p x e)
  | [], x, k, e => rfl
  | false :: p, x, k, e => by
    cases e with
    | v y => exact sP_eq p x _ _
    | z0 => exact sP_eq p x _ _
    | n l r => exact sP_eq p x _ _
  | true :: p, x, k, e => by
    cases e with
    | v y => exact sP_eq p x _ _
    | z0 => exact sP_eq p x _ _
    | n l r => exact sP_eq p x _ _
theorem getE_e : ∀ p : List Bool, getE p .z0 = none
  | [] => rfl
  | false :: _ => rfl
  | true :: _ => rfl
theorem getE_v : ∀ (b : Bool) (p : List Bool) (y : V), getE (b :: p) (.v y) = none
  | false, _, _ => rfl
  | true, _, _ => rfl
theorem getE_set : ∀ (p q : List Bool) (x : V) (e : ET), p.length = q.length → getE p (setE q x e) = if p = q then some x else getE p e
  | [], [], x, e, _ => by simp [setE, getE]
  | a :: p, b :: q, x, e, h => by
    have hl : p.length = q.length := by simpa using h
    cases e with
    | n l r =>
      cases a <;> cases b <;> simp only [setE, getE, getE_set p q _ _ hl, List.cons.injEq, true_and, false_and, if_false, reduceCtorEq]
    | v y =>
      rw [getE_v]
      cases a <;> cases b <;> simp only [setE, getE, getE_set p q _ _ hl, List.cons.injEq, true_and, false_and, if_false, reduceCtorEq, getE_e]
    | z0 =>
      rw [getE_e]
      cases a <;> cases b <;> simp only [setE, getE, getE_set p q _ _ hl, List.cons.injEq, true_and, false_and, if_false, reduceCtorEq, getE_e]
  | [], _ :: _, _, _, h => by simp at h
  | _ :: _, [], _, _, h => by simp at h
def bits : Nat → Nat → List Bool
  | 0, _ => []
  | D + 1, k => Nat.beq (k % 2) 1 :: bits D (k / 2)
theorem bits_len : ∀ D k, (bits D k).length = D
  | 0, _ => rfl
  | D + 1, k => by simp [bits, bits_len D]
theorem bits_inj : ∀ D a b, a < 2 ^ D → b < 2 ^ D → bits D a = bits D b → a = b
  | 0, a, b, ha, hb, _ => by simp at ha hb; omega
  | D + 1, a, b, ha, hb, h => by
    simp only [bits, List.cons.injEq] at h
    have h2 := bits_inj D (a / 2) (b / 2) (by omega) (by omega) h.2
    have h1 := h.1
    rw [Bool.eq_iff_iff, Nat.beq_eq, Nat.beq_eq] at h1
    omega
def ERel (D : Nat) (e : ET) (env : List (Nat × V)) : Prop := ∀ k, k < 2 ^ D → getE (bits D k) e = look env k
theorem ERel.put {D : Nat} {e : ET} {env : List (Nat × V)} (h : ERel D e env) {d : Nat} (hd : d < 2 ^ D) (v : V) : ERel D (setE (bits D d) v e) (put env d v) := by
  intro k hk
  rw [getE_set _ _ _ _ (by rw [bits_len, bits_len]), look_put, h k hk]
  by_cases hkd : k = d
  · subst hkd; simp
  · rw [if_neg hkd, if_neg]
    intro hb
    exact hkd (bits_inj D k d hk hd hb)
def ix (k : Nat) : List Nat → Option Nat
  | [] => none
  | a :: r => match Nat.beq k a with | true => some 0 | false => match ix k r with | some i => some (i + 1) | none => none
def LRel (names : List Nat) (l : List V) (loc : List (Nat × V)) : Prop := ∀ k i, ix k names = some i → ∃ v, l[i]? = some v ∧ look loc k = some v
theorem LRel.nil (l : List V) (loc : List (Nat × V)) : LRel [] l loc := fun k i h => by cases h
theorem LRel.push {names : List Nat} {l : List V} {loc : List (Nat × V)} (h : LRel names l loc) (d : Nat) (v : V) : LRel (d :: names) (v :: l) ((d, v) :: loc) := by
  intro k i hi
  unfold ix at hi
  unfold look
  split at hi
  · rename_i hb
    cases hi
    rw [hb]
    exact ⟨v, rfl, rfl⟩
  · rename_i hb
    rw [hb]
    split at hi
    · rename_i j hj
      cases hi
      obtain ⟨u, h1, h2⟩ := h k j hj
      exact ⟨u, by simpa using h1, by simpa using h2⟩
    · cases hi
noncomputable section
def oLoc : Nat → GO
  | 0 => oZ
  | i + 1 => oS (oLoc i)
end
theorem oLoc_some : ∀ {i : Nat} {k : V → R} {e : ET} {l : List V} {r : V × FS}, oLoc i k e l = some r → ∃ v, l[i]? = some v ∧ k v = some r
  | 0, k, e, l, r, h => by
    cases l with
    | nil => cases h
    | cons a t => exact ⟨a, rfl, h⟩
  | i + 1, k, e, l, r, h => by
    cases l with
    | nil => cases h
    | cons a t =>
      obtain ⟨v, h1, h2⟩ := oLoc_some (i := i) (e := e) (l := t) h
      exact ⟨v, by simpa using h1, h2⟩
end Go.Proofs.YtolhjhjlfgfifaaGreatDoor.AM
end
section
set_option linter.unusedSimpArgs false
set_option linter.unusedVariables false
set_option linter.unusedVariables false
set_option linter.unusedSimpArgs false
namespace Go.Proofs.YtolhjhjlfgfifaaGreatDoor.AM
theorem nthR_eq {α : Type} : ∀ (l : List α) (i : Nat), nthR l i = l[i]?
  | [], i => by simp [nthR]
  | a :: t, 0 => rfl
  | a :: t, i + 1 => by
    have : nthR (a :: t) (i + 1) = nthR t i := rfl
    rw [this, nthR_eq t i]
    simp
theorem dropR_eq {α : Type} : ∀ (l : List α) (i : Nat), dropR l i = l.drop i
  | [], i => by simp [dropR]
  | a :: t, 0 => rfl
  | a :: t, i + 1 => by
    have : dropR (a :: t) (i + 1) = dropR t i := rfl
    rw [this, dropR_eq t i]
    simp
theorem takeR_some {α : Type} : ∀ {l : List α} {i : Nat} {r : List α}, takeR l i = some r → l.take i = r ∧ r.length = i
  | [], 0, r, h => by cases h; exact ⟨rfl, rfl⟩
  | [], i + 1, r, h => by cases h
  | a :: t, 0, r, h => by cases h; exact ⟨rfl, rfl⟩
  | a :: t, i + 1, r, h => by
    have h : optR (takeR t i) (fun r => some (a :: r)) = some r := h
    obtain ⟨u, h1, h2⟩ := optR_some h
    cases h2
    obtain ⟨h3, h4⟩ := takeR_some h1
    exact ⟨by simp [h3], by simp [h4]⟩
theorem sliceR_some {α : Type} {l : List α} {off n : Nat} {r : List α} (h : sliceR l off n = some r) : slice? l off n = some r := by
  unfold sliceR at h
  obtain ⟨h1, h2⟩ := takeR_some h
  rw [dropR_eq] at h1
  unfold slice?
  simp only [h1, h2, if_true]
theorem setR_some {β : Type} : ∀ {l : List V} {v : V} {i : Nat} {k : List V → Option β} {r : β}, setR l v i k = some r → i < l.length ∧ k (l.set i v) = some r
  | [], v, i, k, r, h => by cases h
  | a :: t, v, 0, k, r, h => ⟨by simp, h⟩
  | a :: t, v, i + 1, k, r, h => by
    have h : setR t v i (fun t => k (a :: t)) = some r := h
    obtain ⟨h1, h2⟩ := setR_some h
    exact ⟨by simp; omega, by simpa using h2⟩
variable {s : FS} {σ : Store}
theorem cellsG_some (hs : SRel s σ) {id g : Nat} {cs : List V} (h : cellsG s id g = some cs) : obCells σ id g = some cs := by
  unfold cellsG at h
  rw [hs.2.2] at h
  unfold obCells
  split at h
  · rename_i cs' g' ho
    obtain ⟨h1, h2⟩ := bif2_some h
    rw [ho]
    simp only [Nat.eq_of_beq_eq_true h1, if_true, h2]
  · rename_i cs' g' ho
    obtain ⟨h1, h2⟩ := bif2_some h
    rw [ho]
    simp only [Nat.eq_of_beq_eq_true h1, if_true, h2]
  · cases h
theorem elems_nil {size : Nat} {x : V} {r : List V × Nat} (h : elems [] size x = some r) : elems σ size x = some r := by
  unfold elems at h ⊢
  split at h
  · exact h
  · exact h
  · exact h
  · simp only [obCells, List.getElem?_nil, ite_self] at h
    cases h
  · cases h
theorem elemsG_some (hs : SRel s σ) {size : Nat} {x : V} {r : List V × Nat} (h : elemsG s size x = some r) : elems σ size x = some r := by
  unfold elemsG at h
  split at h
  · obtain ⟨h1, h2⟩ := bif2_some h
    obtain ⟨cs, h3, h4⟩ := optR_some h2
    obtain ⟨q, h5, h6⟩ := optR_some h4
    have h5 := sliceR_some h5
    have hh : Nat.mul = fun a b : Nat => a * b := rfl
    rw [hh] at h5
    simp only at h5
    simp only [elems, Nat.eq_of_beq_eq_true h1, if_true, cellsG_some hs h3, h5]
    exact h6
  · exact elems_nil h
theorem putG_some (hs : SRel s σ) {id g off : Nat} {r : List V} {s' : FS} (h : putG s id g off r = some s') : ∃ σ', obPut σ id g off r = some σ' ∧ SRel s' σ' := by
  unfold putG at h
  rw [hs.2.2] at h
  unfold obPut
  split at h
  · rename_i cs' g' ho
    obtain ⟨h1, h2⟩ := bif2_some h
    obtain ⟨h3, h4⟩ := bif2_some h2
    obtain ⟨h5, h6⟩ := bif2_some h4
    obtain ⟨s2, h7, h8⟩ := setK_ok hs (lt_of_get ho) (.row (splice cs' off r) g')
    rw [h8] at h6
    cases h6
    rw [ho]
    simp only
    rw [if_pos ⟨Nat.eq_of_beq_eq_true h1, Nat.le_of_ble_eq_true h3, h5⟩]
    exact ⟨_, rfl, h7⟩
  · cases h
theorem ofCells_one (c : V) : ofCells false [c] = some c := rfl
theorem slice_one {α : Type} {l : List α} {i : Nat} {a : α} (h : l[i]? = some a) : slice? l i 1 = some [a] := by
  unfold slice?
  have : (l.drop i).take 1 = [a] := by
    rw [List.take_one, List.head?_drop, h]
    rfl
  simp only [this, List.length_singleton, if_true]
theorem ldG1_some (hs : SRel s σ) {a v : V} (h : ldG1 a s = some v) : opLoad 1 false a σ = some v := by
  unfold ldG1 at h
  split at h
  · rw [hs.2.2] at h
    split at h
    · rename_i ho
      obtain ⟨h1, h2⟩ := bif2_some h
      rw [nthR_eq] at h2
      simp only [opLoad, obCells, ho, Nat.eq_of_beq_eq_true h1, if_true, slice_one h2, ofCells_one]
    · rename_i ts g' ho
      obtain ⟨h1, h2⟩ := bif2_some h
      obtain ⟨t, h3, h4⟩ := optR_some h2
      rw [nthR_eq] at h3
      have h5 : (ts.map V.tr)[_]? = some (V.tr t) := (List.getElem?_map ..).trans (by rw [h3]; rfl)
      simp only [opLoad, obCells, ho, Nat.eq_of_beq_eq_true h1, if_true, slice_one h5, ofCells_one]
      exact h4
    · cases h
  · obtain ⟨t, h3, h4⟩ := optR_some h
    rw [nthR_eq] at h3
    simp only [opLoad, slice_one h3, List.map_cons, List.map_nil, ofCells_one]
    exact h4
  · cases h
theorem ldG_some (hs : SRel s σ) {size : Nat} {agg : Bool} {a v : V} (h : ldG size agg a s = some v) : opLoad size agg a σ = some v := by
  unfold ldG at h
  split at h
  · obtain ⟨cs, h1, h2⟩ := optR_some h
    obtain ⟨q, h3, h4⟩ := optR_some h2
    simp only [opLoad, cellsG_some hs h1, sliceR_some h3]
    exact h4
  · unfold opLoad at h ⊢
    split at h
    · simp [obCells] at h
    · exact h
    · cases h
theorem oneV_cells {x : V} (h : oneV x = true) : cellsOf x = [x] := by
  unfold oneV at h
  unfold cellsOf
  split at h
  all_goals first | (cases h; done) | skip
  split
  all_goals first | rfl | (simp_all; done)
theorem splice_set : ∀ (l : List V) (i : Nat) (v : V), i < l.length → splice l i [v] = l.set i v
  | [], i, v, h => by simp at h
  | a :: t, 0, v, h => by simp [splice]
  | a :: t, i + 1, v, h => by
    have := splice_set t i v (by simpa using h)
    simp only [splice, List.length_singleton] at this ⊢
    simp [this]
theorem stG1_some (hs : SRel s σ) {a x : V} {k : FS → R} {r : V × FS} (h : stG1 a x s k = some r) : ∃ s' σ', opStore 1 a x σ = some σ' ∧ SRel s' σ' ∧ k s' = some r := by
  unfold stG1 at h
  split at h
  · rw [hs.2.2] at h
    split at h
    · rename_i cs g' ho
      obtain ⟨h1, h2⟩ := bif2_some h
      obtain ⟨h3, h4⟩ := bif2_some h2
      obtain ⟨h5, h6⟩ := setR_some h4
      obtain ⟨s2, h7, h8⟩ := setK_ok hs (lt_of_get ho) (.row (cs.set _ x) g')
      rw [h8] at h6
      refine ⟨s2, _, ?_, h7, h6⟩
      simp only [opStore, oneV_cells h3, List.length_singleton, if_true, obPut, ho]
      rw [if_pos ⟨Nat.eq_of_beq_eq_true h1, h5, by simp [h3]⟩, splice_set _ _ _ h5]
    · cases h
  · cases h
theorem stG_some (hs : SRel s σ) {size : Nat} {a x : V} {k : FS → R} {r : V × FS} (h : stG size a x s k = some r) : ∃ s' σ', opStore size a x σ = some σ' ∧ SRel s' σ' ∧ k s' = some r := by
  unfold stG at h
  split at h
  · obtain ⟨h1, h2⟩ := bif2_some h
    obtain ⟨s2, h3, h4⟩ := optR_some h2
    obtain ⟨σ', h5, h6⟩ := putG_some hs h3
    refine ⟨s2, σ', ?_, h6, h4⟩
    simp only [opStore, Nat.eq_of_beq_eq_true h1, if_true]
    exact h5
  · cases h
theorem asIdxK_some {i : V} {k : Nat → Option V} {v : V} (h : asIdxK i k = some v) : ∃ n, asIdx? i = some n ∧ k n = some v := by
  unfold asIdxK at h
  split at h
  · rename_i n
    refine ⟨n, ?_, h⟩
    simp [asIdx?]
  · cases h
theorem iaddrG_some (hs : SRel s σ) {size : Nat} {x i v : V} (h : iaddrG size x i s = some v) : opIaddr size x i σ = some v := by
  unfold iaddrG at h
  obtain ⟨n, h1, h2⟩ := asIdxK_some h
  unfold opIaddr
  rw [h1]
  simp only
  split at h2
  · obtain ⟨ob, h3, h4⟩ := optR_some h2
    rw [hs.2.2] at h3
    obtain ⟨h5, h6⟩ := bif2_some h4
    obtain ⟨h7, h8⟩ := bif2_some h6
    obtain ⟨h9, h10⟩ := bif2_some h8
    rw [natK_eq] at h10
    simp only [h3]
    rw [if_pos ⟨by simpa [Nat.blt_eq] using h5, Nat.eq_of_beq_eq_true h7, Nat.eq_of_beq_eq_true h9⟩]
    exact h10
  · obtain ⟨h5, h6⟩ := bif2_some h2
    rename_i cs m cap
    cases hc : cs.isEmpty with
    | true => rw [hc] at h6; cases h6
    | false =>
      rw [hc] at h6
      have h6 : natK (Nat.mul n size) (fun o => some (V.tr (.rptr cs o))) = some v := h6
      rw [natK_eq] at h6
      simp only
      rw [if_pos ⟨by simpa [Nat.blt_eq] using h5, hc⟩]
      exact h6
  · cases h2
theorem allocG_some (hs : SRel s σ) {z : List V} {k : V → FS → R} {r : V × FS} (h : allocG z s k = some r) : ∃ s', SRel s' (σ ++ [.row z 0]) ∧ k (.ptr σ.length 0 0) s' = some r := by
  unfold allocG at h
  obtain ⟨s', h1, h2⟩ := pushK_ok hs (.row z 0)
  rw [h2] at h
  exact ⟨s', h1, h⟩
theorem bsliceG_some (hs : SRel s σ) {own : Bool} {len size : Nat} {zero : List Tree} {parts : List (Nat × Nat × V)} {k : V → FS → R} {r : V × FS} (h : bsliceG own len size zero parts s k = some r) :
    ∃ v s' σ', opBslice own len size zero parts σ = some (v, σ') ∧ SRel s' σ' ∧ k v s' = some r := by
  unfold bsliceG at h
  obtain ⟨cs, h1, h2⟩ := optR_some h
  unfold opBslice
  rw [h1]
  simp only
  obtain ⟨s', h3, h4⟩ := pushK_ok hs (.row cs 0)
  cases own with
  | true =>
    have h2 : s.pushK (.row cs 0) (fun n s => k (.own n 0 0 len size (some len)) s) = some r := h2
    rw [h4] at h2
    exact ⟨_, s', _, rfl, h3, h2⟩
  | false =>
    have h2 : (match allTr cs with
      | some ts => k (.tr (.row ts len (some len))) s
      | none => none) = some r := h2
    simp only [Bool.false_eq_true, if_false]
    split at h2
    · rename_i ts hts
      rw [hts]
      exact ⟨_, s, _, rfl, hs, h2⟩
    · cases h2
theorem appendG_some (hs : SRel s σ) {size bytes : Nat} {v x : V} {k : V → FS → R} {r : V × FS} (h : appendG size bytes v x s k = some r) :
    ∃ u s' σ', opAppend size bytes v x σ = some (u, σ') ∧ SRel s' σ' ∧ k u s' = some r := by
  unfold appendG at h
  obtain ⟨⟨xs, n⟩, h1, h2⟩ := optR_some h
  unfold opAppend
  rw [elemsG_some hs h1]
  simp only at h2 ⊢
  obtain ⟨h3, h4⟩ := bif2_some h2
  simp only [h3, Bool.not_true, Bool.false_eq_true, if_false]
  split at h4
  · cases n with
    | zero => exact ⟨_, s, σ, by simp, hs, h4⟩
    | succ n =>
      obtain ⟨s', h5, h6⟩ := pushK_ok hs (.row xs 0)
      have h4 : s.pushK (.row xs 0) (fun id s => k (.own id 0 0 (n + 1) size none) s) = some r := h4
      rw [h6] at h4
      exact ⟨_, s', _, by simp, h5, h4⟩
  · rename_i id g off len sz cap
    obtain ⟨h5, h6⟩ := bif2_some h4
    obtain ⟨h7, h8⟩ := bif2_some h6
    have h5 := Nat.eq_of_beq_eq_true h5
    subst h5
    rw [hs.2.2] at h8
    split at h8
    · rename_i cs g' ho
      obtain ⟨h9, h10⟩ := bif2_some h8
      have h9 := Nat.eq_of_beq_eq_true h9
      subst h9
      obtain ⟨old, h11, h12⟩ := optR_some h10
      have h11 := sliceR_some h11
      have hh : Nat.mul = fun a b : Nat => a * b := rfl
      rw [hh] at h11
      simp only at h11
      simp only [ne_eq, not_true_eq_false, if_false, h7, Bool.not_true, Bool.false_eq_true, ho, h11]
      cases n with
      | zero => exact ⟨_, s, σ, by simp, hs, h12⟩
      | succ n =>
        simp only [Nat.succ_ne_zero, if_false]
        cases cap with
        | some c =>
          have h12 : bif2 (Nat.ble (len + (n + 1)) c) (optR (putG s id g (off + len * sz) xs) fun s => k (.own id g off (len + (n + 1)) sz (some c)) s) (s.pushK (.row (old ++ xs) 0) fun i s => k (.own i 0 0 (len + (n + 1)) sz none) s) = some r := h12
          rcases bif2_or h12 with ⟨hb, h13⟩ | ⟨hb, h13⟩
          · obtain ⟨s', h14, h15⟩ := optR_some h13
            obtain ⟨σ', h16, h17⟩ := putG_some hs h14
            simp only
            rw [if_pos (Nat.le_of_ble_eq_true hb), h16]
            exact ⟨_, s', σ', rfl, h17, h15⟩
          · obtain ⟨s', h14, h15⟩ := pushK_ok hs (.row (old ++ xs) 0)
            rw [h15] at h13
            have hb : ¬ len + (n + 1) ≤ c := fun h => by rw [Nat.ble_eq_true_of_le h] at hb; cases hb
            simp only
            rw [if_neg hb]
            exact ⟨_, s', _, rfl, h14, h13⟩
        | none =>
          have h12 : bif2 (Nat.ble (off + (len + (n + 1)) * sz) cs.length && Nat.blt 0 sz) (optR (putG s id g (off + len * sz) xs) fun s => k (.own id g off (len + (n + 1)) sz none) s)
            (bif2 (xs.all oneV) (natK (len + (n + 1)) fun m => s.setK id (.row (old ++ xs) (g + 1)) fun s => k (.own id (g + 1) 0 m sz none) s) none) = some r := h12
          rcases bif2_or h12 with ⟨hb, h13⟩ | ⟨hb, h13⟩
          · obtain ⟨s', h14, h15⟩ := optR_some h13
            obtain ⟨σ', h16, h17⟩ := putG_some hs h14
            simp only [Bool.and_eq_true, Nat.blt_eq] at hb
            simp only
            rw [if_pos ⟨Nat.le_of_ble_eq_true hb.1, hb.2⟩, h16]
            exact ⟨_, s', σ', rfl, h17, h15⟩
          · obtain ⟨ho1, h14⟩ := bif2_some h13
            rw [natK_eq] at h14
            obtain ⟨s', h15, h16⟩ := setK_ok hs (lt_of_get ho) (.row (old ++ xs) (g + 1))
            rw [h16] at h14
            have hb : ¬ (off + (len + (n + 1)) * sz ≤ cs.length ∧ 0 < sz) := fun h => by
              rw [Nat.ble_eq_true_of_le h.1, (Nat.blt_eq).mpr h.2] at hb
              cases hb
            simp only
            rw [if_neg hb, if_pos ho1]
            exact ⟨_, s', _, rfl, h15, h14⟩
    · cases h8
  · rename_i cs len cap
    cases n with
    | zero => exact ⟨_, s, σ, by simp, hs, h4⟩
    | succ n =>
      have h4 : bif2 (Nat.beq cs.length (len * size)) (bif2 (room len bytes) (match cap with
        | some c => bif2 (Nat.ble (len + (n + 1)) c) none (s.pushK (.row (cs.map .tr ++ xs) 0) fun id s => k (.own id 0 0 (len + (n + 1)) size none) s)
        | none => none) none) none = some r := h4
      obtain ⟨h5, h6⟩ := bif2_some h4
      obtain ⟨h7, h8⟩ := bif2_some h6
      simp only [Nat.succ_ne_zero, if_false, Nat.eq_of_beq_eq_true h5, h7, and_self, if_true]
      cases cap with
      | none => cases h8
      | some c =>
        rcases bif2_or h8 with ⟨hb, h13⟩ | ⟨hb, h13⟩
        · cases h13
        · obtain ⟨s', h14, h15⟩ := pushK_ok hs (.row (cs.map .tr ++ xs) 0)
          rw [h15] at h13
          have hb : ¬ len + (n + 1) ≤ c := fun h => by rw [Nat.ble_eq_true_of_le h] at hb; cases hb
          simp only
          rw [if_neg hb]
          exact ⟨_, s', _, rfl, h14, h13⟩
  · cases h4
theorem lookupG_eq (hs : SRel s σ) (kind : TypeDesc) (zero : Tree) (ok : Bool) (m k : V) : lookupG kind zero ok m k s = opLookup kind zero ok m k σ := by
  unfold lookupG opLookup
  simp only [hs.2.2]
  rfl
theorem mupdG_some (hs : SRel s σ) {kind : TypeDesc} {m k v : V} {s' : FS} (h : mupdG kind m k v s = some s') : ∃ σ', opMapUpdate kind m k v σ = some σ' ∧ SRel s' σ' := by
  unfold mupdG at h
  simp only [hs.2.2] at h
  unfold opMapUpdate
  split at h
  · rename_i hk
    split at h
    · rename_i es clock ho
      simp only [hk, ho]
      split at h
      · rename_i hf
        obtain ⟨s2, h1, h2⟩ := setK_ok hs (lt_of_get ho) _
        rw [h2] at h
        cases h
        rw [hf]
        exact ⟨_, rfl, h1⟩
      · rename_i hf
        obtain ⟨s2, h1, h2⟩ := setK_ok hs (lt_of_get ho) _
        rw [h2] at h
        cases h
        rw [hf]
        exact ⟨_, rfl, h1⟩
      · cases h
    · cases h
  · cases h
theorem mentG_some (hs : SRel s σ) {kind : TypeDesc} {zero : Tree} {m k : V} {p : V × FS} (h : mentG kind zero m k s = some p) : ∃ σ', opMapEntry kind zero m k σ = some (p.1, σ') ∧ SRel p.2 σ' := by
  unfold mentG at h
  simp only [hs.2.2] at h
  unfold opMapEntry
  split at h
  · rename_i hk
    split at h
    · rename_i es clock ho
      simp only [hk, ho]
      split at h
      · rename_i hf
        obtain ⟨s2, h1, h2⟩ := setK_ok hs (lt_of_get ho) _
        rw [h2] at h
        cases h
        rw [hf]
        exact ⟨_, rfl, h1⟩
      · rename_i hf
        obtain ⟨s2, h1, h2⟩ := setK_ok hs (lt_of_get ho) _
        rw [h2] at h
        cases h
        rw [hf]
        exact ⟨_, rfl, h1⟩
      · cases h
    · cases h
  · cases h
theorem estoG_some (hs : SRel s σ) {m c v : V} {s' : FS} (h : estoG m c v s = some s') : ∃ σ', opEntryStore m c v σ = some σ' ∧ SRel s' σ' := by
  unfold estoG at h
  simp only [hs.2.2] at h
  unfold opEntryStore
  split at h
  · rename_i hi
    split at h
    · rename_i es clock ho
      simp only [hi, ho]
      split at h
      · rename_i hf
        obtain ⟨s2, h1, h2⟩ := setK_ok hs (lt_of_get ho) _
        rw [h2] at h
        cases h
        rw [hf]
        exact ⟨_, rfl, h1⟩
      · cases h
    · cases h
  · cases h
theorem mkmapG_some (hs : SRel s σ) {k : V → FS → R} {r : V × FS} (h : mkmapG s k = some r) : ∃ s', SRel s' (σ ++ [.map [] 0]) ∧ k (.mp σ.length) s' = some r := by
  unfold mkmapG at h
  obtain ⟨s', h1, h2⟩ := pushK_ok hs (.map [] 0)
  rw [h2] at h
  exact ⟨s', h1, h⟩
theorem mksliceG_some (hs : SRel s σ) {zero : List Tree} {bytes : Nat} {l c : V} {k : V → FS → R} {r : V × FS} (h : mksliceG zero bytes l c s k = some r) :
    ∃ v s' σ', opMkslice zero bytes l c σ = some (v, σ') ∧ SRel s' σ' ∧ k v s' = some r := by
  unfold mksliceG at h
  unfold opMkslice
  split at h
  · rename_i l' c' h1 h2
    obtain ⟨h3, h4⟩ := bif2_some h
    obtain ⟨h5, h6⟩ := bif2_some h4
    obtain ⟨s', h7, h8⟩ := pushK_ok hs (.row ((rep c' zero).map .tr) 0)
    rw [h8] at h6
    simp only [h1, h2]
    rw [if_pos ⟨Nat.le_of_ble_eq_true h3, h5⟩]
    exact ⟨_, s', _, rfl, h7, h6⟩
  · cases h
theorem lenMapG_eq (hs : SRel s σ) (v : V) : lenMapG v s = opLenMap σ v := by
  unfold lenMapG opLenMap
  simp only [hs.2.2]
  rfl
theorem capG_some (hs : SRel s σ) {x v : V} (h : capG x s = some v) : opCap σ x = some v := by
  unfold capG at h
  split at h
  · rw [hs.2.2] at h
    split at h
    · rename_i ho
      obtain ⟨h1, h2⟩ := bif2_some h
      simp only [opCap, ho]
      rw [if_pos (Nat.eq_of_beq_eq_true h1)]
      exact h2
    · cases h
  · unfold opCap at h ⊢
    split at h
    · exact h
    · exact h
    · simp at h
    · cases h
theorem sliceG_some (hs : SRel s σ) {size : Nat} {x v : V} {lo hi mx : Option V} (h : sliceG size x lo hi mx s = some v) : opSlice size x lo hi mx σ = some v := by
  unfold sliceG at h
  split at h
  · rename_i id g off len sz cap
    split at h
    · rename_i lo' hi' mx' h1 h2 h3
      unfold opSlice
      rw [h1, h2, h3]
      simp only
      rcases bif2_or h with ⟨hb, h⟩ | ⟨hb, h⟩
      · cases h
      simp only [hb, Bool.false_eq_true, if_false]
      obtain ⟨h4, h5⟩ := bif2_some h
      have h4 := Nat.eq_of_beq_eq_true h4
      subst h4
      obtain ⟨cs, h6, h7⟩ := optR_some h5
      simp only [ne_eq, not_true_eq_false, if_false, cellsG_some hs h6]
      simp only at h7
      obtain ⟨h8, h9⟩ := bif2_some h7
      obtain ⟨h10, h11⟩ := bif2_some h9
      obtain ⟨h12, h13⟩ := bif2_some h11
      rw [natK_eq, natK_eq] at h13
      rw [if_pos]
      · exact h13
      · refine ⟨Nat.le_of_ble_eq_true h8, Nat.le_of_ble_eq_true h10, ?_⟩
        simp only [Bool.or_eq_true, Bool.and_eq_true, Nat.blt_eq] at h12
        rcases h12 with (h12 | ⟨⟨h12, h14⟩, h15⟩) | h12
        · exact .inl (Nat.le_of_ble_eq_true h12)
        · refine .inr (.inl ⟨?_, Nat.le_of_ble_eq_true h14, h15⟩)
          cases cap with
          | none => rfl
          | some c => cases h12
        · exact .inr (.inr h12)
    · cases h
  · unfold opSlice at h ⊢
    split at h
    · simp only at h ⊢
      split at h
      · cases h
      · rename_i hb
        rw [if_neg hb]
        split at h
        · split at h
          · cases h
          · simp [obCells] at h
        · exact h
        · exact h
        · cases h
    · cases h
theorem bytesStrG_some (hs : SRel s σ) {x v : V} (h : bytesStrG x s = some v) : opConv .bytesStr x σ = some (v, σ) := by
  unfold bytesStrG at h
  split at h
  · cases h
  · rename_i hno
    obtain ⟨⟨cs, n⟩, h1, h2⟩ := optR_some h
    obtain ⟨l, h3, h4⟩ := optR_some h2
    simp only [opConv, elemsG_some hs h1]
    simp only at h3
    split
    · rename_i hl
      rw [h3] at hl
      cases hl
      cases h4
      rfl
    · rename_i hl
      rw [h3] at hl
      cases hl
theorem strBytesG_some (hs : SRel s σ) {x : V} {k : V → FS → R} {r : V × FS} (h : strBytesG x s k = some r) : ∃ v s' σ', opConv .strBytes x σ = some (v, σ') ∧ SRel s' σ' ∧ k v s' = some r := by
  unfold strBytesG at h
  split at h
  · obtain ⟨s', h1, h2⟩ := pushK_ok hs _
    rw [h2] at h
    exact ⟨_, s', _, rfl, h1, h⟩
  · cases h
theorem viaG_some (hs : SRel s σ) {f : Store → Option (V × Store)} {k : V → FS → R} {r : V × FS} (h : viaG f s k = some r) : ∃ v s' σ', f σ = some (v, σ') ∧ SRel s' σ' ∧ k v s' = some r := by
  unfold viaG at h
  rw [toL_eq hs] at h
  split at h
  · rename_i v σ' hf
    exact ⟨v, _, σ', hf, ofL_ok σ', h⟩
  · cases h
theorem eqI_eq (a b : Int) : eqI a b = (a == b) := by
  rw [Bool.eq_iff_iff, beq_iff_eq]
  cases a with
  | ofNat m =>
    cases b with
    | ofNat n =>
      show Nat.beq m n = true ↔ Int.ofNat m = Int.ofNat n
      rw [Nat.beq_eq]
      exact ⟨fun h => by rw [h], fun h => by cases h; rfl⟩
    | negSucc n =>
      show false = true ↔ _
      simp
  | negSucc m =>
    cases b with
    | ofNat n =>
      show false = true ↔ _
      simp
    | negSucc n =>
      show Nat.beq m n = true ↔ _
      rw [Nat.beq_eq]
      simp
theorem normI_eq (k : IntKind) (n : Int) : normI k n = some (.tr (.sc (.int k n))) := by
  cases n with
  | ofNat m => exact natK_eq m fun m => some (V.tr (.sc (.int k (.ofNat m))))
  | negSucc m => exact natK_eq m fun m => some (V.tr (.sc (.int k (.negSucc m))))
theorem normB_eq (b : Bool) : normB b = some (.tr (.sc (.bool b))) := by cases b <;> rfl
theorem opBin_int {ek : EK} {op : BinOp} {k : IntKind} {a b : Int} (hop : sh op = false) : opBin ek op (.tr (.sc (.int k a))) (.tr (.sc (.int k b))) = match intF op k a b with | some v => some (.tr (.sc v)) | none => none := by
  rw [← opBinF_eq]
  have hk : Nat.beq (kix k) (kix k) = true := by cases k <;> rfl
  simp only [opBinF, asI?, hop, hk] <;> rfl
theorem intK_eq {ek : EK} {op : BinOp} {g : IntKind → Int → Int → Option V} (hop : sh op = false) (hg : ∀ k a b, g k a b = match intF op k a b with | some v => some (.tr (.sc v)) | none => none) (x y : V) :
    intK g (opBin ek op) x y = opBin ek op x y := by
  unfold intK
  split
  · split
    · rename_i k a _ k' b
      cases hk : Nat.beq (kix k) (kix k') with
      | false => rfl
      | true =>
        have hk := kix_inj hk
        subst hk
        rw [opBin_int hop, ← hg]
    · rfl
  · rfl
noncomputable section
def binG (ek : EK) : BinOp → V → V → Option V
  | .add => binAdd ek
  | .sub => binSub ek
  | .lss => binLss ek
  | .gtr => binGtr ek
  | .leq => binLeq ek
  | .geq => binGeq ek
  | .eql => binEql ek
  | .neq => binNeq ek
  | op => binOther ek op
end
theorem binG_eq (ek : EK) (op : BinOp) (x y : V) : binG ek op x y = opBin ek op x y := by
  cases op
  case add => exact intK_eq rfl (fun k a b => by rw [normI_eq]; rfl) x y
  case sub => exact intK_eq rfl (fun k a b => by rw [normI_eq]; rfl) x y
  case lss => exact intK_eq rfl (fun k a b => by rw [normB_eq]; rfl) x y
  case gtr => exact intK_eq rfl (fun k a b => by rw [normB_eq]; rfl) x y
  case leq => exact intK_eq rfl (fun k a b => by rw [normB_eq]; rfl) x y
  case geq => exact intK_eq rfl (fun k a b => by rw [normB_eq]; rfl) x y
  case eql => exact intK_eq rfl (fun k a b => by rw [normB_eq, eqI_eq]; rfl) x y
  case neq => exact intK_eq rfl (fun k a b => by rw [normB_eq, eqI_eq]; rfl) x y
  all_goals rfl
end Go.Proofs.YtolhjhjlfgfifaaGreatDoor.AM
end
section
set_option linter.unusedSimpArgs false
set_option linter.unusedVariables false
set_option linter.unusedVariables false
set_option linter.unusedSimpArgs false
namespace Go.Proofs.YtolhjhjlfgfifaaGreatDoor.AM
noncomputable section
abbrev EI (β : Type) := (IntKind → Int → β) → β → β
def xI (x : Value) : EI (Option V) := Value.rec (motive_1 := fun _ => EI (Option V)) (motive_2 := fun _ => EI (Option V)) (motive_3 := fun _ => EI (Option V)) (fun _ _ d => d) (fun k n f _ => f k n) (fun _ _ _ d => d) (fun _ _ _ _ d => d) (fun _ _ d => d) (fun _ _ d => d)
  (fun _ _ _ _ d => d) (fun _ _ d => d) (fun _ _ d => d) (fun _ _ _ _ _ _ d => d) (fun _ d => d) (fun _ _ _ _ d => d) (fun _ d => d) (fun _ _ _ d => d) (fun _ _ _ d => d) (fun _ _ _ d => d) (fun _ d => d) (fun _ _ _ _ _ d => d) x
def tI (t : Tree) : EI (Option V) := Tree.rec (motive_1 := fun _ => EI (Option V)) (motive_2 := fun _ => EI (Option V)) (fun v f d => xI v f d) (fun _ _ _ d => d) (fun _ _ _ d => d) (fun _ _ _ _ _ d => d) (fun _ _ _ _ d => d) (fun _ _ _ _ _ _ d => d) (fun _ _ _ _ d => d) (fun _ d => d) (fun _ _ _ _ _ d => d) t
def vI (v : V) : EI (Option V) := V.rec (motive_1 := fun _ => EI (Option V)) (motive_2 := fun _ => EI (Option V)) (fun t f d => tI t f d) (fun _ _ _ d => d) (fun _ _ _ d => d) (fun _ _ _ _ _ _ _ d => d) (fun _ _ _ _ d => d) (fun _ _ _ _ _ _ d => d) (fun _ _ d => d) (fun _ _ _ _ d => d) (fun _ d => d) (fun _ _ _ _ _ d => d) v
abbrev ES (β : Type) := (ByteArray → β) → β → β
def xS' (x : Value) : ES (Option V) := Value.rec (motive_1 := fun _ => ES (Option V)) (motive_2 := fun _ => ES (Option V)) (motive_3 := fun _ => ES (Option V)) (fun _ _ d => d) (fun _ _ _ d => d) (fun _ _ _ d => d) (fun _ _ _ _ d => d) (fun s f _ => f s) (fun _ _ d => d)
  (fun _ _ _ _ d => d) (fun _ _ d => d) (fun _ _ d => d) (fun _ _ _ _ _ _ d => d) (fun _ d => d) (fun _ _ _ _ d => d) (fun _ d => d) (fun _ _ _ d => d) (fun _ _ _ d => d) (fun _ _ _ d => d) (fun _ d => d) (fun _ _ _ _ _ d => d) x
def tS (t : Tree) : ES (Option V) := Tree.rec (motive_1 := fun _ => ES (Option V)) (motive_2 := fun _ => ES (Option V)) (fun v f d => xS' v f d) (fun _ _ _ d => d) (fun _ _ _ d => d) (fun _ _ _ _ _ d => d) (fun _ _ _ _ d => d) (fun _ _ _ _ _ _ d => d) (fun _ _ _ _ d => d) (fun _ d => d) (fun _ _ _ _ _ d => d) t
def vS (v : V) : ES (Option V) := V.rec (motive_1 := fun _ => ES (Option V)) (motive_2 := fun _ => ES (Option V)) (fun t f d => tS t f d) (fun _ _ _ d => d) (fun _ _ _ d => d) (fun _ _ _ _ _ _ _ d => d) (fun _ _ _ _ d => d) (fun _ _ _ _ _ _ d => d) (fun _ _ d => d) (fun _ _ _ _ d => d) (fun _ d => d) (fun _ _ _ _ _ d => d) v
abbrev EB (β : Type) := β → β → β → β
def xB (x : Value) : EB R := Value.rec (motive_1 := fun _ => EB R) (motive_2 := fun _ => EB R) (motive_3 := fun _ => EB R) (fun b t f _ => Bool.rec (motive := fun _ => R) f t b) (fun _ _ _ _ d => d) (fun _ _ _ _ d => d) (fun _ _ _ _ _ d => d) (fun _ _ _ d => d) (fun _ _ _ d => d)
  (fun _ _ _ _ _ d => d) (fun _ _ _ d => d) (fun _ _ _ d => d) (fun _ _ _ _ _ _ _ d => d) (fun _ _ d => d) (fun _ _ _ _ _ d => d) (fun _ _ d => d) (fun _ _ _ _ d => d) (fun _ _ _ _ d => d) (fun _ _ _ _ d => d) (fun _ _ d => d) (fun _ _ _ _ _ _ d => d) x
def tB (t : Tree) : EB R := Tree.rec (motive_1 := fun _ => EB R) (motive_2 := fun _ => EB R) (fun v t f d => xB v t f d) (fun _ _ _ _ d => d) (fun _ _ _ _ d => d) (fun _ _ _ _ _ _ d => d) (fun _ _ _ _ _ d => d) (fun _ _ _ _ _ _ _ d => d) (fun _ _ _ _ _ d => d) (fun _ _ d => d) (fun _ _ _ _ _ _ d => d) t
def vB (v : V) : EB R := V.rec (motive_1 := fun _ => EB R) (motive_2 := fun _ => EB R) (fun v t f d => tB v t f d) (fun _ _ _ _ d => d) (fun _ _ _ _ d => d) (fun _ _ _ _ _ _ _ _ d => d) (fun _ _ _ _ _ d => d) (fun _ _ _ _ _ _ _ d => d) (fun _ _ _ d => d) (fun _ _ _ _ _ d => d) (fun _ _ d => d) (fun _ _ _ _ _ _ d => d) v
abbrev EP (β : Type) := (Nat → Nat → Nat → β) → β → β
def vP (v : V) : EP (Option V) := V.rec (motive_1 := fun _ => EP (Option V)) (motive_2 := fun _ => EP (Option V)) (fun _ _ d => d) (fun _ _ _ d => d) (fun _ _ _ d => d) (fun _ _ _ _ _ _ _ d => d) (fun i g o f _ => f i g o) (fun _ _ _ _ _ _ d => d) (fun _ _ d => d) (fun _ _ _ _ d => d) (fun _ d => d) (fun _ _ _ _ _ d => d) v
def vPR (v : V) : EP R := V.rec (motive_1 := fun _ => EP R) (motive_2 := fun _ => EP R) (fun _ _ d => d) (fun _ _ _ d => d) (fun _ _ _ d => d) (fun _ _ _ _ _ _ _ d => d) (fun i g o f _ => f i g o) (fun _ _ _ _ _ _ d => d) (fun _ _ d => d) (fun _ _ _ _ d => d) (fun _ d => d) (fun _ _ _ _ _ d => d) v
abbrev EO (β : Type) := (Nat → Nat → Nat → Nat → Nat → β) → β → β
def vO (v : V) : EO (Option V) := V.rec (motive_1 := fun _ => EO (Option V)) (motive_2 := fun _ => EO (Option V)) (fun _ _ d => d) (fun _ _ _ d => d) (fun _ _ _ d => d) (fun i g o l z _ f _ => f i g o l z) (fun _ _ _ _ d => d) (fun _ _ _ _ _ _ d => d) (fun _ _ d => d) (fun _ _ _ _ d => d) (fun _ d => d) (fun _ _ _ _ _ d => d) v
def oRow (o : Ob) : (List V → Nat → Option V) → Option V → Option V := Ob.rec (motive := fun _ => (List V → Nat → Option V) → Option V → Option V) (fun cs g f _ => f cs g) (fun _ _ _ d => d) (fun _ _ _ d => d) o
def oRowR (o : Ob) : (List V → Nat → R) → R → R := Ob.rec (motive := fun _ => (List V → Nat → R) → R → R) (fun cs g f _ => f cs g) (fun _ _ _ d => d) (fun _ _ _ d => d) o
def oGen (o : Ob) : Nat := Ob.rec (motive := fun _ => Nat) (fun _ g => g) (fun _ g => g) (fun _ _ => 0) o
theorem vI_eq (v : V) (f : IntKind → Int → Option V) (d : Option V) : vI v f d = match v with | .tr (.sc (.int k n)) => f k n | _ => d := by
  cases v with
  | tr t => cases t with
    | sc x => cases x <;> rfl
    | _ => rfl
  | _ => rfl
theorem vB_eq (v : V) (a b d : R) : vB v a b d = match v with | .tr (.sc (.bool u)) => Bool.rec (motive := fun _ => R) b a u | _ => d := by
  cases v with
  | tr t => cases t with
    | sc x => cases x <;> rfl
    | _ => rfl
  | _ => rfl
theorem vP_eq (v : V) (f : Nat → Nat → Nat → Option V) (d : Option V) : vP v f d = match v with | .ptr i g o => f i g o | _ => d := by cases v <;> rfl
theorem vPR_eq (v : V) (f : Nat → Nat → Nat → R) (d : R) : vPR v f d = match v with | .ptr i g o => f i g o | _ => d := by cases v <;> rfl
theorem vO_eq (v : V) (f : Nat → Nat → Nat → Nat → Nat → Option V) (d : Option V) : vO v f d = match v with | .own i g o l z _ => f i g o l z | _ => d := by cases v <;> rfl
theorem oGen_eq (o : Ob) : oGen o = genOf o := by cases o <;> rfl
def gGF (x : GO) (want : Bool) (a b : GOp) : GOp := fun c k e l s => x (fun v => Bool.rec (motive := fun _ => R) (vB v (b c k e l s) (a c k e l s) (match v with | .tr (.tup []) => b c k e l s | _ => none)) (vB v (a c k e l s) (b c k e l s) (match v with | .tr (.tup []) => b c k e l s | _ => none)) want) e l
theorem gGF_eq (x : GO) (want : Bool) (a b : GOp) : gGF x want a b = gG x want a b := by
  funext c k e l s
  unfold gGF gG
  congr 1
  funext v
  rw [vB_eq, vB_eq]
  cases want with
  | true =>
    cases v with
    | tr t => cases t with
      | sc x => cases x with
        | bool u => cases u <;> rfl
        | _ => rfl
      | tup vs => cases vs <;> rfl
      | _ => rfl
    | _ => rfl
  | false =>
    cases v with
    | tr t => cases t with
      | sc x => cases x with
        | bool u => cases u <;> rfl
        | _ => rfl
      | tup vs => cases vs <;> rfl
      | _ => rfl
    | _ => rfl
def cCondF (x : GO) (a b : GC) : GC := fun c ex ret k e l s => x (fun v => vB v (a c ex ret k e l s) (b c ex ret k e l s) none) e l
theorem cCondF_eq (x : GO) (a b : GC) : cCondF x a b = cCond x a b := by
  funext c ex ret k e l s
  unfold cCondF cCond
  congr 1
  funext v
  rw [vB_eq]
  try rfl
def kPickF (x a b : GO) : GK := fun _ k e l s => x (fun v => vB v (a (fun v => k v s) e l) (b (fun v => k v s) e l) none) e l
theorem kPickF_eq (x a b : GO) : kPickF x a b = kPick x a b := by
  funext c k e l s
  unfold kPickF kPick
  congr 1
  funext v
  rw [vB_eq]
  try rfl
def ldF1 (a : V) (s : FS) : Option V := vP a (fun id g off => optR (s.getO id) fun ob => oRow ob (fun cs g' => Bool.rec (motive := fun _ => Option V) none (nthR cs off) (Nat.beq g g')) (ldG1 a s)) (ldG1 a s)
theorem ldF1_eq (a : V) (s : FS) : ldF1 a s = ldG1 a s := by
  unfold ldF1
  rw [vP_eq]
  cases a with
  | ptr id g off =>
    simp only [ldG1]
    cases h : s.getO id with
    | none => rfl
    | some ob => cases ob <;> rfl
  | _ => rfl
def stF1 (a x : V) (s : FS) (k : FS → R) : R := vPR a (fun id g off => optR (s.getO id) fun ob => oRowR ob (fun cs g' => bif2 (Nat.beq g g') (bif2 (oneV x) (setR cs x off fun cs => s.setK id (.row cs g') k) none) none) none) none
theorem stF1_eq (a x : V) (s : FS) (k : FS → R) : stF1 a x s k = stG1 a x s k := by
  unfold stF1
  rw [vPR_eq]
  cases a with
  | ptr id g off =>
    simp only [stG1]
    cases h : s.getO id with
    | none => rfl
    | some ob => cases ob <;> rfl
  | _ => rfl
def stA (a x : V) (s : FS) (k : FS → R) : R := bif2 (oneV x) (stF1 a x s k) (stG 1 a x s k)
theorem stA_some {s : FS} {σ : Store} (hs : SRel s σ) {a x : V} {k : FS → R} {r : V × FS} (h : stA a x s k = some r) : ∃ s' σ', opStore 1 a x σ = some σ' ∧ SRel s' σ' ∧ k s' = some r := by
  rcases bif2_or h with ⟨_, h⟩ | ⟨_, h⟩
  · exact stG1_some hs (by rwa [stF1_eq] at h)
  · exact stG_some hs h
def idxF (i : V) (f : Nat → Option V) : Option V := vI i (fun _ n => Int.rec (motive := fun _ => Option V) f (fun _ => none) n) none
theorem idxF_eq (i : V) (f : Nat → Option V) : idxF i f = asIdxK i f := by
  unfold idxF asIdxK
  rw [vI_eq]
  cases i with
  | tr t => cases t with
    | sc x => cases x with
      | int k n => cases n <;> rfl
      | _ => rfl
    | _ => rfl
  | _ => rfl
def iaddrF (size : Nat) (x i : V) (s : FS) : Option V := vO x (fun id g off len sz => idxF i fun i => optR (s.getO id) fun ob => bif2 (Nat.blt i len) (bif2 (Nat.beq sz size) (bif2 (Nat.beq g (oGen ob)) (natK (Nat.add off (Nat.mul i size)) fun o => some (.ptr id g o)) none) none) none) (iaddrG size x i s)
theorem iaddrF_eq (size : Nat) (x i : V) (s : FS) : iaddrF size x i s = iaddrG size x i s := by
  unfold iaddrF
  rw [vO_eq]
  cases x with
  | own id g off len sz cap => simp only [idxF_eq, oGen_eq, iaddrG]
  | _ => rfl
def halfR (k : IntKind) : Nat := IntKind.rec (motive := fun _ => Nat) 128 32768 2147483648 9223372036854775808 256 65536 4294967296 18446744073709551616 k
def kixR (k : IntKind) : Nat := IntKind.rec (motive := fun _ => Nat) 0 1 2 3 4 5 6 7 k
def intKF (g : Int → Int → IntKind → Option V) (slow : V → V → Option V) (x y : V) : Option V := vI x (fun k a => vI y (fun k' b => Bool.rec (motive := fun _ => Option V) (slow x y) (g a b k) (Nat.beq (kixR k) (kixR k'))) (slow x y)) (slow x y)
theorem intKF_eq {g : Int → Int → IntKind → Option V} {g' : IntKind → Int → Int → Option V} (hg : ∀ k a b, g a b k = g' k a b) (slow : V → V → Option V) (x y : V) : intKF g slow x y = intK g' slow x y := by
  cases x with
  | tr t => cases t with
    | sc u => cases u with
      | int k a => cases y with
        | tr t' => cases t' with
          | sc u' => cases u' with
            | int k' b =>
              show Bool.rec (motive := fun _ => Option V) _ (g a b k) (Nat.beq (kixR k) (kixR k')) = Bool.rec (motive := fun _ => Option V) _ (g' k a b) (Nat.beq (kix k) (kix k'))
              rw [hg, show kixR k = kix k by cases k <;> rfl, show kixR k' = kix k' by cases k' <;> rfl]
            | _ => rfl
          | _ => rfl
        | _ => rfl
      | _ => rfl
    | _ => rfl
  | _ => rfl
def natI (k : IntKind) (r : Nat) : Option V := Bool.rec (motive := fun _ => Option V) (some (.tr (.sc (.int k (k.wrap (.ofNat r)))))) (some (.tr (.sc (.int k (.ofNat r))))) (Nat.blt r (halfR k))
theorem natI_eq (k : IntKind) (r : Nat) : natI k r = some (.tr (.sc (.int k (k.wrap (.ofNat r))))) := by
  unfold natI
  have h : halfR k = half k := by cases k <;> rfl
  rw [h]
  cases hb : Nat.blt r (half k) with
  | false => rfl
  | true =>
    have := wrap_in_pos k r (by simpa only [Nat.blt_eq] using hb)
    show some (V.tr (.sc (.int k (.ofNat r)))) = _
    rw [this]
def addF (a b : Int) : IntKind → Option V := Int.rec (motive := fun _ => Int → IntKind → Option V)
  (fun m b k => Int.rec (motive := fun _ => Nat → IntKind → Option V) (fun n m k => natK (Nat.add m n) fun r => natI k r) (fun n m k => normI k (wrapF k (Int.add (.ofNat m) (.negSucc n)))) b m k)
  (fun m b k => normI k (wrapF k (Int.add (.negSucc m) b))) a b
theorem addF_eq (k : IntKind) (a b : Int) : addF a b k = normI k (wrapF k (Int.add a b)) := by
  cases a with
  | negSucc m => rfl
  | ofNat m => cases b with
    | negSucc n => rfl
    | ofNat n =>
      show natK (Nat.add m n) (fun r => natI k r) = _
      rw [natK_eq, natI_eq, normI_eq, wrapF_eq]
      rfl
def subF (a b : Int) : IntKind → Option V := Int.rec (motive := fun _ => Int → IntKind → Option V)
  (fun m b k => Int.rec (motive := fun _ => Nat → IntKind → Option V) (fun n m k => Bool.rec (motive := fun _ => Option V) (normI k (wrapF k (Int.sub (.ofNat m) (.ofNat n)))) (natK (Nat.sub m n) fun r => natI k r) (Nat.ble n m)) (fun n m k => normI k (wrapF k (Int.sub (.ofNat m) (.negSucc n)))) b m k)
  (fun m b k => normI k (wrapF k (Int.sub (.negSucc m) b))) a b
theorem subF_eq (k : IntKind) (a b : Int) : subF a b k = normI k (wrapF k (Int.sub a b)) := by
  cases a with
  | negSucc m => rfl
  | ofNat m => cases b with
    | negSucc n => rfl
    | ofNat n =>
      show Bool.rec (motive := fun _ => Option V) (normI k (wrapF k (Int.sub (.ofNat m) (.ofNat n)))) (natK (Nat.sub m n) fun r => natI k r) (Nat.ble n m) = _
      cases hb : Nat.ble n m with
      | false => rfl
      | true =>
        show natK (Nat.sub m n) (fun r => natI k r) = _
        have hle := Nat.le_of_ble_eq_true hb
        have : Int.sub (.ofNat m) (.ofNat n) = Int.ofNat (m - n) := by
          show (m : Int) - (n : Int) = ((m - n : Nat) : Int)
          omega
        rw [natK_eq, natI_eq, normI_eq, wrapF_eq, this]
        rfl
def ltR (a b : Int) : Bool := Int.rec (motive := fun _ => Int → Bool) (fun m b => Int.rec (motive := fun _ => Nat → Bool) (fun n m => Nat.blt m n) (fun _ _ => false) b m) (fun m b => Int.rec (motive := fun _ => Nat → Bool) (fun _ _ => true) (fun n m => Nat.blt n m) b m) a b
theorem ltR_eq (a b : Int) : ltR a b = ltF a b := by cases a <;> cases b <;> rfl
def tV : Option V := some (.tr (.sc (.bool true)))
def fV : Option V := some (.tr (.sc (.bool false)))
def boolR (b : Bool) : Option V := Bool.rec (motive := fun _ => Option V) fV tV b
theorem boolR_eq (b : Bool) : boolR b = normB b := rfl
def beqL (a : List UInt8) : List UInt8 → Bool := List.rec (motive := fun _ => List UInt8 → Bool) (fun b => List.rec (motive := fun _ => Bool) true (fun _ _ _ => false) b) (fun x _ ih b => List.rec (motive := fun _ => Bool) false (fun y t _ => Bool.rec (motive := fun _ => Bool) false (ih t) (Nat.beq x.toNat y.toNat)) b) a
theorem beqL_eq : ∀ a b, beqL a b = bytesEq a b
  | [], [] => rfl
  | [], _ :: _ => rfl
  | _ :: _, [] => rfl
  | x :: a, y :: b => by
    show Bool.rec (motive := fun _ => Bool) false (beqL a b) (Nat.beq x.toNat y.toNat) = _
    rw [beqL_eq a b, show bytesEq (x :: a) (y :: b) = (Nat.beq x.toNat y.toNat && bytesEq a b) from rfl]
    cases Nat.beq x.toNat y.toNat <;> cases bytesEq a b <;> rfl
def strF (neg : Bool) (slow : V → V → Option V) (x y : V) : Option V := vS x (fun a => vS y (fun b => boolR (Bool.rec (motive := fun _ => Bool) (beqL a.data.toList b.data.toList) (!beqL a.data.toList b.data.toList) neg)) (slow x y)) (slow x y)
theorem opBin_str (ek : EK) (op : BinOp) (a b : ByteArray) : opBin ek op (.tr (.sc (.string a))) (.tr (.sc (.string b))) = match binStr op a b with | some v => some (.tr (.sc v)) | none => none := by
  cases ek <;> rfl
theorem strF_eql (ek : EK) (x y : V) : strF false (opBin ek .eql) x y = opBin ek .eql x y := by
  cases x with
  | tr t => cases t with
    | sc u => cases u with
      | string a => cases y with
        | tr t' => cases t' with
          | sc u' => cases u' with
            | string b =>
              rw [opBin_str]
              show boolR (Bool.rec (motive := fun _ => Bool) (beqL a.data.toList b.data.toList) (!beqL a.data.toList b.data.toList) false) = _
              rw [boolR_eq, normB_eq, beqL_eq]
              rfl
            | _ => rfl
          | _ => rfl
        | _ => rfl
      | _ => rfl
    | _ => rfl
  | _ => rfl
theorem strF_neq (ek : EK) (x y : V) : strF true (opBin ek .neq) x y = opBin ek .neq x y := by
  cases x with
  | tr t => cases t with
    | sc u => cases u with
      | string a => cases y with
        | tr t' => cases t' with
          | sc u' => cases u' with
            | string b =>
              rw [opBin_str]
              show boolR (Bool.rec (motive := fun _ => Bool) (beqL a.data.toList b.data.toList) (!beqL a.data.toList b.data.toList) true) = _
              rw [boolR_eq, normB_eq, beqL_eq]
              rfl
            | _ => rfl
          | _ => rfl
        | _ => rfl
      | _ => rfl
    | _ => rfl
  | _ => rfl
def addB (ek : EK) : V → V → Option V := intKF addF (opBin ek .add)
def subB (ek : EK) : V → V → Option V := intKF subF (opBin ek .sub)
def lssB (ek : EK) : V → V → Option V := intKF (fun a b _ => boolR (ltR a b)) (opBin ek .lss)
def gtrB (ek : EK) : V → V → Option V := intKF (fun a b _ => boolR (ltR b a)) (opBin ek .gtr)
def leqB (ek : EK) : V → V → Option V := intKF (fun a b _ => boolR (!ltR b a)) (opBin ek .leq)
def geqB (ek : EK) : V → V → Option V := intKF (fun a b _ => boolR (!ltR a b)) (opBin ek .geq)
def eqlB (ek : EK) : V → V → Option V := intKF (fun a b _ => boolR (eqI a b)) (strF false (opBin ek .eql))
def neqB (ek : EK) : V → V → Option V := intKF (fun a b _ => boolR (!eqI a b)) (strF true (opBin ek .neq))
def binH (ek : EK) : BinOp → V → V → Option V
  | .add => addB ek
  | .sub => subB ek
  | .lss => lssB ek
  | .gtr => gtrB ek
  | .leq => leqB ek
  | .geq => geqB ek
  | .eql => eqlB ek
  | .neq => neqB ek
  | op => binOther ek op
theorem binH_eq (ek : EK) (op : BinOp) (x y : V) : binH ek op x y = opBin ek op x y := by
  rw [← binG_eq]
  cases op
  case add => exact intKF_eq addF_eq _ _ _
  case sub => exact intKF_eq subF_eq _ _ _
  case lss => exact intKF_eq (fun k a b => by rw [boolR_eq, ltR_eq]) _ _ _
  case gtr => exact intKF_eq (fun k a b => by rw [boolR_eq, ltR_eq]) _ _ _
  case leq => exact intKF_eq (fun k a b => by rw [boolR_eq, ltR_eq]) _ _ _
  case geq => exact intKF_eq (fun k a b => by rw [boolR_eq, ltR_eq]) _ _ _
  case eql =>
    show intKF (fun a b _ => boolR (eqI a b)) (strF false (opBin ek .eql)) x y = binEql ek x y
    rw [show strF false (opBin ek .eql) = opBin ek .eql from funext fun x => funext fun y => strF_eql ek x y]
    exact intKF_eq (fun k a b => rfl) _ _ _
  case neq =>
    show intKF (fun a b _ => boolR (!eqI a b)) (strF true (opBin ek .neq)) x y = binNeq ek x y
    rw [show strF true (opBin ek .neq) = opBin ek .neq from funext fun x => funext fun y => strF_neq ek x y]
    exact intKF_eq (fun k a b => rfl) _ _ _
  all_goals rfl
def findS (a : List UInt8) (es : List Ent) : Nat → Option (Option (Nat × Ent)) := List.rec (motive := fun _ => Nat → Option (Option (Nat × Ent))) (fun _ => some none)
  (fun e _ ih i => match e.key with
    | .string b => Bool.rec (motive := fun _ => Option (Option (Nat × Ent))) (ih (Nat.succ i)) (some (some (i, e))) (beqL a b.data.toList)
    | _ => none) es
def findF (k : Value) (es : List Ent) (i : Nat) : Option (Option (Nat × Ent)) := match k with
  | .string a => findS a.data.toList es i
  | k => findEnt k es i
theorem findS_eq (a : ByteArray) : ∀ (es : List Ent) (i : Nat), findS a.data.toList es i = findEnt (.string a) es i
  | [], i => rfl
  | e :: es, i => by
    have ih := findS_eq a es (i + 1)
    show (match e.key with
      | .string b => Bool.rec (motive := fun _ => Option (Option (Nat × Ent))) (findS a.data.toList es (i + 1)) (some (some (i, e))) (beqL a.data.toList b.data.toList)
      | _ => none) = _
    rw [ih]
    have hf : findEnt (.string a) (e :: es) i = match keyEq (.string a) e.key with
      | some true => some (some (i, e))
      | some false => findEnt (.string a) es (i + 1)
      | none => none := rfl
    rw [hf]
    cases hk : e.key with
    | string b =>
      rw [show keyEq (.string a) (.string b) = some (bytesEq a.data.toList b.data.toList) from rfl]
      simp only [beqL_eq]
      cases bytesEq a.data.toList b.data.toList <;> rfl
    | _ => rfl
theorem findF_eq (k : Value) (es : List Ent) (i : Nat) : findF k es i = findEnt k es i := by
  unfold findF
  split
  · exact findS_eq _ _ _
  · rfl
def lookupF (kind : TypeDesc) (zero : Tree) (ok : Bool) (m k : V) (s : FS) : Option V := match asKey kind k, m with
  | some _, .tr (.sc (.map none)) => some (okTup ok (.tr zero) false)
  | some k, .mp id => match s.getO id with
    | some (.map es _) => match findF k es 0 with
      | some (some (_, e)) => some (okTup ok e.val true)
      | some none => some (okTup ok (.tr zero) false)
      | none => none
    | _ => none
  | _, _ => none
theorem lookupF_eq (kind : TypeDesc) (zero : Tree) (ok : Bool) (m k : V) (s : FS) : lookupF kind zero ok m k s = lookupG kind zero ok m k s := by
  unfold lookupF lookupG
  simp only [findF_eq]
  try rfl
def mupdF (kind : TypeDesc) (m k v : V) (s : FS) : Option FS := match asKey kind k, m with
  | some k, .mp id => match s.getO id with
    | some (.map es clock) => match findF k es 0 with
      | some (some (i, e)) => s.setK id (.map (es.set i { e with key := k, val := v }) clock) some
      | some none => s.setK id (.map (es ++ [{ key := k, val := v, born := clock }]) (clock + 1)) some
      | none => none
    | _ => none
  | _, _ => none
theorem mupdF_eq (kind : TypeDesc) (m k v : V) (s : FS) : mupdF kind m k v s = mupdG kind m k v s := by
  unfold mupdF mupdG
  simp only [findF_eq]
  try rfl
def mentF (kind : TypeDesc) (zero : Tree) (m k : V) (s : FS) : Option (V × FS) := match asKey kind k, m with
  | some k, .mp id => match s.getO id with
    | some (.map es clock) => match findF k es 0 with
      | some (some (i, e)) => s.setK id (.map (es.set i { e with key := k }) clock) fun s => some (mkTup [e.val, int .i64 e.born], s)
      | some none => s.setK id (.map (es ++ [{ key := k, val := .tr zero, born := clock }]) (clock + 1)) fun s => some (mkTup [.tr zero, int .i64 clock], s)
      | none => none
    | _ => none
  | _, _ => none
theorem mentF_eq (kind : TypeDesc) (zero : Tree) (m k : V) (s : FS) : mentF kind zero m k s = mentG kind zero m k s := by
  unfold mentF mentG
  simp only [findF_eq]
  try rfl
def qappendG (size bytes : Nat) (v x : V) (s : FS) (k : V → FS → R) : R := match v with
  | .tr t => appendG size bytes (.tr t) x s k
  | _ => none
def sameG (x : V) (s : FS) : Option V := match x with
  | .own id g off len sz cap => match s.getO id with
    | some (.row _ g') => if g = g' ∧ 0 < len ∧ sz = 1 then some (.own id g off len sz cap) else none
    | _ => none
  | _ => none
theorem sameG_some {s : FS} {σ : Store} (hs : SRel s σ) {x v : V} (h : sameG x s = some v) : opConv .same x σ = some (v, σ) := by
  have : opSame x σ = some v := by
    unfold sameG at h
    unfold opSame
    simp only [hs.2.2] at h
    exact h
  simp only [opConv, this]
def boxTG (v : V) (s : FS) (k : V → FS → R) : R := match allTr (cellsOf v) with
  | some ts => k (.tr (.rptr ts 0)) s
  | none => allocG (cellsOf v) s k
def ldtG (size : Nat) (agg : Bool) (a : V) (_ : FS) : Option V := opLdt size agg a
def copyG (size : Nat) (d x : V) (s : FS) (k : V → FS → R) : R := optR (elemsG s size x) fun p => match d with
  | .tr (.sc (.slice none 0 0)) => k (int .i64 0) s
  | .own id g off len sz _ => bif2 (Nat.beq sz size) (Nat.rec (motive := fun _ => R) (k (int .i64 0) s) (fun _ _ => optR (putG s id g off (p.1.take (Nat.min p.2 len * size))) fun s => k (int .i64 (Nat.min p.2 len : Nat)) s) (Nat.min p.2 len)) none
  | .tr (.row _ len _) => Nat.rec (motive := fun _ => R) (k (int .i64 0) s) (fun _ _ => none) (Nat.min p.2 len)
  | _ => none
theorem copyG_some {s : FS} {σ : Store} (hs : SRel s σ) {size : Nat} {d x : V} {k : V → FS → R} {r : V × FS} (h : copyG size d x s k = some r) : ∃ v s' σ', opCopy size d x σ = some (v, σ') ∧ SRel s' σ' ∧ k v s' = some r := by
  unfold copyG at h
  obtain ⟨⟨xs, n⟩, h1, h2⟩ := optR_some h
  unfold opCopy
  rw [elemsG_some hs h1]
  simp only at h2 ⊢
  split at h2
  · exact ⟨_, s, σ, rfl, hs, h2⟩
  · rename_i id g off len sz cap
    obtain ⟨h3, h4⟩ := bif2_some h2
    simp only [Nat.eq_of_beq_eq_true h3, ne_eq, not_true_eq_false, if_false]
    cases hm : Nat.min n len with
    | zero =>
      rw [hm] at h4
      exact ⟨_, s, σ, by simp, hs, h4⟩
    | succ m =>
      rw [hm] at h4
      obtain ⟨s', h5, h6⟩ := optR_some h4
      obtain ⟨σ', h7, h8⟩ := putG_some hs h5
      exact ⟨_, s', σ', by simp [h7], h8, h6⟩
  · rename_i len cap
    cases hm : Nat.min n len with
    | zero =>
      rw [hm] at h2
      exact ⟨_, s, σ, by simp only [hm, if_true], hs, h2⟩
    | succ m =>
      rw [hm] at h2
      cases h2
  · cases h2
def clearG (zero : List Tree) (x : V) (s : FS) (k : V → FS → R) : R := match x with
  | .tr (.sc (.slice none 0 0)) => k (.tr (.tup [])) s
  | .tr (.row _ 0 _) => k (.tr (.tup [])) s
  | .own _ _ _ 0 _ _ => k (.tr (.tup [])) s
  | .own id g off len sz _ => bif2 (Nat.beq sz zero.length) (optR (putG s id g off ((rep len zero).map .tr)) fun s => k (.tr (.tup [])) s) none
  | _ => none
theorem clearG_some {s : FS} {σ : Store} (hs : SRel s σ) {zero : List Tree} {x : V} {k : V → FS → R} {r : V × FS} (h : clearG zero x s k = some r) : ∃ v s' σ', opClear zero x σ = some (v, σ') ∧ SRel s' σ' ∧ k v s' = some r := by
  unfold clearG at h
  unfold opClear
  split at h
  · exact ⟨_, s, σ, rfl, hs, h⟩
  · exact ⟨_, s, σ, rfl, hs, h⟩
  · exact ⟨_, s, σ, rfl, hs, h⟩
  · rename_i id g off len sz cap hno
    obtain ⟨h3, h4⟩ := bif2_some h
    obtain ⟨s', h5, h6⟩ := optR_some h4
    obtain ⟨σ', h7, h8⟩ := putG_some hs h5
    simp only [Nat.eq_of_beq_eq_true h3, ne_eq, not_true_eq_false, if_false, h7]
    exact ⟨_, s', σ', rfl, h8, h6⟩
  · cases h
end
end Go.Proofs.YtolhjhjlfgfifaaGreatDoor.AM
end
section
set_option linter.unusedSimpArgs false
set_option linter.unusedVariables false
set_option linter.unusedVariables false
set_option linter.unusedSimpArgs false
namespace Go.Proofs.YtolhjhjlfgfifaaGreatDoor.AM
noncomputable section
def gO (D : Nat) (names : List Nat) : HO → GO
  | .val v => oV v
  | .loc k => match ix k names with | some i => oLoc i | none => oBad
  | .env k => match Nat.blt k (2 ^ D) with | true => oE (eP (bits D k)) | false => oBad
def gOs (D : Nat) (names : List Nat) : List HO → GOs
  | [] => aN
  | x :: r => aC (gO D names x) (gOs D names r)
def gPs (D : Nat) (names : List Nat) : List (Nat × Nat × HO) → GPs
  | [] => bN
  | (o, n, x) :: r => bC o n (gO D names x) (gPs D names r)
def gMo (D : Nat) (names : List Nat) : Option HO → GMo
  | none => mN
  | some x => mS (gO D names x)
def convG (c : Conv) (x : V) : Option V := match opConv c x [] with | some (v, _) => some v | none => none
def gK (D : Nat) (names : List Nat) : HK → GK
  | .mv x => kMv (gO D names x)
  | .pick c a b => kPickF (gO D names c) (gO D names a) (gO D names b)
  | .alloc z => kW0 (allocG (z.map .tr))
  | .box t x => match t with | true => kW1 boxTG (gO D names x) | false => kW1 (fun v => allocG (cellsOf v)) (gO D names x)
  | .ldt size agg a => kR1 (ldtG size agg) (gO D names a)
  | .build z ps => kBuild z (gPs D names ps)
  | .bslice own len size z ps => kBslice own len size z (gPs D names ps)
  | .load size agg a => match size, agg with | 1, false => kR1 ldF1 (gO D names a) | size, agg => kR1 (ldG size agg) (gO D names a)
  | .store size a x => match size with | 1 => kS2 stA (gO D names a) (gO D names x) | size => kS2 (stG size) (gO D names a) (gO D names x)
  | .nilchk x => kP1 opNilCheck (gO D names x)
  | .bin ek op x y => kP2 (binH ek op) (gO D names x) (gO D names y)
  | .eqs neg offs x y => kP2 (opEqs neg offs) (gO D names x) (gO D names y)
  | .un op x => kP1 (opUn op) (gO D names x)
  | .conv c x => match c with
    | .bytesStr => kR1 bytesStrG (gO D names x)
    | .same => kR1 sameG (gO D names x)
    | .strBytes => kW1 strBytesG (gO D names x)
    | c => kP1 (convG c) (gO D names x)
  | .mkfn fn a b => kMkfn fn (gOs D names a) (gOs D names b)
  | .mkmap => kW0 mkmapG
  | .mkslice z bytes l c => kW2 (mksliceG z bytes) (gO D names l) (gO D names c)
  | .faddr off x => kP1 (opFaddr off) (gO D names x)
  | .field off size agg x => kP1 (opField off size agg) (gO D names x)
  | .iaddr size x i => kR2 (iaddrF size) (gO D names x) (gO D names i)
  | .istr x i => kP2 opIndexStr (gO D names x) (gO D names i)
  | .lookup kind z ok m k => kR2 (lookupF kind z ok) (gO D names m) (gO D names k)
  | .mupd kind m k v => kS3 (mupdF kind) (gO D names m) (gO D names k) (gO D names v)
  | .ment kind z m k => kT2 (mentF kind z) (gO D names m) (gO D names k)
  | .esto m c v => kS3 estoG (gO D names m) (gO D names c) (gO D names v)
  | .delete kind m k => kW2 (fun m k => viaG (opDelete kind m k)) (gO D names m) (gO D names k)
  | .extract x i => kP1 (fun v => opExtract v i) (gO D names x)
  | .mkiface t x => kMkiface t (gO D names x)
  | .callf f args => kCallf f (gOs D names args)
  | .callv f args => kCallv (gO D names f) (gOs D names args)
  | .len k x => match k with | 0 => kP1 opLenStr (gO D names x) | 1 => kP1 opLenSl (gO D names x) | _ => kR1 lenMapG (gO D names x)
  | .cap x => kR1 capG (gO D names x)
  | .append size bytes s x => kW2 (appendG size bytes) (gO D names s) (gO D names x)
  | .qappend size bytes s x => kW2 (qappendG size bytes) (gO D names s) (gO D names x)
  | .copy size d x => kW2 (copyG size) (gO D names d) (gO D names x)
  | .clear z x => kW1 (clearG z) (gO D names x)
  | .minmax mx x l => kMinmax mx (gO D names x) (gOs D names l)
  | .slicestr x lo hi => kSlicestr (gO D names x) (gMo D names lo) (gMo D names hi)
  | .slice size x lo hi mx => kSlice size (gO D names x) (gMo D names lo) (gMo D names hi) (gMo D names mx)
  | .bad => kBadK
def gW (D : Nat) (o : HOp) : GK → GOp := match o.dst with
  | none => pN
  | some d => match o.inK with
    | false => pL
    | true => match Nat.blt d (2 ^ D) with | true => pE (sP (bits D d)) | false => fun _ => opBad
def gN (names : List Nat) (o : HOp) : List Nat := match o.dst with
  | none => names
  | some d => match o.inK with | false => d :: names | true => names
def gOp (D : Nat) (names : List Nat) (o : HOp) (g : GK) : GOp := match o.guard with
  | none => gW D o g
  | some (x, want) => gGF (gO D names x) want (gW D o g) (gW D o kUndef)
end
def CallEx (c : GCall) (cas : Nat → CallA) : Prop := ∀ f vs s v s' σ, c f vs s = some (v, s') → SRel s σ → ∃ m σ', cas m f vs σ = some (v, σ') ∧ SRel s' σ'
section
variable {D : Nat} {names : List Nat} {e : ET} {l : List V} {st : St}
theorem gO_some (he : ERel D e st.env) (hl : LRel names l st.loc) {x : HO} {k : V → R} {r : V × FS} (h : gO D names x k e l = some r) : ∃ v, st.get x = some v ∧ k v = some r := by
  cases x with
  | val v => exact ⟨v, rfl, h⟩
  | loc j =>
    cases hi : ix j names with
    | some i =>
      simp only [gO, hi] at h
      obtain ⟨v, h1, h2⟩ := oLoc_some h
      obtain ⟨u, h3, h4⟩ := hl j i hi
      rw [h1] at h3
      cases h3
      exact ⟨v, h4, h2⟩
    | none =>
      simp only [gO, hi] at h
      cases h
  | env j =>
    cases hb : Nat.blt j (2 ^ D) with
    | true =>
      simp only [gO, hb] at h
      obtain ⟨v, h1, h2⟩ := eP_some (k := k) (e := e) h
      rw [he j (by simpa only [Nat.blt_eq] using hb)] at h1
      exact ⟨v, h1, h2⟩
    | false =>
      simp only [gO, hb] at h
      cases h
theorem gOs_some (he : ERel D e st.env) (hl : LRel names l st.loc) : ∀ {xs : List HO} {k : List V → R} {r : V × FS}, gOs D names xs k e l = some r → ∃ vs, st.gets xs = some vs ∧ k vs = some r
  | [], k, r, h => ⟨[], rfl, h⟩
  | x :: xs, k, r, h => by
    obtain ⟨v, h1, h2⟩ := gO_some he hl (x := x) h
    obtain ⟨vs, h3, h4⟩ := gOs_some he hl (xs := xs) h2
    exact ⟨v :: vs, by simp only [St.gets, h1, h3], h4⟩
theorem gPs_some (he : ERel D e st.env) (hl : LRel names l st.loc) : ∀ {xs : List (Nat × Nat × HO)} {k : List (Nat × Nat × V) → R} {r : V × FS}, gPs D names xs k e l = some r → ∃ vs, st.getp xs = some vs ∧ k vs = some r
  | [], k, r, h => ⟨[], rfl, h⟩
  | (o, n, x) :: xs, k, r, h => by
    obtain ⟨v, h1, h2⟩ := gO_some he hl (x := x) h
    obtain ⟨vs, h3, h4⟩ := gPs_some he hl (xs := xs) h2
    exact ⟨(o, n, v) :: vs, by simp only [St.getp, h1, h3], h4⟩
theorem gMo_some (he : ERel D e st.env) (hl : LRel names l st.loc) {x : Option HO} {k : Option V → R} {r : V × FS} (h : gMo D names x k e l = some r) : ∃ v, st.geto x = some v ∧ k v = some r := by
  cases x with
  | none => exact ⟨none, rfl, h⟩
  | some x =>
    obtain ⟨v, h1, h2⟩ := gO_some he hl (x := x) h
    exact ⟨some v, by simp only [St.geto, h1], h2⟩
theorem opConv_st {c : Conv} (x : V) (hc : match c with | .bytesStr => False | .same => False | .strBytes => False | _ => True) (σ : Store) : opConv c x σ = match opConv c x [] with | some (v, _) => some (v, σ) | none => none := by
  cases c with
  | bytesStr => cases hc
  | same => cases hc
  | strBytes => cases hc
  | strStr =>
    cases x with
    | tr t => cases t with
      | sc v => cases v <;> rfl
      | _ => rfl
    | _ => rfl
  | toInt k =>
    cases x with
    | tr t => cases t with
      | sc v => cases v with
        | float f b =>
          simp only [opConv]
          split
          · split <;> rfl
          · rfl
        | _ => rfl
      | _ => rfl
    | _ => rfl
  | toFloat k =>
    cases x with
    | tr t => cases t with
      | sc v => cases v with
        | float f b =>
          simp only [opConv]
          split
          · rfl
          · split
            · rfl
            · rfl
            · split <;> rfl
        | _ => rfl
      | _ => rfl
    | _ => rfl
theorem convG_some {c : Conv} {x v : V} (hc : match c with | .bytesStr => False | .same => False | .strBytes => False | _ => True) (h : convG c x = some v) (σ : Store) : opConv c x σ = some (v, σ) := by
  unfold convG at h
  rw [opConv_st x hc σ]
  split at h
  · cases h
    rfl
  · cases h
variable {s : FS} {c : GCall} {cas : Nat → CallA}
theorem gK_some (he : ERel D e st.env) (hl : LRel names l st.loc) (hs : SRel s st.σ) (hc : CallEx c cas) {hk : HK} {k : V → FS → R} {r : V × FS} (h : gK D names hk c k e l s = some r) :
    ∃ m v s' σ', opA (cas m) hk st = some (v, σ') ∧ SRel s' σ' ∧ k v s' = some r := by
  cases hk with
  | mv x =>
    obtain ⟨v, h1, h2⟩ := gO_some he hl (x := x) h
    exact ⟨0, v, s, _, by simp only [opA, o_mv, h1, pure1], hs, h2⟩
  | pick x a b =>
    simp only [gK, kPickF_eq] at h
    obtain ⟨v, h1, h2⟩ := gO_some he hl (x := x) h
    simp only [opA, o_pick, h1, bind1]
    split at h2
    · rename_i u
      cases u with
      | true =>
        obtain ⟨v, h3, h4⟩ := gO_some he hl (x := a) h2
        exact ⟨0, v, s, _, by simp only [asBool?, h3, pure1], hs, h4⟩
      | false =>
        obtain ⟨v, h3, h4⟩ := gO_some he hl (x := b) h2
        exact ⟨0, v, s, _, by simp only [asBool?, h3, pure1], hs, h4⟩
    · cases h2
  | alloc z =>
    obtain ⟨s', h1, h2⟩ := allocG_some hs h
    exact ⟨0, _, s', _, rfl, h1, h2⟩
  | box t x =>
    cases t with
    | false =>
      obtain ⟨v, h1, h2⟩ := gO_some he hl (x := x) h
      obtain ⟨s', h3, h4⟩ := allocG_some hs h2
      exact ⟨0, _, s', _, by simp only [opA, o_box, h1, bind1, opBoxB, opBox], h3, h4⟩
    | true =>
      obtain ⟨v, h1, h2⟩ := gO_some he hl (x := x) h
      unfold boxTG at h2
      cases hat : allTr (cellsOf v) with
      | some ts =>
        rw [hat] at h2
        exact ⟨0, _, s, _, by simp only [opA, o_box, h1, bind1, opBoxB, hat], hs, h2⟩
      | none =>
        rw [hat] at h2
        obtain ⟨s', h3, h4⟩ := allocG_some hs h2
        exact ⟨0, _, s', _, by simp only [opA, o_box, h1, bind1, opBoxB, hat, opBox], h3, h4⟩
  | ldt size agg a =>
    obtain ⟨v, h1, h2⟩ := gO_some he hl (x := a) h
    obtain ⟨u, h3, h4⟩ := optR_some h2
    have h3 : opLdt size agg v = some u := h3
    exact ⟨0, u, s, _, by simp only [opA, o_ldt, h1, bind1, h3, pure1], hs, h4⟩
  | build z ps =>
    obtain ⟨vs, h1, h2⟩ := gPs_some he hl h
    obtain ⟨v, h3, h4⟩ := optR_some h2
    exact ⟨0, v, s, _, by simp only [opA, o_build, h1, h3, pure1], hs, h4⟩
  | bslice own len size z ps =>
    obtain ⟨vs, h1, h2⟩ := gPs_some he hl h
    obtain ⟨v, s', σ', h3, h4, h5⟩ := bsliceG_some hs h2
    exact ⟨0, v, s', σ', by simp only [opA, o_bslice, h1, h3], h4, h5⟩
  | load size agg a =>
    have key : ∀ {f : V → FS → Option V}, (∀ a v, f a s = some v → opLoad size agg a st.σ = some v) → kR1 f (gO D names a) c k e l s = some r → ∃ m v s' σ', opA (cas m) (.load size agg a) st = some (v, σ') ∧ SRel s' σ' ∧ k v s' = some r := by
      intro f hf h
      obtain ⟨v, h1, h2⟩ := gO_some he hl (x := a) h
      obtain ⟨u, h3, h4⟩ := optR_some h2
      exact ⟨0, u, s, _, by simp only [opA, o_load, h1, bind1, hf _ _ h3, pure1], hs, h4⟩
    simp only [gK] at h
    split at h
    · exact key (fun a v h => ldG1_some hs (by rwa [ldF1_eq] at h)) h
    · exact key (fun a v h => ldG_some hs h) h
  | store size a x =>
    have key : ∀ {f : V → V → FS → (FS → R) → R}, (∀ a x k r, f a x s k = some r → ∃ s' σ', opStore size a x st.σ = some σ' ∧ SRel s' σ' ∧ k s' = some r) → kS2 f (gO D names a) (gO D names x) c k e l s = some r → ∃ m v s' σ', opA (cas m) (.store size a x) st = some (v, σ') ∧ SRel s' σ' ∧ k v s' = some r := by
      intro f hf h
      obtain ⟨v, h1, h2⟩ := gO_some he hl (x := a) h
      obtain ⟨u, h3, h4⟩ := gO_some he hl (x := x) h2
      obtain ⟨s', σ', h5, h6, h7⟩ := hf _ _ _ _ h4
      exact ⟨0, _, s', _, by simp only [opA, o_store, h1, h3, bind1, h5, skip1], h6, h7⟩
    simp only [gK] at h
    split at h
    · exact key (fun a x k r h => stA_some hs h) h
    · exact key (fun a x k r h => stG_some hs h) h
  | nilchk x =>
    obtain ⟨v, h1, h2⟩ := gO_some he hl (x := x) h
    obtain ⟨u, h3, h4⟩ := optR_some h2
    exact ⟨0, u, s, _, by simp only [opA, o_nilchk, h1, bind1, h3, pure1], hs, h4⟩
  | bin ek op x y =>
    obtain ⟨v, h1, h2⟩ := gO_some he hl (x := x) h
    obtain ⟨u, h3, h4⟩ := gO_some he hl (x := y) h2
    obtain ⟨w, h5, h6⟩ := optR_some h4
    rw [binH_eq] at h5
    exact ⟨0, w, s, _, by simp only [opA, o_bin, h1, h3, bind1, h5, pure1], hs, h6⟩
  | eqs neg offs x y =>
    obtain ⟨v, h1, h2⟩ := gO_some he hl (x := x) h
    obtain ⟨u, h3, h4⟩ := gO_some he hl (x := y) h2
    obtain ⟨w, h5, h6⟩ := optR_some h4
    exact ⟨0, w, s, _, by simp only [opA, o_eqs, h1, h3, bind1, h5, pure1], hs, h6⟩
  | un op x =>
    obtain ⟨v, h1, h2⟩ := gO_some he hl (x := x) h
    obtain ⟨u, h3, h4⟩ := optR_some h2
    exact ⟨0, u, s, _, by simp only [opA, o_un, h1, bind1, h3, pure1], hs, h4⟩
  | conv cv x =>
    simp only [gK] at h
    split at h
    · obtain ⟨v, h1, h2⟩ := gO_some he hl (x := x) h
      obtain ⟨u, h3, h4⟩ := optR_some h2
      exact ⟨0, u, s, _, by simp only [opA, o_conv, h1, bind1, bytesStrG_some hs h3], hs, h4⟩
    · obtain ⟨v, h1, h2⟩ := gO_some he hl (x := x) h
      obtain ⟨u, h3, h4⟩ := optR_some h2
      exact ⟨0, u, s, _, by simp only [opA, o_conv, h1, bind1, sameG_some hs h3], hs, h4⟩
    · obtain ⟨v, h1, h2⟩ := gO_some he hl (x := x) h
      obtain ⟨u, s', σ', h3, h4, h5⟩ := strBytesG_some hs h2
      exact ⟨0, u, s', _, by simp only [opA, o_conv, h1, bind1, h3], h4, h5⟩
    · rename_i h1 h1' h2
      obtain ⟨v, h3, h4⟩ := gO_some he hl (x := x) h
      obtain ⟨u, h5, h6⟩ := optR_some h4
      refine ⟨0, u, s, _, ?_, hs, h6⟩
      simp only [opA, o_conv, h3, bind1]
      refine convG_some ?_ h5 _
      cases cv <;> first | trivial | (exact h1 rfl) | (exact h1' rfl) | (exact h2 rfl)
  | mkfn fn a b =>
    obtain ⟨va, h1, h2⟩ := gOs_some he hl (xs := a) h
    obtain ⟨vb, h3, h4⟩ := gOs_some he hl (xs := b) h2
    simp only [opA, o_mkfn, h1, h3]
    split at h4
    · rename_i ta tb h5 h6
      exact ⟨0, _, s, _, by simp only [h5, h6], hs, h4⟩
    · rename_i hno
      refine ⟨0, _, s, _, ?_, hs, h4⟩
      split
      · rename_i ta tb h5 h6
        exact absurd h6 (hno _ _ h5)
      · rfl
  | mkmap =>
    obtain ⟨s', h1, h2⟩ := mkmapG_some hs h
    exact ⟨0, _, s', _, rfl, h1, h2⟩
  | mkslice z bytes x y =>
    obtain ⟨v, h1, h2⟩ := gO_some he hl (x := x) h
    obtain ⟨u, h3, h4⟩ := gO_some he hl (x := y) h2
    obtain ⟨w, s', σ', h5, h6, h7⟩ := mksliceG_some hs h4
    exact ⟨0, w, s', σ', by simp only [opA, o_mkslice, h1, h3, bind1, h5], h6, h7⟩
  | faddr off x =>
    obtain ⟨v, h1, h2⟩ := gO_some he hl (x := x) h
    obtain ⟨u, h3, h4⟩ := optR_some h2
    exact ⟨0, u, s, _, by simp only [opA, o_faddr, h1, bind1, h3, pure1], hs, h4⟩
  | field off size agg x =>
    obtain ⟨v, h1, h2⟩ := gO_some he hl (x := x) h
    obtain ⟨u, h3, h4⟩ := optR_some h2
    exact ⟨0, u, s, _, by simp only [opA, o_field, h1, bind1, h3, pure1], hs, h4⟩
  | iaddr size x y =>
    obtain ⟨v, h1, h2⟩ := gO_some he hl (x := x) h
    obtain ⟨u, h3, h4⟩ := gO_some he hl (x := y) h2
    obtain ⟨w, h5, h6⟩ := optR_some h4
    rw [iaddrF_eq] at h5
    exact ⟨0, w, s, _, by simp only [opA, o_iaddr, h1, h3, bind1, iaddrG_some hs h5, pure1], hs, h6⟩
  | istr x y =>
    obtain ⟨v, h1, h2⟩ := gO_some he hl (x := x) h
    obtain ⟨u, h3, h4⟩ := gO_some he hl (x := y) h2
    obtain ⟨w, h5, h6⟩ := optR_some h4
    exact ⟨0, w, s, _, by simp only [opA, o_istr, h1, h3, bind1, h5, pure1], hs, h6⟩
  | lookup kind z ok x y =>
    obtain ⟨v, h1, h2⟩ := gO_some he hl (x := x) h
    obtain ⟨u, h3, h4⟩ := gO_some he hl (x := y) h2
    obtain ⟨w, h5, h6⟩ := optR_some h4
    rw [lookupF_eq, lookupG_eq hs] at h5
    exact ⟨0, w, s, _, by simp only [opA, o_lookup, h1, h3, bind1, h5, pure1], hs, h6⟩
  | mupd kind x y z =>
    obtain ⟨v, h1, h2⟩ := gO_some he hl (x := x) h
    obtain ⟨u, h3, h4⟩ := gO_some he hl (x := y) h2
    obtain ⟨w, h5, h6⟩ := gO_some he hl (x := z) h4
    obtain ⟨s', h7, h8⟩ := optR_some h6
    rw [mupdF_eq] at h7
    obtain ⟨σ', h9, h10⟩ := mupdG_some hs h7
    exact ⟨0, _, s', _, by simp only [opA, o_mupd, h1, h3, h5, bind1, h9, skip1], h10, h8⟩
  | ment kind z x y =>
    obtain ⟨v, h1, h2⟩ := gO_some he hl (x := x) h
    obtain ⟨u, h3, h4⟩ := gO_some he hl (x := y) h2
    obtain ⟨p, h5, h6⟩ := optR_some h4
    rw [mentF_eq] at h5
    obtain ⟨σ', h7, h8⟩ := mentG_some hs h5
    exact ⟨0, _, _, _, by simp only [opA, o_ment, h1, h3, bind1, h7], h8, h6⟩
  | esto x y z =>
    obtain ⟨v, h1, h2⟩ := gO_some he hl (x := x) h
    obtain ⟨u, h3, h4⟩ := gO_some he hl (x := y) h2
    obtain ⟨w, h5, h6⟩ := gO_some he hl (x := z) h4
    obtain ⟨s', h7, h8⟩ := optR_some h6
    obtain ⟨σ', h9, h10⟩ := estoG_some hs h7
    exact ⟨0, _, s', _, by simp only [opA, o_esto, h1, h3, h5, bind1, h9, skip1], h10, h8⟩
  | delete kind x y =>
    obtain ⟨v, h1, h2⟩ := gO_some he hl (x := x) h
    obtain ⟨u, h3, h4⟩ := gO_some he hl (x := y) h2
    obtain ⟨w, s', σ', h5, h6, h7⟩ := viaG_some hs h4
    exact ⟨0, w, s', σ', by simp only [opA, o_delete, h1, h3, bind1, h5], h6, h7⟩
  | extract x i =>
    obtain ⟨v, h1, h2⟩ := gO_some he hl (x := x) h
    obtain ⟨u, h3, h4⟩ := optR_some h2
    exact ⟨0, u, s, _, by simp only [opA, o_extract, h1, bind1, h3, pure1], hs, h4⟩
  | mkiface t x =>
    obtain ⟨v, h1, h2⟩ := gO_some he hl (x := x) h
    simp only [opA, o_mkiface, h1, bind1]
    split at h2
    · exact ⟨0, _, s, _, rfl, hs, h2⟩
    · rename_i hno
      refine ⟨0, _, s, _, ?_, hs, h2⟩
      split
      · rename_i t'
        exact (hno _ rfl).elim
      · rfl
  | callf f args =>
    obtain ⟨vs, h1, h2⟩ := gOs_some he hl (xs := args) h
    obtain ⟨⟨v, s'⟩, h3, h4⟩ := optR_some h2
    obtain ⟨m, σ', h5, h6⟩ := hc _ _ _ _ _ _ h3 hs
    exact ⟨m, v, s', σ', by simp only [opA, o_callf, h1, h5], h6, h4⟩
  | callv f args =>
    obtain ⟨vf, h0, h00⟩ := gO_some he hl (x := f) h
    obtain ⟨vs, h1, h2⟩ := gOs_some he hl (xs := args) h00
    obtain ⟨⟨v, s'⟩, h3, h4⟩ := optR_some h2
    unfold callVG at h3
    simp only [opA, o_callv, h0, h1, bind1, callV]
    split at h3
    · obtain ⟨m, σ', h5, h6⟩ := hc _ _ _ _ _ _ h3 hs
      exact ⟨m, v, s', σ', h5, h6, h4⟩
    · obtain ⟨m, σ', h5, h6⟩ := hc _ _ _ _ _ _ h3 hs
      exact ⟨m, v, s', σ', h5, h6, h4⟩
    · cases h3
  | len j x =>
    have key : ∀ {f : V → FS → Option V}, (∀ a v, f a s = some v → opLen j a st.σ = some v) → kR1 f (gO D names x) c k e l s = some r → ∃ m v s' σ', opA (cas m) (.len j x) st = some (v, σ') ∧ SRel s' σ' ∧ k v s' = some r := by
      intro f hf h
      obtain ⟨v, h1, h2⟩ := gO_some he hl (x := x) h
      obtain ⟨u, h3, h4⟩ := optR_some h2
      exact ⟨0, u, s, _, by simp only [opA, o_len, h1, bind1, hf _ _ h3, pure1], hs, h4⟩
    simp only [gK] at h
    split at h
    · exact key (f := fun v _ => opLenStr v) (fun a v h => h) h
    · exact key (f := fun v _ => opLenSl v) (fun a v h => h) h
    · rename_i h0 h1
      refine key (fun a v h => ?_) h
      rw [lenMapG_eq hs] at h
      match j, h0, h1 with
      | 0, h0, _ => exact absurd rfl h0
      | 1, _, h1 => exact absurd rfl h1
      | j + 2, _, _ => exact h
  | cap x =>
    obtain ⟨v, h1, h2⟩ := gO_some he hl (x := x) h
    obtain ⟨u, h3, h4⟩ := optR_some h2
    exact ⟨0, u, s, _, by simp only [opA, o_cap, h1, bind1, capG_some hs h3, pure1], hs, h4⟩
  | append size bytes x y =>
    obtain ⟨v, h1, h2⟩ := gO_some he hl (x := x) h
    obtain ⟨u, h3, h4⟩ := gO_some he hl (x := y) h2
    obtain ⟨w, s', σ', h5, h6, h7⟩ := appendG_some hs h4
    exact ⟨0, w, s', σ', by simp only [opA, o_append, h1, h3, bind1, h5], h6, h7⟩
  | qappend size bytes x y =>
    obtain ⟨v, h1, h2⟩ := gO_some he hl (x := x) h
    obtain ⟨u, h3, h4⟩ := gO_some he hl (x := y) h2
    unfold qappendG at h4
    split at h4
    · obtain ⟨w, s', σ', h5, h6, h7⟩ := appendG_some hs h4
      exact ⟨0, w, s', σ', by simp only [opA, o_qappend, h1, h3, bind1, h5], h6, h7⟩
    · cases h4
  | copy size x y =>
    obtain ⟨v, h1, h2⟩ := gO_some he hl (x := x) h
    obtain ⟨u, h3, h4⟩ := gO_some he hl (x := y) h2
    obtain ⟨w, s', σ', h5, h6, h7⟩ := copyG_some hs h4
    exact ⟨0, w, s', σ', by simp only [opA, o_copy, h1, h3, bind1, h5], h6, h7⟩
  | clear z x =>
    obtain ⟨v, h1, h2⟩ := gO_some he hl (x := x) h
    obtain ⟨w, s', σ', h5, h6, h7⟩ := clearG_some hs h2
    exact ⟨0, w, s', σ', by simp only [opA, o_clear, h1, bind1, h5], h6, h7⟩
  | minmax mx x xs =>
    obtain ⟨v, h1, h2⟩ := gO_some he hl (x := x) h
    obtain ⟨vs, h3, h4⟩ := gOs_some he hl (xs := xs) h2
    obtain ⟨u, h5, h6⟩ := optR_some h4
    exact ⟨0, u, s, _, by simp only [opA, o_minmax, h1, h3, bind1, h5, pure1], hs, h6⟩
  | slicestr x lo hi =>
    obtain ⟨v, h1, h2⟩ := gO_some he hl (x := x) h
    obtain ⟨v1, h3, h4⟩ := gMo_some he hl (x := lo) h2
    obtain ⟨v2, h5, h6⟩ := gMo_some he hl (x := hi) h4
    obtain ⟨u, h7, h8⟩ := optR_some h6
    exact ⟨0, u, s, _, by simp only [opA, o_slicestr, h1, h3, h5, bind1, h7, pure1], hs, h8⟩
  | slice size x lo hi mx =>
    obtain ⟨v, h1, h2⟩ := gO_some he hl (x := x) h
    obtain ⟨v1, h3, h4⟩ := gMo_some he hl (x := lo) h2
    obtain ⟨v2, h5, h6⟩ := gMo_some he hl (x := hi) h4
    obtain ⟨v3, h9, h10⟩ := gMo_some he hl (x := mx) h6
    obtain ⟨u, h7, h8⟩ := optR_some h10
    exact ⟨0, u, s, _, by simp only [opA, o_slice, h1, h3, h5, h9, bind1, sliceG_some hs h7, pure1], hs, h8⟩
  | bad => cases h
end
end Go.Proofs.YtolhjhjlfgfifaaGreatDoor.AM
end
