/- the packages: parts 17, 18, 19, 20. -/
import Derived.Test.YtodgdmhifbnofaaSn14
set_option linter.unusedSectionVars false
section
set_option maxRecDepth 1000000
set_option linter.unusedVariables false
set_option linter.unusedSimpArgs false
namespace Go.Proofs.Ytodgdmhifbnofaa.AM.Sn
open Go.Proofs
section
variable {α : Type} {E : α → List V} {l : List α} {x : α} {σ : Store} {w : V}
def GV (E : α → List V) (l : List α) (w : V) (σ : Store) : Prop := (l = [] ∧ w = nilSl) ∨ ∃ id g, w = own2 id g l.length none ∧ RowV E l id g σ
theorem gv_len (h : GV E l w σ) : opLen 1 w σ = some (iv (l.length : Int)) := by
  rcases h with ⟨rfl, rfl⟩ | ⟨id, g, rfl, _⟩ <;> rfl
theorem room_le {n b : Nat} (hn : n ≤ 1000) (hb : b ≤ 100) : Go.Proofs.Ytodgdmhifbnofaa.AM.room n b = true := by
  unfold Go.Proofs.Ytodgdmhifbnofaa.AM.room
  have : n * (b + 1) ≤ 1000 * 101 := Nat.mul_le_mul hn (by omega)
  exact Nat.ble_eq_true_of_le (by omega)
theorem gv_app (hE : ∀ a, (E a).length = 2) (hO : ∀ a, (E a).all oneV = true) (h : GV E l w σ) (hl : l.length ≤ 999) {s : V} (hx : elems σ 2 s = some (E x, 1)) :
    ∃ w' σ', opAppend 2 40 w s σ = some (w', σ') ∧ GV E (l ++ [x]) w' σ' ∧ ((w' = own2 σ.length 0 1 none ∧ σ' = σ ++ [.row (E x) 0] ∧ w = nilSl) ∨ ∃ id g, w = own2 id g l.length none ∧ w' = own2 id (g + 1) (l.length + 1) none ∧ Nxt id σ σ' ∧ σ'.length = σ.length ∧ id < σ.length) := by
  have r1 : Go.Proofs.Ytodgdmhifbnofaa.AM.room 1 40 = true := by decide
  rcases h with ⟨rfl, rfl⟩ | ⟨id, g, rfl, hR⟩
  · refine ⟨own2 σ.length 0 1 none, σ ++ [.row (E x) 0], ?_, .inr ⟨σ.length, 0, rfl, ?_⟩, .inl ⟨rfl, rfl, rfl⟩⟩
    · unfold opAppend nilSl
      simp [hx, r1]
    · unfold RowV
      simp
  · have hlt := hR.lt
    have r2 := room_le (n := l.length) (b := 40) (by omega) (by omega)
    refine ⟨own2 id (g + 1) (l.length + 1) none, σ.set id (.row ((l ++ [x]).flatMap E) (g + 1)), ?_, .inr ⟨id, g + 1, by simp, List.getElem?_set_self hlt⟩, .inr ⟨id, g, rfl, rfl, nxt_set _, by simp, hlt⟩⟩
    have hs : slice? (l.flatMap E) 0 (l.length * 2) = some (l.flatMap E) := by
      have := vE_slice hE (l := l) (i := 0) (k := l.length) (by omega)
      rwa [Nat.zero_mul, List.drop_zero, List.take_of_length_le (Nat.le_refl _)] at this
    have hnf : ¬ (0 + (l.length + 1) * 2 ≤ (l.flatMap E).length ∧ 0 < 2) := by rw [vE_len hE]; omega
    unfold RowV at hR
    unfold opAppend
    simp only [hx, r1, r2, hR, hs, Bool.not_true, Bool.false_eq_true, if_false, if_true, ne_eq, not_true_eq_false, hnf, hO]
    simp
theorem gv_keep {σ' : Store} (h : GV E l w σ) (hk : ∀ id g n, w = own2 id g n none → σ'[id]? = σ[id]?) : GV E l w σ' := by
  rcases h with h | ⟨id, g, rfl, hR⟩
  · exact .inl h
  · refine .inr ⟨id, g, rfl, ?_⟩
    unfold RowV at *
    rw [hk id g _ rfl]
    exact hR
end
abbrev OT := { t : Tree // oneV (.tr t) = true }
abbrev FV := List UInt8 × OT
def fV (f : FV) : List V := [sv f.1, .tr f.2.1]
def fT (f : FV) : List Tree := [.sc (.string ⟨⟨f.1⟩⟩), f.2.1]
theorem fV_one (f : FV) : (fV f).all oneV = true := by simp [fV, f.2.2]
theorem fV_len (f : FV) : (fV f).length = 2 := rfl
theorem fT_len (f : FV) : (fT f).length = 2 := rfl
theorem cmp13 (a b : FV) (σ : Store) : callL T 13 [.tr (.agg (fT a)), .tr (.agg (fT b))] σ = some (iv (cmpS a.1 b.1), σ) := by
  suffices hh : ∃ t, (∀ σ, callL T 13 ([.agg (fT a), .agg (fT b)].map .tr) σ = some (.tr t, σ)) ∧ t = .sc (.int .i64 (cmpS a.1 b.1)) by
    obtain ⟨t, h, rfl⟩ := hh
    exact h σ
  refine call_iso T13 rfl rfl ?_
  have f : ∀ (x : FV) (o n : Nat), opFaddr o (.tr (.rptr (fT x) n)) = some (.tr (.rptr (fT x) (n + o))) := fun x o n => rfl
  have l0 : ∀ (x : FV) (σ : Store), opLoad 1 false (.tr (.rptr (fT x) 0)) σ = some (sv x.1) := fun x σ => rfl
  have b : ∀ (x : FV) (σ : Store), opBoxB true (.tr (.agg (fT x))) σ = some (.tr (.rptr (fT x) 0), σ) := fun x σ => rfl
  simp [b, f, l0, cmp14]
theorem cmpF : CmpOk fV (fun f => f.1) (.tr (.fn (.func 13) [] [])) := fun a b σ => ⟨[], by
  have : mkAgg (fV a) = .tr (.agg (fT a)) := rfl
  have h2 : mkAgg (fV b) = .tr (.agg (fT b)) := rfl
  rw [this, h2, List.append_nil]
  exact cmp13 a b σ⟩
abbrev OV := { v : V // oneV v = true }
abbrev PV := List UInt8 × OV
def pV (p : PV) : List V := [sv p.1, p.2.1]
theorem pV_one (p : PV) : (pV p).all oneV = true := by simp [pV, p.2.2]
theorem pV_len (p : PV) : (pV p).length = 2 := rfl
theorem boxP (p : PV) (σ : Store) : ∃ b τ, opBoxB true (mkAgg (pV p)) σ = some (b, σ ++ τ) ∧ ∀ τ', ∃ a, opFaddr 0 b = some a ∧ opLoad 1 false a (σ ++ τ ++ τ') = some (sv p.1) := by
  obtain ⟨s, v, hv⟩ := p
  have gen : allTr [sv s, v] = none → ∃ b τ, opBoxB true (.agg [sv s, v]) σ = some (b, σ ++ τ) ∧ ∀ τ', ∃ a, opFaddr 0 b = some a ∧ opLoad 1 false a (σ ++ τ ++ τ') = some (sv s) := by
    intro h
    refine ⟨.ptr σ.length 0 0, [.row [sv s, v] 0], ?_, fun τ' => ⟨_, rfl, ?_⟩⟩
    · unfold opBoxB
      simp only [cellsOf, h]
      rfl
    · simp [opLoad, obCells, slice?, ofCells]
  unfold pV mkAgg
  cases h : allTr [sv s, v] with
  | none => exact gen h
  | some ts =>
    obtain ⟨t, rfl⟩ : ∃ t, v = .tr t := by
      cases v <;> first | exact ⟨_, rfl⟩ | (simp [allTr] at h)
    simp [allTr] at h
    subst h
    exact ⟨_, [], by simp [opBoxB, allTr]; rfl, fun τ' => ⟨_, rfl, rfl⟩⟩
theorem cmpP : CmpOk pV (fun p => p.1) (.tr (.fn (.func 16) [] [])) := fun a b σ => by
  obtain ⟨b1, τ1, h1, h2⟩ := boxP a σ
  obtain ⟨b2, τ2, h3, h4⟩ := boxP b (σ ++ τ1)
  obtain ⟨a1, f1, l1⟩ := h2 τ2
  obtain ⟨a2, f2, l2⟩ := h4 []
  rw [List.append_nil] at l2
  refine ⟨τ1 ++ τ2, ?_⟩
  rw [← List.append_assoc]
  show callL T 16 [mkAgg (pV a), mkAgg (pV b)] σ = _
  suffices hh : ∃ v σ', callL T 16 [mkAgg (pV a), mkAgg (pV b)] σ = some (v, σ') ∧ v = iv (cmpS a.1 b.1) ∧ σ' = σ ++ τ1 ++ τ2 by
    obtain ⟨v, σ', h, rfl, rfl⟩ := hh
    exact h
  refine call_shared T16 rfl rfl ?_
  generalize mkAgg (pV a) = va at *
  generalize mkAgg (pV b) = vb at *
  generalize σ ++ τ1 = s1 at *
  generalize s1 ++ τ2 = s2 at *
  simp [h1, h3, f1, l1, f2, l2, cmp14]
theorem extV_19 {vs : List V} {σ : Store} : extV 19 vs σ = none := by
  unfold extV
  cases argsOf 19 vs σ <;> rfl
theorem clone_ok {b : List UInt8} {t : Tree} (h : IsSl byE b (.tr t)) (hb : b.length ≤ 140737488355328) : ∃ t', (∀ σ, callL T 11 [.tr t] σ = some (.tr t', σ)) ∧ IsSl byE b (.tr t') := by
  rcases h with ⟨rfl, h⟩ | ⟨cap, h⟩
  · cases h
    exact ⟨_, fun σ => callL_extF T11 rfl rfl extV_19 rfl, .inl ⟨rfl, rfl⟩⟩
  · cases h
    refine ⟨.row (b.flatMap byE) b.length none, fun σ => callL_extF T11 rfl rfl extV_19 ?_, .inr ⟨none, rfl⟩⟩
    have h1 : (Nat.beq 19 19 && Nat.ble b.length 140737488355328) = true := by
      rw [Nat.ble_eq_true_of_le hb]; rfl
    have h2 : Nat.beq b.length b.length = true := by simp
    cases b with
    | nil =>
      have h3 : (List.nil : List UInt8).flatMap byE = [] := rfl
      unfold extF
      simp only [h3]
      rfl
    | cons x b =>
      have h3 : (x :: b).flatMap byE = .sc (.int .u8 (x.toNat : Int)) :: b.flatMap byE := rfl
      have h4 := byE_bytes (x :: b)
      rw [h3] at h4 ⊢
      unfold extF
      simp only [h1, h4, h2]
end Go.Proofs.Ytodgdmhifbnofaa.AM.Sn
end
section
set_option maxRecDepth 1000000
set_option linter.unusedVariables false
set_option linter.unusedSimpArgs false
namespace Go.Proofs.Ytodgdmhifbnofaa.AM.Sn
open Go.Proofs
section
variable {c : CallA} {i : Nat} {ns : List Nat} {is : List (Nat × List Nat)} {d : Option Nat} {inK : Bool} {k : HK} {r : List HOp} {st : St} {K : St → Prop} {ps : List Pend} {p : Pend}
theorem pendAdd_lo {n : Nat} (hn : n < 3) {o : HOp} : pendAdd c n ns o st ps = ps := by
  unfold pendAdd
  split
  · omega
  · rfl
theorem opsDP_nil : okP (opsRunD c i (p :: ps) [] [] st) K ↔ pendAll c i st.σ (p :: ps) = true ∧ K st := by
  simp only [opsRunD]
  cases h : pendAll c i st.σ (p :: ps) <;> simp [okP]
theorem opsDP_0 : okP (opsRunD c i (p :: ps) ((0, ns) :: is) (⟨d, inK, k, none⟩ :: r) st) K ↔ okA (opA c k (st.only ns)) d inK st (fun st' => okP (opsRunD c (i + 1) (p :: ps) is r st') K) := by
  have hb : Nat.beq 0 1 = false := rfl
  have hb2 : Nat.beq 0 2 = false := rfl
  simp only [opsRunD, pendAdd_lo (show 0 < 3 by omega), hb2, Bool.false_and, Bool.false_eq_true, if_false]
  unfold opStepD
  simp only [guardA, hb, Bool.false_and, Bool.false_eq_true, if_false]
  cases h : opA c k (st.only ns) with
  | none => simp [okA_no, okP]
  | some q => obtain ⟨v, s⟩ := q; simp [okA_sm]
theorem opsDP_2 : okP (opsRunD c i (p :: ps) ((2, ns) :: is) (⟨d, inK, k, none⟩ :: r) st) K ↔ pendAll c i st.σ (p :: ps) = true ∧ okA (opA c k (st.only ns)) d inK st (fun st' => okP (opsRunD c (i + 1) (p :: ps) is r st') K) := by
  have hb : Nat.beq 2 1 = false := rfl
  have hb2 : Nat.beq 2 2 = true := rfl
  simp only [opsRunD, pendAdd_lo (show 2 < 3 by omega), hb2, Bool.true_and]
  unfold opStepD
  simp only [guardA, hb, Bool.false_and, Bool.false_eq_true, if_false]
  cases hp : pendAll c i st.σ (p :: ps) with
  | false => simp [okP]
  | true =>
    cases h : opA c k (st.only ns) with
    | none => simp [okA_no, okP]
    | some q => obtain ⟨v, s⟩ := q; simp [okA_sm]
theorem opsDP_1 : okP (opsRunD c i (p :: ps) ((1, ns) :: is) (⟨d, inK, k, none⟩ :: r) st) K ↔ okA (okF true st.σ (opA (quietCall c) k (st.only ns))) d inK st (fun st' => okP (opsRunD c (i + 1) (p :: ps) is r st') K) := by
  have hb : Nat.beq 1 1 = true := rfl
  have hb2 : Nat.beq 1 2 = false := rfl
  simp only [opsRunD, pendAdd_lo (show 1 < 3 by omega), hb2, Bool.false_and, Bool.false_eq_true, if_false]
  unfold opStepD okF
  simp only [guardA, hb, Bool.true_and, if_true]
  cases h : opA (quietCall c) k (st.only ns) with
  | none => simp [okA_no, okP]
  | some q =>
    obtain ⟨v, s⟩ := q
    cases hf : freshOk st.σ s <;> simp [hf, okA_no, okA_sm, okP]
theorem opsD_h {v : V} {σ1 : Store} (n : Nat) (h : opA c k (st.only ns) = some (v, σ1)) : okP (opsRunD c i [] ((n + 3, ns) :: is) (⟨d, inK, k, none⟩ :: r) st) K ↔ okP (opsRunD c (i + 1) [⟨n, k, st.only ns, v⟩] is r ({ st with σ := σ1 }.set d inK v)) K := by
  have hb : Nat.beq (n + 3) 1 = false := rfl
  have hb2 : Nat.beq (n + 3) 2 = false := rfl
  have hpa : pendAdd c (n + 3) ns ⟨d, inK, k, none⟩ st [] = [⟨n, k, st.only ns, v⟩] := by
    unfold pendAdd
    simp only [guardA, h]
  simp only [opsRunD, hpa, hb2, Bool.false_and, Bool.false_eq_true, if_false]
  unfold opStepD
  simp only [guardA, hb, Bool.false_and, Bool.false_eq_true, if_false, h]
theorem opsDP_h {v : V} {σ1 : Store} (n : Nat) (h : opA c k (st.only ns) = some (v, σ1)) : okP (opsRunD c i (p :: ps) ((n + 3, ns) :: is) (⟨d, inK, k, none⟩ :: r) st) K ↔ okP (opsRunD c (i + 1) (⟨n, k, st.only ns, v⟩ :: p :: ps) is r ({ st with σ := σ1 }.set d inK v)) K := by
  have hb : Nat.beq (n + 3) 1 = false := rfl
  have hb2 : Nat.beq (n + 3) 2 = false := rfl
  have hpa : pendAdd c (n + 3) ns ⟨d, inK, k, none⟩ st (p :: ps) = ⟨n, k, st.only ns, v⟩ :: p :: ps := by
    unfold pendAdd
    simp only [guardA, h]
  simp only [opsRunD, hpa, hb2, Bool.false_and, Bool.false_eq_true, if_false]
  unfold opStepD
  simp only [guardA, hb, Bool.false_and, Bool.false_eq_true, if_false, h]
theorem pendAll_cons {σ : Store} {j : Nat} (h1 : Nat.blt p.h j = true ∨ pendOk c σ p = true) (h2 : pendAll c j σ ps = true) : pendAll c j σ (p :: ps) = true := by
  unfold pendAll at *
  rw [List.all_cons, h2, Bool.and_true]
  rcases h1 with h | h <;> simp [h]
end
theorem eqO_refl (o : Option Nat) : eqO o o = true := by cases o <;> simp [eqO]
theorem eqV_own (i g o l z : Nat) (c : Option Nat) : eqV (.own i g o l z c) (.own i g o l z c) = true := by simp [eqV, eqO_refl]
theorem eqV_sv (s : List UInt8) : eqV (sv s) (sv s) = true := by
  show bytesEq s s = true
  rw [bytesEq_iff']
  simp
theorem gv_eq {α : Type} {E : α → List V} {l : List α} {w : V} {σ : Store} (h : GV E l w σ) : eqV w w = true := by
  rcases h with ⟨_, rfl⟩ | ⟨id, g, rfl, _⟩
  · rfl
  · exact eqV_own _ _ _ _ _ _
theorem one_by {b : List UInt8} {t : Tree} (h : IsSl byE b (.tr t)) : oneV (.tr t) = true := by
  rcases h with ⟨_, h⟩ | ⟨cap, h⟩ <;> (cases h; rfl)
theorem pair_load {σ : Store} {q : Nat} {x y : V} (h : σ[q]? = some (.row [x, y] 0)) : opLoad 1 false (.ptr q 0 0) σ = some x ∧ opLoad 1 false (.ptr q 0 1) σ = some y := by
  constructor <;> simp [opLoad, obCells, h, slice?, ofCells]
theorem pair_store1 {σ : Store} {q : Nat} {x y z : V} (h : σ[q]? = some (.row [x, y] 0)) (hz : cellsOf z = [z]) (ho : oneV z = true) : opStore 1 (.ptr q 0 1) z σ = some (σ.set q (.row [x, z] 0)) := by
  simp [opStore, hz, obPut, h, ho, splice]
theorem gv_one {α : Type} {E : α → List V} {l : List α} {w : V} {σ : Store} (h : GV E l w σ) : cellsOf w = [w] ∧ oneV w = true := by
  rcases h with ⟨_, rfl⟩ | ⟨id, g, rfl, _⟩ <;> exact ⟨rfl, rfl⟩
def AllR {α β : Type} (R : α → β → Prop) (l : List α) (m : List β) : Prop := l.length = m.length ∧ ∀ (i : Nat) a b, l[i]? = some a → m[i]? = some b → R a b
theorem allR_nil {α β : Type} {R : α → β → Prop} : AllR R [] [] := ⟨rfl, fun i a b h => by simp at h⟩
theorem allR_snoc {α β : Type} {R : α → β → Prop} {l : List α} {m : List β} {a : α} {b : β} (h : AllR R l m) (hab : R a b) : AllR R (l ++ [a]) (m ++ [b]) := by
  refine ⟨by simp [h.1], fun i x y hx hy => ?_⟩
  rcases Nat.lt_or_ge i l.length with hi | hi
  · rw [List.getElem?_append_left hi] at hx
    rw [List.getElem?_append_left (by rw [← h.1]; exact hi)] at hy
    exact h.2 i x y hx hy
  · rw [List.getElem?_append_right hi] at hx
    rw [List.getElem?_append_right (by rw [← h.1]; exact hi)] at hy
    have h1 : i - l.length = 0 := by
      have := (List.getElem?_eq_some_iff.1 hx).1
      simp at this
      omega
    rw [h1] at hx
    rw [← h.1, h1] at hy
    simp at hx hy
    subst hx hy
    exact hab
abbrev AF := List UInt8 × List UInt8
def FileR (g : FV) (f : AF) : Prop := g.1 = f.1 ∧ IsSl byE f.2 (.tr g.2.1)
theorem sl_ld2 {l : List FV} {i : Nat} {x : FV} (hi : l[i]? = some x) (σ : Store) : opLoad 2 true (.tr (.rptr (l.flatMap fT) (i * 2))) σ = some (.tr (.agg (fT x))) := by
  have := rptr_load0 (σ := σ) (agg := true) (s := 2) fT_len hi (Nat.le_refl _)
  rw [this, List.take_of_length_le (by rw [fT_len]; exact Nat.le_refl _)]
  simp only [ofCells, mkAgg, allTr_map]
set_option maxHeartbeats 1000000 in
theorem one_file {gs ds : List FV} {g : FV} {f : AF} {tf : Tree} {q r s0 : Nat} {path : List UInt8} {w : V} {σ : Store} {e Lo : List (Nat × V)} {Q : Out → St → Prop}
    (hf : IsSl fT gs (.tr tf)) (hg : gs[r]? = some g) (hfr : FileR g f) (hfb : f.2.length ≤ 140737488355328) (hr : r ≤ 100) (hds : ds.length ≤ 900)
    (hq : σ[q]? = some (.row [sv path, w] 0)) (hw : GV fV ds w σ) (hwq : ∀ id g n, w = own2 id g n none → id ≠ q ∧ s0 ≤ id) (hs0 : s0 ≤ σ.length)
    (g7 : look e 7 = some (.ptr q 0 0)) (g23 : look e 23 = some (.tr tf)) (g25 : look e 25 = some (iv (r : Int)))
    (hQ : ∀ e' L' σ' w' d', FileR d' f → σ'[q]? = some (.row [sv path, w'] 0) → GV fV (ds ++ [d']) w' σ' → (∀ id g n, w' = own2 id g n none → id ≠ q ∧ s0 ≤ id) → σ.length ≤ σ'.length → (∀ i, i < σ.length → i ≠ q → (∀ id g n, w = own2 id g n none → i ≠ id) → σ'[i]? = σ[i]?) → (∀ k, k ≠ 9 → k ≠ 25 → look e' k = look e k) → look e' 25 = some (iv ((r + 1 : Nat) : Int)) → Q .normal ⟨e', L', σ'⟩) :
    wpc T k6_11 ⟨e, Lo, σ⟩ Q := by
  have hqlt : q < σ.length := (List.getElem?_eq_some_iff.1 hq).1
  have ia := fun σ => isSl_iaddr (σ := σ) hf fT_len (by omega) (k := .i64) hg
  have ld := sl_ld2 hg
  obtain ⟨σ9, hσ9⟩ : ∃ σ9, σ9 = σ ++ [.row (fV g) 0] := ⟨_, rfl⟩
  have hal : opAlloc [.sc (.string ⟨⟨[]⟩⟩), .sc (.slice none 0 0)] σ = some (.ptr σ.length 0 0, σ ++ [.row [.tr (.sc (.string ⟨⟨[]⟩⟩)), .tr (.sc (.slice none 0 0))] 0]) := rfl
  have hst : opStore 2 (.ptr σ.length 0 0) (.tr (.agg (fT g))) (σ ++ [.row [.tr (.sc (.string ⟨⟨[]⟩⟩)), .tr (.sc (.slice none 0 0))] 0]) = some σ9 := by
    rw [hσ9]
    have hc : cellsOf (.tr (.agg (fT g))) = fV g := rfl
    have ho := fV_one g
    unfold opStore
    simp only [hc, fV_len, if_true]
    unfold obPut
    simp [splice, ho, fV_len]
  have h9 : σ9[σ.length]? = some (.row [sv g.1, .tr g.2.1] 0) := by rw [hσ9]; simp [fV]
  have hq9 : σ9[q]? = some (.row [sv path, w] 0) := by rw [hσ9, List.getElem?_append_left hqlt]; exact hq
  have hl9 := pair_load h9
  have hlq := pair_load hq9
  have hw9 : GV fV ds w σ9 := gv_keep hw fun id g n h => by
    rcases hw with ⟨_, hw⟩ | ⟨id', g', hw, hR⟩
    · rw [hw] at h; cases h
    · rw [hw] at h
      cases h
      rw [hσ9, List.getElem?_append_left hR.lt]
  obtain ⟨t', hcl, ht'⟩ := clone_ok hfr.2 hfb
  have ho' : oneV (.tr t') = true := one_by ht'
  obtain ⟨d', hd'⟩ : ∃ d' : FV, d' = (g.1, ⟨t', ho'⟩) := ⟨_, rfl⟩
  have hb : opBuild [.sc (.string ⟨⟨[]⟩⟩), .sc (.slice none 0 0)] [(0, 1, sv g.1), (1, 1, .tr t')] = some (.tr (.agg (fT d'))) := by
    have h1 : cellsOf (.tr t') = [.tr t'] := by
      rcases ht' with ⟨_, h⟩ | ⟨cap, h⟩ <;> (cases h; rfl)
    rw [hd']
    simp [opBuild, fillV, h1, splice, mkAgg, allTr, fT]
  have hbs : ∀ σ, opBslice false 1 2 [.sc (.string ⟨⟨[]⟩⟩), .sc (.slice none 0 0)] [(0, 2, .tr (.agg (fT d')))] σ = some (.tr (.row (fT d') 1 (some 1)), σ) := fun σ => rfl
  have hel : elems σ9 2 (.tr (.row (fT d') 1 (some 1))) = some (fV d', 1) := rfl
  obtain ⟨w', σa, happ, hwa, hcase⟩ := gv_app fV_len fV_one hw9 (by omega) hel
  have hσal : σ9.length ≤ σa.length := by
    rcases hcase with ⟨_, h, _⟩ | ⟨id, gg, _, _, _, h, _⟩
    · rw [h]; simp
    · omega
  have hl9' : σ9.length = σ.length + 1 := by rw [hσ9]; simp
  have hqa : σa[q]? = some (.row [sv path, w] 0) := by
    rcases hcase with ⟨_, h, _⟩ | ⟨id, gg, hwid, _, hN, _, _⟩
    · rw [h, List.getElem?_append_left (by omega)]; exact hq9
    · rw [hN.2 q (fun e => (hwq id gg _ hwid).1 e.symm) (by omega)]; exact hq9
  obtain ⟨hc1, hc2⟩ := gv_one hwa
  have hs2 := pair_store1 (z := w') hqa hc1 hc2
  have hwf : GV fV (ds ++ [d']) w' (σa.set q (.row [sv path, w'] 0)) := gv_keep hwa fun id gg n h => by
    rw [List.getElem?_set_ne]
    rintro rfl
    rcases hcase with ⟨h2, _, _⟩ | ⟨id', gg', hwid, h2, _, _, _⟩
    · rw [h2] at h
      cases h
      omega
    · rw [h2] at h
      cases h
      exact (hwq _ _ _ hwid).1 rfl
  have w25 : IntKind.i64.wrap ((r : Int) + 1) = ((r + 1 : Nat) : Int) := wrapN _ (by omega) (by omega)
  have fin : ∀ e' L', (∀ k, k ≠ 9 → k ≠ 25 → look e' k = look e k) → look e' 25 = some (iv ((r + 1 : Nat) : Int)) → Q .normal ⟨e', L', σa.set q (.row [sv path, w'] 0)⟩ := by
    intro e' L' hk h25
    refine hQ e' L' _ w' d' ⟨by rw [hd']; exact hfr.1, by rw [hd']; exact ht'⟩ ?_ hwf ?_ ?_ ?_ hk h25
    · exact List.getElem?_set_self (by omega)
    · intro id gg n h
      rcases hcase with ⟨h2, _, _⟩ | ⟨id', gg', hwid, h2, _, _, _⟩
      · rw [h2] at h
        cases h
        exact ⟨by omega, by omega⟩
      · rw [h2] at h
        cases h
        exact hwq _ _ _ hwid
    · rw [List.length_set]; omega
    · intro i hi hiq hiw
      rw [List.getElem?_set_ne (Ne.symm hiq)]
      have h9i : σ9[i]? = σ[i]? := by rw [hσ9, List.getElem?_append_left hi]
      rw [← h9i]
      rcases hcase with ⟨_, h, _⟩ | ⟨id, gg, hwid, _, hN, _, _⟩
      · rw [h, List.getElem?_append_left (by omega)]
      · exact hN.2 i (hiw id gg _ hwid) (by omega)
  have ew := gv_eq hw
  have es := eqV_sv g.1
  generalize hrr : ((r + 1 : Nat) : Int) = r1 at *
  have fa : ∀ i o n, opFaddr o (.ptr i 0 n) = some (.ptr i 0 (n + o)) := fun i o n => rfl
  simp [k6_11, g7, g23, g25, ia, ld, hal, hst, fa]
  rw [opsD_h 9 (v := w) (σ1 := σ9) (by simp [hlq.2])]
  obtain ⟨p1, hp1⟩ : ∃ p : Pend, p = ⟨9, .load 1 false (.loc 29), St.only ⟨put e 9 (.ptr σ.length 0 0), [(29, .ptr q 0 1)], σ9⟩ [29], w⟩ := ⟨_, rfl⟩
  rw [← hp1]
  simp [opsDP_0, fa]
  rw [opsDP_h 9 (v := sv g.1) (σ1 := σ9) (by simp [hl9.1])]
  obtain ⟨p2, hp2⟩ : ∃ p : Pend, p = ⟨9, .load 1 false (.loc 31), St.only ⟨put e 9 (.ptr σ.length 0 0), [(31, .ptr σ.length 0 0), (30, w), (29, .ptr q 0 1)], σ9⟩ [31], sv g.1⟩ := ⟨_, rfl⟩
  rw [← hp2]
  have ok1 : pendOk (callL T) σ9 p1 = true := by
    rw [hp1]
    have hlk : look (St.only ⟨put e 9 (.ptr σ.length 0 0), [(29, V.ptr q 0 1)], σ9⟩ [29]).loc 29 = some (.ptr q 0 1) := rfl
    simp [pendOk, hlk, hlq.2, ew, bind1, pure1]
  have ok2 : pendOk (callL T) σ9 p2 = true := by
    rw [hp2]
    have hlk : look (St.only ⟨put e 9 (.ptr σ.length 0 0), [(31, V.ptr σ.length 0 0), (30, w), (29, .ptr q 0 1)], σ9⟩ [31]).loc 31 = some (.ptr σ.length 0 0) := rfl
    simp [pendOk, hlk, hl9.1, es, bind1, pure1]
  have pa : ∀ j, pendAll (callL T) j σ9 [p2, p1] = true := fun j => pendAll_cons (.inr ok2) (pendAll_cons (.inr ok1) rfl)
  have pb : ∀ j σx, 9 < j → pendAll (callL T) j σx [p2, p1] = true := fun j σx hj => by
    have h1 : p1.h = 9 := by rw [hp1]
    have h2 : p2.h = 9 := by rw [hp2]
    exact pendAll_cons (.inl (by rw [h2, Nat.blt_eq]; exact hj)) (pendAll_cons (.inl (by rw [h1, Nat.blt_eq]; exact hj)) rfl)
  have h1c : cellsOf (.tr t') = [.tr t'] := by
    rcases ht' with ⟨_, h⟩ | ⟨cap, h⟩ <;> (cases h; rfl)
  have efT : fT d' = [.sc (.string ⟨⟨g.1⟩⟩), t'] := by rw [hd']; rfl
  rw [efT] at happ hbs
  simp [opsDP_0, opsDP_1, opsDP_2, opsDP_nil, fa, pa, pb, hl9.2, hcl, h1c, splice, allTr, hbs, happ, hs2, w25, g7, g25]
  refine fin _ _ ?_ ?_
  · intro k h1 h2
    simp [h1, h2]
  · simp
end Go.Proofs.Ytodgdmhifbnofaa.AM.Sn
end
section
set_option maxRecDepth 1000000
set_option linter.unusedVariables false
set_option linter.unusedSimpArgs false
namespace Go.Proofs.Ytodgdmhifbnofaa.AM.Sn
open Go.Proofs
theorem files_loop {gs : List FV} {fs : List AF} {tf : Tree} {q : Nat} {path : List UInt8} {σ : Store} {e Lo : List (Nat × V)} {Q : Out → St → Prop}
    (hf : IsSl fT gs (.tr tf)) (hfr : AllR FileR gs fs) (hfb : ∀ f ∈ fs, f.2.length ≤ 140737488355328) (hn : gs.length ≤ 30) (hq : σ[q]? = some (.row [sv path, nilSl] 0))
    (g7 : look e 7 = some (.ptr q 0 0)) (g23 : look e 23 = some (.tr tf)) (g24 : look e 24 = some (iv (gs.length : Int))) (g25 : look e 25 = some (iv 0))
    (hQ : ∀ e' L' σ' w ds, AllR FileR ds fs → σ'[q]? = some (.row [sv path, w] 0) → GV fV ds w σ' → (∀ id g n, w = own2 id g n none → id ≠ q ∧ σ.length ≤ id) → σ.length ≤ σ'.length → (∀ i, i < σ.length → i ≠ q → σ'[i]? = σ[i]?) → (∀ k, k ≠ 9 → k ≠ 25 → look e' k = look e k) → Q (.exit 2) ⟨e', L', σ'⟩) :
    Wp T (.loop k6_9) ⟨e, Lo, σ⟩ Q := by
  obtain ⟨I, hI⟩ : ∃ I : Nat → St → Prop, I = (fun r st => r ≤ gs.length ∧ ∃ e' Lo' σ' w ds, st = ⟨e', Lo', σ'⟩ ∧ ds.length = r ∧ AllR FileR ds (fs.take r) ∧ σ'[q]? = some (.row [sv path, w] 0) ∧ GV fV ds w σ' ∧ (∀ id g n, w = own2 id g n none → id ≠ q ∧ σ.length ≤ id) ∧ σ.length ≤ σ'.length ∧ (∀ i, i < σ.length → i ≠ q → σ'[i]? = σ[i]?) ∧ (∀ k, k ≠ 9 → k ≠ 25 → look e' k = look e k) ∧ look e' 25 = some (iv (r : Int))) := ⟨_, rfl⟩
  refine wpc_up gs.length I ?_ ?_
  · rw [hI]
    exact ⟨by omega, e, Lo, σ, nilSl, [], rfl, rfl, by simpa using allR_nil, hq, .inl ⟨rfl, rfl⟩, fun id g n h => (by cases h), Nat.le_refl _, fun i _ _ => rfl, fun k _ _ => rfl, g25⟩
  intro r st hIs
  rw [hI] at hIs
  obtain ⟨hr, e', Lo', σ', w, ds, rfl, hdl, hds, hq', hw, hwq, hl, hk, hlk, h25⟩ := hIs
  have f24 : look e' 24 = some (iv (gs.length : Int)) := by rw [hlk 24 (by decide) (by decide)]; exact g24
  by_cases hlt : r < gs.length
  · have hlt' : (r : Int) < (gs.length : Int) := by omega
    obtain ⟨g, hg⟩ := some_at hlt
    obtain ⟨f, hff⟩ := some_at (l := fs) (i := r) (by rw [← hfr.1]; exact hlt)
    have key := one_file (path := path) (e := e') (Lo := [(26, bv true)]) (Q := thenN (fun s' => r < gs.length ∧ I (r + 1) s') Q) hf hg (hfr.2 r g f hg hff) (hfb f (List.mem_of_getElem? hff)) (by omega) (by omega) hq' hw hwq hl (by rw [hlk 7 (by decide) (by decide)]; exact g7) (by rw [hlk 23 (by decide) (by decide)]; exact g23) h25 (fun e2 L2 σ2 w2 d2 p1 p2 p3 p4 p5 p6 p7 p8 => by
      show r < gs.length ∧ I (r + 1) ⟨e2, L2, σ2⟩
      refine ⟨hlt, ?_⟩
      rw [hI]
      refine ⟨by omega, e2, L2, σ2, w2, ds ++ [d2], rfl, by simp [hdl], ?_, p2, p3, p4, by omega, fun i hi hiq => ?_, fun k h1 h2 => by rw [p7 k h1 h2]; exact hlk k h1 h2, p8⟩
      · rw [take_snoc hff]
        exact allR_snoc hds p1
      · rw [p6 i (by omega) hiq (fun id g n h => by
          have := (hwq id g n h).2
          omega)]
        exact hk i hi hiq)
    simp [k6_9, f24, h25, hlt']
    exact key
  · have hlt' : ¬ (r : Int) < (gs.length : Int) := by omega
    generalize (r : Int) = rr at *
    simp [k6_9, f24, h25, hlt']
    refine hQ _ _ σ' w ds ?_ hq' hw hwq hl hk hlk
    rw [List.take_of_length_le (by rw [← hfr.1]; omega)] at hds
    exact hds
end Go.Proofs.Ytodgdmhifbnofaa.AM.Sn
end
section
set_option maxRecDepth 1000000
set_option linter.unusedVariables false
set_option linter.unusedSimpArgs false
namespace Go.Proofs.Ytodgdmhifbnofaa.AM.Sn
open Go.Proofs
section
variable {α : Type} {key : α → List UInt8}
def Str (key : α → List UInt8) (l : List α) : Prop := l.Pairwise fun a b => bytesLt (key a) (key b) = true
theorem lt_le_lt {a b c : List UInt8} (h1 : bytesLt a b = true) (h2 : bytesLt c b = false) : bytesLt a c = true := by
  rw [bytesLt_lt] at *
  rw [Bool.eq_false_iff, Ne, bytesLt_lt] at h2
  rcases lex_tri a c with h | rfl | h
  · exact h
  · exact absurd h1 h2
  · exact absurd (List.lt_trans h h1) h2
theorem str_of {l : List α} (h : Ris key l) (hd : ∀ (i : Nat) x y, l[i]? = some x → l[i + 1]? = some y → key x ≠ key y) : Str key l := by
  unfold Str
  rw [List.pairwise_iff_getElem]
  intro i j hi hj hij
  have h1 := hd i _ _ (List.getElem?_eq_getElem hi) (List.getElem?_eq_getElem (show i + 1 < l.length by omega))
  have h2 := ris_le h (i := i) (j := i + 1) (by omega) (List.getElem?_eq_getElem hi) (List.getElem?_eq_getElem (show i + 1 < l.length by omega))
  have h3 := ris_le h (i := i + 1) (j := j) (by omega) (List.getElem?_eq_getElem (show i + 1 < l.length by omega)) (List.getElem?_eq_getElem hj)
  have h4 : bytesLt (key l[i]) (key l[i + 1]) = true := by
    rcases lex_tri (key l[i]) (key l[i + 1]) with h | h | h
    · rw [bytesLt_lt]; exact h
    · exact absurd h h1
    · rw [← bytesLt_lt, h2] at h; cases h
  exact lt_le_lt h4 h3
theorem str_nodup {l : List α} (h : Str key l) : (l.map key).Nodup := by
  unfold List.Nodup
  rw [List.pairwise_map]
  refine List.Pairwise.imp ?_ h
  intro a b hab e
  rw [e, bytesLt_lt] at hab
  exact List.lt_irrefl _ hab
theorem not_nodup {l : List α} {i : Nat} {x y : α} (hx : l[i]? = some x) (hy : l[i + 1]? = some y) (h : key x = key y) : ¬ (l.map key).Nodup := by
  intro hn
  unfold List.Nodup at hn
  rw [List.pairwise_iff_getElem] at hn
  have hi := (List.getElem?_eq_some_iff.1 hy).1
  have := hn i (i + 1) (by simp; omega) (by simp; omega) (by omega)
  rw [List.getElem_map, List.getElem_map, (List.getElem?_eq_some_iff.1 hx).2, (List.getElem?_eq_some_iff.1 hy).2] at this
  exact this h
end
theorem sort_nilF (σ : Store) (fv : V) : callL T 12 [nilSl, fv] σ = some (.tr (.tup []), σ) := by
  have w0 : IntKind.i64.wrap (0 + 1) = 1 := by decide
  have w1 : IntKind.i64.wrap 1 = 1 := by decide
  have h37 : callL T 37 [nilSl, iv 0, iv 0, fv] σ = some (.tr (.tup []), σ) := by
    suffices hh : ∃ v σ', callL T 37 [nilSl, iv 0, iv 0, fv] σ = some (v, σ') ∧ v = .tr (.tup []) ∧ σ' = σ by
      obtain ⟨v, σ', h, rfl, rfl⟩ := hh
      exact h
    refine call_shared T37 rfl rfl ?_
    simp [w0, w1]
    refine loop_step ?_
    simp [k37_1]
    rfl
  have h25 : callL T 25 [nilSl, iv 0, fv] σ = some (.tr (.tup []), σ) := by
    suffices hh : ∃ v σ', callL T 25 [nilSl, iv 0, fv] σ = some (v, σ') ∧ v = .tr (.tup []) ∧ σ' = σ by
      obtain ⟨v, σ', h, rfl, rfl⟩ := hh
      exact h
    refine call_shared T25 rfl rfl ?_
    simp
    refine loop_step ?_
    simp [k25_2, leq_i, k25_6, h37]
    refine loop_step ?_
    simp [k25_8]
    rfl
  suffices hh : ∃ v σ', callL T 12 [nilSl, fv] σ = some (v, σ') ∧ v = .tr (.tup []) ∧ σ' = σ by
    obtain ⟨v, σ', h, rfl, rfl⟩ := hh
    exact h
  refine call_shared T12 rfl rfl ?_
  have hl : ∀ σ, opLen 1 nilSl σ = some (iv 0) := fun σ => rfl
  simp [hl, h25]
  rfl
theorem sort_nilP (σ : Store) (fv : V) : callL T 15 [nilSl, fv] σ = some (.tr (.tup []), σ) := by
  have w0 : IntKind.i64.wrap (0 + 1) = 1 := by decide
  have w1 : IntKind.i64.wrap 1 = 1 := by decide
  have h37 : callL T 40 [nilSl, iv 0, iv 0, fv] σ = some (.tr (.tup []), σ) := by
    suffices hh : ∃ v σ', callL T 40 [nilSl, iv 0, iv 0, fv] σ = some (v, σ') ∧ v = .tr (.tup []) ∧ σ' = σ by
      obtain ⟨v, σ', h, rfl, rfl⟩ := hh
      exact h
    refine call_shared T40 rfl rfl ?_
    simp [w0, w1]
    refine loop_step ?_
    simp [k40_1]
    rfl
  have h25 : callL T 27 [nilSl, iv 0, fv] σ = some (.tr (.tup []), σ) := by
    suffices hh : ∃ v σ', callL T 27 [nilSl, iv 0, fv] σ = some (v, σ') ∧ v = .tr (.tup []) ∧ σ' = σ by
      obtain ⟨v, σ', h, rfl, rfl⟩ := hh
      exact h
    refine call_shared T27 rfl rfl ?_
    simp
    refine loop_step ?_
    simp [k27_2, leq_i, k27_6, h37]
    refine loop_step ?_
    simp [k27_8]
    rfl
  suffices hh : ∃ v σ', callL T 15 [nilSl, fv] σ = some (v, σ') ∧ v = .tr (.tup []) ∧ σ' = σ by
    obtain ⟨v, σ', h, rfl, rfl⟩ := hh
    exact h
  refine call_shared T15 rfl rfl ?_
  have hl : ∀ σ, opLen 1 nilSl σ = some (iv 0) := fun σ => rfl
  simp [hl, h25]
  rfl
abbrev ZF := FV × AF
def zV (z : ZF) : List V := fV z.1
def zK (z : ZF) : List UInt8 := z.1.1
theorem zV_len (z : ZF) : (zV z).length = 2 := rfl
theorem zV_one (z : ZF) : (zV z).all oneV = true := fV_one z.1
theorem cmpZ : CmpOk zV zK (.tr (.fn (.func 13) [] [])) := fun a b σ => cmpF a.1 b.1 σ
theorem sort_files {z : List ZF} {w : V} {σ : Store} (hw : GV zV z w σ) (hn : z.length ≤ 30) :
    ∃ z' σ', callL T 12 [w, .tr (.fn (.func 13) [] [])] σ = some (.tr (.tup []), σ') ∧ z'.Perm z ∧ Ris zK z' ∧ GV zV z' w σ' ∧ σ.length ≤ σ'.length ∧ (∀ i, i < σ.length → (∀ id g n, w = own2 id g n none → i ≠ id) → σ'[i]? = σ[i]?) := by
  rcases hw with ⟨rfl, rfl⟩ | ⟨id, g, rfl, hR⟩
  · exact ⟨[], σ, sort_nilF σ _, List.Perm.refl _, ris_nil, .inl ⟨rfl, rfl⟩, Nat.le_refl _, fun _ _ _ => rfl⟩
  · obtain ⟨z', σ', hc, hp, hs, hR', hN⟩ := sortF_ok (cap := none) zV_len zV_one cmpZ rfl hn hR
    refine ⟨z', σ', hc, hp, hs, .inr ⟨id, g, by rw [hp.length_eq], hR'⟩, hN.1, fun i hi h => hN.2 i (h id g _ rfl) hi⟩
end Go.Proofs.Ytodgdmhifbnofaa.AM.Sn
end
