/- TreeWalk: part 6. -/
import Derived.Test.YtimcmpndblajnaaDoorTr5
set_option maxRecDepth 1000000
set_option linter.unusedVariables false
set_option linter.unusedSimpArgs false
namespace Go.Proofs.YtimcmpndblajnaaDoor.AM.Tr
open Go.Proofs

theorem ls_mono {σ σ' : Store} {lo : Nat} {ks : List Nd} {w : V} (h : LS σ lo ks w) (hs : ∀ i, lo ≤ i → i < σ.length → σ'[i]? = σ[i]?) : LS σ' lo ks w := by
  rcases h with h | ⟨id, g, C, h1, h2, h3, h4, h5⟩
  · exact .inl h
  · have hid := (List.getElem?_eq_some_iff.1 h4).1
    exact .inr ⟨id, g, C, h1, h2, h3, by rw [hs id h1 hid]; exact h4, cl_mono (fun i hi hl => ⟨hs i hi.1 hl, hi⟩) h5⟩
theorem st4 {σ : Store} {n : Nat} {C : List V} {c : K} (h : σ[n]? = some (.row C 0)) (hC : C.length = 4) (hc : oneV c.2.2.2 = true) : opStore 4 (.ptr n 0 0) (mkAgg (w4 c)) σ = some (σ.set n (.row (w4 c) 0)) := by
  have ho := one_w4 hc
  unfold opStore
  simp only [cells_mkAgg]
  unfold obPut
  rw [h]
  have hl : (w4 c).length = 4 := rfl
  simp only
  rw [if_pos hl, if_pos ⟨trivial, by rw [hC, hl]; omega, ho⟩]
  congr 3
  unfold splice
  rw [hl, List.take_zero, List.nil_append, List.drop_of_length_le (by omega), List.append_nil]
theorem ld_4 {σ : Store} {n : Nat} {c : K} (h : σ[n]? = some (.row (w4 c) 0)) : opLoad 4 true (.ptr n 0 0) σ = some (mkAgg (w4 c)) := by
  simp only [opLoad, obCells, h]
  rfl
theorem st1 {σ : Store} {n : Nat} {v u : V} (h : σ[n]? = some (.row [u] 0)) (hv : oneV v = true) : opStore 1 (.ptr n 0 0) v σ = some (σ.set n (.row [v] 0)) := by
  unfold opStore obPut
  simp [cells_one hv, h, hv, splice]
theorem ld1 {σ : Store} {n : Nat} {u : V} (h : σ[n]? = some (.row [u] 0)) : opLoad 1 false (.ptr n 0 0) σ = some u := by
  simp only [opLoad, obCells, h]
  rfl
theorem st13 {σ : Store} {n : Nat} {v : V} {c : K} (h : σ[n]? = some (.row (w4 c) 0)) (hv : oneV v = true) : opStore 1 (.ptr n 0 3) v σ = some (σ.set n (.row (w4 (c.1, c.2.1, c.2.2.1, v)) 0)) := by
  unfold opStore obPut
  simp [cells_one hv, h, hv, splice, w4]
theorem ld13 {σ : Store} {n : Nat} {c : K} (h : σ[n]? = some (.row (w4 c) 0)) : opLoad 1 false (.ptr n 0 3) σ = some c.2.2.2 := by
  simp only [opLoad, obCells, h]
  rfl
abbrev z4 : List Tree := [.sc (.int .i64 0), .sc (.int .i64 0), .sc (.string ⟨⟨[]⟩⟩), .sc (.slice none 0 0)]
section
variable {c : CallA} {i : Nat} {ns : List Nat} {is : List (Nat × List Nat)} {d : Option Nat} {inK : Bool} {k : HK} {r : List HOp} {st : St} {K : St → Prop} {ps : List Pend} {p : Pend}
theorem pendAdd_lo {n : Nat} (hn : n < 3) {o : HOp} : pendAdd c n ns o st ps = ps := by
  unfold pendAdd
  split
  · omega
  · rfl
theorem opsDP_nil : okP (opsRunD c i (p :: ps) [] [] st) K ↔ pendAll c i st.σ (p :: ps) = true ∧ K st := by
  simp only [opsRunD]
  cases h : pendAll c i st.σ (p :: ps) <;> simp [okP]
theorem opsDP_0 : okP (opsRunD c i (p :: ps) ((0, ns) :: is) (⟨d, inK, k, none⟩ :: r) st) K ↔ okA (opA c k (st.only ns)) d inK st (fun st' => okP (opsRunD c (i + 1) (p :: ps) is r st') K) := by
  have hb : Nat.beq 0 1 = false := rfl
  have hb2 : Nat.beq 0 2 = false := rfl
  simp only [opsRunD, pendAdd_lo (show 0 < 3 by omega), hb2, Bool.false_and, Bool.false_eq_true, if_false]
  unfold opStepD
  simp only [guardA, hb, Bool.false_and, Bool.false_eq_true, if_false]
  cases h : opA c k (st.only ns) with
  | none => simp [okA_no, okP]
  | some q => obtain ⟨v, s⟩ := q; simp [okA_sm]
theorem opsDP_2 : okP (opsRunD c i (p :: ps) ((2, ns) :: is) (⟨d, inK, k, none⟩ :: r) st) K ↔ pendAll c i st.σ (p :: ps) = true ∧ okA (opA c k (st.only ns)) d inK st (fun st' => okP (opsRunD c (i + 1) (p :: ps) is r st') K) := by
  have hb : Nat.beq 2 1 = false := rfl
  have hb2 : Nat.beq 2 2 = true := rfl
  simp only [opsRunD, pendAdd_lo (show 2 < 3 by omega), hb2, Bool.true_and]
  unfold opStepD
  simp only [guardA, hb, Bool.false_and, Bool.false_eq_true, if_false]
  cases hp : pendAll c i st.σ (p :: ps) with
  | false => simp [okP]
  | true =>
    cases h : opA c k (st.only ns) with
    | none => simp [okA_no, okP]
    | some q => obtain ⟨v, s⟩ := q; simp [okA_sm]
theorem opsDP_1 : okP (opsRunD c i (p :: ps) ((1, ns) :: is) (⟨d, inK, k, none⟩ :: r) st) K ↔ okA (okF true st.σ (opA (quietCall c) k (st.only ns))) d inK st (fun st' => okP (opsRunD c (i + 1) (p :: ps) is r st') K) := by
  have hb : Nat.beq 1 1 = true := rfl
  have hb2 : Nat.beq 1 2 = false := rfl
  simp only [opsRunD, pendAdd_lo (show 1 < 3 by omega), hb2, Bool.false_and, Bool.false_eq_true, if_false]
  unfold opStepD okF
  simp only [guardA, hb, Bool.true_and, if_true]
  cases h : opA (quietCall c) k (st.only ns) with
  | none => simp [okA_no, okP]
  | some q =>
    obtain ⟨v, s⟩ := q
    cases hf : freshOk st.σ s <;> simp [hf, okA_no, okA_sm, okP]
theorem opsD_15 {v : V} {σ1 : Store} (h : opA c k (st.only ns) = some (v, σ1)) : okP (opsRunD c i [] ((15, ns) :: is) (⟨d, inK, k, none⟩ :: r) st) K ↔ okP (opsRunD c (i + 1) [⟨12, k, st.only ns, v⟩] is r ({ st with σ := σ1 }.set d inK v)) K := by
  have hb : Nat.beq 15 1 = false := rfl
  have hb2 : Nat.beq 15 2 = false := rfl
  have hpa : pendAdd c 15 ns ⟨d, inK, k, none⟩ st [] = [⟨12, k, st.only ns, v⟩] := by
    unfold pendAdd
    simp only [guardA, h]
  simp only [opsRunD, hpa, hb2, Bool.false_and, Bool.false_eq_true, if_false]
  unfold opStepD
  simp only [guardA, hb, Bool.false_and, Bool.false_eq_true, if_false, h]
end
theorem eqV_ls {σ : Store} {lo : Nat} {ks : List Nd} {w : V} (h : LS σ lo ks w) : eqV w w = true := by
  rcases h with ⟨_, rfl⟩ | ⟨id, g, C, _, _, rfl, _⟩
  · rfl
  · simp [eqV, eqO]

theorem smL_snoc {y : Nd} (hy : smN y) : ∀ {ks : List Nd}, smL ks → smL (ks ++ [y])
  | [], _ => by simp [smL, hy]
  | x :: r, h => by
    simp only [smL] at h
    simp only [List.cons_append, smL]
    exact ⟨h.1, smL_snoc hy h.2⟩
theorem dpL_snoc {y : Nd} : ∀ {ks : List Nd}, dpL (ks ++ [y]) = max (dpL ks) (dpN y)
  | [] => by simp [dpL]
  | x :: r => by
    simp only [List.cons_append, dpL, dpL_snoc (ks := r)]
    omega

/-- What a cut comes to. -/
def SomeR (m : Nat) (σ : Store) (b left : Nat) (v : V) (σ' : Store) : Prop := ∃ (c : K) (y : Nd) (left' : Nat), v = mkAgg (w4 c) ∧ CN σ' (fun i => σ.length ≤ i) y c ∧ oneV c.2.2.2 = true ∧ left' < left ∧ σ'[b]? = some (.row [nv .i64 left'] 0) ∧ (∀ i, i ≠ b → i < σ.length → σ'[i]? = σ[i]?) ∧ σ.length ≤ σ'.length ∧ smN y ∧ dpN y ≤ m + 1 ∧ cnN y + left' = left
def SomeAll (m : Nat) : Prop := ∀ (deep : Nat), deep + m = 12 → ∀ (x : Nd) (q : Q) (σ : Store) (b left : Nat), NdQ x q → 1 ≤ left → left ≤ 80 → σ[b]? = some (.row [nv .i64 left] 0) →
    ∃ v σ', callL T 18 [.tr (ag q), nv .i64 deep, .ptr b 0 0] σ = some (v, σ') ∧ SomeR m σ b left v σ'
theorem some_step {m : Nat} (ih : ∀ m', m = m' + 1 → SomeAll m') : SomeAll m := by
  intro deep hdm x q σ b left hq hl1 hl80 hb
  refine call_shared T18 rfl rfl ?_
  obtain ⟨k, a, s, ks0⟩ := x
  obtain ⟨k, a, s, t⟩ := q
  simp only [NdQ] at hq
  obtain ⟨rfl, rfl, rfl, L, hL, hks⟩ := hq
  have hbl := (List.getElem?_eq_some_iff.1 hb).1
  have hlen : ∀ σ, opLen 1 (.tr t) σ = some (nv .i64 L.length) := fun σ => isSl_len hL
  obtain ⟨n, hn⟩ : ∃ n, n = σ.length := ⟨_, rfl⟩
  -- the first store
  obtain ⟨σ0, hσ0⟩ : ∃ σ0, σ0 = σ ++ [Ob.row (z4.map .tr) 0] := ⟨_, rfl⟩
  have hb0 : σ0[b]? = some (.row [nv .i64 left] 0) := by rw [hσ0, List.getElem?_append_left hbl]; exact hb
  obtain ⟨σ1, hσ1⟩ : ∃ σ1, σ1 = σ0.set b (.row [nv0 ((left : Int) - 1)] 0) := ⟨_, rfl⟩
  have hl0 : σ0.length = n + 1 := by rw [hσ0, hn]; simp
  have hl1' : σ1.length = n + 1 := by rw [hσ1]; simp [hl0]
  have al0 : opAlloc z4 σ = some (.ptr n 0 0, σ0) := by rw [hσ0, hn]; rfl
  have s1 := st1 (v := nv0 ((left : Int) - 1)) hb0 rfl
  rw [← hσ1] at s1
  have l0 := ld1 hb0
  have w1 : IntKind.i64.wrap ((left : Int) - 1) = (left : Int) - 1 := w64 (by omega) (by omega)
  obtain ⟨σ2, hσ2⟩ : ∃ σ2, σ2 = σ1 ++ [Ob.row (z4.map .tr) 0] := ⟨_, rfl⟩
  have al1 : opAlloc z4 σ1 = some (.ptr (n + 1) 0 0, σ2) := by rw [hσ2, ← hl1']; rfl
  obtain ⟨σ3, hσ3⟩ : ∃ σ3, σ3 = σ2.set (n + 1) (.row (w4 (k, a, s, nilSl)) 0) := ⟨_, rfl⟩
  have hbd : opBuild z4 [(0, 1, nv0 k), (1, 1, nv0 a), (2, 1, .tr (.sc (.string ⟨⟨s⟩⟩)))] = some (mkAgg (w4 (k, a, s, nilSl))) := rfl
  have s2 : opStore 4 (.ptr (n + 1) 0 0) (mkAgg (w4 (k, a, s, nilSl))) σ2 = some σ3 := by
    rw [hσ3]
    exact st4 (C := z4.map .tr) (by rw [hσ2, List.getElem?_append_right (by omega)]; simp [hl1']) rfl rfl
  have nc : ∀ (i : Nat), opNilCheck (.ptr i 0 0) = some (.ptr i 0 0) := fun _ => rfl
  simp [-opAlloc, -opBuild, -mkAgg, bx4, al0, nc, l0, w1, s1, fa40, fa41, fa42, ld40, ld41, ld42, hbd, al1, s2]
  have hbn : b < n := by omega
  have t1 : σ3[b]? = some (.row [nv0 ((left : Int) - 1)] 0) := by
    rw [hσ3, List.getElem?_set_ne (by omega), hσ2, List.getElem?_append_left (by omega), hσ1, List.getElem?_set_self (by omega)]
  have t2 : σ3[n]? = some (.row (z4.map .tr) 0) := by
    rw [hσ3, List.getElem?_set_ne (by omega), hσ2, List.getElem?_append_left (by omega), hσ1, List.getElem?_set_ne (by omega), hσ0, List.getElem?_append_right (by omega)]
    simp [hn]
  have hl2 : σ2.length = n + 2 := by rw [hσ2]; simp [hl1']
  have t3 : σ3[n + 1]? = some (.row (w4 (k, a, s, nilSl)) 0) := by rw [hσ3, List.getElem?_set_self (by omega)]
  have hl3 : σ3.length = n + 2 := by rw [hσ3]; simp [hl2]
  have t4 : ∀ i, i ≠ b → i < n → σ3[i]? = σ[i]? := by
    intro i h1 h2
    rw [hσ3, List.getElem?_set_ne (by omega), hσ2, List.getElem?_append_left (by omega), hσ1, List.getElem?_set_ne (by omega), hσ0, List.getElem?_append_left (by omega)]
  have e1 : ((left : Int) - 1) = ((left - 1 : Nat) : Int) := by omega
  rw [e1] at t1
  obtain ⟨I, hI⟩ : ∃ I : Nat → St → Prop, I = (fun j st => ∃ e Lc σ', ∃ ks : List Nd, ∃ w, st = ⟨e, Lc, σ'⟩ ∧ (j < left ∧ ks.length + j < left ∧ cnL ks + 1 + j = left) ∧ (σ'[b]? = some (.row [nv .i64 j] 0) ∧ σ'[n]? = some (.row (z4.map .tr) 0) ∧ σ'[n + 1]? = some (.row (w4 (k, a, s, w)) 0) ∧ LS σ' (n + 2) ks w ∧ (∀ i, i ≠ b → i < n → σ'[i]? = σ[i]?) ∧ n + 2 ≤ σ'.length)
    ∧ (smL ks ∧ dpL ks ≤ m ∧ oneV w = true) ∧ look e 1 = some (nv .i64 deep) ∧ look e 2 = some (.ptr b 0 0) ∧ look e 3 = some (rp (k, a, s, t) 0) ∧ look e 6 = some (.ptr n 0 0) ∧ look e 7 = some (.ptr (n + 1) 0 0) ∧ look e 8 = some (nv .i64 ks.length)) := ⟨_, rfl⟩
  refine wpc_loop I (left - 1) _ ?_ ?_
  · rw [hI]
    exact ⟨_, _, σ3, [], nilSl, rfl, ⟨by omega, by simp; omega, by simp [cnL]; omega⟩, ⟨t1, t2, t3, .inl ⟨rfl, rfl⟩, t4, by omega⟩, ⟨by simp [smL], by simp [dpL], rfl⟩, by simp, by simp, by simp, by simp, by simp, by simp⟩
  clear t1 t2 t3 t4 s1 s2 al0 al1 l0 hb0
  intro j st hIs
  rw [hI] at hIs
  obtain ⟨e, Lc, σ', ks, w, rfl, ⟨hj, hkj, hcj⟩, ⟨u1, u2, u3, u4, u5, u6⟩, ⟨v1, v2, v3⟩, g1, g2, g3, g6, g7, g8⟩ := hIs
  have lb := ld1 u1
  have fin : ∀ Lc, wpc T k18_7 ⟨e, Lc, σ'⟩ (giv [.cell 6 4 true] (SomeR m σ b left)) := by
    intro Lc
    have f1 := ld_4 u3
    have f2 := st4 u2 rfl v3 (c := (k, a, s, w))
    have hnl := (List.getElem?_eq_some_iff.1 u2).1
    obtain ⟨σ7, hσ7⟩ : ∃ σ7, σ7 = σ'.set n (.row (w4 (k, a, s, w)) 0) := ⟨_, rfl⟩
    rw [← hσ7] at f2
    have f3 : opLoad 4 true (.ptr n 0 0) σ7 = some (mkAgg (w4 (k, a, s, w))) := ld_4 (by rw [hσ7, List.getElem?_set_self hnl])
    simp [-mkAgg, k18_7, g7, g6, f1, f2, f3]
    refine ⟨(k, a, s, w), .mk k a s ks, j, rfl, ?_, v3, hj, by rw [hσ7, List.getElem?_set_ne (by omega)]; exact u1, fun i h1 h2 => by rw [hσ7, List.getElem?_set_ne (by omega)]; exact u5 i h1 (by omega), by rw [hσ7]; simp; omega, by simp only [smN]; exact ⟨by omega, v1⟩, by simp only [dpN]; omega, by simp only [cnN]; omega⟩
    simp only [CN, true_and]
    have hls : LS σ7 (n + 2) ks w := ls_mono u4 (fun i h1 h2 => by rw [hσ7, List.getElem?_set_ne (by omega)])
    rcases hls with h | ⟨id, g, C, h1, h2, h3, h4, h5⟩
    · exact .inl h
    · exact .inr ⟨id, g, C, by omega, h2, h3, h4, cl_mono (fun i h1 h2 => ⟨rfl, by omega⟩) h5⟩
  by_cases hil : ks.length < L.length
  · by_cases hj0 : 0 < j
    · by_cases hd12 : deep < 12
      · have hj0' : (0 : Int) < j := by omega
        have hd12' : (deep : Int) < 12 := by omega
        obtain ⟨m', rfl⟩ : ∃ m', m = m' + 1 := ⟨m - 1, by omega⟩
        obtain ⟨qi, hqi⟩ : ∃ qi, L[ks.length]? = some qi := ⟨_, List.getElem?_eq_getElem hil⟩
        obtain ⟨xi, hxi⟩ : ∃ xi, ks0[ks.length]? = some xi := ⟨_, List.getElem?_eq_getElem (by rw [← ndL_len hks]; exact hil)⟩
        obtain ⟨qi', hqi', hqx⟩ := ndL_at hks hxi
        rw [hqi] at hqi'
        cases hqi'
        have hia := fun σ => isSl_iaddr (σ := σ) (k := .i64) hL e4_len (by omega) hqi
        have hld : ∀ σ, opLoad 4 true (.tr (.rptr (L.flatMap e4) (ks.length * 4))) σ = some (.tr (ag qi)) := fun σ => (rptr_load0 e4_len hqi (by omega)).trans rfl
        have w2 : IntKind.i64.wrap ((deep : Int) + 1) = ((deep + 1 : Nat) : Int) := w64 (by omega) (by omega)
        have w3 : IntKind.i64.wrap ((ks.length : Int) + 1) = ((ks.length + 1 : Nat) : Int) := w64 (by omega) (by omega)
        obtain ⟨v, σ8, hcall, c, y, j', rfl, c1, c2, c3, c4, c5, c6, c7, c8, c9⟩ := ih m' rfl (deep + 1) (by omega) xi qi σ' b j hqx hj0 (by omega) u1
        obtain ⟨x', σ9, d1, d2, d3⟩ := bs4 σ8 c (.sc (.int .i64 0)) (.sc (.int .i64 0)) (.sc (.string ⟨⟨[]⟩⟩)) (.sc (.slice none 0 0))
        have hl9 : σ8.length ≤ σ9.length := by rcases d3 with rfl | rfl <;> simp
        have s9 : ∀ i, i < σ8.length → σ9[i]? = σ8[i]? := by
          intro i hi
          rcases d3 with rfl | rfl
          · rfl
          · rw [List.getElem?_append_left hi]
        have hls : LS σ9 (n + 2) ks w := ls_mono u4 (fun i h1 h2 => by rw [s9 i (by omega), c5 i (by omega) h2])
        have hw : ∀ id g n', w = .own id g 0 n' 4 none → id < σ'.length := by
          intro id g n' h
          rcases u4 with ⟨_, h2⟩ | ⟨id', g', C, _, _, h2, h3, _⟩
          · rw [h2] at h; cases h
          · rw [h2] at h; cases h; exact (List.getElem?_eq_some_iff.1 h3).1
        obtain ⟨w', σ10, e1, e2, e3, e4', e5⟩ := app4 (mid := σ'.length) hls d2 c2 (cn_mono (fun i h1 h2 => ⟨s9 i h2, h1⟩) c1) hw (by omega) (by omega) (by omega)
        have p1 : σ10[n + 1]? = some (.row (w4 (k, a, s, w)) 0) := by
          rw [e3 (n + 1) (by omega) (by omega), s9 (n + 1) (by omega), c5 (n + 1) (by omega) (by omega)]; exact u3
        have p2 := st13 (v := w') p1 e5
        obtain ⟨σ11, hσ11⟩ : ∃ σ11, σ11 = σ10.set (n + 1) (.row (w4 (k, a, s, w')) 0) := ⟨_, rfl⟩
        have p3 : opStore 1 (.ptr (n + 1) 0 3) w' σ10 = some σ11 := by rw [hσ11]; exact p2
        have lw := ld13 u3
        have fp : opFaddr 3 (.ptr (n + 1) 0 0) = some (.ptr (n + 1) 0 3) := rfl
        simp [-mkAgg, k18_4, g8, g3, fa43, ld43, lt43, hlen, hil, g2, nc, lb, hj0, hj0', g1, hd12, hd12', k18_6, g7, fp, lw, hia, hld, w2, hcall, d1, e1, p3, w3, -Int.natCast_add]
        have hwe := eqV_ls u4
        have lw8 : opLoad 1 false (.ptr (n + 1) 0 3) σ8 = some w := ld13 (c := (k, a, s, w)) (by rw [c5 (n + 1) (by omega) (by omega)]; exact u3)
        have lw9 : opLoad 1 false (.ptr (n + 1) 0 3) σ9 = some w := ld13 (c := (k, a, s, w)) (by rw [s9 (n + 1) (by omega), c5 (n + 1) (by omega) (by omega)]; exact u3)
        rw [opsD_15 (v := w) (σ1 := σ') (by simp [lw])]
        obtain ⟨p, hp⟩ : ∃ p : Pend, p = ⟨12, .load 1 false (.loc 38), St.only ⟨e, [(38, .ptr (n + 1) 0 3)], σ'⟩ [38], w⟩ := ⟨_, rfl⟩
        rw [← hp]
        have pe : ∀ i σx, opLoad 1 false (.ptr (n + 1) 0 3) σx = some w → pendAll (callL T) i σx [p] = true := by
          intro i σx hx
          rw [hp]
          have hlk : look (St.only ⟨e, [(38, V.ptr (n + 1) 0 3)], σ'⟩ [38]).loc 38 = some (.ptr (n + 1) 0 3) := rfl
          simp [pendAll, pendOk, hlk, hx, hwe, bind1, pure1]
        have pf : ∀ σx, pendAll (callL T) 14 σx [p] = true ∧ pendAll (callL T) 15 σx [p] = true := by
          intro σx
          rw [hp]
          exact ⟨rfl, rfl⟩
        simp [-mkAgg, opsDP_0, opsDP_1, opsDP_2, opsDP_nil, pe _ _ lw, pe _ _ lw8, pe _ _ lw9, pf, g8, g3, fa43, lt43, g2, g1, g7, fp, hia, hld, w2, hcall, d1, e1, p3, k18_6, w3, -Int.natCast_add]
        have hb10 : ∀ i, i < n + 2 → i ≠ n + 1 → i < σ'.length → σ11[i]? = σ8[i]? := by
          intro i h1 h2 h3
          rw [hσ11, List.getElem?_set_ne (by omega), e3 i h1 (by omega), s9 i (by omega)]
        refine ⟨j', c3, ?_⟩
        rw [hI]
        refine ⟨_, _, σ11, ks ++ [y], w', rfl, ⟨by omega, by simp; omega, by rw [cnL_snoc]; omega⟩, ⟨by rw [hb10 b (by omega) (by omega) (by omega)]; exact c4, by rw [hb10 n (by omega) (by omega) (by omega), c5 n (by omega) (by omega)]; exact u2, by rw [hσ11, List.getElem?_set_self (by omega)], ls_mono e2 (fun i h1 h2 => by rw [hσ11, List.getElem?_set_ne (by omega)]), fun i h1 h2 => by rw [hb10 i (by omega) (by omega) (by omega), c5 i h1 (by omega)]; exact u5 i h1 h2, by rw [hσ11]; simp; omega⟩, ⟨smL_snoc c7 v1, by rw [dpL_snoc]; omega, e5⟩, by simp [g1], by simp [g2], by simp [g3], by simp [g6], by simp [g7], by simp⟩
      · have hd12' : ¬ (deep : Int) < 12 := by omega
        have hj0' : (0 : Int) < j := by omega
        simp [k18_4, g8, g3, fa43, ld43, hlen, hil, g2, nc, lb, hj0, hj0', g1, hd12, hd12']
        exact fin _
    · have hj0' : ¬ (0 : Int) < j := by omega
      simp [k18_4, g8, g3, fa43, ld43, hlen, hil, g2, nc, lb, hj0, hj0']
      exact fin _
  · simp [k18_4, g8, g3, fa43, ld43, hlen, hil]
    exact fin _
theorem some_ok : ∀ m, SomeAll m
  | 0 => some_step fun m' h => by omega
  | m + 1 => some_step fun m' h => by cases h; exact some_ok m
end Go.Proofs.YtimcmpndblajnaaDoor.AM.Tr
