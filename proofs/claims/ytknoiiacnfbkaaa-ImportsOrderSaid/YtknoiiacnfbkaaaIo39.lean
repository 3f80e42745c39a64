/- ImportsOrder: part 39. -/
import Derived.Test.YtknoiiacnfbkaaaIo38
set_option maxRecDepth 1000000
set_option linter.unusedVariables false
set_option linter.unusedSimpArgs false
namespace Go.Proofs.Ytknoiiacnfbkaaa.AM.Io
open Go.Proofs

theorem erase_mem {l : List S} {j : Nat} {y : S} (nd : l.Nodup) (h : l[j]? = some y) (x : S) : x ∈ l.eraseIdx j ↔ x ∈ l ∧ x ≠ y := by
  obtain ⟨a, b, rfl, rfl⟩ : ∃ a b, l = a ++ y :: b ∧ j = a.length := by
    obtain ⟨hj, he⟩ := List.getElem?_eq_some_iff.1 h
    refine ⟨l.take j, l.drop (j + 1), ?_, by rw [List.length_take]; omega⟩
    rw [← he, List.getElem_cons_drop, List.take_append_drop]
  rw [List.eraseIdx_append_of_length_le (Nat.le_refl _), Nat.sub_self, List.eraseIdx_cons_zero]
  rw [List.nodup_append] at nd
  obtain ⟨n1, n2, n3⟩ := nd
  obtain ⟨n4, n5⟩ := List.nodup_cons.1 n2
  simp only [List.mem_append, List.mem_cons]
  constructor
  · rintro (h | h)
    · exact ⟨.inl h, fun e => n3 x h y (by simp) e⟩
    · exact ⟨.inr (.inr h), fun e => n4 (by rw [← e]; exact h)⟩
  · rintro ⟨h | h | h, h2⟩
    · exact .inl h
    · exact absurd h h2
    · exact .inr h
theorem nd_uniq : ∀ {N : List (S × Nat)} {x : S} {p q : Nat}, (N.map Prod.fst).Nodup → (x, p) ∈ N → (x, q) ∈ N → p = q
  | [], x, p, q, _, h, _ => by simp at h
  | a :: N, x, p, q, nd, hp, hq => by
    rw [List.map_cons] at nd
    obtain ⟨n1, n2⟩ := List.nodup_cons.1 nd
    rcases List.mem_cons.1 hp with rfl | h1
    · rcases List.mem_cons.1 hq with h | h2
      · cases h; rfl
      · exact absurd (List.mem_map.2 ⟨_, h2, rfl⟩) n1
    · rcases List.mem_cons.1 hq with rfl | h2
      · exact absurd (List.mem_map.2 ⟨_, h1, rfl⟩) n1
      · exact nd_uniq n2 h1 h2
theorem lt_nd {l : List S} (h : l.Pairwise lt) : l.Nodup := List.Pairwise.imp (fun {a b} hab e => by subst e; exact lt_asym hab hab) h
def ExN (id : Nat) (l : List S) (w : V) (σ : Store) : Prop := (l = [] ∧ w = nilSl) ∨ Ex id l w σ
theorem ExN.rds {id : Nat} {l : List S} {w : V} {σ : Store} (h : ExN id l w σ) : Rds σ w l := by
  rcases h with ⟨rfl, rfl⟩ | h
  · exact rds_nil σ
  · exact h.rds
theorem ExN.snap {id : Nat} {l : List S} {w : V} {σ : Store} (h : ExN id l w σ) (d : Nat) : ∃ t, Go.Proofs.Ytknoiiacnfbkaaa.AM.snap σ (d + 1) w = some t ∧ Rw (l.map sT) (.tr t) := by
  rcases h with ⟨rfl, rfl⟩ | h
  · exact (Root.nil σ).snap d
  · exact h.snap d
theorem ExN.keep {id : Nat} {l : List S} {w : V} {σ σ' : Store} (h : ExN id l w σ) (hs' : id < σ.length → σ'[id]? = σ[id]?) : ExN id l w σ' := by
  rcases h with h | h
  · exact .inl h
  · exact .inr (h.keep (hs' h.lt))

section
variable {N : List (S × Nat)} {ds : List (List S)} {ts : List Tree} {dt : Tree} {im id : Nat}
theorem ord_loop {e L : List (Nat × V)} {σ : Store} {R0 : List S} {w7 : V}
    (hd : Rw ts (.tr dt)) (hL : LsS ds ts) (hdl : ∀ l ∈ ds, l.length ≤ 1000) (hN12 : ∀ p ∈ N, p.2 ≤ 100) (hNl : N.length ≤ 12) (hnd : (N.map Prod.fst).Nodup)
    (him : 2 < im) (hid : 2 < id) (hid1 : id ≠ im) (hid2 : id ≠ im + 1)
    (h0 : σ[0]? = some (.row [.tr dt] 0)) (h1 : MapOf encS (nm N) 1 σ) (h2 : σ[2]? = some (.row [.mp 1] 0)) (hm : MapOf encS [] im σ) (hp : σ[im + 1]? = some (.row [.mp im] 0))
    (hR : R0.Pairwise lt) (hRm : ∀ x, x ∈ R0 ↔ x ∈ N.map Prod.fst) (h7 : ExN id R0 w7 σ)
    (g7 : look e 7 = some w7) (g12 : look e 12 = some (.ptr (im + 1) 0 0)) (g13 : look e 13 = some (.fn (.func 17) [] [.ptr 2 0 0, .ptr 0 0 0, .ptr (im + 1) 0 0])) (g14 : look e 14 = some nilSl) :
    wpc T (.block 2 (.loop k7_17)) ⟨e, L, σ⟩ (giv [.tmp 4, .tmp 5] fun v σ => ∃ t, snap σ deepN v = some t ∧ ImpR N ds t) := by
  simp
  obtain ⟨I, hI⟩ : ∃ I : Nat → St → Prop, I = (fun k s => ∃ e L σ, ∃ O R : List S, ∃ r14 w14 w7 tk, s = ⟨e, L, σ⟩ ∧ k = R.length ∧ ChainOk (StpI N ds) O ∧ R.Pairwise lt ∧ (∀ x, x ∈ R ↔ x ∈ N.map Prod.fst ∧ x ∉ O)
    ∧ (σ[0]? = some (.row [.tr dt] 0) ∧ MapOf encS (nm N) 1 σ ∧ σ[2]? = some (.row [.mp 1] 0) ∧ MapOf encS tk im σ ∧ Tk tk O ∧ σ[im + 1]? = some (.row [.mp im] 0) ∧ Root r14 (O.map sT) w14 σ ∧ ExN id R w7 σ)
    ∧ (im + 1 < σ.length ∧ ∀ j ∈ r14, 2 < j ∧ j ≠ im ∧ j ≠ im + 1 ∧ j ≠ id)
    ∧ look e 7 = some w7 ∧ look e 12 = some (.ptr (im + 1) 0 0) ∧ look e 13 = some (.fn (.func 17) [] [.ptr 2 0 0, .ptr 0 0 0, .ptr (im + 1) 0 0]) ∧ look e 14 = some w14) := ⟨_, rfl⟩
  refine wpc_loop I R0.length _ ?_ ?_
  · rw [hI]
    exact ⟨e, L, σ, [], R0, [], nilSl, w7, [], rfl, rfl, ChainOk.nil, hR, fun x => by rw [hRm x]; simp, ⟨h0, h1, h2, hm, fun d => by simp [getK], hp, Root.nil _, h7⟩, ⟨(List.getElem?_eq_some_iff.1 hp).1, by simp⟩, g7, g12, g13, g14⟩
  clear h0 h1 h2 hm hp hR hRm h7 g7 g12 g13 g14
  intro k st hIs
  rw [hI] at hIs
  obtain ⟨e, L, σ, O, R, r14, w14, w7, tk, rfl, rfl, hch, hsrt, hRm, ⟨h0, h1, h2, hm, hk, hp, h14, h7⟩, ⟨hil, hd14⟩, g7, g12, g13, g14⟩ := hIs
  have hRnd := lt_nd hsrt
  have hRl : R.length ≤ N.length := by
    have := subS_len hRnd (fun x hx => ((hRm x).1 hx).1)
    simpa using this
  have hOl := chainI_len hch
  obtain ⟨P, hPd⟩ : ∃ P : S → Bool, ∀ y, P y = true ↔ ∃ q, (y, q) ∈ N ∧ RdyI ds O q := by
    classical
    exact ⟨fun y => decide (∃ q, (y, q) ∈ N ∧ RdyI ds O q), fun y => by simp⟩
  have hPc : ∀ y ∈ R, callV (callL T) (.fn (.func 17) [] [.ptr 2 0 0, .ptr 0 0 0, .ptr (im + 1) 0 0]) [sv y] σ = some (bv (P y), σ) := by
    intro y hy
    obtain ⟨⟨y', q⟩, hq, rfl⟩ := List.mem_map.1 ((hRm y).1 hy).1
    obtain ⟨b, hb1, hb2⟩ := ready_ok hd hL hdl hN12 h0 h1 h2 hm hk hp hnd hq
    have hbP : b = P y' := by
      rw [Bool.eq_iff_iff, hb2, hPd]
      exact ⟨fun h => ⟨q, hq, h⟩, fun ⟨q', h1, h2⟩ => by rw [nd_uniq hnd hq h1]; exact h2⟩
    rw [← hbP]
    exact hb1
  obtain ⟨r, hix, hr⟩ := indexFS_ok h7.rds (by omega) hPc
  rcases hr with ⟨rfl, hno⟩ | ⟨j, y, rfl, hy, hPy, hmin⟩
  · obtain ⟨tO, o1, o2⟩ := h14.snap 398
    obtain ⟨tR, p1, p2⟩ := h7.snap 398
    have hsn := snap_tup2 o1 p1
    simp [k7_17, g7, g13, hix, g14, hsn]
    refine ⟨O, R, tO, tR, ⟨hch, fun x hx => ?_⟩, hOl, hRl, o2, hsrt, hRm, p2, rfl⟩
    obtain ⟨⟨i, hi1, hi2⟩, hxO, _⟩ := hx
    have := hno x ((hRm x).2 ⟨List.mem_map.2 ⟨_, hi1, rfl⟩, hxO⟩)
    rw [(hPd x).2 ⟨i, hi1, hi2⟩] at this
    cases this
  · have hjl := (List.getElem?_eq_some_iff.1 hy).1
    have hyR := List.mem_of_getElem? hy
    have hj0 : ¬ (j : Int) < 0 := by omega
    obtain ⟨p1, hp1, hp2⟩ := h7.rds.at_ j y hy
    have lp : opLoad 1 false (.ptr (im + 1) 0 0) σ = some (.mp im) := by simp [opLoad, obCells, hp, slice?]
    obtain ⟨σ1, a1, a2, a3, a4⟩ := map_update (enc := encS) keyEq_str hm (kind := .string) (k := y) (kx := sv y) (asKey_str _) (iv 1)
    have hex : Ex id R w7 σ := by
      rcases h7 with ⟨rfl, _⟩ | h
      · simp at hyR
      · exact h
    have hidl := hex.lt
    have hex1 : Ex id R w7 σ1 := hex.keep (a3.same id hid1 hidl)
    obtain ⟨q1, hq1, hq2⟩ := hex1.rds.at_ j y hy
    have h14' : Root r14 (O.map sT) w14 σ1 := h14.keep (fun i hi => a3.same i (hd14 i hi).2.1 (h14.lt i hi))
    have hbs := fun σ => bs1 (σ := σ) (t := sT y) (.sc (.string ⟨⟨[]⟩⟩)) rfl
    obtain ⟨r14', w14', σ2, b1, b2, b3, b4, b5⟩ := root_app (t := sT y) (b := 16) h14' rfl (ones_sT _) (by omega) (by simp; omega) (some 1)
    rw [← List.map_singleton (f := sT), ← List.map_append] at b2
    have hex2 : Ex id R w7 σ2 := hex1.keep (b4 id (fun h => (hd14 id h).2.2.2 rfl) (by omega))
    obtain ⟨w7', σ3, c1, c2, c3, c4⟩ := delete_ok hex2 hjl (by omega)
    have w1 : IntKind.i64.wrap ((j : Int) + 1) = ((j + 1 : Nat) : Int) := w64 (by omega) (by omega)
    have hd14' : ∀ i ∈ r14', 2 < i ∧ i ≠ im ∧ i ≠ im + 1 ∧ i ≠ id := by
      intro i hi
      rcases b3 with rfl | rfl
      · exact hd14 i hi
      · simp at hi; omega
    have same : ∀ i, i ≠ im → i ≠ id → i ∉ r14 → i < σ.length → σ3[i]? = σ[i]? := by
      intro i i1 i2 i3 i4
      rw [c3 i i2, b4 i i3 (by omega), a3.same i i1 i4]
    have same0 : ∀ i, i ≤ 2 → σ3[i]? = σ[i]? := by
      intro i hi
      exact same i (by omega) (by omega) (fun h => by have := (hd14 i h).1; omega) (by omega)
    have hyO := ((hRm y).1 hyR).2
    have hst : StpI N ds O y := by
      refine ⟨(hPd y).1 hPy, hyO, fun z i hz hzO hzr => ?_⟩
      have hzR : z ∈ R := (hRm z).2 ⟨List.mem_map.2 ⟨_, hz, rfl⟩, hzO⟩
      have hzP : P z = true := (hPd z).2 ⟨i, hz, hzr⟩
      obtain ⟨m, hm⟩ := List.getElem?_of_mem hzR
      have hml := (List.getElem?_eq_some_iff.1 hm).1
      intro hlt
      by_cases hmj : m < j
      · have := hmin m hmj z hm
        rw [hzP] at this; cases this
      · by_cases he : m = j
        · subst he
          rw [hy] at hm
          cases hm
          exact lt_asym hlt hlt
        · rw [List.pairwise_iff_getElem] at hsrt
          have := hsrt j m hjl hml (by omega)
          rw [(List.getElem?_eq_some_iff.1 hy).2, (List.getElem?_eq_some_iff.1 hm).2] at this
          exact lt_asym hlt this
    simp [k7_17, g7, g13, hix, g14, hj0, k7_21, g12, lp, hp1, hp2, a1, hq1, hq2, hbs, b1, w1, c1, -Int.natCast_add]
    refine ⟨(R.eraseIdx j).length, by rw [List.length_eraseIdx_of_lt hjl]; omega, ?_⟩
    rw [hI]
    refine ⟨_, _, σ3, O ++ [y], R.eraseIdx j, r14', w14', w7', setK y (iv 1) tk, rfl, rfl, hch.snoc hst, hsrt.sublist (List.eraseIdx_sublist _ _), fun x => ?_, ⟨by rw [same0 0 (by omega)]; exact h0, ?_, by rw [same0 2 (by omega)]; exact h2, ?_, ?_, ?_, b2.keep (fun i hi => c3 i (hd14' i hi).2.2.2), .inr c2⟩, ⟨by omega, hd14'⟩, by simp, by simp [g12], by simp [g13], by simp⟩
    · rw [erase_mem hRnd hy x, hRm x]
      simp only [List.mem_append, List.mem_singleton, not_or, and_assoc]
    · obtain ⟨es, cl, d1, d2⟩ := h1
      exact ⟨es, cl, by rw [same0 1 (by omega)]; exact d1, d2⟩
    · obtain ⟨es, cl, d1, d2⟩ := a2
      exact ⟨es, cl, by rw [c3 im (Ne.symm hid1), b4 im (fun h => (hd14 im h).2.1 rfl) (by omega)]; exact d1, d2⟩
    · intro d
      rw [getK_set, hk d]
      by_cases hdy : d = y
      · simp [hdy]
      · simp [hdy]
    · rw [same (im + 1) (by omega) (Ne.symm hid2) (fun h => (hd14 _ h).2.2.1 rfl) hil]
      exact hp
end
end Go.Proofs.Ytknoiiacnfbkaaa.AM.Io
