/- ImportsOrder: part 3. -/
import Derived.Test.YtknoiiacnfbkaaaIo2
set_option maxRecDepth 1000000
set_option linter.unusedVariables false
set_option linter.unusedSimpArgs false
namespace Go.Proofs.Ytknoiiacnfbkaaa.AM.Io
open Go.Proofs

/-- Numbers ordered, again numbers. -/
theorem sortI_nat (l : List Nat) (nd : l.Nodup) : ∃ m : List Nat, sortI (l.map fun x : Nat => (x : Int)) = m.map (fun x : Nat => (x : Int)) ∧ m.Pairwise (· < ·) ∧ ∀ x, x ∈ m ↔ x ∈ l := by
  obtain ⟨zs, hzs⟩ : ∃ zs, zs = l.map fun x : Nat => (x : Int) := ⟨_, rfl⟩
  have hp : (sortI zs).Perm zs := by rw [sortI_eq]; exact List.mergeSort_perm _ _
  have hs : (sortI zs).Pairwise (fun a b => decide (a ≤ b) = true) := by
    rw [sortI_eq]
    exact List.pairwise_mergeSort (le := fun x y : Int => decide (x ≤ y)) (fun a b c => by simp; omega) (fun a b => by simp; omega) zs
  have hnn : ∀ z ∈ sortI zs, 0 ≤ z := by
    intro z hz
    have := hp.mem_iff.1 hz
    rw [hzs] at this
    obtain ⟨x, _, rfl⟩ := List.mem_map.1 this
    omega
  have hnd : (sortI zs).Nodup := by
    refine hp.nodup_iff.2 ?_
    rw [hzs]
    unfold List.Nodup at nd ⊢
    rw [List.pairwise_map]
    exact nd.imp (fun h e => h (by omega))
  have hm : sortI zs = ((sortI zs).map Int.toNat).map (fun x : Nat => (x : Int)) := by
    rw [List.map_map]
    conv => lhs; rw [← List.map_id (sortI zs)]
    refine List.map_congr_left fun z hz => ?_
    have := hnn z hz
    simp
    omega
  refine ⟨(sortI zs).map Int.toNat, by rw [← hzs]; exact hm, ?_, fun x => ?_⟩
  · rw [List.pairwise_map]
    have h2 := hs.and hnd
    refine List.Pairwise.imp_of_mem ?_ h2
    intro a b ha hb hab
    have h3 := hnn a ha
    have h4 := hnn b hb
    simp at hab
    omega
  · rw [List.mem_map]
    constructor
    · rintro ⟨z, hz, rfl⟩
      have := hp.mem_iff.1 hz
      rw [hzs] at this
      obtain ⟨y, hy, rfl⟩ := List.mem_map.1 this
      simpa using hy
    · intro hx
      refine ⟨(x : Int), hp.mem_iff.2 ?_, by simp⟩
      rw [hzs]
      exact List.mem_map.2 ⟨x, hx, rfl⟩

theorem reach_end {n : Nat} {deps : List (List Int)} {frm : Int} {e L : List (Nat × V)} {σ : Store} {w7 : V} {out : List Nat} {bad : List Nat} (h7 : Gx bad (out.map nT) w7 σ) (hn : out.length ≤ 1000) (hnd : out.Nodup) (hr : ∀ x, x ∈ out ↔ (0 ≤ frm ∧ frm < n ∧ Rch (sc n deps) frm.toNat x)) (g7 : look e 7 = some w7) :
    wpc T k14_22 ⟨e, L, σ⟩ (giv [.tmp 4] fun v σ => ∃ t, snap σ deepN v = some t ∧ ReachR deps n frm t) := by
  rcases h7 with ⟨h, rfl⟩ | ⟨id, _, hne, h⟩
  · have ho : out = [] := by simpa using h
    subst ho
    have hc : callL T 26 [nilSl] σ = some (.tr (.tup []), σ) := callL_ext T26 rfl rfl extV_8 rfl
    have hc' : callL T 26 [.tr (.sc (.slice none 0 0))] σ = some (.tr (.tup []), σ) := hc
    simp [k14_22, g7, nilSl, hc']
    exact ⟨[], .inl ⟨rfl, rfl⟩, List.Pairwise.nil, hr⟩
  · have ho : out ≠ [] := by simpa using hne
    have e1 : out.map nT = (out.map fun x : Nat => (x : Int)).map (fun z => Tree.sc (.int .i64 z)) := by rw [List.map_map]; rfl
    rw [e1] at h
    obtain ⟨σ', s1, s2, _⟩ := srt_ints h (by simpa using ho) (by simp; omega)
    have hc : callL T 26 [w7] σ = some (.tr (.tup []), σ') := callL_ext T26 rfl rfl extV_8 s1
    obtain ⟨m, m1, m2, m3⟩ := sortI_nat out hnd
    rw [m1] at s2
    obtain ⟨c, hsn⟩ := s2.snap 399
    simp [k14_22, g7, hc]
    refine ⟨_, hsn, m, .inr ⟨c, ?_⟩, m2, fun x => by rw [m3, hr]⟩
    rw [List.map_map]; simp
end Go.Proofs.Ytknoiiacnfbkaaa.AM.Io
