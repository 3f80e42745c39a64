/- IntRing: part 9. -/
import Derived.Test.YtjacddclpcelmaaBr8
set_option maxRecDepth 1000000
set_option linter.unusedVariables false
set_option linter.unusedSimpArgs false
namespace Go.Proofs.Ytjacddclpcelmaa.AM.Br
open Go.Proofs

/-- A call that sees trees and gives whole numbers or nothing: the store stays. -/
theorem T_iso0 {T : FTab} {f : FuncId} {fn : HFn} {vs : List V} {ts : List Tree} {t : Tree} {σ : Store} (hf : T f = some fn) (hm : fn.mode = .iso) (hl : fn.nargs = vs.length)
    (hs : snapL (snap σ deepN) vs = some ts) (h : callL T f (ts.map .tr) [] = some (.tr t, [])) (hn : noRows t = true) : callL T f vs σ = some (.tr t, σ) := by
  obtain ⟨m, hm'⟩ := callL_some.1 h
  cases m with
  | zero => simp [callA] at hm'
  | succ m =>
    rw [callA, hf] at hm'
    simp only [hm, snapL_tr] at hm'
    split at hm'
    · split at hm'
      · cases hm'
      · rename_i v σ1 hr
        split at hm'
        · cases hm'
        · rename_i t' hst
          have e : t' = t := by
            split at hm'
            · cases hm'; rfl
            · split at hm'
              · cases hm'; rfl
              · cases hm'
          subst e
          refine callL_some.2 ⟨m + 1, ?_⟩
          rw [callA, hf]
          simp only [hm, hl, hs, hr, hst, hn, if_true]
    · cases hm'
theorem quiet_gen {c : CallA} {f : FuncId} {vs : List V} {ts : List Tree} {σ σ1 : Store} {v : V} {r : Tree} (hs : snapL (snap σ deepN) vs = some ts) (h : c f (ts.map .tr) [] = some (v, σ1)) (hr : snapF σ1 deepN v = some r) : quietCall c f vs σ = some (.tr r, σ) := by
  unfold quietCall
  simp only [hs, h, hr]

/-- The number that grows by noughts. -/
structure Dst (S0 S1 S2 : Ob) (x : Bool) (σ : Store) (pe : Nat) (w : V) (m : List Nat) : Prop where
  h0 : σ[0]? = some S0
  h1 : σ[1]? = some S1
  h2 : σ[2]? = some S2
  hp : σ[pe]? = some (.row [bv x, w] 0)
  pe3 : 3 ≤ pe
  hw : (m = [] ∧ w = .tr (.sc (.slice none 0 0))) ∨ ∃ id g, m ≠ [] ∧ w = .own id g 0 m.length 1 none ∧ σ[id]? = some (.row (cK .u32 m) g) ∧ 3 ≤ id ∧ id ≠ pe

section
variable {S0 S1 S2 : Ob} {x : Bool} {σ : Store} {pe : Nat} {w : V} {m : List Nat}
theorem set_at {i j : Nat} {o o' : Ob} (h : σ[i]? = some o) (hne : i ≠ j) : (σ.set j o')[i]? = some o := by
  rw [List.getElem?_set_ne (Ne.symm hne)]; exact h
theorem set_same {i : Nat} {o o' : Ob} (h : σ[i]? = some o) : (σ.set i o')[i]? = some o' := by
  have := (List.getElem?_eq_some_iff.1 h).1
  rw [List.getElem?_set_self this]
theorem push_at {i : Nat} {o : Ob} {s : Store} (h : σ[i]? = some o) : (σ ++ s)[i]? = some o := by
  rw [List.getElem?_append_left (List.getElem?_eq_some_iff.1 h).1]; exact h
theorem Dst.push (h : Dst S0 S1 S2 x σ pe w m) (s : Store) : Dst S0 S1 S2 x (σ ++ s) pe w m := by
  refine ⟨push_at h.h0, push_at h.h1, push_at h.h2, push_at h.hp, h.pe3, ?_⟩
  rcases h.hw with h | ⟨id, g, a, b, c, d⟩
  · exact .inl h
  · exact .inr ⟨id, g, a, b, push_at c, d⟩
theorem Dst.one (h : Dst S0 S1 S2 x σ pe w m) : oneV w = true := by
  rcases h.hw with ⟨_, rfl⟩ | ⟨id, g, _, rfl, _⟩ <;> rfl
theorem Dst.load (h : Dst S0 S1 S2 x σ pe w m) : opLoad 1 false (.ptr pe 0 1) σ = some w := by
  simp only [opLoad, obCells, h.hp]
  rfl
theorem Dst.step (h : Dst S0 S1 S2 x σ pe w m) (hm : m.length ≤ 1000) : ∃ w' σ1 σ2, opAppend 1 4 w (.tr (.row [.sc (.int .u32 0)] 1 (some 1))) σ = some (w', σ1) ∧ opStore 1 (.ptr pe 0 1) w' σ1 = some σ2 ∧ Dst S0 S1 S2 x σ2 pe w' (m ++ [0]) := by
  have hs : IsSl uE [0] (.tr (.row [.sc (.int .u32 0)] 1 (some 1))) := .inr ⟨some 1, rfl⟩
  have store : ∀ {σ1 : Store} {w1 w' : V}, σ1[pe]? = some (.row [bv x, w1] 0) → oneV w' = true → opStore 1 (.ptr pe 0 1) w' σ1 = some (σ1.set pe (.row [bv x, w'] 0)) := by
    intro σ1 w1 w' hp ho
    simp [opStore, cells_one ho, obPut, hp, ho]
  have pe3 := h.pe3
  rcases h.hw with ⟨rfl, rfl⟩ | ⟨id, g, h0, rfl, hid, h3, hne⟩
  · refine ⟨_, _, _, app_nil hs (by simp) (room_ok (by simp) (by omega)), store (push_at h.hp) rfl, ?_⟩
    have hl : pe < σ.length := (List.getElem?_eq_some_iff.1 h.hp).1
    refine ⟨set_at (push_at h.h0) (by omega), set_at (push_at h.h1) (by omega), set_at (push_at h.h2) (by omega), set_same (push_at h.hp), h.pe3, .inr ⟨σ.length, 0, by simp, by simp, ?_, by omega, by omega⟩⟩
    refine set_at ?_ (by omega)
    simp
  · refine ⟨_, _, _, app_own hid rfl hs (by simp) (room_ok (by simp) (by omega)) (room_ok (by omega) (by omega)), store (set_at h.hp (Ne.symm hne)) rfl, ?_⟩
    refine ⟨set_at (set_at h.h0 (by omega)) (by omega), set_at (set_at h.h1 (by omega)) (by omega), set_at (set_at h.h2 (by omega)) (by omega), set_same (set_at h.hp (Ne.symm hne)), h.pe3, .inr ⟨id, g + 1, by simp, by simp, ?_, h3, hne⟩⟩
    exact set_at (set_same hid) hne
/-- The number as it stands. -/
theorem Dst.val (h : Dst S0 S1 S2 x σ pe w m) (hd : dig 4294967296 m) : opLoad 2 true (.ptr pe 0 0) σ = some (mkAgg [bv x, w]) ∧ ∃ t, snap σ deepN (mkAgg [bv x, w]) = some t ∧ IsBig x m t := by
  have hld : opLoad 2 true (.ptr pe 0 0) σ = some (mkAgg [bv x, w]) := by
    simp only [opLoad, obCells, h.hp]
    rfl
  refine ⟨hld, ?_⟩
  rcases h.hw with ⟨rfl, rfl⟩ | ⟨id, g, h0, rfl, hid, h3, hne⟩
  · exact ⟨.agg [.sc (.bool x), .sc (.slice none 0 0)], rfl, ⟨_, rfl, .inl ⟨rfl, rfl⟩⟩, hd⟩
  · refine ⟨.agg [.sc (.bool x), .row (m.flatMap uE) m.length none], ?_, ⟨_, rfl, .inr ⟨none, rfl⟩⟩, hd⟩
    have h1 := fun d => snap_own (d := d) (cap := none) hid rfl
    simp [snap_deep, snap_agg, h1]
theorem ld_row {i : Nat} {a b : Tree} {σ : Store} (h : σ[i]? = some (.row [.tr a, .tr b] 0)) : opLoad 2 true (.ptr i 0 0) σ = some (.tr (.agg [a, b])) := by
  simp only [opLoad, obCells, h]
  rfl
theorem ld_row0 {i : Nat} {a b : V} {σ : Store} (h : σ[i]? = some (.row [a, b] 0)) : opLoad 1 false (.ptr i 0 0) σ = some a := by
  simp only [opLoad, obCells, h]
  rfl
theorem ld_row1 {i : Nat} {a b : V} {σ : Store} (h : σ[i]? = some (.row [a, b] 0)) : opLoad 1 false (.ptr i 0 1) σ = some b := by
  simp only [opLoad, obCells, h]
  rfl
theorem st_row {i : Nat} {a b : V} {n : Bool} {t : Tree} {σ : Store} (h : σ[i]? = some (.row [a, b] 0)) (ht : oneV (.tr t) = true) : opStore 2 (.ptr i 0 0) (.tr (.agg [.sc (.bool n), t])) σ = some (σ.set i (.row [bv n, .tr t] 0)) := by
  simp [opStore, obPut, h, ht, splice_all]
theorem fresh_row {σ : Store} {a b : Tree} : freshOk σ (σ ++ [.row [.tr a, .tr b] 0]) = true := by
  simp [freshOk, obVs, dirs.dirsL, dirs]
theorem fresh_same {σ : Store} : freshOk σ σ = true := by simp [freshOk, obVs, dirs.dirsL]
theorem at_len {σ : Store} {o : Ob} {s : Store} : (σ ++ o :: s)[σ.length]? = some o := by simp
end
theorem val_noughts (B : Nat) (l : List Nat) : ∀ k, val B (l ++ List.replicate k 0) = val B l := by
  intro k
  rw [val_append, val_rep]
  simp
theorem num_zero {N : Nat} {r : Tree} (h : IsNum N 0 r) : ∃ s, r = .agg [.sc (.bool false), s] ∧ IsSl uE [] (.tr s) ∧ noRows r = true := by
  obtain ⟨neg, l, hb, hc, hne, hv, _⟩ := h
  have hz : val 4294967296 l = 0 := by
    unfold ival at hv
    cases neg <;> simp at hv <;> omega
  have hl := can_zero (B := 4294967296) (by decide) hc hz
  subst hl
  cases neg with
  | true => exact absurd rfl (hne rfl)
  | false =>
    obtain ⟨s, rfl, is⟩ := hb.ex
    refine ⟨s, rfl, is, ?_⟩
    rcases is with ⟨_, h⟩ | ⟨c, h⟩ <;> cases h <;> rfl
end Go.Proofs.Ytjacddclpcelmaa.AM.Br
