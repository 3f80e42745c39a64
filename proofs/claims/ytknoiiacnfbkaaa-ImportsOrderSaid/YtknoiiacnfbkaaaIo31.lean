/- ImportsOrder: part 31. -/
import Derived.Test.YtknoiiacnfbkaaaIo20
set_option maxRecDepth 1000000
set_option linter.unusedVariables false
set_option linter.unusedSimpArgs false
namespace Go.Proofs.Ytknoiiacnfbkaaa.AM.Io
open Go.Proofs

abbrev S := List UInt8
abbrev sT (s : S) : Tree := .sc (.string ⟨⟨s⟩⟩)
abbrev sv (s : S) : V := .tr (sT s)
theorem bin_strlt (s t : ByteArray) : opBin .other .lss (.tr (.sc (.string s))) (.tr (.sc (.string t))) = some (.tr (.sc (.bool (bytesLt s.data.toList t.data.toList)))) := by simp [opBin, isNil, notNil, binSc, binStr]
theorem seq_ (s t : S) : opBin .other .eql (sv s) (sv t) = some (bv (decide (s = t))) := by rw [bin_str]; simp [bytesEq_iff']
theorem sne_ (s t : S) : opBin .other .neq (sv s) (sv t) = some (bv (!decide (s = t))) := by rw [bin_strne]; simp [bytesEq_iff']
theorem slt_ (s t : S) : opBin .other .lss (sv s) (sv t) = some (bv (bytesLt s t)) := by rw [bin_strlt]
def lt (a b : S) : Prop := bytesLt a b = true
theorem lt_asym {a b : S} (h : lt a b) (k : lt b a) : False := by
  unfold lt at h k
  rw [bytesLt_lt] at h k
  exact List.lt_asymm h k
theorem lt_tri {a b : S} (h : ¬ lt a b) (k : ¬ lt b a) : a = b := by
  unfold lt at h k
  rw [bytesLt_lt] at h k
  exact List.le_antisymm (List.not_lt.1 k) (List.not_lt.1 h)
theorem lt_trans {a b c : S} (h : lt a b) (k : lt b c) : lt a c := by
  unfold lt at *
  rw [bytesLt_lt] at *
  exact List.lt_trans h k
theorem ones_sT (l : List S) : ones (l.map sT) := ones_str l

/-- A call that sees trees, gives what is no row, at arguments with places: the store is left. -/
theorem T_iso0 {f : FuncId} {fn : HFn} {vs : List V} {ts : List Tree} {t : Tree} {σ : Store} (hf : T f = some fn) (hm : fn.mode = .iso) (hl : fn.nargs = vs.length) (hs : snapL (snap σ deepN) vs = some ts) (hn : noRows t = true)
    (h : ∀ σ, callL T f (ts.map .tr) σ = some (.tr t, σ)) : callL T f vs σ = some (.tr t, σ) := by
  obtain ⟨m, hm'⟩ := callL_some.1 (h [])
  cases m with
  | zero => simp [callA] at hm'
  | succ m =>
    rw [callA, hf] at hm'
    simp only [hm, snapL_tr] at hm'
    split at hm'
    · split at hm'
      · cases hm'
      · rename_i v σ1 hr
        split at hm'
        · cases hm'
        · rename_i t' hst
          have e : t' = t := by
            split at hm'
            · cases hm'; rfl
            · split at hm'
              · cases hm'; rfl
              · cases hm'
          subst e
          refine callL_some.2 ⟨m + 1, ?_⟩
          rw [callA, hf]
          simp only [hm, hl, hs, hr, hst, hn, if_true]
    · cases hm'

theorem among_ok {l : List S} {t : Tree} (ht : Rw (l.map sT) (.tr t)) (hl : l.length ≤ 100000) (x : S) : ∃ k : Int, (∀ σ, callL T 22 [.tr t, sv x] σ = some (iv k, σ)) ∧ (0 ≤ k ↔ x ∈ l) := by
  suffices hh : ∃ r, (∀ σ, callL T 22 ([t, sT x].map .tr) σ = some (.tr r, σ)) ∧ ∃ k : Int, r = .sc (.int .i64 k) ∧ (0 ≤ k ↔ x ∈ l) by
    obtain ⟨r, h1, k, rfl, h2⟩ := hh
    exact ⟨k, h1, h2⟩
  refine call_iso T22 rfl rfl ?_
  have hlen : ∀ σ, opLen 1 (.tr t) σ = some (nv .i64 l.length) := fun σ => by rw [rw_len ht, List.length_map]
  simp
  obtain ⟨I, hI⟩ : ∃ I : Nat → St → Prop, I = (fun i s => i ≤ l.length ∧ x ∉ l.take i ∧ ∃ e L, s = ⟨e, L, []⟩ ∧ look e 0 = some (.tr t) ∧ look e 1 = some (sv x) ∧ look e 5 = some (nv .i64 i)) := ⟨_, rfl⟩
  refine wpc_up l.length I ?_ ?_
  · rw [hI]
    exact ⟨Nat.zero_le _, by simp, _, _, rfl, by simp, by simp, by simp⟩
  intro i s hIs
  rw [hI] at hIs
  obtain ⟨hi, hx, e, L, rfl, g0, g1, g5⟩ := hIs
  by_cases hil : i < l.length
  · obtain ⟨y, hy⟩ : ∃ y, l[i]? = some y := ⟨_, List.getElem?_eq_getElem hil⟩
    have hyT : (l.map sT)[i]? = some (sT y) := by rw [List.getElem?_map, hy]; rfl
    have hia := fun σ => rw_iaddr (σ := σ) ht hyT .i64
    have hld := fun σ => rw_load (σ := σ) hyT
    have w1 : IntKind.i64.wrap ((i : Int) + 1) = ((i + 1 : Nat) : Int) := w64 (by omega) (by omega)
    have heq := seq_ y x
    by_cases hxy : y = x
    · subst hxy
      rw [decide_eq_true rfl] at heq
      simp [k22_2, g5, g0, hlen, hil, k22_4, hia, hld, g1, heq, -bin_str]
      exact List.mem_of_getElem? hy
    · rw [decide_eq_false hxy] at heq
      simp [k22_2, g5, g0, hlen, hil, k22_4, hia, hld, g1, heq, -bin_str, k22_7, w1, -Int.natCast_add]
      rw [hI]
      refine ⟨by omega, ?_, _, _, rfl, by simp [g0], by simp [g1], by simp⟩
      rw [List.take_add_one, hy]
      simp only [Option.toList_some, List.mem_append, List.mem_singleton, not_or]
      exact ⟨hx, fun e => hxy e.symm⟩
  · have hie : i = l.length := by omega
    subst hie
    rw [List.take_of_length_le (Nat.le_refl _)] at hx
    simp [k22_2, g5, g0, hlen, k22_8]
    exact hx
theorem among_gx {l : List S} {w : V} {bad : List Nat} {σ : Store} (h : Gx bad (l.map sT) w σ) (hl : l.length ≤ 100000) (x : S) : ∃ k : Int, callL T 22 [w, sv x] σ = some (iv k, σ) ∧ (0 ≤ k ↔ x ∈ l) := by
  obtain ⟨t, h1, h2⟩ := h.snap 399
  obtain ⟨k, h3, h4⟩ := among_ok h2 hl x
  refine ⟨k, T_iso0 (ts := [t, sT x]) (t := .sc (.int .i64 k)) T22 rfl rfl ?_ rfl h3, h4⟩
  have h1' : snap σ deepN w = some t := h1
  simp only [snapL, h1', snap_tr]

/-- The same texts? -/
theorem lists_ok {l : List S} {t t' : Tree} (ht : Rw (l.map sT) (.tr t)) (ht' : Rw (l.map sT) (.tr t')) (hl : l.length ≤ 100000) (σ : Store) : callL T 9 [.tr t, .tr t'] σ = some (bv true, σ) := by
  suffices hh : ∃ r, (∀ σ, callL T 9 ([t, t'].map .tr) σ = some (.tr r, σ)) ∧ (r = .sc (.bool true)) by
    obtain ⟨r, h1, rfl⟩ := hh
    exact h1 σ
  refine call_iso T9 rfl rfl ?_
  have hlen : ∀ σ, opLen 1 (.tr t) σ = some (nv .i64 l.length) := fun σ => by rw [rw_len ht, List.length_map]
  have hlen' : ∀ σ, opLen 1 (.tr t') σ = some (nv .i64 l.length) := fun σ => by rw [rw_len ht', List.length_map]
  simp [hlen, hlen', k9_3]
  obtain ⟨I, hI⟩ : ∃ I : Nat → St → Prop, I = (fun i s => i ≤ l.length ∧ ∃ e L, s = ⟨e, L, []⟩ ∧ look e 0 = some (.tr t) ∧ look e 1 = some (.tr t') ∧ look e 5 = some (nv .i64 i)) := ⟨_, rfl⟩
  refine wpc_up l.length I ?_ ?_
  · rw [hI]
    exact ⟨Nat.zero_le _, _, _, rfl, by simp, by simp, by simp⟩
  intro i s hIs
  rw [hI] at hIs
  obtain ⟨hi, e, L, rfl, g0, g1, g5⟩ := hIs
  by_cases hil : i < l.length
  · obtain ⟨y, hy⟩ : ∃ y, l[i]? = some y := ⟨_, List.getElem?_eq_getElem hil⟩
    have hyT : (l.map sT)[i]? = some (sT y) := by rw [List.getElem?_map, hy]; rfl
    have hia := fun σ => rw_iaddr (σ := σ) ht hyT .i64
    have hia' := fun σ => rw_iaddr (σ := σ) ht' hyT .i64
    have hld := fun σ => rw_load (σ := σ) hyT
    have w1 : IntKind.i64.wrap ((i : Int) + 1) = ((i + 1 : Nat) : Int) := w64 (by omega) (by omega)
    have hne : opBin .other .neq (sv y) (sv y) = some (bv false) := by rw [sne_]; simp
    simp [k9_5, g5, g0, g1, hlen, hil, k9_7, hia, hia', hld, hne, -bin_strne, k9_10, w1, -Int.natCast_add]
    rw [hI]
    exact ⟨by omega, _, _, rfl, by simp [g0], by simp [g1], by simp⟩
  · simp [k9_5, g5, g0, hlen, hil, k9_11]
end Go.Proofs.Ytknoiiacnfbkaaa.AM.Io
