/- IntText: part 2. -/
import Derived.Test.YtjacddclpcelmaaBi1
import Derived.Test.YtjacddclpcelmaaAm3
import Derived.Test.YtjacddclpcelmaaBiMath
set_option maxRecDepth 1000000
set_option linter.unusedVariables false
set_option linter.unusedSimpArgs false
namespace Go.Proofs.Ytjacddclpcelmaa.AM.Bi
open Go.Proofs

@[simp] theorem ld2_0 {a b : Tree} {σ : Store} : opLoad 1 false (.tr (.rptr [a, b] 0)) σ = some (.tr a) := rfl
@[simp] theorem ld2_1 {a b : Tree} {σ : Store} : opLoad 1 false (.tr (.rptr [a, b] 1)) σ = some (.tr b) := rfl
@[simp] theorem ld2_2 {a b : Tree} {σ : Store} : opLoad 2 true (.tr (.rptr [a, b] 0)) σ = some (.tr (.agg [a, b])) := rfl
@[simp] theorem ldt2_0 {a b : Tree} : opLdt 1 false (.tr (.rptr [a, b] 0)) = some (.tr a) := rfl
@[simp] theorem ldt2_1 {a b : Tree} : opLdt 1 false (.tr (.rptr [a, b] 1)) = some (.tr b) := rfl
@[simp] theorem box2 {a b : Tree} {σ : Store} : opBoxB true (.tr (.agg [a, b])) σ = some (.tr (.rptr [a, b] 0), σ) := rfl
@[simp] theorem fad {cs : List Tree} {o n : Nat} : opFaddr o (.tr (.rptr cs n)) = some (.tr (.rptr cs (n + o))) := rfl

theorem cut_all {l : List Nat} {t : Tree} {k : IntKind} {n : Nat} (h : IsSl (nE k) l (.tr t)) (hn : n ≤ l.length) : ∃ t', (∀ σ, opSlice 1 (.tr t) none (some (nv .i64 n)) none σ = some (.tr t')) ∧ IsSl (nE k) (l.take n) (.tr t') := by
  obtain ⟨v', hcut, hv'⟩ := isSl_cut_hi (σ := []) h (nE_len k) (k' := .i64) hn
  obtain ⟨t', rfl⟩ := sl_tr hv'
  refine ⟨t', fun σ => ?_, hv'⟩
  rw [← hcut]
  rcases h with ⟨_, h⟩ | ⟨cap, h⟩ <;> cases h <;> rfl

theorem norm_tr {l : List Nat} {t : Tree} (h : IsSl uE l (.tr t)) (hl : l.length ≤ 1000000) : ∃ t', (∀ σ, callL T 48 [.tr t] σ = some (.tr t', σ)) ∧ IsSl uE (trim l) (.tr t') := by
  obtain ⟨t', hcut, hv'⟩ := cut_all h (tlen_le l l.length)
  refine ⟨t', fun σ => ?_, hv'⟩
  have hlen : opLen 1 (.tr t) σ = some (nv .i64 l.length) := isSl_len h
  suffices hh : ∃ r σ', callL T 48 [.tr t] σ = some (r, σ') ∧ (r = .tr t' ∧ σ' = σ) by
    obtain ⟨r, σ', h1, rfl, rfl⟩ := hh
    exact h1
  refine call_shared T48 rfl rfl ?_
  simp [hlen]
  refine wpc_loop (fun n s => n ≤ l.length ∧ tlen l n = tlen l l.length ∧ ∃ e L, s = ⟨e, L, σ⟩ ∧ look e 0 = some (.tr t) ∧ look e 3 = some (nv .i64 n)) l.length _ ⟨Nat.le_refl _, rfl, _, _, rfl, by simp, by simp⟩ ?_
  rintro n s ⟨hn, ht, e, L, rfl, h0, h3⟩
  have hw : IntKind.i64.wrap ((n : Int) - 1) = (n : Int) - 1 := w64 (by omega) (by omega)
  by_cases hp : 0 < n
  · obtain ⟨n, rfl⟩ : ∃ m, n = m + 1 := ⟨n - 1, by omega⟩
    have hx : l[n]? = some l[n] := List.getElem?_eq_getElem (by omega)
    have e1 : ((n + 1 : Nat) : Int) - 1 = (n : Int) := by omega
    rw [e1] at hw
    by_cases hz : l[n] = 0
    · simp [k48_2, h0, h3, e1, hw, sl_iaddr h hx, sl_load hx, hz, k48_4]
      refine ⟨n, by omega, by omega, ?_, rfl⟩
      rw [← ht]
      simp [tlen, hx, hz]
    · have ht' : tlen l l.length = n + 1 := by rw [← ht]; simp [tlen, hx, hz]
      rw [ht'] at hcut
      simp [k48_2, h0, h3, e1, hw, sl_iaddr h hx, sl_load hx, hz, k48_5, hcut]
  · obtain rfl : n = 0 := by omega
    have ht' : tlen l l.length = 0 := by rw [← ht]; rfl
    rw [ht'] at hcut
    simp [k48_2, h0, h3, hp, k48_5, hcut]

theorem clone_tr {l : List Nat} {t : Tree} (h : IsSl uE l (.tr t)) (hl : l.length ≤ 1000000) (σ : Store) : ∃ v σ', callL T 53 [.tr t] σ = some (v, σ') ∧
    ((l = [] ∧ σ' = σ ∧ IsSl uE [] v) ∨ (l ≠ [] ∧ v = .own σ.length 0 0 l.length 1 none ∧ σ' = σ ++ [.row (cK .u32 l) 0])) := by
  refine call_shared T53 rfl rfl ?_
  have hb : opBslice false 0 1 [.sc (.int .u32 0)] [] σ = some (.tr (.row [] 0 (some 0)), σ) := rfl
  by_cases h0 : l = []
  · subst h0
    rcases h with ⟨_, h⟩ | ⟨cap, h⟩
    · cases h
      simp
      exact .inl ⟨rfl, rfl⟩
    · have h' : IsSl uE [] (.tr (.row [] 0 cap)) := .inr ⟨cap, rfl⟩
      cases h
      simp [k53_3, hb, app_none h' (.inr ⟨_, rfl⟩)]
      exact .inr ⟨_, rfl⟩
  · have hp : 0 < l.length := List.length_pos_iff.2 h0
    have ha := fun σ => app_row (σ := σ) h hp (room_ok (b := 4) hl (by omega))
    rcases h with ⟨h, _⟩ | ⟨cap, h⟩
    · exact absurd h h0
    · cases h
      simp [k53_3, hb, ha, h0]

/-- A number as it is handed on. -/
structure IsBig (neg : Bool) (l : List Nat) (t : Tree) : Prop where
  ex : ∃ s, t = .agg [.sc (.bool neg), s] ∧ IsSl uE l (.tr s)
  dg : dig 4294967296 l
def ival (neg : Bool) (l : List Nat) : Int := if neg then -(val 4294967296 l : Int) else val 4294967296 l
/-- A number in normal form. -/
def IsNum (N : Nat) (z : Int) (t : Tree) : Prop := ∃ neg l, IsBig neg l t ∧ can l ∧ (neg = true → l ≠ []) ∧ ival neg l = z ∧ l.length ≤ N

theorem made_ok {neg : Bool} {l : List Nat} {t : Tree} (h : IsSl uE l (.tr t)) (hd : dig 4294967296 l) (hl : l.length ≤ 1000000) :
    ∃ r, (∀ σ, callL T 41 [bv neg, .tr t] σ = some (.tr r, σ)) ∧ IsNum l.length (ival neg l) r := by
  refine call_iso (ts := [.sc (.bool neg), t]) T41 rfl rfl ?_
  obtain ⟨t', hn, hv'⟩ := norm_tr h (by omega)
  have hle := trim_le l
  obtain ⟨w, σ', hc, hw⟩ := clone_tr hv' (by omega) [.row [.tr (.sc (.bool false)), .tr (.sc (.slice none 0 0))] 0]
  have hval : val 4294967296 (trim l) = val 4294967296 l := val_trim 4294967296 l
  rcases hw with ⟨h0, rfl, hw⟩ | ⟨h0, rfl, rfl⟩
  · have hlen : ∀ σ, opLen 1 w σ = some (nv .i64 0) := fun σ => isSl_len hw
    simp [hn, hc, hlen, opStore, obPut, opLoad, obCells, slice?, splice_all]
    rw [h0] at hval
    refine ⟨false, [], ⟨⟨_, rfl, .inl ⟨rfl, rfl⟩⟩, dig_nil 4294967296⟩, can_nil, by simp, ?_, by simp⟩
    have : val 4294967296 l = 0 := hval.symm
    unfold ival
    cases neg <;> simp [val, this]
  · have hsn : ∀ σ d, σ[1]? = some (.row (cK .u32 (trim l)) 0) → snap σ (d + 1) (.own 1 0 0 (trim l).length 1 none) = _ := fun σ d h => snap_own h rfl
    simp [hn, hc, own_len, h0, k41_4, opStore, obPut, opLoad, obCells, slice?, splice_all, snap_deep, snap_agg, hsn]
    refine ⟨neg, trim l, ⟨⟨_, rfl, .inr ⟨none, rfl⟩⟩, dig_trim hd⟩, can_trim l, fun _ => h0, ?_, hle⟩
    unfold ival
    rw [hval]
end Go.Proofs.Ytjacddclpcelmaa.AM.Bi
