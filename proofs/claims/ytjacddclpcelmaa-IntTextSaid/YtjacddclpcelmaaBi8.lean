/- IntText: part 8. -/
import Derived.Test.YtjacddclpcelmaaBi7
set_option maxRecDepth 1000000
set_option linter.unusedVariables false
set_option linter.unusedSimpArgs false
namespace Go.Proofs.Ytjacddclpcelmaa.AM.Bi
open Go.Proofs

theorem cut_max {l : List Nat} {t : Tree} {k : IntKind} {n : Nat} (h : IsSl (nE k) l (.tr t)) (hn : n ≤ l.length) : ∃ t', (∀ σ, opSlice 1 (.tr t) none (some (nv .i64 n)) (some (nv .i64 n)) σ = some (.tr t')) ∧ IsSl (nE k) (l.take n) (.tr t') := by
  rcases h with ⟨rfl, h⟩ | ⟨cap, h⟩
  · cases h
    have h0 : n = 0 := by simpa using hn
    subst h0
    exact ⟨_, fun σ => rfl, .inl ⟨by simp, rfl⟩⟩
  · cases h
    refine ⟨.row ((l.take n).flatMap (nE k)) n (some n), fun σ => ?_, .inr ⟨some n, ?_⟩⟩
    · unfold opSlice
      simp only [optIdx, asIdx_nat, Option.isSome_some, Option.isNone_some, Bool.and_false, Bool.false_eq_true, if_false, Option.getD_some, Option.getD_none]
      rw [if_pos ⟨Nat.zero_le _, hn, Nat.le_refl _, .inl hn, flat_len (nE_len k) l⟩]
      simp only [cutCap, Nat.sub_zero, Nat.zero_mul, List.drop_zero]
      rw [flat_take (nE_len k)]
    · rw [List.length_take, Nat.min_eq_left hn]

/-- A magnitude of the reference. -/
def NatSl (N n : Nat) (t : Tree) : Prop := ∃ l, IsSl iE l (.tr t) ∧ dig 65536 l ∧ can l ∧ val 65536 l = n ∧ l.length ≤ N

theorem rtrim_ok {l : List Nat} {t : Tree} (h : IsSl iE l (.tr t)) (hd : dig 65536 l) (hl : l.length ≤ 1000000) : ∃ t', (∀ σ, callL T 39 [.tr t] σ = some (.tr t', σ)) ∧ NatSl l.length (val 65536 l) t' := by
  obtain ⟨t', hcut, hv'⟩ := cut_max h (tlen_le l l.length)
  suffices hh : ∃ r, (∀ σ, callL T 39 ([t].map .tr) σ = some (.tr r, σ)) ∧ r = t' by
    obtain ⟨r, h1, rfl⟩ := hh
    exact ⟨_, h1, trim l, hv', dig_trim hd, can_trim l, val_trim _ l, trim_le l⟩
  have hlen : ∀ σ, opLen 1 (.tr t) σ = some (nv .i64 l.length) := fun σ => isSl_len h
  refine call_iso T39 rfl rfl ?_
  simp [hlen]
  refine wpc_loop (fun n s => n ≤ l.length ∧ tlen l n = tlen l l.length ∧ ∃ e L, s = ⟨e, L, []⟩ ∧ look e 0 = some (.tr t) ∧ look e 3 = some (nv .i64 n)) l.length _ ⟨Nat.le_refl _, rfl, _, _, rfl, by simp, by simp⟩ ?_
  rintro n s ⟨hn, ht, e, L, rfl, h0, h3⟩
  have hw : IntKind.i64.wrap ((n : Int) - 1) = (n : Int) - 1 := w64 (by omega) (by omega)
  by_cases hp : 0 < n
  · obtain ⟨n, rfl⟩ : ∃ m, n = m + 1 := ⟨n - 1, by omega⟩
    have hx : l[n]? = some l[n] := List.getElem?_eq_getElem (by omega)
    have e1 : ((n + 1 : Nat) : Int) - 1 = (n : Int) := by omega
    rw [e1] at hw
    by_cases hz : l[n] = 0
    · simp [k39_2, h0, h3, e1, hw, sl_iaddr h hx, sl_load hx, hz, k39_4]
      refine ⟨n, by omega, by omega, ?_, rfl⟩
      rw [← ht]
      simp [tlen, hx, hz]
    · have ht' : tlen l l.length = n + 1 := by rw [← ht]; simp [tlen, hx, hz]
      rw [ht'] at hcut
      simp [k39_2, h0, h3, e1, hw, sl_iaddr h hx, sl_load hx, hz, k39_5, hcut]
  · obtain rfl : n = 0 := by omega
    have ht' : tlen l l.length = 0 := by rw [← ht]; rfl
    rw [ht'] at hcut
    simp [k39_2, h0, h3, hp, k39_5, hcut]
theorem rtrim_own {l : List Nat} {σ : Store} {id g n : Nat} {cap : Option Nat} (hs : σ[id]? = some (.row (cK .i64 l) g)) (hn : n = l.length) (hd : dig 65536 l) (hl : l.length ≤ 1000000) :
    ∃ r σ', callL T 39 [.own id g 0 n 1 cap] σ = some (.tr r, σ') ∧ NatSl l.length (val 65536 l) r ∧ (σ' = σ ∨ σ' = σ.set id (.fro (l.flatMap iE) g)) := by
  subst hn
  have hsl : IsSl iE l (.tr (.row (l.flatMap iE) l.length cap)) := .inr ⟨cap, rfl⟩
  refine T_iso T39 rfl rfl (ts := [.row (l.flatMap iE) l.length cap]) ?_ (freeze_own1 hs) (rtrim_ok hsl hd hl)
  simp [snap_deep, snap_own hs rfl]

theorem rcmp_ok {N M m n : Nat} {ta tb : Tree} (ha : NatSl N m ta) (hb : NatSl M n tb) (la : N ≤ 100000) (lb : M ≤ 100000) (σ : Store) :
    callL T 46 [.tr ta, .tr tb] σ = some (iv (sgn m n), σ) := by
  obtain ⟨a', ha', dta, ca, rfl, hla⟩ := ha
  obtain ⟨b', hb', dtb, cb, rfl, hlb⟩ := hb
  suffices hh : ∃ t, (∀ σ, callL T 46 ([ta, tb].map .tr) σ = some (.tr t, σ)) ∧ (t = .sc (.int .i64 (sgn (val 65536 a') (val 65536 b')))) by
    obtain ⟨t, h, rfl⟩ := hh
    exact h σ
  refine call_iso T46 rfl rfl ?_
  have hlea : ∀ σ, opLen 1 (.tr ta) σ = some (nv .i64 a'.length) := fun σ => isSl_len ha'
  have hleb : ∀ σ, opLen 1 (.tr tb) σ = some (nv .i64 b'.length) := fun σ => isSl_len hb'
  by_cases hne : a'.length = b'.length
  · have hw : IntKind.i64.wrap ((b'.length : Int) - 1) = (b'.length : Int) - 1 := w64 (by omega) (by omega)
    simp [hlea, hleb, hne, k46_6, hw]
    refine wpc_loop (fun n s => n ≤ a'.length ∧ a'.drop n = b'.drop n ∧ ∃ e L, s = ⟨e, L, []⟩ ∧ look e 0 = some (.tr ta) ∧ look e 1 = some (.tr tb) ∧ look e 5 = some (iv ((n : Int) - 1))) a'.length _ ⟨Nat.le_refl _, by rw [List.drop_length, hne, List.drop_length], _, _, rfl, by simp, by simp, by simp [hne]⟩ ?_
    rintro n s ⟨hn, hd, e, L, rfl, h0, h1, h5⟩
    by_cases hp : 0 < n
    · obtain ⟨n, rfl⟩ : ∃ m, n = m + 1 := ⟨n - 1, by omega⟩
      have ia : n < a'.length := by omega
      have ib : n < b'.length := by omega
      have hxa : a'[n]? = some a'[n] := List.getElem?_eq_getElem ia
      have hxb : b'[n]? = some b'[n] := List.getElem?_eq_getElem ib
      have e1 : ((n + 1 : Nat) : Int) - 1 = (n : Int) := by omega
      rw [e1] at h5
      have hw2 : IntKind.i64.wrap ((n : Int) - 1) = (n : Int) - 1 := w64 (by omega) (by omega)
      by_cases hlt : a'[n] < b'[n]
      · simp [k46_8, h5, k46_10, h0, h1, sl_iaddr ha' hxa, sl_iaddr hb' hxb, sl_load hxa, sl_load hxb, hlt]
        have := cmp_at (by decide) dta dtb hne ia hd hlt
        simp [sgn, this]
      · by_cases hx : a'[n] = b'[n]
        · simp [k46_8, h5, k46_10, k46_13, h0, h1, sl_iaddr ha' hxa, sl_iaddr hb' hxb, sl_load hxa, sl_load hxb, hx, k46_16, hw2]
          refine ⟨n, by omega, by omega, ?_, rfl⟩
          rw [List.drop_eq_getElem_cons ia, List.drop_eq_getElem_cons ib, hx, hd]
        · have hgt : b'[n] < a'[n] := by omega
          simp [k46_8, h5, k46_10, k46_13, h0, h1, sl_iaddr ha' hxa, sl_iaddr hb' hxb, sl_load hxa, sl_load hxb, hlt, hgt]
          have := cmp_at (by decide) dtb dta hne.symm ib hd.symm (by omega)
          simp [sgn, show ¬ val 65536 a' < val 65536 b' by omega, show ¬ val 65536 a' = val 65536 b' by omega]
    · obtain rfl : n = 0 := by omega
      rw [List.drop_zero, List.drop_zero] at hd
      simp [k46_8, h5, k46_17, sgn, hd]
  · by_cases hlt : a'.length < b'.length
    · have := len_lt (by decide) dta cb hlt
      simp [hlea, hleb, hne, hlt, sgn, this]
    · have := len_lt (by decide) dtb ca (show b'.length < a'.length by omega)
      simp [hlea, hleb, hne, hlt, k46_5, sgn, show ¬ val 65536 a' < val 65536 b' by omega, show ¬ val 65536 a' = val 65536 b' by omega]
end Go.Proofs.Ytjacddclpcelmaa.AM.Bi
