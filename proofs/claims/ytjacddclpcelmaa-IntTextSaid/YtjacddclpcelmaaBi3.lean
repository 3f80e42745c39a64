/- IntText: part 3. -/
import Derived.Test.YtjacddclpcelmaaBi2
set_option maxRecDepth 1000000
set_option linter.unusedVariables false
set_option linter.unusedSimpArgs false
namespace Go.Proofs.Ytjacddclpcelmaa.AM.Bi
open Go.Proofs

def sgn (a b : Nat) : Int := if a < b then -1 else if a = b then 0 else 1
theorem order_ok {a b : List Nat} {ta tb : Tree} (ha : IsSl uE a (.tr ta)) (hb : IsSl uE b (.tr tb)) (da : dig 4294967296 a) (db : dig 4294967296 b) (la : a.length ≤ 100000) (lb : b.length ≤ 100000) (σ : Store) :
    callL T 43 [.tr ta, .tr tb] σ = some (iv (sgn (val 4294967296 a) (val 4294967296 b)), σ) := by
  suffices hh : ∃ t, (∀ σ, callL T 43 ([ta, tb].map .tr) σ = some (.tr t, σ)) ∧ (t = .sc (.int .i64 (sgn (val 4294967296 a) (val 4294967296 b)))) by
    obtain ⟨t, h, rfl⟩ := hh
    exact h σ
  refine call_iso T43 rfl rfl ?_
  obtain ⟨ta', hna, ha'⟩ := norm_tr ha (by omega)
  obtain ⟨tb', hnb, hb'⟩ := norm_tr hb (by omega)
  have va : val 4294967296 (trim a) = val 4294967296 a := val_trim 4294967296 a
  have vb : val 4294967296 (trim b) = val 4294967296 b := val_trim 4294967296 b
  have hla := trim_le a
  have hlb := trim_le b
  have ca := can_trim a
  have cb := can_trim b
  have dta := dig_trim da
  have dtb := dig_trim db
  rw [← va, ← vb]
  clear va vb
  generalize trim a = a' at *
  generalize trim b = b' at *
  have hlea : ∀ σ, opLen 1 (.tr ta') σ = some (nv .i64 a'.length) := fun σ => isSl_len ha'
  have hleb : ∀ σ, opLen 1 (.tr tb') σ = some (nv .i64 b'.length) := fun σ => isSl_len hb'
  by_cases hne : a'.length = b'.length
  · have hw : IntKind.i64.wrap ((b'.length : Int) - 1) = (b'.length : Int) - 1 := w64 (by omega) (by omega)
    simp [hna, hnb, hlea, hleb, hne, k43_7, hw]
    refine wpc_loop (fun n s => n ≤ a'.length ∧ a'.drop n = b'.drop n ∧ ∃ e L, s = ⟨e, L, []⟩ ∧ look e 0 = some (.tr ta') ∧ look e 1 = some (.tr tb') ∧ look e 5 = some (iv ((n : Int) - 1))) a'.length _ ⟨Nat.le_refl _, by rw [List.drop_length, hne, List.drop_length], _, _, rfl, by simp, by simp, by simp [hne]⟩ ?_
    rintro n s ⟨hn, hd, e, L, rfl, h0, h1, h5⟩
    by_cases hp : 0 < n
    · obtain ⟨n, rfl⟩ : ∃ m, n = m + 1 := ⟨n - 1, by omega⟩
      have ia : n < a'.length := by omega
      have ib : n < b'.length := by omega
      have hxa : a'[n]? = some a'[n] := List.getElem?_eq_getElem ia
      have hxb : b'[n]? = some b'[n] := List.getElem?_eq_getElem ib
      have e1 : ((n + 1 : Nat) : Int) - 1 = (n : Int) := by omega
      rw [e1] at h5
      have hw2 : IntKind.i64.wrap ((n : Int) - 1) = (n : Int) - 1 := w64 (by omega) (by omega)
      by_cases hx : a'[n] = b'[n]
      · simp [k43_9, h5, k43_11, h0, h1, sl_iaddr ha' hxa, sl_iaddr hb' hxb, sl_load hxa, sl_load hxb, hx, k43_17, hw2]
        refine ⟨n, by omega, by omega, ?_, rfl⟩
        rw [List.drop_eq_getElem_cons ia, List.drop_eq_getElem_cons ib, hx, hd]
      · by_cases hlt : a'[n] < b'[n]
        · simp [k43_9, h5, k43_11, h0, h1, sl_iaddr ha' hxa, sl_iaddr hb' hxb, sl_load hxa, sl_load hxb, hx, hlt]
          have := cmp_at (by decide) dta dtb hne ia hd hlt
          simp [sgn, this]
        · simp [k43_9, h5, k43_11, h0, h1, sl_iaddr ha' hxa, sl_iaddr hb' hxb, sl_load hxa, sl_load hxb, hx, hlt, k43_16]
          have := cmp_at (by decide) dtb dta hne.symm ib hd.symm (by omega)
          simp [sgn, show ¬ val 4294967296 a' < val 4294967296 b' by omega, show ¬ val 4294967296 a' = val 4294967296 b' by omega]
    · obtain rfl : n = 0 := by omega
      rw [List.drop_zero, List.drop_zero] at hd
      simp [k43_9, h5, k43_18, sgn, hd]
  · by_cases hlt : a'.length < b'.length
    · have := len_lt (by decide) dta cb hlt
      simp [hna, hnb, hlea, hleb, hne, hlt, sgn, this]
    · have := len_lt (by decide) dtb ca (show b'.length < a'.length by omega)
      simp [hna, hnb, hlea, hleb, hne, hlt, k43_6, sgn, show ¬ val 4294967296 a' < val 4294967296 b' by omega, show ¬ val 4294967296 a' = val 4294967296 b' by omega]
end Go.Proofs.Ytjacddclpcelmaa.AM.Bi
