/- IntText: part 24. -/
import Derived.Test.YtjacddclpcelmaaBi23
set_option maxRecDepth 1000000
set_option linter.unusedVariables false
set_option linter.unusedSimpArgs false
namespace Go.Proofs.Ytjacddclpcelmaa.AM.Bi
open Go.Proofs

theorem iso_any {T : FTab} {f : FuncId} {fn : HFn} {ts : List Tree} {t : Tree} {σ1 : Store} {m : Nat} (hf : T f = some fn) (hm : fn.mode = .iso) (h : callA T (m + 1) f (ts.map .tr) [] = some (.tr t, σ1)) (σ : Store) : callL T f (ts.map .tr) σ = some (.tr t, σ) := by
  rw [callA, hf] at h
  simp only [hm, snapL_tr] at h
  split at h
  · rename_i hl
    split at h
    · cases h
    · rename_i v σ2 hr
      split at h
      · cases h
      · rename_i t' hst
        have e : t' = t := by
          split at h
          · cases h; rfl
          · split at h
            · cases h; rfl
            · cases h
        subst e
        have hz : freezeAll σ (ts.map .tr) = some σ := by
          unfold freezeAll
          rw [dirs_tr]
          have hn : ∀ (n : Nat) (S : List Nat), reachN σ n [] S = S := by
            intro n S
            cases n <;> simp [reachN]
          simp only [hn]
          rfl
        refine callL_some.2 ⟨m + 1, ?_⟩
        rw [callA, hf]
        simp only [hm, snapL_tr, hl, if_true, hr, hst, hz]
        split <;> rfl
  · cases h

theorem of1_run : callA T 60 30 [.tr (.sc (.int .i64 1))] [] = some (.tr (.agg [.sc (.bool false), .row [.sc (.int .u32 1)] 1 none]), []) := by kernel_rfl
theorem of1 : ∃ t, (∀ σ, callL T 30 [iv 1] σ = some (.tr t, σ)) ∧ IsNum 1 1 t :=
  ⟨_, iso_any (m := 59) (ts := [.sc (.int .i64 1)]) T30 rfl of1_run, false, [1], ⟨⟨_, rfl, .inr ⟨none, rfl⟩⟩, by intro d hd; simp at hd; omega⟩, by simp [can], by simp, by simp [ival, val], by simp⟩
theorem rof1_run : callA T 60 32 [.tr (.sc (.int .i64 1))] [] = some (.tr (.agg [.sc (.bool false), .row [.sc (.int .i64 1)] 1 none]), []) := by kernel_rfl
theorem rof1 : ∃ t, (∀ σ, callL T 32 [iv 1] σ = some (.tr t, σ)) ∧ RInt 1 1 t :=
  ⟨_, iso_any (m := 59) (ts := [.sc (.int .i64 1)]) T32 rfl rof1_run, .row [.sc (.int .i64 1)] 1 none, rfl, [1], .inr ⟨none, rfl⟩, by intro d hd; simp at hd; omega, by simp [can], by simp [val], by simp⟩

theorem pow_sq (x : Int) (n : Nat) : (x * x) ^ n = x ^ (2 * n) := by rw [Int.pow_mul, Int.pow_succ, Int.pow_succ, Int.pow_zero, Int.one_mul]

theorem power_ok {N : Nat} {z : Int} {ta : Tree} {n0 : Nat} (ha : RInt N z ta) (hN : N ≤ 6) (hn : n0 ≤ 20) : ∃ r, (∀ σ, callL T 31 [.tr ta, nv .i64 n0] σ = some (.tr r, σ)) ∧ RInt 300 (z ^ n0) r := by
  refine call_iso (ts := [ta, .sc (.int .i64 (n0 : Int))]) T31 rfl rfl ?_
  obtain ⟨t1, ho, h1⟩ := rof1
  obtain ⟨na, sa, rfl, oa⟩ := rint_place ha
  obtain ⟨n1, s1, rfl, o1⟩ := rint_place h1
  obtain ⟨S0, hS0⟩ : ∃ S0 : Ob, S0 = .row [.tr (.sc (.bool false)), .tr (.sc (.slice none 0 0))] 0 := ⟨_, rfl⟩
  simp [opBoxB, opBox, ho, opStore, obPut, splice_all, o1]
  rw [← hS0]
  obtain ⟨I, hI⟩ : ∃ I : Nat → St → Prop, I = (fun n s => ∃ e L K za zx p sp q sq u w, s = ⟨e, L, [.row [bv p, .tr sp] 0, S0, .row [bv q, .tr sq] 0]⟩ ∧ look e 1 = some (nv .i64 n) ∧ look e 2 = some (.ptr 0 0 0) ∧ look e 4 = some (.ptr 1 0 0) ∧ look e 5 = some (.ptr 2 0 0)
    ∧ n * K ≤ 20 ∧ za + 1 ≤ 7 * K ∧ zx + 1 ≤ 7 * K ∧ K ≤ 40 ∧ RInt za u (.agg [.sc (.bool p), sp]) ∧ RInt zx w (.agg [.sc (.bool q), sq]) ∧ w * u ^ n = z ^ n0) := ⟨_, rfl⟩
  refine wpc_loop I n0 _ ?_ ?_
  · rw [hI]
    exact ⟨_, _, 1, 6, 6, na, sa, n1, s1, z, 1, rfl, by simp, by simp, by simp, by simp, by omega, by omega, by omega, by omega, rint_le ha hN, rint_le h1 (by omega), by rw [Int.one_mul]⟩
  intro n s hIs
  rw [hI] at hIs
  obtain ⟨e, L, K, za, zx, p, sp, q, sq, u, w, rfl, h1, h2, h4, h5, hnK, hal, hxl, hK, hu, hw, hv⟩ := hIs
  have l0 : ∀ (a b : Tree) (o1 o2 : Ob), opLoad 2 true (.ptr 0 0 0) [.row [.tr a, .tr b] 0, o1, o2] = some (.tr (.agg [a, b])) := fun a b o1 o2 => rfl
  have l2 : ∀ (a b : Tree) (o1 o2 : Ob), opLoad 2 true (.ptr 2 0 0) [o1, o2, .row [.tr a, .tr b] 0] = some (.tr (.agg [a, b])) := fun a b o1 o2 => rfl
  by_cases hp : 0 < n
  · have hp' : (0 : Int) < n := by omega
    have hK20 : K ≤ 20 := by
      have : 1 * K ≤ n * K := Nat.mul_le_mul_right _ hp
      omega
    obtain ⟨ru, cu, hru⟩ := rMul_ok hu hu (by omega) (by omega)
    obtain ⟨ng2, su, rfl, ou⟩ := rint_place hru
    have hrm : opBin .other .rem (nv .i64 n) (.tr (.sc (.int .i64 2))) = some (nv .i64 (n % 2)) := rem_nn n 2 (by omega)
    have hqu : opBin .other .quo (nv .i64 n) (.tr (.sc (.int .i64 2))) = some (nv .i64 (n / 2)) := quo_nn n 2 (by omega) (by
      have : n * 1 ≤ n * K ∨ K = 0 := by
        rcases Nat.eq_zero_or_pos K with h | h
        · exact .inr h
        · exact .inl (Nat.mul_le_mul_left _ h)
      omega)
    have st0 : ∀ (a b : V) (o1 o2 : Ob), opStore 2 (.ptr 0 0 0) (.tr (.agg [.sc (.bool ng2), su])) [.row [a, b] 0, o1, o2] = some [.row [bv ng2, .tr su] 0, o1, o2] := fun a b o1 o2 => by simp [opStore, obPut, splice_all, ou]
    have hnK2 : n / 2 * (2 * K) ≤ 20 := by
      have h3 : n / 2 * 2 ≤ n := Nat.div_mul_le_self n 2
      have h4 : n / 2 * 2 * K ≤ n * K := Nat.mul_le_mul_right _ h3
      rw [Nat.mul_assoc] at h4
      omega
    by_cases hodd : n % 2 = 1
    · have hodd' : ((n % 2 : Nat) : Int) = 1 := by omega
      obtain ⟨rw_, cw, hrw⟩ := rMul_ok hw hu (by omega) (by omega)
      obtain ⟨ng3, sw, rfl, ow⟩ := rint_place hrw
      have st2 : ∀ (a b : V) (o1 o2 : Ob), opStore 2 (.ptr 2 0 0) (.tr (.agg [.sc (.bool ng3), sw])) [o1, o2, .row [a, b] 0] = some [o1, o2, .row [bv ng3, .tr sw] 0] := fun a b o1 o2 => by simp [opStore, obPut, splice_all, ow]
      simp [k31_2, h1, hp, hp', k31_4, hrm, hodd', h5, h2, l2, l0, cw, st2, k31_6, cu, st0, k31_7, hqu, -Int.natCast_emod, -Int.natCast_ediv]
      refine ⟨n / 2, by omega, ?_⟩
      rw [hI]
      refine ⟨_, _, 2 * K, za + za + 1, zx + za + 1, ng2, su, ng3, sw, u * u, w * u, rfl, by simp, by simp [h2], by simp [h4], by simp [h5], hnK2, by omega, by omega, by omega, hru, hrw, ?_⟩
      rw [pow_sq, ← hv, Int.mul_assoc]
      congr 1
      rw [← Int.pow_succ', show 2 * (n / 2) + 1 = n by omega]
    · have hodd' : ¬ ((n % 2 : Nat) : Int) = 1 := by omega
      simp [k31_2, h1, hp, hp', k31_4, hrm, hodd', h2, l0, k31_6, cu, st0, k31_7, hqu, -Int.natCast_emod, -Int.natCast_ediv]
      refine ⟨n / 2, by omega, ?_⟩
      rw [hI]
      refine ⟨_, _, 2 * K, za + za + 1, zx, ng2, su, q, sq, u * u, w, rfl, by simp, by simp [h2], by simp [h4], by simp [h5], hnK2, by omega, by omega, by omega, hru, hw, ?_⟩
      rw [pow_sq, ← hv, show 2 * (n / 2) = n by omega]
  · obtain rfl : n = 0 := by omega
    have ow := nat_one hw.choose_spec.2
    obtain ⟨sq', e1, hsq'⟩ := hw
    cases e1
    have st1 : ∀ (a b : V) (o1 o2 : Ob), opStore 2 (.ptr 1 0 0) (.tr (.agg [.sc (.bool (decide (w < 0))), sq])) [o1, .row [a, b] 0, o2] = some [o1, .row [bv (decide (w < 0)), .tr sq] 0, o2] := fun a b o1 o2 => by simp [opStore, obPut, splice_all, nat_one hsq']
    simp [k31_2, h1, k31_8, h5, l2, h4, hS0, st1, opLoad, obCells, slice?]
    rw [← hv, Int.pow_zero, Int.mul_one]
    exact ⟨sq, rfl, nat_le hsq' (by omega)⟩
end Go.Proofs.Ytjacddclpcelmaa.AM.Bi
