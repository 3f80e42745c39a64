/- IntBitwise: part 47. -/
import Derived.Test.YtjacddclpcelmaaBi46
set_option maxRecDepth 1000000
set_option linter.unusedVariables false
set_option linter.unusedSimpArgs false
namespace Go.Proofs.Ytjacddclpcelmaa.AM.Bi
open Go.Proofs

theorem bitwise_ok {x y : Bool} {a b : List Nat} {ta tb : Tree} (ha : IsBig x a ta) (hb : IsBig y b tb) (la : a.length ≤ 50000) (lb : b.length ≤ 50000) (op : ByteArray) :
    ∃ t, (∀ σ, callL T 28 [.tr (.sc (.string op)), .tr ta, .tr tb] σ = some (.tr t, σ)) ∧ BwR (max a.length b.length + 1) (32 * (max a.length b.length) + 31) op (ival x a) (ival y b) t := by
  refine call_iso (ts := [.sc (.string op), ta, tb]) T28 rfl rfl ?_
  obtain ⟨n, hn⟩ : ∃ n, n = max a.length b.length + 1 := ⟨_, rfl⟩
  obtain ⟨S0, hS0⟩ : ∃ S0 : Ob, S0 = .row [.tr (.sc (.bool false)), .tr (.sc (.slice none 0 0))] 0 := ⟨_, rfl⟩
  obtain ⟨X, hX, dX, lX, vX⟩ := digits_tr (n := n) ha (by omega) (by omega) [S0]
  obtain ⟨Y, hY, dY, lY, vY⟩ := digits_tr (n := n) hb (by omega) (by omega) [S0, .row (cK .u32 X) 0]
  simp only [List.length_singleton, List.singleton_append, List.length_cons, List.length_nil, List.cons_append, List.nil_append, Nat.zero_add, Nat.reduceAdd] at hX hY
  obtain ⟨sa, rfl, ia⟩ := ha.ex
  obtain ⟨sb, rfl, ib⟩ := hb.ex
  have hla : ∀ σ, opLen 1 (.tr sa) σ = some (nv .i64 a.length) := fun σ => isSl_len ia
  have hlb : ∀ σ, opLen 1 (.tr sb) σ = some (nv .i64 b.length) := fun σ => isSl_len ib
  have hmx := max_i64 a.length b.length
  have w1 : IntKind.i64.wrap (((max a.length b.length : Nat) : Int) + 1) = (n : Int) := by rw [w64 (by omega) (by omega)]; omega
  have hln : ∀ σ, opLen 1 (.own 1 0 0 n 1 (some n)) σ = some (nv .i64 n) := fun σ => own_len
  rw [hS0] at hX hY
  simp [hla, hlb, hmx, w1, hX, hY, hln]
  rw [← hS0]
  have h0n : 0 < n := by omega
  have hlen : X.length = Y.length := by omega
  have vG : ∀ o, val 4294967296 (List.zipWith (G o) X Y) = G o (tc (32 * n) (ival x a)) (tc (32 * n) (ival y b)) := fun o => by rw [G_val dX dY hlen, vX, vY]
  have hmm : 32 * max a.length b.length + 31 + 1 = 32 * n := by omega
  cases hc : bwCode op with
  | none =>
    refine wpc_up n (fun i s => i = 0 ∧ ∃ e L, s = ⟨e, L, [S0, .row (cK .u32 X) 0, .row (cK .u32 Y) 0]⟩ ∧ look e 0 = some (.tr (.sc (.string op))) ∧ look e 6 = some (.ptr 0 0 0) ∧ look e 27 = some (nv .i64 n) ∧ look e 28 = some (nv .i64 0)) ⟨rfl, _, _, rfl, by simp, by simp, by simp, by simp⟩ ?_
    rintro i s ⟨rfl, e, L, rfl, h0, h6, h27, h28⟩
    have es : ∀ (s t : ByteArray), opBin .other .eql (.tr (.sc (.string s))) (.tr (.sc (.string t))) = some (.tr (.sc (.bool (bytesEq s.data.toList t.data.toList)))) := bin_str
    have hlt : (0 : Int) < n := by omega
    rcases bwCode_cases op with ⟨e1, hc'⟩ | ⟨e1, e2, hc'⟩ | ⟨e1, e2, e3, hc'⟩ | ⟨e1, e2, e3, e4, hc'⟩ | ⟨e1, e2, e3, e4, hc'⟩ <;> rw [hc'] at hc <;> cases hc
    have st : ∀ s, opStore 2 (.ptr 0 0 0) (.tr (.agg [.sc (.bool false), .sc (.slice none 0 0)])) (S0 :: s) = some (S0 :: s) := fun s => by
      rw [st_row (a := bv false) (b := .tr (.sc (.slice none 0 0))) (by rw [hS0]; rfl) rfl, hS0]
      rfl
    have ld : ∀ s, opLoad 2 true (.ptr 0 0 0) (S0 :: s) = some (.tr (.agg [.sc (.bool false), .sc (.slice none 0 0)])) := fun s => ld_row (by rw [hS0]; rfl)
    simp [k28_4, h28, h27, h0n, k28_6, h0, es, e1, e2, e3, e4, h6, st, ld, mkTup]
    unfold BwR
    rw [hc']
  | some o =>
    obtain ⟨Z, hZ⟩ : ∃ Z, Z = List.zipWith (G o) X Y := ⟨_, rfl⟩
    have lZ : Z.length = n := by rw [hZ]; simp; omega
    have dZ : dig 4294967296 Z := by rw [hZ]; exact G_dig dX dY
    obtain ⟨I, hI⟩ : ∃ I : Nat → St → Prop, I = (fun i s => i ≤ n ∧ ∃ e L, s = ⟨e, L, [S0, .row (cK .u32 (Z.take i ++ X.drop i)) 0, .row (cK .u32 Y) 0]⟩ ∧ look e 0 = some (.tr (.sc (.string op))) ∧ look e 6 = some (.ptr 0 0 0) ∧ look e 8 = some (nv .i64 n) ∧ look e 9 = some (.own 1 0 0 n 1 (some n)) ∧ look e 10 = some (.own 2 0 0 n 1 (some n)) ∧ look e 27 = some (nv .i64 n) ∧ look e 28 = some (nv .i64 i)) := ⟨_, rfl⟩
    refine wpc_up n I ?_ ?_
    · rw [hI]
      exact ⟨Nat.zero_le _, _, _, rfl, by simp, by simp, by simp, by simp, by simp, by simp, by simp⟩
    intro i s hIs
    rw [hI] at hIs
    obtain ⟨hi, e, L, rfl, h0, h6, h8, h9, h10, h27, h28⟩ := hIs
    by_cases hlt : i < n
    · simp [k28_4, h28, h27, hlt]
      have hat := zip_at (o := o) hlen (show i < X.length by omega)
      have hst := zip_take (o := o) hlen (show i < X.length by omega)
      rw [← hZ] at hat hst
      have lW : (Z.take i ++ X.drop i).length = n := by rw [List.length_append, List.length_take, List.length_drop]; omega
      have hget : (Z.take i ++ X.drop i)[i]'(by omega) = X[i]'(by omega) := by
        rw [List.getElem?_eq_getElem (by omega)] at hat
        exact Option.some.inj hat
      refine bw_body (X4 := bv false) (dig_append.2 ⟨dig_take dZ, dig_drop dX⟩) dY lW lY hlt (by omega) hc h0 h6 h8 h9 h10 (by simp [h27]) (by simp [h28]) ?_
      intro e' L' h0' h6' h8' h9' h10' h27' h28'
      show I (i + 1) _
      rw [hI]
      refine ⟨by omega, e', L', ?_, h0', h6', h8', h9', h10', h27', h28'⟩
      rw [hget, hst]
    · have hie : i = n := by omega
      subst hie
      simp [k28_4, h28, h27]
      rw [List.take_of_length_le (by omega), List.drop_of_length_le (by omega), List.append_nil, hS0]
      refine wpc_mono _ _ _ _ (giv_mono ?_) (bw_end (m := 32 * max a.length b.length + 31) dZ lZ h0n (by omega) hmm (by simp [h6]) (by simp [h8]) (by simp [h9]))
      rintro v σ' ⟨r, rfl, hr⟩
      refine ⟨_, by rfl, ?_⟩
      unfold BwR
      rw [hc]
      refine ⟨r, rfl, ?_⟩
      rw [hmm, ← vG, ← hn, ← hZ]
      exact hr
end Go.Proofs.Ytjacddclpcelmaa.AM.Bi
