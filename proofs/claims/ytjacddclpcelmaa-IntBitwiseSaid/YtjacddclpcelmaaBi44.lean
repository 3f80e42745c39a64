/- IntBitwise: part 44. -/
import Derived.Test.YtjacddclpcelmaaBi43
set_option maxRecDepth 1000000
set_option linter.unusedVariables false
set_option linter.unusedSimpArgs false
namespace Go.Proofs.Ytjacddclpcelmaa.AM.Bi
open Go.Proofs

theorem freeze_agg {k : IntKind} {l : List Nat} {σ : Store} {id n : Nat} {cap : Option Nat} {b : Bool} (hs : σ[id]? = some (.row (cK k l) 0)) : freezeAll σ [.agg [bv b, .own id 0 0 n 1 cap]] = some (σ.set id (.fro (l.flatMap (nE k)) 0)) := by
  have h := freeze_own1 (n := n) (cap := cap) hs
  have hd : dirs.dirsL [.own id 0 0 n 1 cap] = [id] := rfl
  have hd2 : dirs.dirsL [.agg [bv b, .own id 0 0 n 1 cap]] = [id] := by simp [dirs.dirsL, dirs]
  unfold freezeAll at h ⊢
  rw [hd] at h
  rw [hd2]
  exact h
theorem below_own {l : List Nat} {σ : Store} {id n : Nat} {cap : Option Nat} (hs : σ[id]? = some (.row (cK .u32 l) 0)) (hn : n = l.length) (hd : dig 4294967296 l) (hl : l.length ≤ 100000) :
    ∃ σ', callL T 50 [.agg [bv true, .own id 0 0 n 1 cap]] σ = some (bv (decide (ival true l < 0)), σ') ∧ (σ' = σ ∨ σ' = σ.set id (.fro (l.flatMap uE) 0)) := by
  subst hn
  have hb : IsBig true l (.agg [.sc (.bool true), .row (l.flatMap uE) l.length cap]) := ⟨⟨_, rfl, .inr ⟨cap, rfl⟩⟩, hd⟩
  obtain ⟨t, σ', h1, rfl, h2⟩ := T_iso (R := fun t => t = .sc (.bool (decide (ival true l < 0)))) (vs := [.agg [bv true, .own id 0 0 l.length 1 cap]]) (ts := [.agg [.sc (.bool true), .row (l.flatMap uE) l.length cap]]) T50 rfl rfl (by
    simp [snap_deep, snap_agg, snap_own hs rfl]) (freeze_agg hs) ⟨_, fun σ => below_ok hb hl σ, rfl⟩
  exact ⟨σ', h1, h2⟩

/-- Two's complement of what a row holds. -/
theorem digits_own {l : List Nat} {σ : Store} {id n : Nat} (hs : σ[id]? = some (.row (cK .u32 l) 0)) (hl : l.length = n) (hd : dig 4294967296 l) (hc : can l) (h0 : 0 < n) (hn : n ≤ 100000) :
    ∃ W σ', callL T 57 [.agg [bv true, .own id 0 0 n 1 (some n)], nv .i64 n] σ = some (.own (σ.length + 1) 0 0 n 1 (some n), σ') ∧ dig 4294967296 W ∧ W.length = n ∧ val 4294967296 W + val 4294967296 l = 4294967296 ^ n
      ∧ σ'[σ.length + 1]? = some (.row (cK .u32 W) 0) ∧ (∀ j, j < σ.length → j ≠ id → σ'[j]? = σ[j]?) := by
  suffices hh : ∃ v σ', callL T 57 [.agg [bv true, .own id 0 0 n 1 (some n)], nv .i64 n] σ = some (v, σ') ∧ ∃ W, v = .own (σ.length + 1) 0 0 n 1 (some n) ∧ dig 4294967296 W ∧ W.length = n ∧ val 4294967296 W + val 4294967296 l = 4294967296 ^ n
      ∧ σ'[σ.length + 1]? = some (.row (cK .u32 W) 0) ∧ (∀ j, j < σ.length → j ≠ id → σ'[j]? = σ[j]?) by
    obtain ⟨v, σ', h1, W, rfl, h2⟩ := hh
    exact ⟨W, σ', h1, h2⟩
  refine call_shared T57 rfl rfl ?_
  obtain ⟨B, hB⟩ : ∃ B : Ob, B = .row [bv true, .own id 0 0 n 1 (some n)] 0 := ⟨_, rfl⟩
  have hidl : id < σ.length := (List.getElem?_eq_some_iff.1 hs).1
  have hbox : opBoxB true (.agg [bv true, .own id 0 0 n 1 (some n)]) σ = some (.ptr σ.length 0 0, σ ++ [B]) := by rw [hB]; rfl
  have hmk := mk_own (σ := σ ++ [B]) (room_ok (n := n) (b := 4) (by omega) (by omega))
  rw [List.length_append, List.length_singleton] at hmk
  obtain ⟨S, hS⟩ : ∃ S : Store, S = (σ ++ [B]) ++ [.row (cK .u32 (List.replicate n 0)) 0] := ⟨_, rfl⟩
  rw [← hS] at hmk
  have hSi : S[id]? = some (.row (cK .u32 l) 0) := by rw [hS]; exact push_at (push_at hs)
  have hSb : S[σ.length]? = some B := by rw [hS]; simp
  have hSm : S[σ.length + 1]? = some (.row (cK .u32 (List.replicate n 0)) 0) := by rw [hS]; simp
  have hld : opLoad 1 false (.ptr σ.length 0 1) S = some (.own id 0 0 n 1 (some n)) := by
    refine ld_row1 (a := bv true) ?_
    rw [hSb, hB]
  have htl : tlen l l.length = n := by
    have h1 := tlen_le l l.length
    have h2 : (trim l).length = l.length := by rw [trim_of_can hc]
    unfold trim at h2
    rw [List.length_take] at h2
    omega
  obtain ⟨C, hC⟩ : ∃ C, C = cutCap (some n) none 0 := ⟨_, rfl⟩
  have hnorm : callL T 48 [.own id 0 0 n 1 (some n)] S = some (.own id 0 0 n 1 C, S) := by
    refine norm_gen (l := l) ?_ (by omega) (fun i x hx => ⟨.ptr id 0 (0 + i), own_iaddr hSi (by rw [← hl]; exact (List.getElem?_eq_some_iff.1 hx).1), by rw [Nat.zero_add]; exact own_load hSi hx⟩) ?_
    · rw [hl]; exact own_len
    · rw [htl, hC]; exact cut_own (l := l) hSi (by omega)
  have hcp := copy_own (σ := S) (k := .u32) (id := σ.length + 1) (jd := id) (n := n) (m := n) (off := 0) (c1 := some n) (c2 := C) (pre := []) (P := List.replicate n 0) (W := l) hSm hSi rfl hl (Nat.le_refl _) (by simp) h0
  have hdz : (List.replicate n 0).drop n = [] := List.drop_of_length_le (by simp)
  rw [hdz, List.append_nil, List.nil_append] at hcp
  obtain ⟨S2, hS2⟩ : ∃ S2, S2 = S.set (σ.length + 1) (.row (cK .u32 l) 0) := ⟨_, rfl⟩
  rw [← hS2] at hcp
  have h2i : S2[id]? = some (.row (cK .u32 l) 0) := by rw [hS2]; exact set_at hSi (by omega)
  have h2b : S2[σ.length]? = some B := by rw [hS2]; exact set_at hSb (by omega)
  have h2m : S2[σ.length + 1]? = some (.row (cK .u32 l) 0) := by rw [hS2]; exact set_same hSm
  have hagg : opLoad 2 true (.ptr σ.length 0 0) S2 = some (.agg [bv true, .own id 0 0 n 1 (some n)]) := by
    rw [place_ld (a := bv true) (b := .own id 0 0 n 1 (some n)) (by rw [h2b, hB])]
    rfl
  obtain ⟨S3, hbel, hS3⟩ := below_own (cap := some n) h2i hl.symm hd (by omega)
  have hpos : 0 < val 4294967296 l := by
    have h1 := can_ge (B := 4294967296) (by decide) hc (by intro h; rw [h] at hl; simp at hl; omega)
    have h2 : 0 < 4294967296 ^ (l.length - 1) := Nat.pow_pos (by decide)
    omega
  have hneg : ival true l < 0 := ival_neg_iff.2 ⟨rfl, hpos⟩
  rw [decide_eq_true hneg] at hbel
  have h3m : S3[σ.length + 1]? = some (.row (cK .u32 l) 0) := by
    rcases hS3 with rfl | rfl
    · exact h2m
    · exact set_at h2m (by omega)
  have h3j : ∀ j, j < σ.length → j ≠ id → S3[j]? = σ[j]? := by
    intro j hj hji
    have e1 : S2[j]? = σ[j]? := by
      rw [hS2, List.getElem?_set_ne (by omega), hS, List.getElem?_append_left (by simp; omega), List.getElem?_append_left hj]
    rcases hS3 with rfl | rfl
    · exact e1
    · rw [List.getElem?_set_ne (Ne.symm hji), e1]
  simp [hbox, hmk, hld, hnorm, hcp, hagg, hbel]
  refine wpc_mono _ _ _ _ (giv_mono ?_) (digits_neg hd hl hn h3m (by simp) hpos)
  rintro v σ' ⟨W, rfl, rfl, dW, hW, hv⟩
  refine ⟨rfl, W, dW, hW, hv, set_same h3m, ?_⟩
  intro j hj hji
  rw [List.getElem?_set_ne (by omega), h3j j hj hji]
end Go.Proofs.Ytjacddclpcelmaa.AM.Bi
