/- TreeWalk: part 13. -/
import Derived.Test.YtimcmpndblajnaaDoorTr12
set_option maxRecDepth 1000000
set_option linter.unusedVariables false
set_option linter.unusedSimpArgs false
namespace Go.Proofs.YtimcmpndblajnaaDoor.AM.Tr
open Go.Proofs

abbrev iT (z : Int) : Tree := .sc (.int .i64 z)
abbrev z6 : List Tree := [.sc (.int .i64 0), .sc (.int .i64 0), .sc (.int .i64 0), .sc (.int .i64 0), .sc (.string ⟨⟨[]⟩⟩), .sc (.slice none 0 0)]
theorem lt4 {q : Q} : opLdt 4 true (rp q 0) = some (.tr (ag q)) := rfl
theorem bd6 (i d : Nat) (q : Q) : opBuild z6 [(0, 1, nv .i64 i), (1, 1, nv .i64 d), (2, 4, .tr (ag q))] = some (.tr (.agg (e6 (i, d, q)))) := rfl
theorem bs6 (σ : Store) (v : Vq) : opBslice false 1 6 z6 [(0, 6, .tr (.agg (e6 v)))] σ = some (.tr (.row (e6 v) 1 (some 1)), σ) := rfl
section
variable {c : CallA} {i : Nat} {ns : List Nat} {is : List (Nat × List Nat)} {d : Option Nat} {inK : Bool} {k : HK} {r : List HOp} {st : St} {K : St → Prop}
theorem opsD_11 {v : V} {σ1 : Store} (h : opA c k (st.only ns) = some (v, σ1)) : okP (opsRunD c i [] ((11, ns) :: is) (⟨d, inK, k, none⟩ :: r) st) K ↔ okP (opsRunD c (i + 1) [⟨8, k, st.only ns, v⟩] is r ({ st with σ := σ1 }.set d inK v)) K := by
  have hb : Nat.beq 11 1 = false := rfl
  have hb2 : Nat.beq 11 2 = false := rfl
  have hpa : pendAdd c 11 ns ⟨d, inK, k, none⟩ st [] = [⟨8, k, st.only ns, v⟩] := by
    unfold pendAdd
    simp only [guardA, h]
  simp only [opsRunD, hpa, hb2, Bool.false_and, Bool.false_eq_true, if_false]
  unfold opStepD
  simp only [guardA, hb, Bool.false_and, Bool.false_eq_true, if_false, h]
end
def OvR (stop : List Int) (x : Nd) (d i b : Nat) (σ : Store) (v : V) (σ' : Store) : Prop := ∃ B, LV σ' B v ∧ VsR (visN stop x d i) B ∧ σ'[b]? = some (.row [nv .i64 (i + cnN x : Nat)] 0) ∧ (∀ j, j ≠ b → j < σ.length → σ'[j]? = σ[j]?) ∧ σ.length ≤ σ'.length ∧ (∀ id g n, v = .own id g 0 n 6 none → σ.length ≤ id)
theorem over_ok {stop : List Int} {ts : Tree} (hts : Rw (stop.map iT) (.tr ts)) (hsl : stop.length ≤ 1000) : ∀ (n : Nat) (x : Nd) (q : Q), SizeOf.sizeOf x ≤ n → cnN x ≤ 1000 → NdQ x q → ∀ (σ : Store) (d i b : Nat), σ[b]? = some (.row [nv .i64 i] 0) → i + cnN x ≤ 2000 → d + dpN x ≤ 2000 →
    ∃ v σ', callL T 7 [.tr (ag q), nv .i64 d, .ptr b 0 0, .tr ts] σ = some (v, σ') ∧ OvR stop x d i b σ v σ' := by
  intro n
  induction n with
  | zero => intro x q h; cases x; simp at h
  | succ n ih =>
    intro x q hn hx hq σ d i b hb hi2 hd2
    obtain ⟨x0, hx0⟩ : ∃ x0, x0 = x := ⟨_, rfl⟩
    have hq0 := hq
    obtain ⟨k, a, s, ks⟩ := x
    obtain ⟨k, a, s, t⟩ := q
    simp only [NdQ] at hq
    obtain ⟨rfl, rfl, rfl, L, hL, hks⟩ := hq
    have hcx : cnN (.mk k a s ks) = cnL ks + 1 := by simp only [cnN]
    have hdx : dpN (.mk k a s ks) = dpL ks + 1 := by simp only [dpN]
    refine call_shared T7 rfl rfl ?_
    have hbl := (List.getElem?_eq_some_iff.1 hb).1
    have hlk := len_cnL ks
    have hl : ∀ σ, opLen 1 (.tr t) σ = some (nv .i64 ks.length) := fun σ => by rw [isSl_len hL, ndL_len hks]
    have hls : ∀ σ, opLen 1 (.tr ts) σ = some (nv .i64 stop.length) := fun σ => by rw [rw_len hts, List.length_map]
    have nc : ∀ (i : Nat), opNilCheck (.ptr i 0 0) = some (.ptr i 0 0) := fun _ => rfl
    have l0 := ld1 hb
    have w1 : IntKind.i64.wrap ((i : Int) + 1) = ((i + 1 : Nat) : Int) := w64 (by omega) (by omega)
    obtain ⟨σ1, hσ1⟩ : ∃ σ1, σ1 = σ.set b (.row [nv .i64 (i + 1)] 0) := ⟨_, rfl⟩
    have s1 : opStore 1 (.ptr b 0 0) (nv .i64 (i + 1)) σ = some σ1 := by rw [hσ1]; exact st1 hb rfl
    have h1b : σ1[b]? = some (.row [nv .i64 (i + 1)] 0) := by rw [hσ1, List.getElem?_set_self hbl]
    have h1s : ∀ j, j ≠ b → j < σ.length → σ1[j]? = σ[j]? := fun j h1 h2 => by rw [hσ1, List.getElem?_set_ne (Ne.symm h1)]
    have h1l : σ1.length = σ.length := by rw [hσ1]; simp
    simp [-opBuild, bx4, nc, l0, lt4, bd6, bs6, w1, s1, -Int.natCast_add]
    obtain ⟨w0, hw0⟩ : ∃ w0 : V, w0 = .tr (.row (e6 (i, d, k, a, s, t)) 1 (some 1)) := ⟨_, rfl⟩
    rw [← hw0]
    have hlv0 : ∀ σ, LV σ [(i, d, k, a, s, t)] w0 := fun σ => .inl ⟨_, rfl, hw0⟩
    obtain ⟨I, hI⟩ : ∃ I : Nat → St → Prop, I = (fun j st => j ≤ stop.length ∧ ∃ e L, st = ⟨e, L, σ1⟩ ∧ look e 1 = some (nv .i64 d) ∧ look e 2 = some (.ptr b 0 0) ∧ look e 3 = some (.tr ts) ∧ look e 4 = some (rp (k, a, s, t) 0) ∧ look e 9 = some w0 ∧ look e 10 = some (nv .i64 i) ∧ look e 11 = some (bv (decide ((i : Int) ∈ stop.take j))) ∧ look e 12 = some (nv .i64 j)) := ⟨_, rfl⟩
    refine wpc_up stop.length I ?_ ?_
    · rw [hI]
      exact ⟨Nat.zero_le _, _, _, rfl, by simp, by simp, by simp, by simp, by simp, by simp, by simp, by simp⟩
    intro j st hIs
    rw [hI] at hIs
    obtain ⟨hj, e, Lc, rfl, g1, g2, g3, g4, g9, g10, g11, g12⟩ := hIs
    by_cases hjl : j < stop.length
    · obtain ⟨z, hz⟩ : ∃ z, stop[j]? = some z := ⟨_, List.getElem?_eq_getElem hjl⟩
      have hzT : (stop.map iT)[j]? = some (iT z) := by rw [List.getElem?_map, hz]; rfl
      have hia := fun σ => rw_iaddr (σ := σ) hts hzT .i64
      have hld := fun σ => rw_load (σ := σ) hzT
      have w2 : IntKind.i64.wrap ((j : Int) + 1) = ((j + 1 : Nat) : Int) := w64 (by omega) (by omega)
      have htk : stop.take (j + 1) = stop.take j ++ [z] := by rw [List.take_add_one, hz]; rfl
      by_cases hin : (i : Int) ∈ stop.take j
      · rw [decide_eq_true hin] at g11
        simp [k7_6, g12, g3, hls, hjl, k7_8, g11, w2, -Int.natCast_add]
        rw [hI]
        exact ⟨by omega, _, _, rfl, by simp [g1], by simp [g2], by simp [g3], by simp [g4], by simp [g9], by simp [g10], by rw [htk]; simp [hin], by simp⟩
      · rw [decide_eq_false hin] at g11
        have hz2 : decide ((i : Int) ∈ stop.take (j + 1)) = decide (z = (i : Int)) := by
          rw [htk, Bool.eq_iff_iff]
          simp only [decide_eq_true_eq, List.mem_append, List.mem_singleton]
          constructor
          · rintro (h | h)
            · exact absurd h hin
            · exact h.symm
          · intro h; exact .inr h.symm
        simp [k7_6, g12, g3, hls, hjl, k7_8, g11, hia, hld, g10, w2, -Int.natCast_add]
        rw [hI]
        exact ⟨by omega, _, _, rfl, by simp [g1], by simp [g2], by simp [g3], by simp [g4], by simp [g9], by simp [g10], by rw [hz2]; simp, by simp⟩
    · have hje : j = stop.length := by omega
      subst hje
      rw [List.take_length] at g11
      simp [k7_6, g12, g3, hls]
      clear g12 g10
      by_cases hin : (i : Int) ∈ stop
      · rw [decide_eq_true hin] at g11
        have hcn := cnt12 _ (.mk k a s ks) (k, a, s, t) (Nat.le_refl _) hx hq0
        rw [hcx] at hcn
        have l1 := ld1 h1b
        have w3 : IntKind.i64.wrap (((cnL ks + 1 : Nat) : Int) - 1) = ((cnL ks : Nat) : Int) := by rw [w64 (by omega) (by omega)]; omega
        have w4 : IntKind.i64.wrap (((i + 1 : Nat) : Int) + ((cnL ks : Nat) : Int)) = ((i + (cnL ks + 1) : Nat) : Int) := by rw [w64 (by omega) (by omega)]; omega
        obtain ⟨σ2, hσ2⟩ : ∃ σ2, σ2 = σ1.set b (.row [nv .i64 (i + (cnL ks + 1) : Nat)] 0) := ⟨_, rfl⟩
        have s2 : opStore 1 (.ptr b 0 0) (nv .i64 (i + (cnL ks + 1) : Nat)) σ1 = some σ2 := by rw [hσ2]; exact st1 h1b rfl
        simp [k7_9, g11, g2, nc]
        rw [opsD_11 (v := nv .i64 (i + 1)) (σ1 := σ1) (by simp [l1])]
        obtain ⟨p, hp⟩ : ∃ p : Pend, p = ⟨8, .load 1 false (.loc 47), St.only ⟨e, [(47, .ptr b 0 0), (46, .ptr b 0 0)], σ1⟩ [47], nv .i64 (i + 1)⟩ := ⟨_, rfl⟩
        rw [← hp]
        have pe : ∀ j, pendAll (callL T) j σ1 [p] = true := by
          intro j
          rw [hp]
          have hlk2 : look (St.only ⟨e, [(47, V.ptr b 0 0), (46, V.ptr b 0 0)], σ1⟩ [47]).loc 47 = some (.ptr b 0 0) := rfl
          have he : ∀ z : Int, eqV (nv0 z) (nv0 z) = true := by
            intro z
            cases z <;> simp [eqV, eqT, eqS, eqInt]
          simp [pendAll, pendOk, hlk2, l1, he, bind1, pure1]
        have pf : ∀ σx, pendAll (callL T) 9 σx [p] = true := by
          intro σx
          rw [hp]
          rfl
        simp [opsDP_0, opsDP_1, opsDP_2, opsDP_nil, pe, pf, g2, g4, g9, lt4, hcn, nc, w3, w4, s2, -Int.natCast_add]
        refine ⟨[(i, d, k, a, s, t)], hlv0 _, ?_, by rw [hcx, hσ2, List.getElem?_set_self (by omega)], fun j h1 h2 => by rw [hσ2, List.getElem?_set_ne (Ne.symm h1)]; exact h1s j h1 h2, by rw [hσ2]; simp; omega, fun id g n h => by rw [hw0] at h; cases h⟩
        simp only [visN, if_pos hin, VsR]
        exact ⟨_, [], rfl, rfl, rfl, hq0, rfl⟩
      · rw [decide_eq_false hin] at g11
        simp [k7_9, g11, k7_13]
        obtain ⟨J, hJ⟩ : ∃ J : Nat → St → Prop, J = (fun j st => j ≤ ks.length ∧ ∃ e L σ', ∃ B w, st = ⟨e, L, σ'⟩ ∧ (LV σ' B w ∧ VsR ((i, d, .mk k a s ks) :: visL stop (ks.take j) (d + 1) (i + 1)) B ∧ σ'[b]? = some (.row [nv .i64 (i + 1 + cnL (ks.take j) : Nat)] 0) ∧ (∀ j, j ≠ b → j < σ.length → σ'[j]? = σ[j]?) ∧ σ.length ≤ σ'.length ∧ (∀ id g n, w = .own id g 0 n 6 none → σ.length ≤ id)) ∧ look e 1 = some (nv .i64 d) ∧ look e 2 = some (.ptr b 0 0) ∧ look e 3 = some (.tr ts) ∧ look e 4 = some (rp (k, a, s, t) 0) ∧ look e 9 = some w ∧ look e 13 = some (nv .i64 j)) := ⟨_, rfl⟩
        refine wpc_up ks.length J ?_ ?_
        · rw [hJ]
          refine ⟨Nat.zero_le _, _, _, σ1, [(i, d, k, a, s, t)], w0, rfl, ⟨hlv0 _, ?_, by simpa [cnL] using h1b, h1s, by omega, fun id g n h => by rw [hw0] at h; cases h⟩, by simp [g1], by simp [g2], by simp [g3], by simp [g4], by simp [g9], by simp⟩
          simp only [List.take_zero, visL, VsR]
          exact ⟨_, [], rfl, rfl, rfl, hq0, rfl⟩
        clear g1 g2 g3 g4 g9 g11
        intro j st hJs
        rw [hJ] at hJs
        obtain ⟨hj, e, Lc, σ', B, w, rfl, ⟨u1, u2, u3, u4, u5, u6⟩, g1, g2, g3, g4, g9, g13⟩ := hJs
        by_cases hjl : j < ks.length
        · obtain ⟨y, hy⟩ : ∃ y, ks[j]? = some y := ⟨_, List.getElem?_eq_getElem hjl⟩
          obtain ⟨qy, hqy, hqy2⟩ := ndL_at hks hy
          have w2 : IntKind.i64.wrap ((j : Int) + 1) = ((j + 1 : Nat) : Int) := w64 (by omega) (by omega)
          have w3 : IntKind.i64.wrap ((d : Int) + 1) = ((d + 1 : Nat) : Int) := w64 (by omega) (by omega)
          have hia := fun σ => isSl_iaddr (σ := σ) (k := .i64) hL e4_len (by omega) hqy
          have hld := kid_at hqy
          have hcy := cnN_le hy
          have htk := cnL_take hy
          have hle := cnL_le (ks := ks) (i := j + 1)
          have hdy : dpN y ≤ dpL ks := by
            have h1 := dpL_take hy
            have h2 : dpL (ks.take (j + 1)) ≤ dpL ks := dpL_le
            omega
          have hsz : SizeOf.sizeOf y ≤ n := by
            have := List.sizeOf_lt_of_mem (List.mem_of_getElem? hy)
            simp at hn
            omega
          obtain ⟨v, σ2, hc, C, c1, c2, c3, c4, c5, c6⟩ := ih y qy hsz (by omega) hqy2 σ' (d + 1) (i + 1 + cnL (ks.take j)) b u3 (by omega) (by omega)
          have hlw : LV σ2 B w := lv_mono u1 (fun id g n h1 h2 => c4 id (by have := u6 id g n h1; omega) h2)
          have hBl : B.length ≤ 1000 := by
            have h1 := vsR_len u2
            have h2 := visL_le (st := stop) (ks.take j) (d + 1) (i + 1)
            have h3 := cnL_le (ks := ks) (i := j)
            simp at h1
            omega
          have hCl := vsR_len c2
          have hCp := visN_pos (st := stop) y (d + 1) (i + 1 + cnL (ks.take j))
          have hCle := visN_le (st := stop) y (d + 1) (i + 1 + cnL (ks.take j))
          obtain ⟨w', σ3, a1, a2, a3, a4, a5⟩ := lv_app (lo := σ.length) hlw c1 (by omega) (vsR_one c2) hBl (by omega) u6 (by omega)
          simp [k7_15, g13, g4, fa43, ld43, hl, hjl, k7_17, hia, hld, g1, w3, g2, g3, hc, g9, a1, w2, -Int.natCast_add]
          rw [hJ]
          refine ⟨by omega, _, _, σ3, B ++ C, w', rfl, ⟨a2, ?_, by rw [a3 b hbl, c3, show i + 1 + cnL (ks.take j) + cnN y = i + 1 + cnL (ks.take (j + 1)) by omega], fun j' h1 h2 => by rw [a3 j' h2, c4 j' h1 (by omega)]; exact u4 j' h1 h2, by omega, a5⟩, by simp [g1], by simp [g2], by simp [g3], by simp [g4], by simp, by simp⟩
          rw [visL_take hy, ← List.cons_append]
          exact vsR_app u2 c2
        · have hje : j = ks.length := by omega
          subst hje
          rw [List.take_length] at u2 u3
          simp [k7_15, g13, g4, fa43, ld43, hl, k7_18, g9]
          refine ⟨B, u1, ?_, by rw [u3, hcx, show i + 1 + cnL ks = i + (cnL ks + 1) by omega], u4, u5, u6⟩
          simp only [visN, if_neg hin]
          exact u2
end Go.Proofs.YtimcmpndblajnaaDoor.AM.Tr
