/- TreeWalk: part 15. -/
import Derived.Test.YtimcmpndblajnaaDoorTr14
set_option maxRecDepth 1000000
set_option linter.unusedVariables false
set_option linter.unusedSimpArgs false
namespace Go.Proofs.YtimcmpndblajnaaDoor.AM.Tr
open Go.Proofs

section
variable {stop : List Int} {ts : Tree} {p8 p7 p9 p3 : Nat} {B : List Vq} {w : V}
theorem visL_app {st : List Int} {d : Nat} : ∀ {A A' : List Nd} {i : Nat}, visL st (A ++ A') d i = visL st A d i ++ visL st A' d (i + cnL A)
  | [], A', i => by simp [visL, cnL]
  | x :: r, A', i => by
    simp only [List.cons_append, visL, visL_app (A := r), List.append_assoc, cnL, Nat.add_assoc]
/-- What is asked for stands in the list from a place on. -/
def At (B : List Vq) (k : Nat) (A : List Vs) : Prop := ∀ j a, A[j]? = some a → ∃ b, B[k + j]? = some b ∧ b.1 = a.1 ∧ b.2.1 = a.2.1 ∧ NdQ a.2.2 b.2.2
theorem At.left {k : Nat} {A A' : List Vs} (h : At B k (A ++ A')) : At B k A := fun j a ha => h j a (by rw [List.getElem?_append_left (List.getElem?_eq_some_iff.1 ha).1]; exact ha)
theorem At.right {k : Nat} {A A' : List Vs} (h : At B k (A ++ A')) : At B (k + A.length) A' := fun j a ha => by
  have := h (A.length + j) a (by rw [List.getElem?_append_right (by omega), Nat.add_sub_cancel_left]; exact ha)
  rwa [← Nat.add_assoc] at this
def WkR (stop : List Int) (ts : Tree) (p8 p7 p9 p3 : Nat) (B : List Vq) (w : V) (x : Nd) (d i k : Nat) (σ : Store) (v : V) (σ' : Store) : Prop := v = nv .i64 (i + cnN x : Nat) ∧ σ'[p8]? = some (.row [nv .i64 (k + (visN stop x d i).length : Nat)] 0) ∧ (∀ j, j ≠ p8 → j < σ.length → σ'[j]? = σ[j]?) ∧ σ.length ≤ σ'.length
theorem walk_ok (hts : Rw (stop.map iT) (.tr ts)) (hsl : stop.length ≤ 1000) (n7 : p7 ≠ p8) (n9 : p9 ≠ p8) (n3 : p3 ≠ p8) (nw : ∀ id g n, w = .own id g 0 n 6 none → id ≠ p8) (hBl : B.length ≤ 2000) : ∀ (n : Nat) (x : Nd) (q : Q), SizeOf.sizeOf x ≤ n → cnN x ≤ 1000 → smN x → NdQ x q → ∀ (σ : Store) (d i k : Nat), WS stop ts p8 p7 p9 p3 B w k σ → At B k (visN stop x d i) → i + cnN x ≤ 2000 → d + dpN x ≤ 2000 →
    ∃ v σ', callL T 19 [.tr (ag q), nv .i64 i, nv .i64 d, .fn (.func 9) [] [.ptr p8 0 0, .ptr p7 0 0, .ptr p9 0 0, .ptr p3 0 0]] σ = some (v, σ') ∧ WkR stop ts p8 p7 p9 p3 B w x d i k σ v σ' := by
  intro n
  induction n with
  | zero => intro x q h; cases x; simp at h
  | succ n ih =>
    intro x q hn hx hsx hq σ d i k hws hat hi2 hd2
    have hq0 := hq
    have hsx0 := hsx
    obtain ⟨kk, a, s, ks⟩ := x
    obtain ⟨kk, a, s, t⟩ := q
    simp only [NdQ] at hq
    obtain ⟨rfl, rfl, rfl, L, hL, hks⟩ := hq
    simp only [smN] at hsx
    have hcx : cnN (.mk kk a s ks) = cnL ks + 1 := by simp only [cnN]
    have hdx : dpN (.mk kk a s ks) = dpL ks + 1 := by simp only [dpN]
    refine call_shared T19 rfl rfl ?_
    have hlk := len_cnL ks
    have hl : ∀ σ, opLen 1 (.tr t) σ = some (nv .i64 ks.length) := fun σ => by rw [isSl_len hL, ndL_len hks]
    obtain ⟨F, hF⟩ : ∃ F : V, F = .fn (.func 9) [] [.ptr p8 0 0, .ptr p7 0 0, .ptr p9 0 0, .ptr p3 0 0] := ⟨_, rfl⟩
    rw [← hF]
    obtain ⟨⟨bi, bd, bq⟩, hb, hb1, hb2, hb3⟩ := hat 0 (i, d, .mk kk a s ks) (by simp [visN])
    simp only at hb1 hb2 hb3
    subst hb1
    subst hb2
    rw [Nat.add_zero] at hb
    have hcl := clos_ok hts hsl hws n3 hBl hb hsx0 hq0 hb3
    have hcv : callV (callL T) F [nv .i64 bi, nv .i64 bd, .tr (ag (kk, a, s, t))] σ = some (bv (!decide ((bi : Int) ∈ stop)), σ.set p8 (.row [nv .i64 (k + 1 : Nat)] 0)) := by rw [hF]; exact hcl
    obtain ⟨σ1, hσ1⟩ : ∃ σ1, σ1 = σ.set p8 (.row [nv .i64 (k + 1 : Nat)] 0) := ⟨_, rfl⟩
    rw [← hσ1] at hcv
    have h8l := (List.getElem?_eq_some_iff.1 hws.h8).1
    have t8 : σ1[p8]? = some (.row [nv .i64 (k + 1 : Nat)] 0) := by rw [hσ1, List.getElem?_set_self h8l]
    have ts' : ∀ j, j ≠ p8 → j < σ.length → σ1[j]? = σ[j]? := fun j h1 h2 => by rw [hσ1, List.getElem?_set_ne (Ne.symm h1)]
    have tl : σ1.length = σ.length := by rw [hσ1]; simp
    have hws1 := hws.next n7 n9 n3 nw t8 ts'
    by_cases hin : (bi : Int) ∈ stop
    · rw [decide_eq_true hin] at hcv
      have hcn := cnt11 _ (.mk kk a s ks) (kk, a, s, t) (Nat.le_refl _) hx hq0
      have w1 : IntKind.i64.wrap ((bi : Int) + ((cnN (.mk kk a s ks) : Nat) : Int)) = ((bi + cnN (.mk kk a s ks) : Nat) : Int) := by rw [w64 (by omega) (by omega)]; omega
      simp [bx4, ld4, hcv, hcn, w1, -Int.natCast_add]
      refine ⟨rfl, ?_, ts', by omega⟩
      simp only [visN, if_pos hin]
      exact t8
    · rw [decide_eq_false hin] at hcv
      have w1 : IntKind.i64.wrap ((bi : Int) + 1) = ((bi + 1 : Nat) : Int) := w64 (by omega) (by omega)
      have hat1 : At B (k + 1) (visL stop ks (bd + 1) (bi + 1)) := by
        have h1 : visN stop (.mk kk a s ks) bd bi = [(bi, bd, .mk kk a s ks)] ++ visL stop ks (bd + 1) (bi + 1) := by simp only [visN, if_neg hin]; rfl
        rw [h1] at hat
        exact hat.right
      simp [bx4, ld4, hcv, k19_3, w1, fa43, ld43, hl, -Int.natCast_add]
      obtain ⟨I, hI⟩ : ∃ I : Nat → St → Prop, I = (fun j st => j ≤ ks.length ∧ ∃ e L σ', st = ⟨e, L, σ'⟩ ∧ (WS stop ts p8 p7 p9 p3 B w (k + 1 + (visL stop (ks.take j) (bd + 1) (bi + 1)).length) σ' ∧ (∀ j, j ≠ p8 → j < σ.length → σ'[j]? = σ[j]?) ∧ σ.length ≤ σ'.length) ∧ look e 1 = some (nv .i64 (bi + 1 + cnL (ks.take j) : Nat)) ∧ look e 2 = some (nv .i64 bd) ∧ look e 3 = some F ∧ look e 24 = some (.tr t) ∧ look e 25 = some (nv .i64 ks.length) ∧ look e 26 = some (nv .i64 j)) := ⟨_, rfl⟩
      refine wpc_up ks.length I ?_ ?_
      · rw [hI]
        exact ⟨Nat.zero_le _, _, _, σ1, rfl, ⟨by simpa [visL] using hws1, ts', by omega⟩, by simp [cnL], by simp, by simp, by simp, by simp, by simp⟩
      intro j st hIs
      rw [hI] at hIs
      obtain ⟨hj, e, Lc, σ', rfl, ⟨u1, u2, u3⟩, g1, g2, g3, g24, g25, g26⟩ := hIs
      by_cases hjl : j < ks.length
      · obtain ⟨y, hy⟩ : ∃ y, ks[j]? = some y := ⟨_, List.getElem?_eq_getElem hjl⟩
        obtain ⟨qy, hqy, hqy2⟩ := ndL_at hks hy
        have w2 : IntKind.i64.wrap ((j : Int) + 1) = ((j + 1 : Nat) : Int) := w64 (by omega) (by omega)
        have w3 : IntKind.i64.wrap ((bd : Int) + 1) = ((bd + 1 : Nat) : Int) := w64 (by omega) (by omega)
        have hia := fun σ => isSl_iaddr (σ := σ) (k := .i64) hL e4_len (by omega) hqy
        have hld := kid_at hqy
        have hcy := cnN_le hy
        have htk := cnL_take hy
        have hle := cnL_le (ks := ks) (i := j + 1)
        have hdy : dpN y ≤ dpL ks := by
          have h1 := dpL_take hy
          have h2 : dpL (ks.take (j + 1)) ≤ dpL ks := dpL_le
          omega
        have hsz : SizeOf.sizeOf y ≤ n := by
          have := List.sizeOf_lt_of_mem (List.mem_of_getElem? hy)
          simp at hn
          omega
        have hat2 : At B (k + 1 + (visL stop (ks.take j) (bd + 1) (bi + 1)).length) (visN stop y (bd + 1) (bi + 1 + cnL (ks.take j))) := by
          have h1 : visL stop ks (bd + 1) (bi + 1) = (visL stop (ks.take j) (bd + 1) (bi + 1) ++ visN stop y (bd + 1) (bi + 1 + cnL (ks.take j))) ++ visL stop (ks.drop (j + 1)) (bd + 1) (bi + 1 + cnL (ks.take (j + 1))) := by
            rw [← visL_take hy, ← visL_app, List.take_append_drop]
          rw [h1] at hat1
          exact hat1.left.right
        obtain ⟨σa, hσa⟩ : ∃ σa, σa = σ' ++ [Ob.row (z4.map .tr) 0] := ⟨_, rfl⟩
        have al : opAlloc z4 σ' = some (.ptr σ'.length 0 0, σa) := by rw [hσa]; rfl
        have sa := st4T (σ := σa) (n := σ'.length) (C := z4.map .tr) (by rw [hσa, List.getElem?_append_right (Nat.le_refl _)]; simp) rfl hqy2
        obtain ⟨σb, hσb⟩ : ∃ σb, σb = σa.set σ'.length (.row ((e4 qy).map .tr) 0) := ⟨_, rfl⟩
        rw [← hσb] at sa
        have lq : opLoad 4 true (.ptr σ'.length 0 0) σb = some (.tr (ag qy)) := (ld_4 (c := (qy.1, qy.2.1, qy.2.2.1, .tr qy.2.2.2)) (by rw [hσb, List.getElem?_set_self (by rw [hσa]; simp)]; rfl)).trans rfl
        have sb : ∀ j, j < σ'.length → σb[j]? = σ'[j]? := fun j h => by rw [hσb, List.getElem?_set_ne (by omega), hσa, List.getElem?_append_left h]
        have lb : σb.length = σ'.length + 1 := by rw [hσb, hσa]; simp
        have h8l' := (List.getElem?_eq_some_iff.1 u1.h8).1
        have hwsb := u1.next n7 n9 n3 nw (σ' := σb) (by rw [sb p8 h8l']; exact u1.h8) (fun j _ h => sb j h)
        obtain ⟨v, σc, hc, rfl, c2, c3, c4⟩ := ih y qy hsz (by omega) (smL_at hsx.2 (List.mem_of_getElem? hy)) hqy2 σb (bd + 1) (bi + 1 + cnL (ks.take j)) _ hwsb hat2 (by omega) (by omega)
        rw [← hF] at hc
        have hvl : (visL stop (ks.take (j + 1)) (bd + 1) (bi + 1)).length = (visL stop (ks.take j) (bd + 1) (bi + 1)).length + (visN stop y (bd + 1) (bi + 1 + cnL (ks.take j))).length := by rw [visL_take hy, List.length_append]
        have hwsc := hwsb.next n7 n9 n3 nw (σ' := σc) c2 c3
        simp [-opAlloc, k19_6, g26, g25, hjl, k19_8, g24, hia, hld, al, sa, lq, g1, g2, w3, g3, hc, w2, -Int.natCast_add]
        rw [hI]
        refine ⟨by omega, _, _, σc, rfl, ⟨?_, fun j' h1 h2 => by rw [c3 j' h1 (by omega), sb j' (by omega)]; exact u2 j' h1 h2, by omega⟩, ?_, by simp [g2], by simp [g3], by simp [g24], by simp [g25], by simp⟩
        · rw [hvl, ← Nat.add_assoc]; exact hwsc
        · rw [htk, ← Nat.add_assoc]; simp
      · have hje : j = ks.length := by omega
        subst hje
        rw [List.take_length] at u1 g1
        simp [k19_6, g26, g25, k19_9, g1, -Int.natCast_add]
        refine ⟨?_, ?_, u2, u3⟩
        · rw [hcx, show bi + 1 + cnL ks = bi + (cnL ks + 1) by omega]
        · have h1 : (visN stop (.mk kk a s ks) bd bi).length = 1 + (visL stop ks (bd + 1) (bi + 1)).length := by simp only [visN, if_neg hin, List.length_cons]; omega
          rw [h1, ← Nat.add_assoc]
          exact u1.h8
end
end Go.Proofs.YtimcmpndblajnaaDoor.AM.Tr
