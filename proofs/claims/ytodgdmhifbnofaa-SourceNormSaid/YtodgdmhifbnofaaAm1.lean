/- The abstract machine, part 1: A14 A15 A16 A17 A18 A19 A20 A21 A22 A23 A24. -/
import Derived.Test.YtodgdmhifbnofaaAm0
import Derived.Laws.IdiomStrings
import Derived.Laws.StructEq
import Derived.LoopN
section
set_option linter.unusedSimpArgs false
set_option linter.unusedVariables false
set_option linter.unusedVariables false
set_option linter.unusedSimpArgs false
open Go.RowKit
namespace Go.Proofs.Ytodgdmhifbnofaa.AM
section
variable {P : Program} {n0 : Nat} {w0 : World} {I0 : Nat → Prop} {σ σ' : Store} {ρ : Rho} {w w' : World}
theorem RVL_zero {h : Array Go.Obj} {I : Nat → Prop} (c : Array Value) : RVL h I σ ρ ((c.toList.map Tree.sc).map V.tr) c.toList := by
  rw [List.map_map]
  exact RVL_sc c.toList
theorem asIdx_sound {h : Array Go.Obj} {I : Nat → Prop} {v : V} {x : Value} {n : Nat} (e : asIdx? v = some n) (r : RV h I σ ρ v x) : ∃ k, x = .int k n := by
  unfold asIdx? at e
  split at e
  · rename_i k m
    split at e
    · rename_i hm
      simp only [Option.some.injEq] at e
      have := RV_sc.1 r
      subst this
      refine ⟨k, ?_⟩
      congr 1
      omega
    · cases e
  · cases e
theorem wrap_small {n : Nat} (h : n ≤ 2 ^ 38) : IntKind.i64.wrap (n : Int) = n := by
  have h1 : ((n : Int) % (2 ^ 64 : Int)) = n := Int.emod_eq_of_lt (by omega) (by omega)
  show (if (true && decide (((n : Int) % (2 ^ 64 : Int)) ≥ (2 ^ 63 : Int))) = true then ((n : Int) % (2 ^ 64 : Int)) - (2 ^ 64 : Int) else ((n : Int) % (2 ^ 64 : Int))) = n
  simp only [h1]
  rw [if_neg]
  simp only [Bool.true_and, decide_eq_true_eq]
  omega
theorem opMkslice_sound (hI : Inv n0 w0 I0 σ ρ w) {t elem : TypeId} {size bytes : Nat} {z : List Tree} {l c v : V} {lv cv : Value}
    (ht : P.underlying t = some (.slice elem)) (hs : sizeOfT P elem = some size) (hb : bytesOfT P elem = some bytes)
    (hz : zeroOf P elem = some z) (hzl : z.length = size)
    (e : opMkslice z bytes l c σ = some (v, σ'))
    (rl : RV w.heap (Icur n0 I0 σ ρ w.heap) σ ρ l lv) (rc : RV w.heap (Icur n0 I0 σ ρ w.heap) σ ρ c cv) :
    ∃ y w', (Instr.makeSlice t lv cv).run P w = .ok y w' ∧ Post n0 w0 I0 σ ρ w v σ' y w' := by
  unfold opMkslice at e
  cases hl : asIdx? l with
  | none => rw [hl] at e; cases e
  | some ln =>
  rw [hl] at e
  cases hc : asIdx? c with
  | none => rw [hc] at e; cases e
  | some cn =>
  rw [hc] at e
  simp only at e
  split at e
  case isFalse => cases e
  case isTrue h1 =>
  simp only [Option.some.injEq, Prod.mk.injEq] at e
  obtain ⟨rfl, rfl⟩ := e
  obtain ⟨kl, rfl⟩ := asIdx_sound hl rl
  obtain ⟨kc, rfl⟩ := asIdx_sound hc rc
  obtain ⟨i, hi, hib⟩ := bytes_of hb
  obtain ⟨i', zv, hi', hzv, rfl⟩ := zero_of hz
  rw [hi] at hi'
  cases hi'
  have hzs : zv.cells.size = size := by simpa using hzl
  have r1 := room_n h1.2
  have r2 := room_nb h1.2
  have wc : IntKind.i64.wrap (cn : Int) = cn := wrap_small r1
  have wl : IntKind.i64.wrap (ln : Int) = ln := wrap_small (by omega)
  have hcb : ((bytes : Int) * (cn : Int)) ≤ 2 ^ 38 := by
    rw [Int.mul_comm]
    exact_mod_cast r2
  have hbig : (decide ((cn : Int) < 0) || decide ((bytes : Int) * (cn : Int) > 2 ^ 48) || decide ((ln : Int) < 0) || decide ((ln : Int) > (cn : Int))) = false := by
    simp only [Bool.or_eq_false_iff, decide_eq_false_iff_not]
    refine ⟨⟨⟨by omega, by omega⟩, by omega⟩, by have := h1.1; omega⟩
  have harr : ∃ arr : Array Value, arr.toList = rep cn zv.cells.toList ∧ (Instr.makeSlice t (.int kl ln) (.int kc cn)).run P w =
      .ok (.slice (some ⟨w.heap.size, 0, none⟩) ln cn) { w with heap := w.heap.push (.cells arr elem) } := by
    refine ⟨(rep cn zv.cells.toList).toArray, rfl, ?_⟩
    unfold Instr.makeSlice
    simp only [asInt, asIntOf, Sem.run_bind, run_underlying ht, Result.andThen_ok, Sem.run_pure, run_typeInfo' hi, wc, wl, hib]
    have hif : ((decide ((cn : Int) < 0) || decide ((bytes : Int) * (cn : Int) > 2 ^ 48)) || decide ((ln : Int) < 0) || decide ((ln : Int) > (cn : Int))) = false := hbig
    simp only [hif, Bool.false_eq_true, if_false, Sem.run_bind, run_askRoom, Result.andThen_ok, run_sizeOf' hs, Int.toNat_natCast]
    by_cases h0 : cn * size = 0
    · rw [if_pos h0]
      have : rep cn zv.cells.toList = [] := List.length_eq_zero_iff.1 (by rw [rep_length]; simpa [hzs] using h0)
      have hr0 : Array.range 0 = #[] := rfl
      simp [h0, this, newRow, hr0]
    · rw [if_neg h0]
      simp only [Sem.run_bind, run_zeroValue' hi hzv, Result.andThen_ok, Sem.run_pure]
      rw [← hzs, zeros_eq]
      simp [newRow]
  obtain ⟨arr, ha, hrun⟩ := harr
  have hasz : arr.size = cn * size := by
    have := congrArg List.length ha
    rw [rep_length] at this
    simpa [hzs] using this
  obtain ⟨h2, h3⟩ := alloc_row (g := 0) (cs := (rep cn (zv.cells.toList.map Tree.sc)).map V.tr) hI (w' := { w with heap := w.heap.push (.cells arr elem) }) rfl (alloc_below hI _) (.inl rfl)
    (by rw [List.length_map, rep_length, hasz]; simp [hzs]) (fun k c hk => by
      have hr := RVL_rep (RVL_zero (h := w.heap) (I := Icur n0 I0 σ ρ w.heap) (σ := σ) (ρ := ρ) zv.cells) cn
      rw [← rep_map] at hr
      obtain ⟨y, hy, hr⟩ := RVL_get hr hk
      refine ⟨y, ?_, hr⟩
      rw [← ha] at hy
      simpa using hy)
  refine ⟨_, _, hrun, _, h2, h3, own_new _ 0 σ ρ _ _ _ _ (some cn) h1.1 (by simp) (by simp) (.inr ?_)⟩
  show cn * (zv.cells.toList.map Tree.sc).length ≤ bsize (w.heap.push (.cells arr elem)) w.heap.size
  rw [bsize_push_new, hasz]
  simp [hzs]
theorem opBslice_sound (hI : Inv n0 w0 I0 σ ρ w) {t elem : TypeId} {own : Bool} {len size : Nat} {z : List Tree} {ps : List (Nat × Nat × V)} {qs : Array (Nat × Value)} {v : V}
    (ht : P.underlying t = some (.slice elem)) (hs : sizeOfT P elem = some size)
    (hz : zeroOf P elem = some z) (hzl : z.length = size) (hbig : len * size ≤ 2 ^ 24)
    (e : opBslice own len size z ps σ = some (v, σ')) (hlen : ps.length = qs.toList.length)
    (hp : ∀ (k : Nat) p, ps[k]? = some p → ∃ q, qs.toList[k]? = some q ∧ rowPlaces size q.1 = some (p.1, p.2.1) ∧ RV w.heap (Icur n0 I0 σ ρ w.heap) σ ρ p.2.2 q.2) :
    ∃ y w', (Instr.buildSlice t len qs).run P w = .ok y w' ∧ Post n0 w0 I0 σ ρ w v σ' y w' := by
  obtain ⟨i, zv, hi, hzv, rfl⟩ := zero_of hz
  have hzs : zv.cells.size = size := by simpa using hzl
  unfold opBslice at e
  cases hf : fillV ((rep len (zv.cells.toList.map Tree.sc)).map V.tr) ps with
  | none => rw [hf] at e; cases e
  | some cs =>
  rw [hf] at e
  simp only at e
  have hr := RVL_rep (RVL_zero (h := w.heap) (I := Icur n0 I0 σ ρ w.heap) (σ := σ) (ρ := ρ) zv.cells) len
  rw [← rep_map] at hr
  obtain ⟨ys, hfill, ry⟩ := fill_sound (rowPlaces size) ps qs.toList _ cs _ hr hf hlen hp
  have hyl : ys.length = len * size := by
    have h1 := RVL_length ry
    have : ∀ (ps : List (Nat × Nat × V)) (a b : List V), fillV a ps = some b → b.length = a.length := by
      intro ps
      induction ps with
      | nil => intro a b h; simp only [fillV, Option.some.injEq] at h; subst h; rfl
      | cons p ps ih =>
        obtain ⟨o, s, pv⟩ := p
        intro a b h
        simp only [fillV] at h
        split at h
        case isFalse => cases h
        case isTrue ha =>
          split at h
          case isFalse => cases h
          case isTrue hb =>
            rw [ih _ _ h, splice_length (by omega)]
    have h2 := this ps _ _ hf
    rw [List.length_map, rep_length] at h2
    simp [hzs] at h2
    omega
  have hrun : (Instr.buildSlice t len qs).run P w = .ok (.slice (some ⟨w.heap.size, 0, none⟩) len len) { w with heap := w.heap.push (.cells ys.toArray elem) } := by
    unfold Instr.buildSlice
    simp only [Sem.run_bind, run_underlying ht, Result.andThen_ok, run_sizeOf' hs]
    rw [if_neg (by omega)]
    have hz0 : ∀ (zz : Array Value), (len * size = 0 ∧ zz = #[]) ∨ (¬ len * size = 0 ∧ zz = zv.cells) →
        ((Array.range (len * size)).map (zz[· % zz.size]!)) = (rep len zv.cells.toList).toArray := by
      rintro zz (⟨h0, rfl⟩ | ⟨h0, rfl⟩)
      · have : rep len zv.cells.toList = [] := List.length_eq_zero_iff.1 (by rw [rep_length]; simpa [hzs] using h0)
        have hr0 : Array.range 0 = #[] := rfl
        simp [h0, this, hr0]
      · rw [← hzs, zeros_eq]
    have hfill' : Instr.fill (fun i => some (i * size, size)) (rep len zv.cells.toList).toArray qs.toList = some ys.toArray := hfill
    by_cases h0 : len * size = 0
    · rw [if_pos h0]
      simp only [Sem.run_bind, Sem.run_pure, Result.andThen_ok]
      have := hz0 #[] (.inl ⟨h0, rfl⟩)
      rw [this, hfill']
      simp [newRow]
    · rw [if_neg h0]
      simp only [Sem.run_bind, run_zeroValue' hi hzv, Result.andThen_ok, Sem.run_pure]
      rw [hz0 _ (.inr ⟨h0, rfl⟩), hfill']
      simp [newRow]
  have hcells : ∀ (k : Nat) c, cs[k]? = some c → ∃ y, ys.toArray[k]? = some y ∧ RV w.heap (Icur n0 I0 σ ρ w.heap) σ ρ c y := by
    intro k c hk
    obtain ⟨y, hy, hr⟩ := RVL_get ry hk
    exact ⟨y, by simpa using hy, hr⟩
  have newP : v = .own σ.length 0 0 len size (some len) → σ' = σ ++ [.row cs 0] →
      ∃ y w', (Instr.buildSlice t len qs).run P w = .ok y w' ∧ Post n0 w0 I0 σ ρ w v σ' y w' := by
    rintro rfl rfl
    obtain ⟨h2, h3⟩ := alloc_row (g := 0) (cs := cs) hI (w' := { w with heap := w.heap.push (.cells ys.toArray elem) }) rfl (alloc_below hI _) (.inl rfl)
      (by rw [RVL_length ry]; simp) hcells
    refine ⟨_, _, hrun, _, h2, h3, own_new _ 0 σ ρ _ _ _ _ (some len) (Nat.le_refl _) (by simp) (by simp) (.inr ?_)⟩
    show len * size ≤ bsize (w.heap.push (.cells ys.toArray elem)) w.heap.size
    rw [bsize_push_new]
    simp [hyl]
  split at e
  case isTrue =>
    simp only [Option.some.injEq, Prod.mk.injEq] at e
    exact newP e.1.symm e.2.symm
  case isFalse =>
    cases hat : allTr cs with
    | none =>
      rw [hat] at e
      cases e
    | some ts =>
      rw [hat] at e
      simp only [Option.some.injEq, Prod.mk.injEq] at e
      obtain ⟨rfl, rfl⟩ := e
      have hcs := allTr_eq hat
      subst hcs
      let w' : World := { w with heap := w.heap.push (.cells ys.toArray elem) }
      have hold : ∀ b, b < w.heap.size → w'.heap[b]? = w.heap[b]? := fun b hb => by
        show (w.heap.push _)[b]? = _
        rw [Array.getElem?_push, if_neg (by omega)]
      have himm : ∀ b, Icur n0 I0 σ ρ w.heap b → Icur n0 I0 σ ρ w'.heap b ∧ w'.heap[b]? = w.heap[b]? := by
        intro b hb
        rcases hb with hb | ⟨h1, h2, h3⟩
        · have := hI.i0 b hb
          have := hI.n0_le
          exact ⟨.inl hb, hold b (by omega)⟩
        · exact ⟨.inr ⟨h1, by show b < (w.heap.push _).size; simp; omega, h3⟩, hold b h2⟩
      have E : Evo n0 I0 σ ρ w.heap σ ρ w'.heap := by
        refine ⟨⟨by show w.heap.size ≤ (w.heap.push _).size; simp, fun i ob h => ⟨ob, h, Nat.le_refl _, rfl, fun _ p hp => ⟨hp, ?_⟩⟩, fun i p hp => ⟨p, hp⟩, himm⟩, fun _ _ h => h⟩
        unfold bsize
        rw [hold p.1 (hI.new i p.1 p.2 hp).2.1]
      have hI' : Inv n0 w0 I0 σ ρ w' := by
        refine ⟨alloc_below hI _, hI.size0, hI.i0, fun i b o h => ?_, hI.inj, fun i b o ob h k => ObR_mono E (hold b (hI.new i b o h).2.1) (hI.obs i b o ob h k)⟩
        have := hI.new i b o h
        exact ⟨this.1, by show b < (w.heap.push _).size; simp; omega, this.2.2⟩
      refine ⟨_, w', hrun, ρ, hI', E, ?_⟩
      simp only [RV, RT]
      refine ⟨_, len, rfl, Nat.le_refl _, by simp, ?_⟩
      by_cases hnil : ts = []
      · exact .inl hnil
      · refine .inr ⟨w.heap.size, 0, rfl, .inr ⟨hI.n0_le, by show w.heap.size < (w.heap.push _).size; simp, fun i o h => ?_⟩, ?_⟩
        · have := (hI.new i _ o h).2.1
          omega
        · rw [RTC_iff]
          intro k tk hk
          obtain ⟨y, hy, hr⟩ := hcells k (.tr tk) (by simp [hk])
          refine ⟨y, ?_, by simpa [RV] using RV_mono E _ _ hr⟩
          show cellAt (w.heap.push _) _ _ = _
          unfold cellAt
          simpa using hy
theorem opBoxB_sound (hI : Inv n0 w0 I0 σ ρ w) {t : TypeId} {tb : Bool} {v v' : V} {x : Value} (e : opBoxB tb v σ = some (v', σ')) (r : RV w.heap (Icur n0 I0 σ ρ w.heap) σ ρ v x) :
    ∃ y w', (Instr.box t x).run P w = .ok y w' ∧ Post n0 w0 I0 σ ρ w v' σ' y w' := by
  unfold opBoxB at e
  split at e
  · split at e
    · rename_i ts hat
      simp only [Option.some.injEq, Prod.mk.injEq] at e
      obtain ⟨rfl, rfl⟩ := e
      have rc := RVL_cellsOf r
      rw [allTr_eq hat] at rc
      have hrun : (Instr.box t x).run P w = .ok (.pointer (some ⟨w.heap.size, 0, none⟩)) { w with heap := w.heap.push (.cells x.cells t) } := by simp [Instr.box, newVar, newRow]
      let w' : World := { w with heap := w.heap.push (.cells x.cells t) }
      have hold : ∀ b, b < w.heap.size → w'.heap[b]? = w.heap[b]? := fun b hb => by
        show (w.heap.push _)[b]? = _
        rw [Array.getElem?_push, if_neg (by omega)]
      have himm : ∀ b, Icur n0 I0 σ ρ w.heap b → Icur n0 I0 σ ρ w'.heap b ∧ w'.heap[b]? = w.heap[b]? := by
        intro b hb
        rcases hb with hb | ⟨h1, h2, h3⟩
        · have := hI.i0 b hb
          have := hI.n0_le
          exact ⟨.inl hb, hold b (by omega)⟩
        · exact ⟨.inr ⟨h1, by show b < (w.heap.push _).size; simp; omega, h3⟩, hold b h2⟩
      have E : Evo n0 I0 σ ρ w.heap σ ρ w'.heap := by
        refine ⟨⟨by show w.heap.size ≤ (w.heap.push _).size; simp, fun i ob h => ⟨ob, h, Nat.le_refl _, rfl, fun _ p hp => ⟨hp, ?_⟩⟩, fun i p hp => ⟨p, hp⟩, himm⟩, fun _ _ h => h⟩
        unfold bsize
        rw [hold p.1 (hI.new i p.1 p.2 hp).2.1]
      have hI' : Inv n0 w0 I0 σ ρ w' := by
        refine ⟨alloc_below hI _, hI.size0, hI.i0, fun i b o h => ?_, hI.inj, fun i b o ob h k => ObR_mono E (hold b (hI.new i b o h).2.1) (hI.obs i b o ob h k)⟩
        have := hI.new i b o h
        exact ⟨this.1, by show b < (w.heap.push _).size; simp; omega, this.2.2⟩
      refine ⟨_, w', hrun, ρ, hI', E, ?_⟩
      simp only [RV, RT]
      refine ⟨w.heap.size, 0, rfl, .inr ⟨hI.n0_le, by show w.heap.size < (w.heap.push _).size; simp, fun i o h => ?_⟩, ?_⟩
      · have := (hI.new i _ o h).2.1
        omega
      · rw [RTC_iff]
        intro k tk hk
        obtain ⟨y, hy, hr⟩ := RVL_get rc (k := k) (v := .tr tk) (by simp [hk])
        refine ⟨y, ?_, by simpa [RV] using RV_mono E _ _ hr⟩
        show cellAt (w.heap.push _) _ _ = _
        unfold cellAt
        simpa using hy
    · exact opBox_sound hI e r
  · exact opBox_sound hI e r
theorem ldt_load {s : Nat} {agg : Bool} {a v : V} (e : opLdt s agg a = some v) (τ : Store) : opLoad s agg a τ = some v := by
  unfold opLdt at e
  split at e
  · exact e
  · cases e
end
end Go.Proofs.Ytodgdmhifbnofaa.AM
end
section
set_option linter.unusedSimpArgs false
set_option linter.unusedVariables false
set_option linter.unusedVariables false
set_option linter.unusedSimpArgs false
open Go.RowKit
namespace Go.Proofs.Ytodgdmhifbnofaa.AM
section
variable {P : Program} {n0 : Nat} {w0 : World} {I0 : Nat → Prop} {σ σ' : Store} {ρ : Rho} {w w' : World}
def RO (h : Array Go.Obj) (I : Nat → Prop) (σ : Store) (ρ : Rho) : Option V → Option Value → Prop
  | none, x => x = none
  | some v, x => ∃ y, x = some y ∧ RV h I σ ρ v y
def OI : Option Nat → Option Value → Prop
  | none, x => x = none
  | some n, x => ∃ k, x = some (.int k n)
theorem optIdx_sound {h : Array Go.Obj} {I : Nat → Prop} {v : Option V} {x : Option Value} {n : Option Nat} (e : optIdx v = some n) (r : RO h I σ ρ v x) : OI n x := by
  cases v with
  | none => simp only [optIdx, Option.some.injEq] at e; subst e; exact r
  | some v =>
    obtain ⟨y, rfl, r⟩ := r
    simp only [optIdx] at e
    cases hv : asIdx? v with
    | none => rw [hv] at e; cases e
    | some m =>
      rw [hv] at e
      simp only [Option.some.injEq] at e
      subst e
      obtain ⟨k, rfl⟩ := asIdx_sound hv r
      exact ⟨k, rfl⟩
theorem run_sliceBound {k : IntKind} {n y : Nat} {code : BoundsCode} (h : n ≤ y) : (Instr.sliceBound (.int k n) y code).run P w = .ok n w := by
  simp only [Instr.sliceBound, asIntOf, Sem.run_bind, Sem.run_pure, Result.andThen_ok]
  rw [if_pos ⟨by omega, by omega⟩]
  simp
theorem run_sliceBounds {isS : Bool} {len cap : Nat} {lo hi mx : Option Nat} {lov hiv mxv : Option Value} (hlo : OI lo lov) (hhi : OI hi hiv) (hmx : OI mx mxv)
    (hh : (mx.isSome && hi.isNone) = false) (h1 : lo.getD 0 ≤ hi.getD len) (h2 : hi.getD len ≤ mx.getD cap) (h3 : mx.getD cap ≤ cap) :
    (Instr.sliceBounds isS len cap lov hiv mxv).run P w = .ok (lo.getD 0, hi.getD len, mx.getD cap) w := by
  cases mx with
  | none =>
    simp only [OI] at hmx
    subst hmx
    cases hi with
    | none =>
      simp only [OI] at hhi
      subst hhi
      cases lo with
      | none => simp only [OI] at hlo; subst hlo; simp [Instr.sliceBounds]
      | some l =>
        obtain ⟨k, rfl⟩ := hlo
        simp only [Option.getD_some, Option.getD_none] at h1 h2 h3 ⊢
        simp [Instr.sliceBounds, run_sliceBound h1]
    | some h =>
      obtain ⟨k, rfl⟩ := hhi
      simp only [Option.getD_some, Option.getD_none] at h1 h2 h3 ⊢
      cases lo with
      | none => simp only [OI] at hlo; subst hlo; simp [Instr.sliceBounds, run_sliceBound h2]
      | some l =>
        obtain ⟨k, rfl⟩ := hlo
        simp only [Option.getD_some] at h1 ⊢
        simp [Instr.sliceBounds, run_sliceBound h1, run_sliceBound h2]
  | some m =>
    obtain ⟨km, rfl⟩ := hmx
    cases hi with
    | none => simp at hh
    | some h =>
      obtain ⟨k, rfl⟩ := hhi
      simp only [Option.getD_some] at h1 h2 h3 ⊢
      cases lo with
      | none => simp only [OI] at hlo; subst hlo; simp [Instr.sliceBounds, run_sliceBound h2, run_sliceBound h3]
      | some l =>
        obtain ⟨k, rfl⟩ := hlo
        simp only [Option.getD_some] at h1 ⊢
        simp [Instr.sliceBounds, run_sliceBound h1, run_sliceBound h2, run_sliceBound h3]
theorem run_slice_sl {t elem : TypeId} {size len cap l h m : Nat} {a : Option Addr} {lov hiv mxv : Option Value} (ht : P.underlying t = some (.slice elem)) (hs : sizeOfT P elem = some size)
    (hb : (Instr.sliceBounds true len cap lov hiv mxv).run P w = .ok (l, h, m) w) :
    (Instr.sliceAt t (.slice a len cap) lov hiv mxv).run P w = .ok (.slice (if m = l then a else a.map (·.add (l * size))) (h - l) (m - l)) w := by
  unfold Instr.sliceAt
  simp only [Sem.run_bind, run_underlying ht, Result.andThen_ok]
  unfold Instr.slice
  simp only [Sem.run_bind, run_underlying ht, Result.andThen_ok, hb, run_sizeOf' hs, Sem.run_pure]
theorem opSlice_sound (hI : Inv n0 w0 I0 σ ρ w) {t elem : TypeId} {size : Nat} {x v : V} {lo hi mx : Option V} {xv : Value} {lov hiv mxv : Option Value}
    (ht : P.underlying t = some (.slice elem)) (hs : sizeOfT P elem = some size) (e : opSlice size x lo hi mx σ = some v)
    (rx : RV w.heap (Icur n0 I0 σ ρ w.heap) σ ρ x xv) (rlo : RO w.heap (Icur n0 I0 σ ρ w.heap) σ ρ lo lov) (rhi : RO w.heap (Icur n0 I0 σ ρ w.heap) σ ρ hi hiv)
    (rmx : RO w.heap (Icur n0 I0 σ ρ w.heap) σ ρ mx mxv) :
    ∃ y, (Instr.sliceAt t xv lov hiv mxv).run P w = .ok y w ∧ RV w.heap (Icur n0 I0 σ ρ w.heap) σ ρ v y := by
  unfold opSlice at e
  cases h1 : optIdx lo with
  | none => rw [h1] at e; cases e
  | some lo' =>
  cases h2 : optIdx hi with
  | none => rw [h1, h2] at e; cases e
  | some hi' =>
  cases h3 : optIdx mx with
  | none => rw [h1, h2, h3] at e; cases e
  | some mx' =>
  rw [h1, h2, h3] at e
  have ilo := optIdx_sound h1 rlo
  have ihi := optIdx_sound h2 rhi
  have imx := optIdx_sound h3 rmx
  simp only at e
  split at e
  case isTrue => cases e
  case isFalse hhm =>
  have hhm' : (mx'.isSome && hi'.isNone) = false := Bool.eq_false_iff.2 hhm
  cases x with
  | own id g off len sz cap =>
    simp only at e
    split at e
    case isTrue => cases e
    case isFalse hsz =>
    have hsz' : sz = size := by simpa using hsz
    subst hsz'
    cases hc : obCells σ id g with
    | none => rw [hc] at e; cases e
    | some cs =>
    rw [hc] at e
    simp only at e
    split at e
    case isFalse => cases e
    case isTrue hcond =>
    simp only [Option.some.injEq] at e
    subst e
    obtain ⟨ob, hob, hg⟩ := obCells_gen hc
    obtain ⟨a, c, b, o, rfl, hρ, hlc, hcap, hopen, hpl⟩ := own_parts rx hob hg
    obtain ⟨hl1, hl2, hl3⟩ := hcond
    have hmc : mx'.getD (hi'.getD len) ≤ c := by
      rcases hl3 with h | ⟨hn, h, hz⟩ | h
      · omega
      · have hop := hopen hn
        have : o + cs.length ≤ bsize w.heap b := by
          have hh := hI.obs id b o ob hρ hob
          unfold obCells at hc
          rw [hob] at hc
          cases ob with
          | row cs' g' =>
            simp only at hc
            split at hc
            · simp only [Option.some.injEq] at hc
              subst hc
              obtain ⟨arr, t', lo, hi, ha1, _, ha3, _⟩ := hh
              rw [bsize_of_arr ha1]
              exact ha3
            · cases hc
          | fro ts g' =>
            simp only at hc
            split at hc
            · simp only [Option.some.injEq] at hc
              subst hc
              obtain ⟨_, hr⟩ := hh
              rw [List.length_map]
              rcases Nat.eq_zero_or_pos ts.length with h0 | h0
              · omega
              · obtain ⟨y, hy, _⟩ := (RTC_iff ts b o).1 hr (ts.length - 1) (ts[ts.length - 1]'(by omega)) (List.getElem?_eq_getElem _)
                unfold cellAt at hy
                unfold bsize
                cases hbk : w.heap[b]? with
                | none => rw [hbk] at hy; cases hy
                | some blk =>
                  rw [hbk] at hy
                  cases blk <;> simp only at hy <;> first
                    | cases hy
                    | (have := Array.getElem?_eq_some_iff.1 hy
                       obtain ⟨hlt, _⟩ := this
                       simp only
                       omega)
            · cases hc
          | map => simp at hc
        have hm : mx'.getD (hi'.getD len) * sz ≤ c * sz := by omega
        exact Nat.le_of_mul_le_mul_right hm hz
      · cases cap with
        | none => simp [leCap] at h
        | some c0 =>
          have := hcap c0 rfl
          have := Nat.le_of_ble_eq_true h
          omega
    have hb := run_sliceBounds (P := P) (w := w) (isS := true) (len := len) (cap := c) ilo ihi imx hhm' hl1
      (by cases mx' with
          | none => simp only [Option.getD_none] at hmc ⊢; exact hmc
          | some m => simpa using hl2)
      (by cases mx' with
          | none => exact Nat.le_refl _
          | some m => simpa using hmc)
    refine ⟨_, run_slice_sl ht hs hb, ?_⟩
    have hM : mx'.getD c ≤ c := by
      cases mx' with
      | none => exact Nat.le_refl _
      | some m => simpa using hmc
    have hHM : hi'.getD len ≤ mx'.getD c := by
      cases mx' with
      | none => simp only [Option.getD_none] at hmc ⊢; exact hmc
      | some m => simpa using hl2
    have hadr : ∃ a', (if mx'.getD c = lo'.getD 0 then some a else (some a).map (·.add (lo'.getD 0 * sz))) = some a' ∧
        (mx'.getD c - lo'.getD 0 = 0 ∨ a' = ⟨b, o + (off + lo'.getD 0 * sz), none⟩) := by
      by_cases hm : mx'.getD c = lo'.getD 0
      · rw [if_pos hm]
        exact ⟨a, rfl, .inl (by omega)⟩
      · rw [if_neg hm]
        refine ⟨_, rfl, .inr ?_⟩
        rcases hpl with h0 | ⟨rfl, _⟩
        · omega
        · show Addr.add _ _ = _
          rw [addr_add]
          congr 1
          omega
    obtain ⟨a', ha', haddr⟩ := hadr
    rw [ha']
    simp only [RV]
    refine ⟨ob, a', _, hob, rfl, by omega, fun _ => ⟨b, o, hρ, by omega, ?_, ?_, ?_⟩⟩
    · intro k hk
      cases mx' with
      | some m => simp only [cutCap, Option.some.injEq] at hk; subst hk; rfl
      | none =>
        cases cap with
        | none => simp [cutCap] at hk
        | some c0 =>
          have := hcap c0 rfl
          subst this
          simp only [cutCap, Option.some.injEq] at hk
          subst hk; rfl
    · intro hk
      cases mx' with
      | some m => simp [cutCap] at hk
      | none =>
        cases cap with
        | some c0 => simp [cutCap] at hk
        | none =>
          have := hopen rfl
          simp only [Option.getD_none] at hHM hM ⊢
          have hle : lo'.getD 0 ≤ c := by omega
          have : lo'.getD 0 * sz + (c - lo'.getD 0) * sz = c * sz := by rw [← Nat.add_mul]; congr 1; omega
          omega
    · rcases haddr with h | rfl
      · exact .inl h
      · rcases hpl with h0 | ⟨_, hbs⟩
        · left; omega
        · right
          refine ⟨rfl, ?_⟩
          have hle : lo'.getD 0 ≤ mx'.getD c := by omega
          have h4 : lo'.getD 0 * sz + (mx'.getD c - lo'.getD 0) * sz = mx'.getD c * sz := by rw [← Nat.add_mul]; congr 1; omega
          have h5 : mx'.getD c * sz ≤ c * sz := Nat.mul_le_mul_right _ hM
          omega
  | tr tt =>
    cases tt with
    | row cs n cap =>
      simp only at e
      split at e
      case isFalse => cases e
      case isTrue hcond =>
      simp only [Option.some.injEq] at e
      subst e
      simp only [RV, RT] at rx
      obtain ⟨a, c, rfl, hnc, hcap, hpl⟩ := rx
      obtain ⟨hl1, hl2, hl3, hl4, hl5⟩ := hcond
      have hmc : mx'.getD (hi'.getD n) ≤ c := by
        rcases hl4 with h | h
        · omega
        · cases cap with
          | none => simp [leCap] at h
          | some c0 =>
            have := hcap c0 rfl
            have := Nat.le_of_ble_eq_true h
            omega
      have hM : mx'.getD c ≤ c := by
        cases mx' with
        | none => exact Nat.le_refl _
        | some m => simpa using hmc
      have hHM : hi'.getD n ≤ mx'.getD c := by
        cases mx' with
        | none => simp only [Option.getD_none]; omega
        | some m => simpa using hl3
      have hb := run_sliceBounds (P := P) (w := w) (isS := true) (len := n) (cap := c) ilo ihi imx hhm' hl1 hHM hM
      have hif : (if mx'.getD c = lo'.getD 0 then some a else Option.map (·.add (lo'.getD 0 * size)) (some a)) = some (if mx'.getD c = lo'.getD 0 then a else a.add (lo'.getD 0 * size)) := by split <;> rfl
      refine ⟨_, run_slice_sl ht hs hb, ?_⟩
      rw [hif]
      simp only [RV, RT]
      refine ⟨_, _, rfl, by omega, ?_, ?_⟩
      · intro k hk
        cases mx' with
        | some m => simp only [cutCap, Option.some.injEq] at hk; subst hk; rfl
        | none =>
          cases cap with
          | none => simp [cutCap] at hk
          | some c0 =>
            have := hcap c0 rfl
            subst this
            simp only [cutCap, Option.some.injEq] at hk
            subst hk; rfl
      · by_cases hnil : (cs.drop (lo'.getD 0 * size)).take ((hi'.getD n - lo'.getD 0) * size) = []
        · exact .inl hnil
        · right
          have hne : (hi'.getD n - lo'.getD 0) * size ≠ 0 := fun h0 => hnil (by rw [h0]; simp)
          have hlt : lo'.getD 0 < hi'.getD n := by
            rcases Nat.lt_or_ge (lo'.getD 0) (hi'.getD n) with h | h
            · exact h
            · exact absurd (by rw [Nat.sub_eq_zero_of_le h]; simp) hne
          rcases hpl with rfl | ⟨b, o, rfl, hIb, rc⟩
          · simp at hnil
          · refine ⟨b, o + lo'.getD 0 * size, ?_, hIb, ?_⟩
            · rw [if_neg (by omega), addr_add]
            · rw [RTC_iff] at rc ⊢
              intro k tk hk
              rw [List.getElem?_take] at hk
              split at hk
              · rw [List.getElem?_drop] at hk
                have := rc _ _ hk
                rw [show o + lo'.getD 0 * size + k = o + (lo'.getD 0 * size + k) by omega]
                exact this
              · cases hk
    | sc sv =>
      have := RV_sc.1 rx
      subst this
      split at e
      · rename_i heq; cases heq
      · rename_i heq; cases heq
      · rename_i heq
        cases heq
        split at e
        case isFalse => cases e
        case isTrue hz =>
          simp only [Option.some.injEq] at e
          subst e
          have hb := run_sliceBounds (P := P) (w := w) (isS := true) (len := 0) (cap := 0) ilo ihi imx hhm' (by omega) (by omega) (by omega)
          refine ⟨_, run_slice_sl ht hs hb, ?_⟩
          simp only [nilSl, RV, RT]
          rw [hz.1, hz.2.1, hz.2.2]
          rfl
      · cases e
    | _ => simp at e
  | _ => simp at e
end
end Go.Proofs.Ytodgdmhifbnofaa.AM
end
section
set_option linter.unusedSimpArgs false
set_option linter.unusedVariables false
set_option linter.unusedVariables false
set_option linter.unusedSimpArgs false
open Go.RowKit
namespace Go.Proofs.Ytodgdmhifbnofaa.AM
section
variable {P : Program} {n0 : Nat} {w0 : World} {I0 : Nat → Prop} {σ σ' : Store} {ρ : Rho} {w w' : World}
variable {h : Array Go.Obj} {I : Nat → Prop}
theorem opSliceStr_sound {t : TypeId} {x v : V} {lo hi : Option V} {xv : Value} {lov hiv : Option Value}
    (ht : P.underlying t = some .string) (e : opSliceStr x lo hi = some v) (rx : RV h I σ ρ x xv) (rlo : RO h I σ ρ lo lov) (rhi : RO h I σ ρ hi hiv) :
    ∃ y, (Instr.sliceAt t xv lov hiv none).run P w = .ok y w ∧ RV h I σ ρ v y := by
  unfold opSliceStr at e
  cases h1 : optIdx lo with
  | none => rw [h1] at e; split at e <;> simp_all
  | some lo' =>
  cases h2 : optIdx hi with
  | none => rw [h1, h2] at e; split at e <;> simp_all
  | some hi' =>
  rw [h1, h2] at e
  split at e
  · rename_i s lo2 hi2 hlo2 hhi2
    cases hlo2
    cases hhi2
    simp only at e
    split at e
    case isFalse => cases e
    case isTrue hc =>
    simp only [Option.some.injEq] at e
    subst e
    have := RV_sc.1 rx
    subst this
    have ilo := optIdx_sound h1 rlo
    have ihi := optIdx_sound h2 rhi
    have hsz : s.size = s.data.toList.length := rfl
    have hb := run_sliceBounds (P := P) (w := w) (isS := false) (len := s.size) (cap := s.size) (mx := none) (mxv := none) ilo ihi rfl rfl (by rw [hsz]; omega) (by rw [hsz]; simp only [Option.getD_none]; omega) (Nat.le_refl _)
    refine ⟨.string (s.extract (lo'.getD 0) (hi'.getD s.size)), ?_, ?_⟩
    · unfold Instr.sliceAt
      simp only [Sem.run_bind, run_underlying ht, Result.andThen_ok]
      unfold Instr.slice
      simp only [Sem.run_bind, run_underlying ht, Result.andThen_ok, Option.isSome_none, Bool.false_eq_true, if_false, hb, Sem.run_pure]
    · refine RV_sc.2 ?_
      congr 1
      apply ByteArray.ext
      rw [ByteArray.data_extract]
      apply Array.ext'
      simp only [Array.toList_extract, List.extract_eq_take_drop]
      rw [hsz, List.drop_take]
  · cases e
theorem opLen_sound (hI : Inv n0 w0 I0 σ ρ w) {t ty : TypeId} {d : TypeDesc} {k : Nat} {x v : V} {xv : Value} (ht : P.underlying t = some d)
    (hk : (k = 0 ∧ d = .string) ∨ (k = 1 ∧ ∃ e, d = .slice e) ∨ (k = 2 ∧ ∃ a b, d = .map a b))
    (e : opLen k x σ = some v) (rx : RV w.heap (Icur n0 I0 σ ρ w.heap) σ ρ x xv) :
    ∃ y, (Builtin.len_ #[t] ty #[xv]).run P w = .ok y w ∧ RV w.heap (Icur n0 I0 σ ρ w.heap) σ ρ v y := by
  rcases hk with ⟨rfl, rfl⟩ | ⟨rfl, el, rfl⟩ | ⟨rfl, kt, el, rfl⟩
  · change opLenStr x = some v at e
    unfold opLenStr at e
    split at e
    · simp only [Option.some.injEq] at e
      subst e
      have := RV_sc.1 rx
      subst this
      refine ⟨_, ?_, RV_sc.2 rfl⟩
      simp only [Builtin.len_, List.getElem?_toArray, List.getElem?_cons_zero, Sem.run_bind, run_underlying ht, Result.andThen_ok, Sem.run_pure]
      rfl
    · cases e
  · change opLenSl x = some v at e
    unfold opLenSl at e
    split at e
    · simp only [Option.some.injEq] at e
      subst e
      have := RV_sc.1 rx
      subst this
      refine ⟨_, ?_, RV_sc.2 rfl⟩
      simp [Builtin.len_, run_underlying ht, goInt]
    · simp only [Option.some.injEq] at e
      subst e
      simp only [RV, RT] at rx
      obtain ⟨a, c, rfl, _⟩ := rx
      refine ⟨_, ?_, RV_sc.2 rfl⟩
      simp [Builtin.len_, run_underlying ht, goInt]
    · simp only [Option.some.injEq] at e
      subst e
      simp only [RV] at rx
      obtain ⟨_, a, c, _, rfl, _⟩ := rx
      refine ⟨_, ?_, RV_sc.2 rfl⟩
      simp [Builtin.len_, run_underlying ht, goInt]
    · cases e
  · change opLenMap σ x = some v at e
    unfold opLenMap at e
    split at e
    · simp only [Option.some.injEq] at e
      subst e
      have := RV_sc.1 rx
      subst this
      refine ⟨_, ?_, RV_sc.2 rfl⟩
      simp [Builtin.len_, run_underlying ht, goInt]
    · simp only [RV] at rx
      obtain ⟨es, c, hob, b, hρ, rfl⟩ := rx
      rw [hob] at e
      simp only [Option.some.injEq] at e
      subst e
      obtain ⟨_, ces, hb, re⟩ := hI.obs _ b 0 _ hρ hob
      have hlen : ∀ (es : List Ent) (cs : List MapEntry), EntsR w.heap (Icur n0 I0 σ ρ w.heap) σ ρ es cs → es.length = cs.length := by
        intro es
        induction es with
        | nil => intro cs h; simp only [EntsR] at h; subst h; rfl
        | cons e es ih => intro cs h; obtain ⟨d, ds, rfl, _, h⟩ := h; simp [ih ds h]
      refine ⟨_, ?_, RV_sc.2 rfl⟩
      have := hlen _ _ re
      simp [Builtin.len_, run_underlying ht, goInt, getObj, Sem.run, hb, this]
    · cases e
theorem opCap_sound {t ty el : TypeId} {x v : V} {xv : Value} (ht : P.underlying t = some (.slice el)) (hI : Inv n0 w0 I0 σ ρ w)
    (e : opCap σ x = some v) (rx : RV w.heap (Icur n0 I0 σ ρ w.heap) σ ρ x xv) :
    ∃ y, (Builtin.cap_ #[t] ty #[xv]).run P w = .ok y w ∧ RV w.heap (Icur n0 I0 σ ρ w.heap) σ ρ v y := by
  unfold opCap at e
  split at e
  · simp only [Option.some.injEq] at e
    subst e
    have := RV_sc.1 rx
    subst this
    refine ⟨_, ?_, RV_sc.2 rfl⟩
    simp [Builtin.cap_, run_underlying ht, goInt]
  · simp only [Option.some.injEq] at e
    subst e
    simp only [RV, RT] at rx
    obtain ⟨a, c, rfl, _, hc, _⟩ := rx
    refine ⟨_, ?_, RV_sc.2 rfl⟩
    simp [Builtin.cap_, run_underlying ht, goInt, hc _ rfl]
  · rename_i id g off len sz c
    cases hob : σ[id]? with
    | none => rw [hob] at e; cases e
    | some ob =>
      rw [hob] at e
      simp only at e
      split at e
      · rename_i hg
        simp only [Option.some.injEq] at e
        subst e
        obtain ⟨a, c', b, o, rfl, _, _, hc, _⟩ := own_parts rx hob hg.symm
        refine ⟨_, ?_, RV_sc.2 rfl⟩
        simp [Builtin.cap_, run_underlying ht, goInt, hc _ rfl]
      · cases e
  · cases e
theorem opMinMax_sound {mx : Bool} {x y v : V} {xv yv : Value} (e : opMinMax mx x y = some v) (rx : RV h I σ ρ x xv) (ry : RV h I σ ρ y yv) :
    ∃ z, (if mx then Builtin.max2 xv yv else Builtin.min2 xv yv).run P w = .ok z w ∧ RV h I σ ρ v z := by
  unfold opMinMax at e
  split at e
  · simp only [Option.some.injEq] at e
    subst e
    have h1 := RV_sc.1 rx
    have h2 := RV_sc.1 ry
    subst h1 h2
    cases mx with
    | true => exact ⟨_, by simp only [if_true, Builtin.max2, Sem.run_pure], RV_sc.2 rfl⟩
    | false => exact ⟨_, by simp only [Bool.false_eq_true, if_false, Builtin.min2, Sem.run_pure], RV_sc.2 rfl⟩
  · cases e
theorem minmaxAll_sound {mx : Bool} : ∀ (vs : List V) (x v : V) (xs : List Value) (xv : Value), minmaxAll mx x vs = some v → RV h I σ ρ x xv → RVL h I σ ρ vs xs →
    ∃ z, (xs.foldlM (if mx then Builtin.max2 else Builtin.min2) xv).run P w = .ok z w ∧ RV h I σ ρ v z
  | [], x, v, xs, xv, e, rx, rs => by
    simp only [minmaxAll, Option.some.injEq] at e
    subst e
    simp only [RVL] at rs
    subst rs
    exact ⟨xv, by simp, rx⟩
  | u :: vs, x, v, xs, xv, e, rx, rs => by
    simp only [RVL] at rs
    obtain ⟨y, ys, rfl, ry, rs⟩ := rs
    simp only [minmaxAll] at e
    cases hm : opMinMax mx x u with
    | none => rw [hm] at e; cases e
    | some m =>
      rw [hm] at e
      obtain ⟨z, hz, rz⟩ := opMinMax_sound (P := P) (w := w) hm rx ry
      obtain ⟨z2, hz2, rz2⟩ := minmaxAll_sound vs m v ys z e rz rs
      refine ⟨z2, ?_, rz2⟩
      rw [List.foldlM_cons, Sem.run_bind]
      have : ((if mx = true then Builtin.max2 else Builtin.min2) xv y).run P w = .ok z w := by
        cases mx <;> simpa using hz
      rw [this, Result.andThen_ok]
      exact hz2
theorem opExtract_sound {x v : V} {i : Nat} {xv : Value} (e : opExtract x i = some v) (rx : RV h I σ ρ x xv) :
    ∃ y, (Instr.extract xv i).run P w = .ok y w ∧ RV h I σ ρ v y := by
  unfold opExtract at e
  split at e
  · simp only [RV] at rx
    obtain ⟨xs, rfl, r⟩ := rx
    obtain ⟨y, hy, hr⟩ := RVL_get r e
    exact ⟨y, by simp [Instr.extract, hy], hr⟩
  · simp only [RV, RT] at rx
    obtain ⟨xs, rfl, r⟩ := rx
    rename_i ts
    cases ht : ts[i]? with
    | none => rw [ht] at e; cases e
    | some t =>
      rw [ht] at e
      simp only [Option.map_some, Option.some.injEq] at e
      subst e
      obtain ⟨y, hy, hr⟩ := ((RTL_iff ts xs).1 r).2 i t ht
      exact ⟨y, by simp [Instr.extract, hy], by simpa [RV] using hr⟩
  · cases e
theorem opFaddr_sound {s : TypeId} {fs : Array Field} {f : Nat} {fl : Field} {size : Nat} {x v : V} {xv : Value} (hu : P.underlying s = some (.struct fs)) (hf : fs[f]? = some fl)
    (hs : sizeOfT P fl.type = some size) (h0 : size ≠ 0) (e : opFaddr fl.offset x = some v) (rx : RV h I σ ρ x xv) :
    ∃ y, (Instr.fieldAt s xv f).run P w = .ok y w ∧ RV h I σ ρ v y := by
  have run : ∀ b o, (Instr.fieldAt s (.pointer (some ⟨b, o, none⟩)) f).run P w = .ok (.pointer (some ⟨b, o + fl.offset, none⟩)) w := by
    intro b o
    simp only [Instr.fieldAt, Sem.run_bind, run_underlying hu, Result.andThen_ok, hf, Instr.sureAddr, Sem.run_pure, fieldPlace, run_sizeOf' hs, if_neg h0, addr_add]
  have run' : ∀ a, ∃ a', (Instr.fieldAt s (.pointer (some a)) f).run P w = .ok (.pointer (some a')) w := by
    intro a
    exact ⟨_, by simp only [Instr.fieldAt, Sem.run_bind, run_underlying hu, Result.andThen_ok, hf, Instr.sureAddr, Sem.run_pure, fieldPlace, run_sizeOf' hs, if_neg h0]; rfl⟩
  unfold opFaddr at e
  split at e
  · simp only [Option.some.injEq] at e
    subst e
    rename_i id g o'
    simp only [RV] at rx
    obtain ⟨ob, a, hob, rfl, hg, r⟩ := rx
    by_cases hgg : g = gen ob
    · obtain ⟨b, o, hρ, rfl⟩ := r hgg
      exact ⟨_, run _ _, by simp only [RV]; exact ⟨ob, _, hob, rfl, hg, fun _ => ⟨b, o, hρ, by rw [Nat.add_assoc]⟩⟩⟩
    · obtain ⟨a', ha'⟩ := run' a
      exact ⟨_, ha', by simp only [RV]; exact ⟨ob, _, hob, rfl, hg, fun h => absurd h hgg⟩⟩
  · simp only [Option.some.injEq] at e
    subst e
    simp only [RV, RT] at rx
    obtain ⟨b, o, rfl, hb, r⟩ := rx
    exact ⟨_, run _ _, by simp only [RV, RT]; exact ⟨b, o, by rw [Nat.add_assoc], hb, r⟩⟩
  · cases e
theorem opIaddr_sound {t elem : TypeId} {size : Nat} {x i v : V} {xv iv : Value} (ht : P.underlying t = some (.slice elem)) (hs : sizeOfT P elem = some size)
    (hI : Inv n0 w0 I0 σ ρ w) (e : opIaddr size x i σ = some v) (rx : RV w.heap (Icur n0 I0 σ ρ w.heap) σ ρ x xv) (ri : RV w.heap (Icur n0 I0 σ ρ w.heap) σ ρ i iv) :
    ∃ y, (Instr.indexAt t xv iv).run P w = .ok y w ∧ RV w.heap (Icur n0 I0 σ ρ w.heap) σ ρ v y := by
  unfold opIaddr at e
  cases hi : asIdx? i with
  | none => rw [hi] at e; cases e
  | some n =>
  rw [hi] at e
  simp only at e
  obtain ⟨k, rfl⟩ := asIdx_sound hi ri
  have run : ∀ b o len c, n < len → (Instr.indexAt t (.slice (some ⟨b, o, none⟩) len c) (.int k n)).run P w = .ok (.pointer (some ⟨b, o + n * size, none⟩)) w := by
    intro b o len c hn
    simp only [Instr.indexAt, asIntOf, Sem.run_bind, Sem.run_pure, run_underlying ht, Result.andThen_ok]
    rw [if_pos ⟨by omega, by omega⟩]
    simp only [Sem.run_bind, run_sizeOf' hs, Result.andThen_ok, Sem.run_pure, Int.toNat_natCast, addr_add]
  cases x with
  | own id g off len sz cap =>
    simp only at e
    cases hob : σ[id]? with
    | none => rw [hob] at e; cases e
    | some ob =>
    rw [hob] at e
    simp only at e
    split at e
    case isFalse => cases e
    case isTrue hc =>
    simp only [Option.some.injEq] at e
    subst e
    obtain ⟨hn, rfl, hg⟩ := hc
    obtain ⟨a, c, b, o, rfl, hρ, hlc, hcap, _, hpl⟩ := own_parts rx hob hg.symm
    rcases hpl with h0 | ⟨rfl, hb⟩
    · omega
    · refine ⟨_, run _ _ _ _ hn, ?_⟩
      simp only [RV]
      exact ⟨ob, _, hob, rfl, Nat.le_of_eq hg, fun _ => ⟨b, o, hρ, by rw [Nat.add_assoc]⟩⟩
  | tr tt =>
    cases tt with
    | row cs n' cap =>
      simp only at e
      split at e
      case isFalse => cases e
      case isTrue hn =>
      simp only [Option.some.injEq] at e
      subst e
      simp only [RV, RT] at rx
      obtain ⟨a, c, rfl, hnc, hcap, hpl⟩ := rx
      rcases hpl with rfl | ⟨b, o, rfl, hb, r⟩
      · simp at hn
      · exact ⟨_, run _ _ _ _ hn.1, by simp only [RV, RT]; exact ⟨b, o, rfl, hb, r⟩⟩
    | _ => simp at e
  | _ => simp at e
theorem opIndexStr_sound {t : TypeId} {x i v : V} {xv iv : Value} (ht : P.underlying t = some .string) (e : opIndexStr x i = some v)
    (rx : RV h I σ ρ x xv) (ri : RV h I σ ρ i iv) : ∃ y, (Instr.index t xv iv).run P w = .ok y w ∧ RV h I σ ρ v y := by
  unfold opIndexStr at e
  split at e
  · rename_i s n hi
    obtain ⟨k, rfl⟩ := asIdx_sound hi ri
    have := RV_sc.1 rx
    subst this
    cases hb : s.data.toList[n]? with
    | none => rw [hb] at e; cases e
    | some b =>
      rw [hb] at e
      simp only [Option.some.injEq] at e
      subst e
      refine ⟨_, ?_, RV_sc.2 rfl⟩
      have hget : s[n]? = some b := by
        rw [Array.getElem?_toList] at hb
        have := Array.getElem?_eq_some_iff.1 hb
        obtain ⟨hlt, heq⟩ := this
        have hlt' : n < s.size := hlt
        rw [getElem?_pos s n hlt']
        exact congrArg some heq
      simp only [Instr.index, asIntOf, Sem.run_bind, Sem.run_pure, run_underlying ht, Result.andThen_ok]
      rw [if_pos (by omega : (0 : Int) ≤ (n : Int))]
      simp [hget]
  · cases e
theorem opNilCheck_sound {x v : V} {xv : Value} (e : opNilCheck x = some v) (rx : RV h I σ ρ x xv) (Q : Sem Next) :
    v = x ∧ ((∃ a, xv = .pointer (some a)) ∨ (∃ f p q, xv = .func (.func f) p q)) := by
  unfold opNilCheck at e
  split at e
  · simp only [Option.some.injEq] at e; subst e
    simp only [RV] at rx; obtain ⟨_, a, _, rfl, _⟩ := rx
    exact ⟨rfl, .inl ⟨a, rfl⟩⟩
  · simp only [Option.some.injEq] at e; subst e
    simp only [RV, RT] at rx; obtain ⟨_, _, rfl, _⟩ := rx
    exact ⟨rfl, .inl ⟨_, rfl⟩⟩
  · simp only [Option.some.injEq] at e; subst e
    simp only [RV] at rx; obtain ⟨_, _, rfl, _⟩ := rx
    exact ⟨rfl, .inr ⟨_, _, _, rfl⟩⟩
  · simp only [Option.some.injEq] at e; subst e
    simp only [RV, RT] at rx; obtain ⟨_, _, rfl, _⟩ := rx
    exact ⟨rfl, .inr ⟨_, _, _, rfl⟩⟩
  · cases e
end
end Go.Proofs.Ytodgdmhifbnofaa.AM
end
section
set_option linter.unusedSimpArgs false
set_option linter.unusedVariables false
set_option linter.unusedVariables false
set_option linter.unusedSimpArgs false
open Go.RowKit
namespace Go.Proofs.Ytodgdmhifbnofaa.AM
section
variable {P : Program} {n0 : Nat} {w0 : World} {I0 : Nat → Prop} {σ σ' : Store} {ρ : Rho} {w w' : World}
variable {h : Array Go.Obj} {I : Nat → Prop}
theorem RVL_slice {cs r : List V} {xs : List Value} {off n : Nat} (e : slice? cs off n = some r) (rc : RVL h I σ ρ cs xs) :
    ((xs.drop off).take n).length = n ∧ RVL h I σ ρ r ((xs.drop off).take n) := by
  unfold slice? at e
  simp only at e
  split at e
  · rename_i hl
    simp only [Option.some.injEq] at e
    subst e
    have := RVL_take (RVL_drop rc off) n
    exact ⟨by rw [← RVL_length this]; exact hl, this⟩
  · cases e
theorem opField_sound {t : TypeId} {fs : Array Field} {f : Nat} {fl : Field} {d : TypeDesc} {size : Nat} {x v : V} {xv : Value} (hu : P.underlying t = some (.struct fs)) (hf : fs[f]? = some fl)
    (hd : P.underlying fl.type = some d) (hs : sizeOfT P fl.type = some size) (h1 : isAggD d || decide (size = 1))
    (e : opField fl.offset size (isAggD d) x = some v) (rx : RV h I σ ρ x xv) :
    ∃ y, (Instr.field t xv f).run P w = .ok y w ∧ RV h I σ ρ v y := by
  have fin : ∀ (cs r : List V) (xs : List Value), RVL h I σ ρ cs xs → slice? cs fl.offset size = some r → ofCells (isAggD d) r = some v →
      ∃ y, (Instr.field t (.agg xs.toArray) f).run P w = .ok y w ∧ RV h I σ ρ v y := by
    intro cs r xs rc hsl ho
    obtain ⟨hl, rr⟩ := RVL_slice hsl rc
    simp only [Instr.field, Sem.run_bind, run_underlying hu, Result.andThen_ok, hf, asAgg, Sem.run_pure, part, run_isAgg hd]
    rcases ofCells_sound ho rr with ⟨ha, hr⟩ | ⟨ha, y, hy, hr⟩
    · refine ⟨_, ?_, hr⟩
      simp only [ha, if_true, Sem.run_bind, run_sizeOf' hs, Result.andThen_ok, Sem.run_pure]
      congr 2
      apply Array.ext'
      simp only [Array.toList_extract, List.extract_eq_take_drop]
      rw [Nat.add_sub_cancel_left]
    · refine ⟨y, ?_, hr⟩
      simp only [ha, Bool.false_eq_true, if_false]
      have hsz : size = 1 := by rw [ha] at h1; simpa using h1
      have : xs[fl.offset]? = some y := by
        have := congrArg (·[0]?) hy
        simp only [List.getElem?_cons_zero] at this
        rw [List.getElem?_take, if_pos (by omega), List.getElem?_drop, Nat.add_zero] at this
        exact this
      simp [this]
  unfold opField at e
  split at e
  · rename_i cs
    simp only [RV] at rx
    obtain ⟨xs, rfl, rc⟩ := rx
    split at e
    · rename_i r hsl
      exact fin cs r xs rc hsl e
    · cases e
  · rename_i ts
    simp only [RV, RT] at rx
    obtain ⟨xs, rfl, rc⟩ := rx
    split at e
    · rename_i r hsl
      refine fin (ts.map .tr) (r.map .tr) xs ((RVL_tr ts xs).2 rc) ?_ e
      unfold slice? at hsl ⊢
      simp only at hsl ⊢
      split at hsl
      · rename_i hl
        simp only [Option.some.injEq] at hsl
        subst hsl
        rw [← List.map_drop, ← List.map_take, if_pos (by rw [List.length_map]; exact hl)]
      · cases hsl
    · cases e
  · rename_i cs
    have := RV_sc.1 rx
    subst this
    split at e
    · rename_i r hsl
      refine fin (cs.toList.map fun v => .tr (.sc v)) (r.map fun v => .tr (.sc v)) cs.toList (RVL_sc _) ?_ e
      unfold slice? at hsl ⊢
      simp only at hsl ⊢
      split at hsl
      · rename_i hl
        simp only [Option.some.injEq] at hsl
        subst hsl
        rw [← List.map_drop, ← List.map_take, if_pos (by rw [List.length_map]; exact hl)]
      · cases hsl
    · cases e
  · cases e
theorem run_mapM_sizes : ∀ (l : List Field), (∀ f ∈ l, (sizeOfT P f.type).isSome = true) →
    (l.mapM fun (f : Field) => (do pure (f.offset, ← sizeOf f.type) : Sem (Nat × Nat))).run P w = .ok (l.map fun f => (f.offset, (sizeOfT P f.type).getD 0)) w
  | [], _ => by simp
  | f :: l, hl => by
    have h1 := hl f (by simp)
    obtain ⟨s, hs⟩ := Option.isSome_iff_exists.1 h1
    rw [List.mapM_cons]
    simp only [Sem.run_bind, run_sizeOf' hs, Result.andThen_ok, Sem.run_pure, run_mapM_sizes l (fun f hf => hl f (by simp [hf]))]
    simp [hs]
theorem opBuild_sound {t : TypeId} {d : TypeDesc} {z : List Tree} {place : Nat → Option (Nat × Nat)} {ps : List (Nat × Nat × V)} {qs : Array (Nat × Value)} {v : V}
    (hz : zeroOf P t = some z) (hu : P.underlying t = some d)
    (hd : (∃ fs, d = .struct fs ∧ place = structPlaces P fs ∧ fs.toList.all (fun f => (sizeOfT P f.type).isSome) = true) ∨ (∃ n el s, d = .array n el ∧ sizeOfT P el = some s ∧ place = rowPlaces s))
    (e : opBuild z ps = some v) (hlen : ps.length = qs.toList.length)
    (hp : ∀ (k : Nat) p, ps[k]? = some p → ∃ q, qs.toList[k]? = some q ∧ place q.1 = some (p.1, p.2.1) ∧ RV h I σ ρ p.2.2 q.2) :
    ∃ y, (Instr.build t qs).run P w = .ok y w ∧ RV h I σ ρ v y := by
  obtain ⟨i, zv, hi, hzv, rfl⟩ := zero_of hz
  unfold opBuild at e
  cases hf : fillV ((zv.cells.toList.map Tree.sc).map V.tr) ps with
  | none => rw [hf] at e; cases e
  | some cs =>
  rw [hf] at e
  simp only [Option.some.injEq] at e
  subst e
  obtain ⟨ys, hfill, ry⟩ := fill_sound place ps qs.toList _ cs _ (RVL_zero (h := h) (I := I) (σ := σ) (ρ := ρ) zv.cells) hf hlen hp
  refine ⟨.agg ys.toArray, ?_, RV_mkAgg ry⟩
  unfold Instr.build
  simp only [Sem.run_bind, run_zeroValue' hi hzv, Result.andThen_ok, run_underlying hu]
  rcases hd with ⟨fs, rfl, rfl, hall⟩ | ⟨n, el, s, rfl, hs, rfl⟩
  · simp only
    rw [Array.mapM_eq_mapM_toList, Sem.run_bind, Sem.run_map, run_mapM_sizes fs.toList (fun f hf => List.all_eq_true.1 hall f hf)]
    simp only [Result.andThen_ok]
    have hpl : (fun i => ((fs.toList.map fun f => (f.offset, (sizeOfT P f.type).getD 0)).toArray)[i]?) = structPlaces P fs := by
      funext i
      rw [List.getElem?_toArray, List.getElem?_map]
      unfold structPlaces
      rw [Array.getElem?_toList]
      cases hfi : fs[i]? with
      | none => rfl
      | some f =>
        have : f ∈ fs.toList := by
          rw [← Array.getElem?_toList] at hfi
          exact List.mem_of_getElem? hfi
        have h1 := List.all_eq_true.1 hall f this
        obtain ⟨s, hs⟩ := Option.isSome_iff_exists.1 h1
        simp [hs]
    have hfill' : Instr.fill (fun i => ((fs.toList.map fun f => (f.offset, (sizeOfT P f.type).getD 0)).toArray)[i]?) zv.cells qs.toList = some ys.toArray := by
      rw [hpl]; exact hfill
    rw [hfill']
    simp
  · simp only [Sem.run_bind, run_sizeOf' hs, Result.andThen_ok]
    have hfill' : Instr.fill (fun i => some (i * s, s)) zv.cells qs.toList = some ys.toArray := hfill
    rw [hfill']
    simp
theorem obPut_row {id g off : Nat} {r : List V} {σ2 : Store} (hput : obPut σ id g off r = some σ2) : ∃ cs, σ[id]? = some (.row cs g) := by
  unfold obPut at hput
  cases hs' : σ[id]? with
  | none => rw [hs'] at hput; cases hput
  | some ob =>
    rw [hs'] at hput
    cases ob with
    | row cs g' =>
      simp only at hput
      split at hput
      · rename_i hc; exact ⟨cs, by rw [hc.1]⟩
      · cases hput
    | fro => cases hput
    | map => cases hput
theorem opCopy_sound (hI : Inv n0 w0 I0 σ ρ w) {t elem ty : TypeId} {ts : Array TypeId} {size : Nat} {d x v : V} {dv xv : Value} (hts : ts[0]? = some t)
    (ht : P.underlying t = some (.slice elem)) (hs : sizeOfT P elem = some size) (e : opCopy size d x σ = some (v, σ'))
    (rd : RV w.heap (Icur n0 I0 σ ρ w.heap) σ ρ d dv) (rx : RV w.heap (Icur n0 I0 σ ρ w.heap) σ ρ x xv) :
    ∃ y w', (Builtin.copy_ ts ty #[dv, xv]).run P w = .ok y w' ∧ Post n0 w0 I0 σ ρ w v σ' y w' := by
  unfold opCopy at e
  cases ex : elems σ size x with
  | none => rw [ex] at e; cases e
  | some q =>
  obtain ⟨xs, n⟩ := q
  rw [ex] at e
  simp only at e
  obtain ⟨zs, hz1, hz2, hz3, hz4⟩ := elems_sound (P := P) hI ex rx
  have run : ∀ (base : Option Addr) (len c : Nat) (w' : World), (match base with | some a => (storeCells a (zs.take (Nat.min n len * size))).run P w = .ok () w' | none => w' = w) →
      (Builtin.copy_ ts ty #[.slice base len c, xv]).run P w = .ok (.int .i64 (Nat.min n len : Nat)) w' := by
    intro base len c w' hst
    unfold Builtin.copy_
    simp only [hts, List.getElem?_toArray, List.getElem?_cons_zero, List.getElem?_cons_succ, Sem.run_bind, run_underlying ht, Result.andThen_ok, hz3, run_sizeOf' hs, hz4 _ (Nat.min_le_left n len)]
    cases base with
    | none =>
      simp only at hst
      subst hst
      simp [goInt]
    | some a =>
      simp only at hst
      simp only [Sem.run_bind]
      rw [hst]
      simp [goInt]
  have zero : ∀ (base : Option Addr) (len c : Nat), dv = .slice base len c → Nat.min n len = 0 → v = int .i64 0 → σ' = σ →
      ∃ y w', (Builtin.copy_ ts ty #[dv, xv]).run P w = .ok y w' ∧ Post n0 w0 I0 σ ρ w v σ' y w' := by
    rintro base len c rfl hm rfl rfl
    refine ⟨_, w, run base len c w ?_, Post.same hI (RV_sc.2 (by rw [hm]; rfl))⟩
    cases base with
    | none => rfl
    | some a => rw [hm]; simp [storeCells]
  cases d with
  | own id g off len sz cap =>
    simp only at e
    split at e
    case isTrue => cases e
    case isFalse hsz =>
    have hsz' : sz = size := by simpa using hsz
    subst hsz'
    split at e
    case isTrue hm =>
      simp only [Option.some.injEq, Prod.mk.injEq] at e
      have rd' := rd
      simp only [RV] at rd'
      obtain ⟨_, a, c, _, hdv, _⟩ := rd'
      exact zero _ _ _ hdv hm e.1.symm e.2.symm
    case isFalse hm =>
      cases hput : obPut σ id g off (xs.take (Nat.min n len * sz)) with
      | none => rw [hput] at e; cases e
      | some σ2 =>
      rw [hput] at e
      simp only [Option.some.injEq, Prod.mk.injEq] at e
      obtain ⟨rfl, rfl⟩ := e
      obtain ⟨cs, hob⟩ := obPut_row hput
      obtain ⟨a, c, b, o, rfl, hρ, hlc, hcap, _, hpl⟩ := own_parts rd hob rfl
      have hmn : Nat.min n len ≤ len := Nat.min_le_right n len
      rcases hpl with h0 | ⟨rfl, hb⟩
      · omega
      · obtain ⟨w', hrun, hI', hE⟩ := obPut_sound (P := P) hI hput hρ (RVL_take hz1 _)
        exact ⟨_, w', run _ _ _ w' hrun, ρ, hI', hE, RV_sc.2 rfl⟩
  | tr tt =>
    cases tt with
    | row cs len cap =>
      simp only at e
      split at e
      case isFalse => cases e
      case isTrue hm =>
      simp only [Option.some.injEq, Prod.mk.injEq] at e
      have rd' := rd
      simp only [RV, RT] at rd'
      obtain ⟨a, c, hdv, _⟩ := rd'
      exact zero _ _ _ hdv hm e.1.symm e.2.symm
    | sc sv =>
      have := RV_sc.1 rd
      subst this
      split at e
      · rename_i heq
        cases heq
        simp only [Option.some.injEq, Prod.mk.injEq] at e
        exact zero _ _ _ rfl (Nat.min_eq_right (Nat.zero_le _)) e.1.symm e.2.symm
      · rename_i heq; cases heq
      · rename_i heq; cases heq
      · cases e
    | _ => simp at e
  | _ => simp at e
theorem opClear_sound (hI : Inv n0 w0 I0 σ ρ w) {t elem ty : TypeId} {z : List Tree} {x v : V} {xv : Value}
    (ht : P.underlying t = some (.slice elem)) (hz : zeroOf P elem = some z) (e : opClear z x σ = some (v, σ'))
    (rx : RV w.heap (Icur n0 I0 σ ρ w.heap) σ ρ x xv) :
    ∃ y w', (Builtin.clear_ #[t] ty #[xv]).run P w = .ok y w' ∧ Post n0 w0 I0 σ ρ w v σ' y w' := by
  obtain ⟨i, zv, hi, hzv, rfl⟩ := zero_of hz
  have noop : ∀ (a : Option Addr) (n c : Nat), xv = .slice a n c → (a = none ∨ n = 0) → v = .tr (.tup []) → σ' = σ →
      ∃ y w', (Builtin.clear_ #[t] ty #[xv]).run P w = .ok y w' ∧ Post n0 w0 I0 σ ρ w v σ' y w' := by
    rintro a n c rfl h0 rfl rfl
    refine ⟨.tuple #[], w, ?_, Post.same hI (by simp only [RV, RT, RTL]; exact ⟨[], rfl, rfl⟩)⟩
    unfold Builtin.clear_
    simp only [List.getElem?_toArray, List.getElem?_cons_zero, Sem.run_bind, run_underlying ht, Result.andThen_ok]
    rcases h0 with rfl | rfl
    · simp
    · cases a <;> simp
  unfold opClear at e
  split at e
  · simp only [Option.some.injEq, Prod.mk.injEq] at e
    exact noop _ _ _ (RV_sc.1 rx) (.inl rfl) e.1.symm e.2.symm
  · simp only [Option.some.injEq, Prod.mk.injEq] at e
    simp only [RV, RT] at rx
    obtain ⟨a, c, hx, _⟩ := rx
    exact noop _ _ _ hx (.inr rfl) e.1.symm e.2.symm
  · simp only [Option.some.injEq, Prod.mk.injEq] at e
    simp only [RV] at rx
    obtain ⟨_, a, c, _, hx, _⟩ := rx
    exact noop _ _ _ hx (.inr rfl) e.1.symm e.2.symm
  · rename_i id g off len sz cap hne
    split at e
    case isTrue => cases e
    case isFalse hsz =>
    have hsz' : sz = (zv.cells.toList.map Tree.sc).length := by simpa using hsz
    cases hput : obPut σ id g off ((rep len (zv.cells.toList.map Tree.sc)).map .tr) with
    | none => rw [hput] at e; cases e
    | some σ2 =>
    rw [hput] at e
    simp only [Option.some.injEq, Prod.mk.injEq] at e
    obtain ⟨rfl, rfl⟩ := e
    obtain ⟨cs, hob⟩ := obPut_row hput
    obtain ⟨a, c, b, o, rfl, hρ, hlc, hcap, _, hpl⟩ := own_parts rx hob rfl
    have hlen : len ≠ 0 := by
      rintro rfl
      exact hne rfl
    rcases hpl with h0 | ⟨rfl, hb⟩
    · omega
    · have hr := RVL_rep (RVL_zero (h := w.heap) (I := Icur n0 I0 σ ρ w.heap) (σ := σ) (ρ := ρ) zv.cells) len
      rw [← rep_map] at hr
      obtain ⟨w', hrun, hI', hE⟩ := obPut_sound (P := P) hI hput hρ hr
      refine ⟨.tuple #[], w', ?_, ρ, hI', hE, by simp only [RV, RT, RTL]; exact ⟨[], rfl, rfl⟩⟩
      unfold Builtin.clear_
      simp only [List.getElem?_toArray, List.getElem?_cons_zero, Sem.run_bind, run_underlying ht, Result.andThen_ok]
      have hzc : (Builtin.zeroCells zv.cells len).toList = rep len zv.cells.toList := by
        unfold Builtin.zeroCells
        rw [zeros_eq]
      cases len with
      | zero => exact absurd rfl hlen
      | succ m =>
        simp only [run_zeroValue' hi hzv, Result.andThen_ok, hzc]
        rw [hrun]
        simp
  · cases e
end
end Go.Proofs.Ytodgdmhifbnofaa.AM
end
section
set_option linter.unusedSimpArgs false
set_option linter.unusedVariables false
set_option linter.unusedVariables false
set_option linter.unusedSimpArgs false
open Go.RowKit
namespace Go.Proofs.Ytodgdmhifbnofaa.AM
section
variable {P : Program} {n0 : Nat} {w0 : World} {I0 : Nat → Prop} {σ σ' : Store} {ρ : Rho} {w w' : World}
variable {h : Array Go.Obj} {I : Nat → Prop}
def ConvOk (P : Program) (src dst : TypeId) : Conv → Prop
  | .toInt k => (∃ d, P.underlying src = some d) ∧ P.underlying dst = some (.int k)
  | .toFloat k => (∃ d, P.underlying src = some d) ∧ P.underlying dst = some (.float k)
  | .strStr => P.underlying src = some .string ∧ P.underlying dst = some .string
  | .bytesStr => ∃ e, P.underlying src = some (.slice e) ∧ P.underlying dst = some .string ∧ P.underlying e = some (.int .u8)
  | .same => src = dst ∧ ∃ e, P.underlying src = some (.slice e) ∧ P.underlying e = some (.int .u8)
  | .strBytes => ∃ e, P.underlying src = some .string ∧ P.underlying dst = some (.slice e) ∧ P.underlying e = some (.int .u8)
theorem bytesOf_sound : ∀ {cs : List V} {l : List UInt8} {xs : List Value}, bytesOf? cs = some l → RVL h I σ ρ cs xs → xs = l.map fun b => .int .u8 b.toNat
  | [], l, xs, e, r => by
    simp only [bytesOf?, Option.some.injEq] at e
    subst e
    simpa [RVL] using r
  | c :: cs, l, xs, e, r => by
    simp only [RVL] at r
    obtain ⟨y, ys, rfl, ry, rs⟩ := r
    unfold bytesOf? at e
    split at e
    · cases ‹_ :: _ = []›
    · rename_i n r' heq
      cases heq
      split at e
      case isFalse => cases e
      case isTrue hn =>
        split at e
        · rename_i l' hl
          simp only [Option.some.injEq] at e
          subst e
          have := RV_sc.1 ry
          subst this
          rw [bytesOf_sound hl rs]
          simp only [List.map_cons]
          congr 2
          have : (UInt8.ofNat n.toNat).toNat = n.toNat := by
            rw [UInt8.toNat_ofNat']
            omega
          rw [this]
          omega
        · cases e
    · cases e
theorem opConv_sound (hI : Inv n0 w0 I0 σ ρ w) {src dst : TypeId} {c : Conv} {x v : V} {xv : Value} (hc : ConvOk P src dst c)
    (e : opConv c x σ = some (v, σ')) (rx : RV w.heap (Icur n0 I0 σ ρ w.heap) σ ρ x xv) :
    ∃ y w', (convert src dst xv).run P w = .ok y w' ∧ Post n0 w0 I0 σ ρ w v σ' y w' := by
  cases c with
  | toInt k =>
    obtain ⟨⟨d, h1⟩, h2⟩ := hc
    cases x with
    | tr t =>
      cases t with
      | sc sv =>
        have := RV_sc.1 rx
        subst this
        cases xv with
        | int k' n =>
          simp only [opConv, Option.some.injEq, Prod.mk.injEq] at e
          obtain ⟨rfl, rfl⟩ := e
          refine ⟨_, w, ?_, Post.same hI (RV_sc.2 rfl)⟩
          simp [convert, run_underlying h1, run_underlying h2, Conv.intToInt]
        | float s b =>
          simp only [opConv] at e
          split at e
          · rename_i n hn
            split at e
            · rename_i hr
              simp only [Option.some.injEq, Prod.mk.injEq] at e
              obtain ⟨rfl, rfl⟩ := e
              refine ⟨_, w, ?_, Post.same hI (RV_sc.2 rfl)⟩
              simp [convert, run_underlying h1, run_underlying h2, Conv.floatToInt, hn, hr]
            · cases e
          · cases e
        | _ => simp [opConv] at e
      | _ => simp [opConv] at e
    | _ => simp [opConv] at e
  | toFloat k =>
    obtain ⟨⟨d, h1⟩, h2⟩ := hc
    cases x with
    | tr t =>
      cases t with
      | sc sv =>
        have := RV_sc.1 rx
        subst this
        cases xv with
        | int k' n =>
          simp only [opConv, Option.some.injEq, Prod.mk.injEq] at e
          obtain ⟨rfl, rfl⟩ := e
          refine ⟨_, w, ?_, Post.same hI (RV_sc.2 rfl)⟩
          simp [convert, run_underlying h1, run_underlying h2, Conv.intToFloat]
        | float s b =>
          simp only [opConv] at e
          split at e
          · rename_i hs
            simp only [Option.some.injEq, Prod.mk.injEq] at e
            obtain ⟨rfl, rfl⟩ := e
            refine ⟨_, w, ?_, Post.same hI (RV_sc.2 rfl)⟩
            simp [convert, run_underlying h1, run_underlying h2, Conv.floatToFloat, hs]
          · rename_i hs
            split at e
            · cases e
            · rename_i sg hd
              simp only [Option.some.injEq, Prod.mk.injEq] at e
              obtain ⟨rfl, rfl⟩ := e
              refine ⟨_, w, ?_, Post.same hI (RV_sc.2 rfl)⟩
              simp [convert, run_underlying h1, run_underlying h2, Conv.floatToFloat, hs, hd]
            · rename_i sg m ex hd
              split at e
              · cases e
              · rename_i hinf
                simp only [Option.some.injEq, Prod.mk.injEq] at e
                obtain ⟨rfl, rfl⟩ := e
                refine ⟨_, w, ?_, Post.same hI (RV_sc.2 rfl)⟩
                simp [convert, run_underlying h1, run_underlying h2, Conv.floatToFloat, hs, hd, hinf]
        | _ => simp [opConv] at e
      | _ => simp [opConv] at e
    | _ => simp [opConv] at e
  | strStr =>
    obtain ⟨h1, h2⟩ := hc
    cases x with
    | tr t =>
      cases t with
      | sc sv =>
        have := RV_sc.1 rx
        subst this
        cases xv with
        | string s =>
          simp only [opConv, Option.some.injEq, Prod.mk.injEq] at e
          obtain ⟨rfl, rfl⟩ := e
          refine ⟨_, w, ?_, Post.same hI (RV_sc.2 rfl)⟩
          simp [convert, run_underlying h1, run_underlying h2]
        | _ => simp [opConv] at e
      | _ => simp [opConv] at e
    | _ => simp [opConv] at e
  | same =>
    obtain ⟨rfl, el, h1, h3⟩ := hc
    simp only [opConv] at e
    cases hsm : opSame x σ with
    | none => rw [hsm] at e; cases e
    | some u =>
    rw [hsm] at e
    cases e
    unfold opSame at hsm
    split at hsm
    · rename_i id g off len sz cap
      split at hsm
      · rename_i cs g' hob
        split at hsm
        · rename_i hcond
          obtain ⟨rfl, hlen, rfl⟩ := hcond
          cases hsm
          have rx0 := rx
          simp only [RV] at rx
          obtain ⟨ob, a, c, hob', rfl, _, r'⟩ := rx
          rw [hob] at hob'
          cases hob'
          obtain ⟨b, o, hρ, hlc, _, _, hpl⟩ := r' rfl
          rcases hpl with h0 | ⟨rfl, hfit⟩
          · omega
          obtain ⟨arr, t, lo, hi, k1, k2, k3, k4⟩ := hI.obs id b o _ hρ hob
          have hb : b < w.heap.size := (hI.new id b o hρ).2.1
          have hid : id < σ.length := (hI.new id b o hρ).2.2
          have hsh : w.shape? b = some (t, arr.size) := by unfold World.shape?; rw [k1]
          have hfz : ∃ lo' hi', w.freeze ⟨b, arr.size, none⟩ 1 = World.wset w b (.cells arr t (lo', hi')) ∧ (lo' = hi' ∨ arr.size ≤ lo') := by
            refine ⟨if lo == hi then arr.size else min lo arr.size, if lo == hi then arr.size + 1 else max hi (arr.size + 1), ?_, ?_⟩
            · unfold World.freeze World.wset
              rw [if_neg (by decide)]
              congr 1
              apply Array.ext_getElem?
              intro i
              rw [Array.getElem?_modify, Array.getElem?_setIfInBounds]
              by_cases hib : b = i
              · subst hib
                rw [if_pos rfl, if_pos rfl, if_pos hb, k1]
                simp only [Option.map_some]
                split <;> rfl
              · rw [if_neg hib, if_neg hib]
            · by_cases hlh : lo = hi
              · subst hlh; simp
              · rcases k2 with k2 | k2
                · exact absurd k2 hlh
                · right
                  simp [hlh]
                  omega
          obtain ⟨lo', hi', hfz, hok⟩ := hfz
          refine ⟨.slice (some ⟨b, o + off, none⟩) len c, World.wset w b (.cells arr t (lo', hi')), ?_, ?_⟩
          · simp only [convert, Sem.run_bind, run_underlying h1, Result.andThen_ok, run_underlying h3, beq_self_eq_true, markStringish, run_shape, hsh, run_freeze, Sem.run_pure, hfz]
          · have := hI.update (id := id) (b' := b) (o' := o) (ob' := .row cs g) (σ' := σ) (w' := World.wset w b (.cells arr t (lo', hi')))
              hob (fun i _ => rfl) (Nat.le_refl _) (wset_below hI.below _ (hI.new id b o hρ).1) (by rw [wset_size]; exact Nat.le_refl _) (by rw [wset_size]; exact hb)
              (.inl ⟨o, hρ⟩)
              (fun ob' hob' => by
                rw [hob] at hob'
                cases hob'
                refine ⟨⟨_, hρ⟩, by simp, Nat.le_refl _, rfl, fun _ => ⟨hρ, ?_⟩⟩
                rw [bsize_of_arr (wset_get w b _ hb), bsize_of_arr k1])
              (fun b' hb' hne => wset_other w b b' _ (fun h => hne o (h ▸ hρ)))
              (fun E => by
                rw [upd_id hρ] at E ⊢
                refine ⟨arr, t, lo', hi', wset_get w b _ hb, hok, k3, fun k c hk => ?_⟩
                obtain ⟨y, hy, ry⟩ := k4 k c hk
                exact ⟨y, hy, RV_mono E _ _ ry⟩)
            rw [upd_id hρ] at this
            exact ⟨ρ, this.1, this.2, RV_mono this.2 _ _ rx0⟩
        · cases hsm
      · cases hsm
    · cases hsm
  | bytesStr =>
    obtain ⟨el, h1, h2, h3⟩ := hc
    simp only [opConv] at e
    cases ex : elems σ 1 x with
    | none => rw [ex] at e; cases e
    | some q =>
    obtain ⟨cs, n⟩ := q
    rw [ex] at e
    simp only at e
    have fin : ∀ l, bytesOf? cs = some l → (∃ a c, xv = .slice a n c) → v = .tr (.sc (.string ⟨⟨l⟩⟩)) → σ' = σ →
        ∃ y w', (convert src dst xv).run P w = .ok y w' ∧ Post n0 w0 I0 σ ρ w v σ' y w' := by
      rintro l hl ⟨a, c, rfl⟩ rfl rfl
      obtain ⟨ys, r1, r2, r3, r4⟩ := elems_sound (P := P) hI ex rx
      have hys := bytesOf_sound hl r1
      have hln : l.length = n := by
        have := RVL_length r1
        rw [hys, List.length_map] at this
        omega
      refine ⟨_, w, ?_, Post.same hI (RV_sc.2 rfl)⟩
      have h4 := r4 n (Nat.le_refl _)
      cases a with
      | none =>
        have hl0 : l = [] := by
          have h5 := h4
          simp only [Builtin.firstCells, Sem.run_pure] at h5
          have h6 : (ys.take (n * 1)).toArray = #[] := by
            have := Result.ok.inj h5
            exact this.1.symm
          rw [List.take_of_length_le (by rw [← RVL_length r1, r2]; exact Nat.le_refl _), hys] at h6
          cases l with
          | nil => rfl
          | cons a b => simp at h6
        subst hl0
        simp only [convert, Sem.run_bind, run_underlying h1, run_underlying h2, run_underlying h3, Result.andThen_ok, Conv.bytesToString, Sem.run_pure]
        rfl
      | some a =>
        have h5 := h4
        simp only [Builtin.firstCells, Nat.mul_one] at h5
        rw [List.take_of_length_le (by rw [← RVL_length r1, r2]; omega), hys] at h5
        simp only [convert, Sem.run_bind, run_underlying h1, run_underlying h2, run_underlying h3, Result.andThen_ok]
        have h6 : (loadCells a n).run P w = .ok ((l.map (fun b => (b.toNat : Int))).map (Value.int .u8)).toArray w := by
          rw [h5, List.map_map]
          rfl
        have h7 := run_bytesToString w a n c _ h6
        rw [h7, foldl_push_byteCells]
        have he0 : ByteArray.empty.data = #[] := rfl
        rw [he0]
        simp
    cases x with
    | own id g off len sz cap =>
      simp only at e
      split at e
      · rename_i l hl
        simp only [Option.some.injEq, Prod.mk.injEq] at e
        refine fin l hl ?_ e.1.symm e.2.symm
        have hn : n = len := by
          simp only [elems] at ex
          split at ex
          · split at ex
            · split at ex
              · simp only [Option.some.injEq, Prod.mk.injEq] at ex; exact ex.2.symm
              · cases ex
            · cases ex
          · cases ex
        simp only [RV] at rx
        obtain ⟨_, a, c, _, rfl, _⟩ := rx
        exact ⟨_, c, by rw [hn]⟩
      · cases e
    | tr t =>
      cases t with
      | row ts n' cap =>
        simp only at e
        split at e
        · rename_i l hl
          simp only [Option.some.injEq, Prod.mk.injEq] at e
          refine fin l hl ?_ e.1.symm e.2.symm
          have hn : n = n' := by
            simp only [elems] at ex
            split at ex
            · simp only [Option.some.injEq, Prod.mk.injEq] at ex; exact ex.2.symm
            · cases ex
          simp only [RV, RT] at rx
          obtain ⟨a, c, rfl, _⟩ := rx
          exact ⟨a, c, by rw [hn]⟩
        · cases e
      | sc sv =>
        have := RV_sc.1 rx
        subst this
        cases xv with
        | slice a ln c =>
          simp only at e
          split at e
          · rename_i l hl
            simp only [Option.some.injEq, Prod.mk.injEq] at e
            refine fin l hl ?_ e.1.symm e.2.symm
            have hn : n = ln := by
              unfold elems at ex
              split at ex
              · rename_i heq
                cases heq
                simp only [Option.some.injEq, Prod.mk.injEq] at ex
                exact ex.2.symm
              · rename_i heq; cases heq
              · rename_i heq; cases heq
              · rename_i heq; cases heq
              · cases ex
            exact ⟨a, c, by rw [hn]⟩
          · cases e
        | string s => simp at e
        | _ =>
          exfalso
          unfold elems at ex
          split at ex <;> first | (rename_i heq; cases heq; done) | cases ex
      | _ =>
        exfalso
        simp [elems] at ex
    | _ =>
      exfalso
      simp [elems] at ex
  | strBytes =>
    obtain ⟨el, h1, h2, h3⟩ := hc
    cases x with
    | tr t =>
      cases t with
      | sc sv =>
        have := RV_sc.1 rx
        subst this
        cases xv with
        | string s =>
          simp only [opConv, Option.some.injEq, Prod.mk.injEq] at e
          obtain ⟨rfl, rfl⟩ := e
          have hrun := run_bytes_of_string w src dst el s h1 h2 h3
          have hcap : s.size ≤ grownCap w s.size 0 el := Nat.le_add_right _ _
          have hbs : (bytesRow s (grownCap w s.size 0 el)).size = grownCap w s.size 0 el := by
            unfold bytesRow
            have : s.data.size = s.size := rfl
            simp
            omega
          have hw : (w.drew.alloc (.cells (bytesRow s (grownCap w s.size 0 el)) el ((bytesRow s (grownCap w s.size 0 el)).size, (bytesRow s (grownCap w s.size 0 el)).size + 1))).heap =
              w.heap.push (.cells (bytesRow s (grownCap w s.size 0 el)) el ((bytesRow s (grownCap w s.size 0 el)).size, (bytesRow s (grownCap w s.size 0 el)).size + 1)) := rfl
          obtain ⟨h4, h5⟩ := alloc_row (g := 0) (cs := s.data.toList.map fun b => V.tr (.sc (.int .u8 b.toNat))) hI hw ((hI.below.drew).alloc hI.n0_le _) (.inr (Nat.le_refl _))
            (by rw [hbs, List.length_map]; exact hcap) (fun k c hk => by
              rw [List.getElem?_map] at hk
              cases hb : s.data.toList[k]? with
              | none => rw [hb] at hk; cases hk
              | some b =>
                rw [hb] at hk
                simp only [Option.map_some, Option.some.injEq] at hk
                subst hk
                refine ⟨_, ?_, RV_sc.2 rfl⟩
                unfold bytesRow
                have hlt : k < s.data.size := by
                  rw [Array.getElem?_toList] at hb
                  exact (Array.getElem?_eq_some_iff.1 hb).1
                rw [Array.getElem?_append_left (by simpa using hlt), Array.getElem?_map]
                rw [Array.getElem?_toList] at hb
                rw [hb]
                rfl)
          refine ⟨_, _, hrun, _, h4, h5, own_new _ 0 σ ρ _ _ _ _ none hcap (by simp) (fun _ => ?_) (.inr ?_)⟩
          · rw [hw, bsize_push_new, hbs]; omega
          · rw [hw, bsize_push_new, hbs]; omega
        | _ => simp [opConv] at e
      | _ => simp [opConv] at e
    | _ => simp [opConv] at e
end
end Go.Proofs.Ytodgdmhifbnofaa.AM
end
section
set_option linter.unusedSimpArgs false
set_option linter.unusedVariables false
set_option linter.unusedVariables false
set_option linter.unusedSimpArgs false
open Go.RowKit
namespace Go.Proofs.Ytodgdmhifbnofaa.AM
section
variable {P : Program} {w : World} {σ : Store} {ρ : Rho}
variable {h : Array Go.Obj} {I : Nat → Prop}
theorem bytesEq_iff : ∀ (a b : List UInt8), bytesEq a b = (a == b)
  | [], [] => rfl
  | [], _ :: _ => rfl
  | _ :: _, [] => rfl
  | a :: x, b :: y => by
    rw [bytesEq, bytesEq_iff x y]
    have : Nat.beq a.toNat b.toNat = (a == b) := by
      rw [Bool.eq_iff_iff, beq_iff_eq, Nat.beq_eq]
      exact UInt8.toNat_inj
    rw [this]
    rfl
theorem bytesLt_iff : ∀ (a b : List UInt8), bytesLt a b = Op.bytesLess a b
  | _, [] => by cases ‹List UInt8› <;> rfl
  | [], _ :: _ => rfl
  | a :: x, b :: y => by
    rw [bytesLt, Op.bytesLess, bytesLt_iff x y]
    have h1 : Nat.beq a.toNat b.toNat = (a == b) := by
      rw [Bool.eq_iff_iff, beq_iff_eq, Nat.beq_eq]
      exact UInt8.toNat_inj
    have h2 : Nat.blt a.toNat b.toNat = decide (a < b) := by
      rw [Bool.eq_iff_iff, decide_eq_true_eq, Nat.blt_eq]
      exact UInt8.lt_iff_toNat_lt.symm
    rw [h1, h2]
theorem ba_toList (s : ByteArray) : s.toList = s.data.toList := by
  have key : ∀ (n i : Nat) (r : List UInt8), s.size - i = n → ByteArray.toList.loop s i r = r.reverse ++ s.data.toList.drop i := by
    intro n
    induction n with
    | zero =>
      intro i r hn
      unfold ByteArray.toList.loop
      have hsz : s.size = s.data.toList.length := rfl
      rw [if_neg (by omega), List.drop_eq_nil_of_le (by omega)]
      simp
    | succ n ih =>
      intro i r hn
      unfold ByteArray.toList.loop
      have hlt : i < s.size := by omega
      rw [if_pos hlt, ih (i + 1) _ (by omega)]
      have hlt' : i < s.data.toList.length := hlt
      rw [List.drop_eq_getElem_cons hlt']
      have hget : s.get! i = s.data.toList[i] := by
        show s.data[i]! = _
        have : i < s.data.size := hlt
        rw [getElem!_pos s.data i this]
        simp
      rw [hget]
      simp
  unfold ByteArray.toList
  rw [key s.size 0 [] rfl]
  simp
theorem binStr_sound {op : BinOp} {x y : ByteArray} {v : Value} (e : binStr op x y = some v) : (Op.stringOp op x y).run P w = .ok v w := by
  unfold binStr at e
  unfold Op.stringOp
  simp only [bytesLt_iff, bytesEq_iff] at e
  rw [ba_toList, ba_toList]
  cases op <;> simp only [reduceCtorEq, Option.some.injEq] at e
  case add =>
    split at e
    · rename_i hl
      simp only [Option.some.injEq] at e
      subst e
      have h1 : x.size = x.data.toList.length := rfl
      have h2 : y.size = y.data.toList.length := rfl
      simp only
      rw [if_neg (by rw [IntKind.max_i64, h1, h2]; omega)]
      simp only [Sem.run_pure]
      congr 2
    · cases e
  all_goals (subst e; simp only [Sem.run_pure])
theorem binInt_sound {op : BinOp} {t : TypeId} {k : IntKind} {a b : Int} {v : Value} (h1 : op ≠ .shl) (h2 : op ≠ .shr) (e : binInt op k a b = some v) :
    (binOp op t (.int k a) (.int k b)).run P w = .ok v w := by
  cases op <;> simp only [binInt, reduceCtorEq, Option.some.injEq] at e
  case quo =>
    split at e
    · cases e
    · rename_i hb
      simp only [Option.some.injEq] at e
      subst e
      simp [binOp, Op.intDiv, hb]
  case rem =>
    split at e
    · cases e
    · rename_i hb
      simp only [Option.some.injEq] at e
      subst e
      simp [binOp, Op.intDiv, hb]
  all_goals (subst e; simp [binOp, Op.intArith, Op.intBits, Op.intCmp])
theorem binShift_sound {op : BinOp} {t : TypeId} {k k' : IntKind} {a b : Int} {v : Value} (h1 : op = .shl ∨ op = .shr) (e : binShift op k a b = some v) :
    (binOp op t (.int k a) (.int k' b)).run P w = .ok v w := by
  unfold binShift at e
  split at e
  · cases e
  · rename_i hb
    rcases h1 with rfl | rfl
    · simp only [Option.some.injEq] at e
      subst e
      simp [binOp, Op.shift, hb]
    · simp only [Option.some.injEq] at e
      subst e
      simp [binOp, Op.shift, hb]
theorem binFloat_sound {op : BinOp} {t : TypeId} {k : FloatKind} {a b : Nat} {v : Value} (e : binFloat op k a b = some v) :
    (binOp op t (.float k a) (.float k b)).run P w = .ok v w := by
  cases op <;> simp only [binFloat, reduceCtorEq, Option.some.injEq] at e
  case add =>
    cases hr : k.format.add a b with
    | none => rw [hr] at e; cases e
    | some r => rw [hr] at e; simp only [Option.map_some, Option.some.injEq] at e; subst e; simp [binOp, Op.floatArith, hr]
  case sub =>
    cases hr : k.format.sub a b with
    | none => rw [hr] at e; cases e
    | some r => rw [hr] at e; simp only [Option.map_some, Option.some.injEq] at e; subst e; simp [binOp, Op.floatArith, hr]
  case mul =>
    cases hr : k.format.mul a b with
    | none => rw [hr] at e; cases e
    | some r => rw [hr] at e; simp only [Option.map_some, Option.some.injEq] at e; subst e; simp [binOp, Op.floatArith, hr]
  case quo =>
    cases hr : k.format.div a b with
    | none => rw [hr] at e; cases e
    | some r => rw [hr] at e; simp only [Option.map_some, Option.some.injEq] at e; subst e; simp [binOp, Op.floatArith, hr]
  all_goals (subst e; simp [binOp, Op.floatCmp])
theorem run_eqlneq {t : TypeId} {op : BinOp} {x y : Value} {b : Bool} {v : V} (hx : (∀ k n, x ≠ .int k n) ∧ (∀ k n, x ≠ .float k n) ∧ (∀ k m n, x ≠ .complex k m n) ∧ (∀ s, x ≠ .string s))
    (hq : (Op.equal t x y).run P w = .ok b w) (e : eqAns op b = some v) : ∃ z, (binOp op t x y).run P w = .ok z w ∧ RV h I σ ρ v z := by
  obtain ⟨h1, h2, h3, h4⟩ := hx
  unfold eqAns at e
  split at e
  · simp only [Option.some.injEq] at e
    subst e
    refine ⟨.bool b, ?_, RV_sc.2 rfl⟩
    cases x <;> first
      | exact absurd rfl (h1 _ _)
      | exact absurd rfl (h2 _ _)
      | exact absurd rfl (h3 _ _ _)
      | exact absurd rfl (h4 _)
      | (simp only [binOp, Sem.run_bind, hq, Result.andThen_ok, Sem.run_pure])
  · simp only [Option.some.injEq] at e
    subst e
    refine ⟨.bool (!b), ?_, RV_sc.2 rfl⟩
    cases x <;> first
      | exact absurd rfl (h1 _ _)
      | exact absurd rfl (h2 _ _)
      | exact absurd rfl (h3 _ _ _)
      | exact absurd rfl (h4 _)
      | (simp only [binOp, Sem.run_bind, hq, Result.andThen_ok, Sem.run_pure])
  · cases e
inductive NilAt : EK → TypeDesc → Value → Bool → Prop where
  | s0 (e) (n c) : NilAt .slice (.slice e) (.slice none n c) true
  | s1 (e) (a n c) : NilAt .slice (.slice e) (.slice (some a) n c) false
  | p0 (e) : NilAt .pointer (.pointer e) (.pointer none) true
  | p1 (e a) : NilAt .pointer (.pointer e) (.pointer (some a)) false
  | m0 (k e) : NilAt .map (.map k e) (.map none) true
  | m1 (k e b) : NilAt .map (.map k e) (.map (some b)) false
  | f0 (p r v) : NilAt .func (.func p r v) .nilFunc true
  | f1 (p r v f a b) : NilAt .func (.func p r v) (.func f a b) false
theorem isNil_sound {d : TypeDesc} {x : V} {xv : Value} (e : isNil (kindOf d) x = true) (rx : RV h I σ ρ x xv) : NilAt (kindOf d) d xv true := by
  cases d <;> simp only [kindOf, isNil, Bool.false_eq_true] at e ⊢ <;> (split at e <;> first | cases e | skip) <;> simp_all
  all_goals (have := RV_sc.1 rx; subst this; constructor)
theorem notNil_sound {d : TypeDesc} {x : V} {xv : Value} (e : notNil (kindOf d) x = true) (rx : RV h I σ ρ x xv) : NilAt (kindOf d) d xv false := by
  cases d with
  | slice el =>
    cases x with
    | own => simp only [RV] at rx; obtain ⟨_, _, _, _, rfl, _⟩ := rx; exact .s1 _ _ _ _
    | tr t =>
      cases t with
      | row cs n cap =>
        simp only [RV, RT] at rx
        obtain ⟨a, c, rfl, _, _, hpl⟩ := rx
        exact .s1 _ _ _ _
      | _ => simp [notNil, kindOf] at e
    | _ => simp [notNil, kindOf] at e
  | pointer el =>
    cases x with
    | ptr => simp only [RV] at rx; obtain ⟨_, _, _, rfl, _⟩ := rx; exact .p1 _ _
    | tr t =>
      cases t with
      | rptr => simp only [RV, RT] at rx; obtain ⟨_, _, rfl, _⟩ := rx; exact .p1 _ _
      | _ => simp [notNil, kindOf] at e
    | _ => simp [notNil, kindOf] at e
  | map k el =>
    cases x with
    | mp => simp only [RV] at rx; obtain ⟨_, _, _, _, _, rfl⟩ := rx; exact .m1 _ _ _
    | _ => simp [notNil, kindOf] at e
  | func p r v =>
    cases x with
    | fn => simp only [RV] at rx; obtain ⟨_, _, rfl, _⟩ := rx; exact .f1 _ _ _ _ _ _
    | tr t =>
      cases t with
      | fn => simp only [RV, RT] at rx; obtain ⟨_, _, rfl, _⟩ := rx; exact .f1 _ _ _ _ _ _
      | _ => simp [notNil, kindOf] at e
    | _ => simp [notNil, kindOf] at e
  | _ => simp [notNil, kindOf] at e
theorem nil_eql {t : TypeId} {ek : EK} {d : TypeDesc} {x y : Value} {a b : Bool} (hu : P.underlying t = some d) (hx : NilAt ek d x a) (hy : NilAt ek d y b) (hab : a = true ∨ b = true) :
    (Op.equal t x y).run P w = .ok (a && b) w := by
  unfold Op.equal Op.maxDepth Op.equalIn
  simp only [Sem.run_bind, run_underlying hu, Result.andThen_ok]
  cases hx <;> cases hy <;> first
    | rfl
    | (rcases hab with h | h <;> cases h)
    | simp
theorem nil_guard {t : TypeId} {ek : EK} {d : TypeDesc} {op : BinOp} {xo yo : Operand} {x y : Value} {a b : Bool} (hx : NilAt ek d x a) : eqGuard op t xo yo x y = pure () := by
  cases hx <;> cases op <;> rfl
theorem nil_shape {ek : EK} {d : TypeDesc} {x : Value} {a : Bool} (hx : NilAt ek d x a) : (∀ k n, x ≠ .int k n) ∧ (∀ k n, x ≠ .float k n) ∧ (∀ k m n, x ≠ .complex k m n) ∧ (∀ s, x ≠ .string s) := by
  cases hx <;> simp
theorem opBin_sound {t : TypeId} {d : TypeDesc} {op : BinOp} {x y v : V} {xo yo : Operand} {xv yv : Value} (hu : P.underlying t = some d)
    (e : opBin (kindOf d) op x y = some v) (rx : RV h I σ ρ x xv) (ry : RV h I σ ρ y yv) :
    ∃ z, (do eqGuard op t xo yo xv yv; binOp op t xv yv : Sem Value).run P w = .ok z w ∧ RV h I σ ρ v z := by
  have cmp : ∀ a b, NilAt (kindOf d) d xv a → NilAt (kindOf d) d yv b → (a = true ∨ b = true) → eqAns op (a && b) = some v →
      ∃ z, (do eqGuard op t xo yo xv yv; binOp op t xv yv : Sem Value).run P w = .ok z w ∧ RV h I σ ρ v z := by
    intro a b hx hy hab e
    obtain ⟨z, hz, hr⟩ := run_eqlneq (P := P) (w := w) (σ := σ) (ρ := ρ) (h := h) (I := I) (nil_shape hx) (nil_eql hu hx hy hab) e
    refine ⟨z, ?_, hr⟩
    rw [Sem.run_bind, nil_guard (b := b) hx]
    simpa using hz
  unfold opBin at e
  split at e
  · rename_i hx
    have nx := isNil_sound hx rx
    split at e
    · rename_i hy
      exact cmp true true nx (isNil_sound hy ry) (.inl rfl) e
    · split at e
      · rename_i hy
        exact cmp true false nx (notNil_sound hy ry) (.inl rfl) e
      · cases e
  · split at e
    · rename_i hx
      have nx := notNil_sound hx rx
      split at e
      · rename_i hy
        exact cmp false true nx (isNil_sound hy ry) (.inr rfl) e
      · cases e
    · split at e
      · rename_i a b
        have hxa := RV_sc.1 rx
        have hyb := RV_sc.1 ry
        subst hxa hyb
        split at e
        · rename_i r hr
          simp only [Option.some.injEq] at e
          subst e
          refine ⟨r, ?_, RV_sc.2 rfl⟩
          unfold binSc at hr
          split at hr
          · rename_i k a k' b
            rw [Sem.run_bind, eqGuard_at_int]
            simp only [Sem.run_pure, Result.andThen_ok]
            split at hr
            · exact binShift_sound (.inl rfl) hr
            · exact binShift_sound (.inr rfl) hr
            · rename_i h1 h2
              split at hr
              · rename_i hk
                subst hk
                exact binInt_sound h1 h2 hr
              · cases hr
          · rename_i a b
            rw [Sem.run_bind, eqGuard_at_string]
            simp only [Sem.run_pure, Result.andThen_ok]
            have := binStr_sound (P := P) (w := w) hr
            cases op <;> simpa [binOp] using this
          · rename_i k a k' b
            rw [Sem.run_bind, eqGuard_at_float]
            simp only [Sem.run_pure, Result.andThen_ok]
            split at hr
            · rename_i hk
              subst hk
              exact binFloat_sound hr
            · cases hr
          · rename_i ba bb
            rw [Sem.run_bind, eqGuard_at_bool]
            simp only [Sem.run_pure, Result.andThen_ok]
            have hq : d = .bool → (Op.equal t (.bool ba) (.bool bb)).run P w = .ok (ba == bb) w := by
              rintro rfl
              unfold Op.equal Op.maxDepth Op.equalIn
              simp only [Sem.run_bind, run_underlying hu, Result.andThen_ok, Sem.run_pure]
            have hd : ∀ ek, kindOf d = ek → ek = .bool → d = .bool := by
              intro ek h1 h2; subst h2; cases d <;> simp [kindOf] at h1; rfl
            split at hr
            · rename_i hk
              simp only [Option.some.injEq] at hr
              subst hr
              obtain ⟨z, hz, hr⟩ := run_eqlneq (P := P) (w := w) (op := .eql) (σ := σ) (ρ := ρ) (h := h) (I := I) (v := bool (ba == bb)) (by simp) (hq (hd _ hk rfl)) rfl
              have := RV_sc.1 hr
              subst this
              exact hz
            · rename_i hk
              simp only [Option.some.injEq] at hr
              subst hr
              obtain ⟨z, hz, hr⟩ := run_eqlneq (P := P) (w := w) (op := .neq) (σ := σ) (ρ := ρ) (h := h) (I := I) (v := bool (!(ba == bb))) (by simp) (hq (hd _ hk rfl)) rfl
              have := RV_sc.1 hr
              subst this
              exact hz
            · cases hr
          · cases hr
        · cases e
      · cases e
theorem opUn_sound {op : UnOp} {x v : V} {xv : Value} (e : opUn op x = some v) (rx : RV h I σ ρ x xv) :
    ∃ z, (Op.unary op xv).run P w = .ok z w ∧ RV h I σ ρ v z := by
  unfold opUn at e
  split at e
  · have := RV_sc.1 rx
    subst this
    simp only [Option.some.injEq] at e
    subst e
    exact ⟨_, by simp only [Op.unary, Op.intArith, Sem.run_pure], RV_sc.2 rfl⟩
  · have := RV_sc.1 rx
    subst this
    simp only [binInt, Option.map_some, Option.some.injEq] at e
    subst e
    exact ⟨_, by simp only [Op.unary, Op.intBits, Sem.run_pure], RV_sc.2 rfl⟩
  · have := RV_sc.1 rx
    subst this
    simp only [Option.some.injEq] at e
    subst e
    exact ⟨_, by simp only [Op.unary, Sem.run_pure], RV_sc.2 rfl⟩
  · have := RV_sc.1 rx
    subst this
    simp only [Option.some.injEq] at e
    subst e
    exact ⟨_, by simp only [Op.unary, Sem.run_pure], RV_sc.2 rfl⟩
  · cases e
end
section
variable {P : Program} {σ : Store} {ρ : Rho} {w : World} {h : Array Go.Obj} {I : Nat → Prop}
theorem bytesEq_dec : ∀ (a b : List UInt8), bytesEq a b = (a == b)
  | [], [] => rfl
  | [], _ :: _ => rfl
  | _ :: _, [] => rfl
  | a :: x, b :: y => by
    simp only [bytesEq, List.cons_beq_cons, bytesEq_dec x y]
    congr 1
    rw [Bool.eq_iff_iff, Nat.beq_eq, beq_iff_eq, UInt8.toNat_inj]
theorem run_eqSc {d kc : Nat} {t : TypeId} {a b : Value} {r : Bool} (hu : eqKind (P.underlying t) = some kc) (e : eqSc kc a b = some r) : (Op.equalIn (d + 1) t a b).run P w = .ok r w := by
  unfold eqKind at hu
  split at hu
  · rename_i k' hk
    cases hu
    simp only [eqSc] at e
    split at e
    · split at e
      · rename_i k n k2 m hkk
        subst hkk
        cases e
        exact run_equalIn_int w d t k k' n m hk
      · cases e
    · cases e
  · rename_i hk
    cases hu
    simp only [eqSc] at e
    split at e
    · rename_i s s'
      cases e
      rw [run_equalIn_string w d t s s' hk, ByteArray.toList_eq, ByteArray.toList_eq, bytesEq_dec]
    · cases e
  · rename_i hk
    cases hu
    simp only [eqSc] at e
    split at e
    · cases e
      exact run_equalIn_bool' w d t _ _ hk
    · cases e
  · cases hu
theorem RTL_at : ∀ {ts : List Tree} {xs : List Value} {o : Nat} {a : Value}, RTL h I ts xs → ts[o]? = some (.sc a) → xs[o]? = some a
  | [], xs, o, a, _, e => by simp at e
  | t :: ts, xs, o, a, r, e => by
    simp only [RTL] at r
    obtain ⟨y, ys, rfl, r1, r2⟩ := r
    cases o with
    | zero =>
      simp only [List.getElem?_cons_zero, Option.some.injEq] at e ⊢
      subst e
      simpa only [RT] using r1
    | succ o =>
      simp only [List.getElem?_cons_succ] at e ⊢
      exact RTL_at r2 e
theorem run_eqAt {d : Nat} {xs ys : List Tree} {X Y : List Value} (rx : RTL h I xs X) (ry : RTL h I ys Y) : ∀ {fs : List Field} {offs : List (Nat × Nat)} {r : Bool}, mapO (eqField P) fs = some offs → eqAt offs xs ys = some r →
    (Op.eqFields (d + 1) X.toArray Y.toArray fs).run P w = .ok r w
  | [], offs, r, hm, e => by
    simp only [mapO, Option.some.injEq] at hm
    subst hm
    simp only [eqAt, Option.some.injEq] at e
    subst e
    rfl
  | f :: fs, offs, r, hm, e => by
    unfold mapO at hm
    split at hm
    · rename_i p hp
      split at hm
      · rename_i l hl
        cases hm
        unfold eqField at hp
        split at hp
        · rename_i hc
          simp only [Bool.and_eq_true, bne_iff_ne, ne_eq] at hc
          split at hp
          · rename_i kc hk
            cases hp
            simp only [eqAt] at e
            split at e
            · rename_i a b ha hb
              have hxa := RTL_at rx ha
              have hyb := RTL_at ry hb
              have pa := run_part_plain (P := P) (w := w) hc.2 (xs := X.toArray) (off := f.offset) (by simpa using hxa)
              have pb := run_part_plain (P := P) (w := w) hc.2 (xs := Y.toArray) (off := f.offset) (by simpa using hyb)
              split at e
              · rename_i he
                have := run_eqSc (P := P) (w := w) (d := d) hk he
                simp only [Op.eqFields, ne_eq, hc.1, not_false_eq_true, if_true, Sem.run_bind, pa, Result.andThen_ok, pb, this, Bool.not_true, Bool.false_eq_true, if_false]
                exact run_eqAt rx ry hl e
              · rename_i he
                have := run_eqSc (P := P) (w := w) (d := d) hk he
                simp only [Op.eqFields, ne_eq, hc.1, not_false_eq_true, if_true, Sem.run_bind, pa, Result.andThen_ok, pb, this, Bool.not_false]
                cases e
                rfl
              · cases e
            · cases e
          · cases hp
        · cases hp
      · cases hm
    · cases hm
theorem opEqs_sound {t : TypeId} {op : BinOp} {neg : Bool} {offs : List (Nat × Nat)} {x y v : V} {xo yo : Operand} {xv yv : Value} (hsh : eqShape P t = some offs) (hop : op = if neg then .neq else .eql)
    (e : opEqs neg offs x y = some v) (rx : RV h I σ ρ x xv) (ry : RV h I σ ρ y yv) : ∃ z, (do eqGuard op t xo yo xv yv; binOp op t xv yv : Sem Value).run P w = .ok z w ∧ RV h I σ ρ v z := by
  unfold opEqs at e
  split at e
  · rename_i xs ys
    split at e
    · rename_i b hb
      cases e
      simp only [RV, RT] at rx ry
      obtain ⟨X, rfl, rx⟩ := rx
      obtain ⟨Y, rfl, ry⟩ := ry
      unfold eqShape at hsh
      split at hsh
      · rename_i fs hu
        split at hsh
        · rename_i hc
          simp only [Bool.and_eq_true, Bool.not_eq_true'] at hc
          have hf : P.fieldsOf t = fs := by unfold Program.fieldsOf; rw [hu]
          have hrun := run_eqAt (P := P) (w := w) (d := 9998) rx ry hsh hb
          rw [← hf] at hrun
          have h2 := run_equalIn_struct (P := P) w 9999 t X.toArray Y.toArray (by rw [hf]; exact hu) hc.1
          rw [hrun] at h2
          have hg := run_eqGuard_agg (P := P) w op t xo yo X.toArray Y.toArray hc.2
          cases neg with
          | false =>
            subst hop
            refine ⟨.bool b, ?_, by simp only [Bool.false_eq_true, if_false, bool, RV, RT]⟩
            rw [Sem.run_bind, hg]
            simp only [Result.andThen_ok, Bool.false_eq_true, if_false]
            rw [run_eql_struct, h2]
            rfl
          | true =>
            subst hop
            refine ⟨.bool (!b), ?_, by simp only [if_true, bool, RV, RT]⟩
            rw [Sem.run_bind, hg]
            simp only [Result.andThen_ok, if_true]
            rw [run_neq_struct, h2]
            rfl
        · cases hsh
      · cases hsh
    · cases e
  · cases e
end
end Go.Proofs.Ytodgdmhifbnofaa.AM
end
section
set_option linter.unusedSimpArgs false
set_option linter.unusedVariables false
set_option linter.unusedVariables false
set_option linter.unusedSimpArgs false
open Go.RowKit
namespace Go.Proofs.Ytodgdmhifbnofaa.AM
section
variable {P : Program} {n0 : Nat} {w0 : World} {I0 : Nat → Prop} {σ σ' : Store} {ρ : Rho} {w w' : World}
variable {h : Array Go.Obj} {I : Nat → Prop}
theorem EntsR_iff : ∀ (es : List Ent) (cs : List MapEntry), EntsR h I σ ρ es cs ↔ es.length = cs.length ∧ ∀ (k : Nat) e, es[k]? = some e → ∃ c, cs[k]? = some c ∧ EntR h I σ ρ e c
  | [], cs => by
    simp only [EntsR]
    constructor
    · rintro rfl; simp
    · rintro ⟨e, _⟩; exact List.length_eq_zero_iff.1 e.symm
  | v :: vs, xs => by
    simp only [EntsR]
    constructor
    · rintro ⟨y, ys, rfl, r, s⟩
      obtain ⟨e, s⟩ := (EntsR_iff vs ys).1 s
      refine ⟨by simp [e], fun k v' hk => ?_⟩
      cases k with
      | zero => simp at hk; subst hk; exact ⟨y, rfl, r⟩
      | succ k => exact s k v' (by simpa using hk)
    · rintro ⟨e, s⟩
      cases xs with
      | nil => simp at e
      | cons y ys =>
        refine ⟨y, ys, rfl, ?_, (EntsR_iff vs ys).2 ⟨by simpa using e, fun k v' hk => ?_⟩⟩
        · obtain ⟨x, hx, r⟩ := s 0 v rfl
          simp at hx; subst hx; exact r
        · obtain ⟨x, hx, r⟩ := s (k + 1) v' (by simpa using hk)
          exact ⟨x, by simpa using hx, r⟩
theorem ba_beq (a b : ByteArray) : (a == b) = bytesEq a.data.toList b.data.toList := by
  have : (a == b) = (a.data == b.data) := by cases a; cases b; rfl
  rw [this, bytesEq_iff, Bool.eq_iff_iff, beq_iff_eq, beq_iff_eq]
  constructor
  · intro e; rw [e]
  · intro e
    exact Array.ext' e
theorem ba_eq {a b : ByteArray} (e : bytesEq a.data.toList b.data.toList = true) : a = b := by
  rw [bytesEq_iff, beq_iff_eq] at e
  apply ByteArray.ext
  exact Array.ext' e
theorem asKey_sound {kind : TypeDesc} {v : V} {x k : Value} (e : asKey kind v = some k) (r : RV h I σ ρ v x) :
    x = k ∧ ((∃ ik jk n, kind = .int ik ∧ k = .int jk n) ∨ (∃ s, kind = .string ∧ k = .string s) ∨ (∃ b, kind = .bool ∧ k = .bool b)) := by
  unfold asKey at e
  split at e
  · have := RV_sc.1 r
    subst this
    split at e
    · simp only [Option.some.injEq] at e
      subst e
      exact ⟨rfl, .inl ⟨_, _, _, rfl, rfl⟩⟩
    · cases e
  · have := RV_sc.1 r
    subst this
    split at e
    · simp only [Option.some.injEq] at e
      subst e
      exact ⟨rfl, .inr (.inl ⟨_, rfl, rfl⟩)⟩
    · cases e
  · have := RV_sc.1 r
    subst this
    split at e
    · simp only [Option.some.injEq] at e
      subst e
      exact ⟨rfl, .inr (.inr ⟨_, rfl, rfl⟩)⟩
    · cases e
  · cases e
abbrev KeyOk (kind : TypeDesc) (k : Value) : Prop := (∃ ik jk n, kind = .int ik ∧ k = .int jk n) ∨ (∃ s, kind = .string ∧ k = .string s) ∨ (∃ b, kind = .bool ∧ k = .bool b)
theorem sameNow_sound {kind : TypeDesc} {k k' : Value} {b : Bool} (hk : KeyOk kind k) (e : keyEq k k' = some b) : Instr.sameNow kind k k' = some b := by
  rcases hk with ⟨ik, jk, n, rfl, rfl⟩ | ⟨s, rfl, rfl⟩ | ⟨c, rfl, rfl⟩
  · cases k' <;> simp only [keyEq, reduceCtorEq] at e
    simpa [Instr.sameNow] using e
  · cases k' <;> simp only [keyEq, reduceCtorEq] at e
    rw [← ba_beq] at e
    simpa [Instr.sameNow] using e
  · cases k' <;> simp only [keyEq, reduceCtorEq] at e
    simpa [Instr.sameNow] using e
theorem findNow_none {kind : TypeDesc} {k : Value} (hk : KeyOk kind k) : ∀ (es : List Ent) (cs : List MapEntry) (i : Nat), EntsR h I σ ρ es cs → findEnt k es i = some none → Instr.findNow kind k cs i = some none
  | [], cs, i, r, e => by simp only [EntsR] at r; subst r; rfl
  | en :: es, cs, i, r, e => by
    obtain ⟨d, ds, rfl, ⟨h1, h2, h3⟩, r⟩ := r
    rw [findEnt] at e
    rw [Instr.findNow, h1]
    split at e
    · simp at e
    · rename_i hf
      rw [sameNow_sound hk hf]
      exact findNow_none hk es ds (i + 1) r e
    · cases e
theorem findNow_some {kind : TypeDesc} {k : Value} (hk : KeyOk kind k) : ∀ (es : List Ent) (cs : List MapEntry) (i j : Nat) (en : Ent), EntsR h I σ ρ es cs → findEnt k es i = some (some (j, en)) →
    i ≤ j ∧ es[j - i]? = some en ∧ ∃ c, cs[j - i]? = some c ∧ EntR h I σ ρ en c ∧ Instr.findNow kind k cs i = some (some (j, c.val)) ∧ keyEq k en.key = some true
  | [], cs, i, j, en, r, e => by simp [findEnt] at e
  | en0 :: es, cs, i, j, en, r, e => by
    obtain ⟨d, ds, rfl, ⟨h1, h2, h3⟩, r⟩ := r
    rw [findEnt] at e
    split at e
    · rename_i hf
      simp only [Option.some.injEq, Prod.mk.injEq] at e
      obtain ⟨rfl, rfl⟩ := e
      refine ⟨Nat.le_refl _, by simp, d, by simp, ⟨h1, h2, h3⟩, ?_, hf⟩
      rw [Instr.findNow, h1, sameNow_sound hk hf]
    · rename_i hf
      obtain ⟨g1, g2, c, g3, g4, g5, g6⟩ := findNow_some hk es ds (i + 1) j en r e
      refine ⟨by omega, ?_, c, ?_, g4, ?_, g6⟩
      · rw [show j - i = (j - (i + 1)) + 1 by omega]; simpa using g2
      · rw [show j - i = (j - (i + 1)) + 1 by omega]; simpa using g3
      · rw [Instr.findNow, h1, sameNow_sound hk hf]
        exact g5
    · cases e
theorem run_checkKey {kt : TypeId} {kind : TypeDesc} {k : Value} (hu : P.underlying kt = some kind) (hk : KeyOk kind k) (b : Bool) : (Instr.checkKey b 10000 kt k).run P w = .ok () w := by
  unfold Instr.checkKey
  simp only [Sem.run_bind, run_underlying hu, Result.andThen_ok]
  rcases hk with ⟨ik, jk, n, rfl, rfl⟩ | ⟨s, rfl, rfl⟩ | ⟨c, rfl, rfl⟩ <;> rfl
theorem run_getObj {b : Nat} {ces : Array MapEntry} {c : Nat} (hb : w.heap[b]? = some (.map ces c)) : (getObj b).run P w = .ok (.map ces c) w := by
  simp [getObj, Sem.run, hb]
theorem run_setObj {b : Nat} {ces : Array MapEntry} {c : Nat} {o : Go.Obj} (hb : w.heap[b]? = some (.map ces c)) : (setObj b o).run P w = .ok () (World.wset w b o) := by
  simp [setObj, Sem.run, hb, World.wset]
theorem run_findKey {kt : TypeId} {kind : TypeDesc} {k : Value} {cs : List MapEntry} {r : Option (Nat × Value)} (hu : P.underlying kt = some kind) (e : Instr.findNow kind k cs 0 = some r) :
    (Instr.findKey kt k cs).run P w = .ok r w := by
  unfold Instr.findKey
  simp only [Sem.run_bind, run_underlying hu, Result.andThen_ok, e, Sem.run_pure]
theorem sameBits_key {k k' : Value} (e : keyEq k k' = some true) : Instr.sameBits 10000 k' k = true := by
  unfold keyEq at e
  split at e
  · split at e
    · rename_i hk
      simp only [Option.some.injEq, beq_iff_eq] at e
      subst hk e
      simp [Instr.sameBits]
    · cases e
  · simp only [Option.some.injEq] at e
    have := ba_eq e
    subst this
    rw [← ba_beq] at e
    simp only [Instr.sameBits]
    exact e
  · simp only [Option.some.injEq, beq_iff_eq] at e
    subst e
    simp [Instr.sameBits]
  · cases e
theorem run_keyStays {k k' : Value} (e : keyEq k k' = some true) : (Instr.keyThatStays k' k).run P w = .ok k w := by
  unfold Instr.keyThatStays
  rw [if_pos (sameBits_key e)]
  rfl
end
end Go.Proofs.Ytodgdmhifbnofaa.AM
end
section
set_option linter.unusedSimpArgs false
set_option linter.unusedVariables false
set_option linter.unusedVariables false
set_option linter.unusedSimpArgs false
open Go.RowKit
namespace Go.Proofs.Ytodgdmhifbnofaa.AM
section
variable {P : Program} {n0 : Nat} {w0 : World} {I0 : Nat → Prop} {σ σ' : Store} {ρ : Rho} {w w' : World}
theorem map_step (hI : Inv n0 w0 I0 σ ρ w) {id b : Nat} {es es' : List Ent} {c c' : Nat} {ces ces' : Array MapEntry} (hob : σ[id]? = some (.map es c)) (hρ : ρ id = some (b, 0))
    (hb : w.heap[b]? = some (.map ces c)) (hr : EntsR w.heap (Icur n0 I0 σ ρ w.heap) σ ρ es' ces'.toList) :
    Inv n0 w0 I0 (σ.set id (.map es' c')) ρ (World.wset w b (.map ces' c')) ∧ Evo n0 I0 σ ρ w.heap (σ.set id (.map es' c')) ρ (World.wset w b (.map ces' c')).heap := by
  have hid : id < σ.length := (hI.new id b 0 hρ).2.2
  have hbw : b < w.heap.size := (hI.new id b 0 hρ).2.1
  have := hI.update (id := id) (b' := b) (o' := 0) (ob' := .map es' c') (σ' := σ.set id (.map es' c')) (w' := World.wset w b (.map ces' c'))
    (by simp [hid]) (fun i hi => by rw [List.getElem?_set]; simp [Ne.symm hi]) (by simp)
    (wset_below hI.below _ (hI.new id b 0 hρ).1) (by rw [wset_size]; exact Nat.le_refl _) (by rw [wset_size]; exact hbw) (.inl ⟨0, hρ⟩)
    (fun ob h1 => by
      rw [hob] at h1
      cases h1
      refine ⟨⟨_, hρ⟩, by simp, Nat.le_refl _, rfl, fun _ => ⟨hρ, ?_⟩⟩
      unfold bsize
      rw [wset_get w b _ hbw, hb])
    (fun b' hb' hne => wset_other w b b' _ (fun h => hne 0 (h ▸ hρ)))
    (fun E => ⟨rfl, ces', wset_get w b _ hbw, EntsR_mono E _ _ hr⟩)
  rw [upd_id hρ] at this
  exact this
theorem mp_parts (hI : Inv n0 w0 I0 σ ρ w) {id : Nat} {es : List Ent} {c : Nat} {mv : Value} (hob : σ[id]? = some (.map es c)) (rm : RV w.heap (Icur n0 I0 σ ρ w.heap) σ ρ (.mp id) mv) :
    ∃ b ces, mv = .map (some b) ∧ ρ id = some (b, 0) ∧ w.heap[b]? = some (.map ces c) ∧ EntsR w.heap (Icur n0 I0 σ ρ w.heap) σ ρ es ces.toList := by
  simp only [RV] at rm
  obtain ⟨_, _, _, b, hρ, rfl⟩ := rm
  obtain ⟨_, ces, hb, r⟩ := hI.obs id b 0 _ hρ hob
  exact ⟨b, ces, rfl, hρ, hb, r⟩
theorem zeroTree_sound {t : TypeId} {z : Tree} (e : zeroTree P t = some z) {h : Array Go.Obj} {I : Nat → Prop} : ∃ v, (zeroValue t).run P w = .ok v w ∧ RV h I σ ρ (.tr z) v := by
  unfold zeroTree at e
  split at e
  · rename_i i hi
    split at e
    · rename_i cs hz
      simp only [Option.some.injEq] at e
      subst e
      refine ⟨_, run_zeroValue' hi hz, ?_⟩
      simp only [RV, RT]
      refine ⟨cs.toList, by simp, ?_⟩
      have := RVL_zero (h := h) (I := I) (σ := σ) (ρ := ρ) cs
      exact (RVL_tr _ _).1 this
    · rename_i z' hne hz
      simp only [Option.some.injEq] at e
      subst e
      exact ⟨_, run_zeroValue' hi hz, RV_sc.2 rfl⟩
    · cases e
  · cases e
theorem RV_pair {h : Array Go.Obj} {I : Nat → Prop} {a b : V} {x y : Value} (ra : RV h I σ ρ a x) (rb : RV h I σ ρ b y) : RV h I σ ρ (mkTup [a, b]) (.tuple #[x, y]) := by
  refine RV_mkTup (xs := [x, y]) ?_
  simp only [RVL]
  exact ⟨x, _, rfl, ra, y, _, rfl, rb, rfl⟩
theorem opLookup_sound (hI : Inv n0 w0 I0 σ ρ w) {t kt et : TypeId} {kind : TypeDesc} {z : Tree} {ok : Bool} {m k v : V} {mv kv : Value}
    (ht : P.underlying t = some (.map kt et)) (hk : P.underlying kt = some kind) (hz : zeroTree P et = some z)
    (e : opLookup kind z ok m k σ = some v) (rm : RV w.heap (Icur n0 I0 σ ρ w.heap) σ ρ m mv) (rk : RV w.heap (Icur n0 I0 σ ρ w.heap) σ ρ k kv) :
    ∃ y, (Instr.lookup t mv kv ok).run P w = .ok y w ∧ RV w.heap (Icur n0 I0 σ ρ w.heap) σ ρ v y := by
  unfold opLookup at e
  cases hkey : asKey kind k with
  | none => rw [hkey] at e; split at e <;> simp_all
  | some key =>
  rw [hkey] at e
  obtain ⟨rfl, hko⟩ := asKey_sound hkey rk
  obtain ⟨zv, hzr, rz⟩ := zeroTree_sound (P := P) (w := w) (σ := σ) (ρ := ρ) (h := w.heap) (I := Icur n0 I0 σ ρ w.heap) hz
  have fin : ∀ (u : V) (x : Value) (b : Bool), RV w.heap (Icur n0 I0 σ ρ w.heap) σ ρ u x → RV w.heap (Icur n0 I0 σ ρ w.heap) σ ρ (okTup ok u b) (if ok then .tuple #[x, .bool b] else x) := by
    intro u x b r
    unfold okTup
    cases ok with
    | true => exact RV_pair r (RV_sc.2 rfl)
    | false => exact r
  split at e
  · rename_i heq
    have := RV_sc.1 rm
    subst this
    simp only [Option.some.injEq] at e
    subst e
    refine ⟨_, ?_, fin _ _ _ rz⟩
    unfold Instr.lookup
    simp only [Sem.run_bind, run_underlying ht, Result.andThen_ok, Sem.run_pure, run_checkKey hk hko]
    rw [run_findKey (r := none) hk rfl]
    simp only [Result.andThen_ok, Sem.run_bind, hzr, Sem.run_pure]
  · rename_i id key' heq
    simp only [Option.some.injEq] at heq
    subst heq
    split at e
    · rename_i es c hob
      obtain ⟨b, ces, rfl, hρ, hb, r⟩ := mp_parts hI hob rm
      split at e
      · rename_i j en hf
        simp only [Option.some.injEq] at e
        subst e
        obtain ⟨_, _, d, hd, ⟨_, _, hv⟩, hnow, _⟩ := findNow_some hko es ces.toList 0 j en r hf
        refine ⟨_, ?_, fin _ _ _ hv⟩
        unfold Instr.lookup
        simp only [Sem.run_bind, run_underlying ht, Result.andThen_ok, run_getObj hb, Sem.run_pure, run_checkKey hk hko]
        rw [run_findKey hk hnow]
        simp only [Result.andThen_ok, Sem.run_bind, Sem.run_pure]
      · rename_i hf
        simp only [Option.some.injEq] at e
        subst e
        have hnow := findNow_none hko es ces.toList 0 r hf
        refine ⟨_, ?_, fin _ _ _ rz⟩
        unfold Instr.lookup
        simp only [Sem.run_bind, run_underlying ht, Result.andThen_ok, run_getObj hb, Sem.run_pure, run_checkKey hk hko]
        rw [run_findKey hk hnow]
        simp only [Result.andThen_ok, Sem.run_bind, hzr, Sem.run_pure]
      · cases e
    · cases e
  · cases e
theorem modify_toList (ces : Array MapEntry) (j : Nat) (f : MapEntry → MapEntry) (d : MapEntry) (hd : ces.toList[j]? = some d) : (ces.modify j f).toList = ces.toList.set j (f d) := by
  apply List.ext_getElem?
  intro k
  rw [Array.getElem?_toList, Array.getElem?_modify, List.getElem?_set]
  rw [Array.getElem?_toList] at hd
  by_cases hk : j = k
  · subst hk
    rw [if_pos rfl, if_pos rfl, hd]
    have := (Array.getElem?_eq_some_iff.1 hd).1
    rw [if_pos (by simpa using this)]
    rfl
  · rw [if_neg hk, if_neg hk, Array.getElem?_toList]
theorem EntsR_set {h : Array Go.Obj} {I : Nat → Prop} {es : List Ent} {cs : List MapEntry} {j : Nat} {e : Ent} {c : MapEntry} (r : EntsR h I σ ρ es cs) (hec : EntR h I σ ρ e c) :
    EntsR h I σ ρ (es.set j e) (cs.set j c) := by
  rw [EntsR_iff] at *
  refine ⟨by simp [r.1], fun k e' hk => ?_⟩
  rw [List.getElem?_set] at hk ⊢
  split at hk
  · rename_i hj
    rw [if_pos hj]
    split at hk
    · rename_i hl
      simp only [Option.some.injEq] at hk
      subst hk
      rw [if_pos (by rw [← r.1]; exact hl)]
      exact ⟨c, rfl, hec⟩
    · cases hk
  · rename_i hj
    rw [if_neg hj]
    exact r.2 k e' hk
theorem EntsR_snoc {h : Array Go.Obj} {I : Nat → Prop} {es : List Ent} {cs : List MapEntry} {e : Ent} {c : MapEntry} (r : EntsR h I σ ρ es cs) (hec : EntR h I σ ρ e c) :
    EntsR h I σ ρ (es ++ [e]) (cs ++ [c]) := by
  rw [EntsR_iff] at *
  refine ⟨by simp [r.1], fun k e' hk => ?_⟩
  rw [List.getElem?_append] at hk ⊢
  split at hk
  · rename_i hl
    rw [if_pos (by rw [← r.1]; exact hl)]
    exact r.2 k e' hk
  · rename_i hl
    rw [if_neg (by rw [← r.1]; exact hl), ← r.1]
    cases hkk : k - es.length with
    | zero =>
      rw [hkk] at hk
      simp at hk
      subst hk
      exact ⟨c, rfl, hec⟩
    | succ n => rw [hkk] at hk; simp at hk
theorem opMapUpdate_sound (hI : Inv n0 w0 I0 σ ρ w) {t kt et : TypeId} {kind : TypeDesc} {m k v : V} {mv kv vv : Value}
    (ht : P.underlying t = some (.map kt et)) (hk : P.underlying kt = some kind)
    (e : opMapUpdate kind m k v σ = some σ') (rm : RV w.heap (Icur n0 I0 σ ρ w.heap) σ ρ m mv) (rk : RV w.heap (Icur n0 I0 σ ρ w.heap) σ ρ k kv)
    (rv : RV w.heap (Icur n0 I0 σ ρ w.heap) σ ρ v vv) :
    ∃ w', (Instr.mapUpdate t mv kv vv).run P w = .ok () w' ∧ Inv n0 w0 I0 σ' ρ w' ∧ Evo n0 I0 σ ρ w.heap σ' ρ w'.heap := by
  unfold opMapUpdate at e
  split at e
  · rename_i key id hkey
    obtain ⟨rfl, hko⟩ := asKey_sound hkey rk
    split at e
    · rename_i es c hob
      obtain ⟨b, ces, rfl, hρ, hb, r⟩ := mp_parts hI hob rm
      split at e
      · rename_i j en hf
        simp only [Option.some.injEq] at e
        subst e
        obtain ⟨_, hen, d, hd, ⟨h1, h2, hv⟩, hnow, hkeq⟩ := findNow_some hko es ces.toList 0 j en r hf
        simp only [Nat.sub_zero] at hen hd
        have hst := map_step (c' := c) (es' := es.set j { en with key := kv, val := v }) (ces' := ces.modify j fun e => { e with key := kv, val := vv }) hI hob hρ hb (by
          rw [modify_toList _ _ _ d hd]
          exact EntsR_set r ⟨rfl, h2, rv⟩)
        refine ⟨_, ?_, hst⟩
        unfold Instr.mapUpdate
        simp only [Sem.run_bind, run_underlying ht, Result.andThen_ok, run_getObj hb, run_checkKey hk hko]
        rw [run_findKey hk hnow]
        have hd' : ces[j]? = some d := by rw [← Array.getElem?_toList]; exact hd
        simp only [Result.andThen_ok, Sem.run_bind, hd', Option.map_some, Option.getD_some, h1, run_keyStays hkeq]
        exact run_setObj hb
      · rename_i hf
        simp only [Option.some.injEq] at e
        subst e
        have hnow := findNow_none hko es ces.toList 0 r hf
        have hst := map_step (c' := c + 1) (es' := es ++ [{ key := kv, val := v, born := c }]) (ces' := ces.push { key := kv, val := vv, born := c }) hI hob hρ hb (by
          rw [Array.toList_push]
          exact EntsR_snoc r ⟨rfl, rfl, rv⟩)
        refine ⟨_, ?_, hst⟩
        unfold Instr.mapUpdate
        simp only [Sem.run_bind, run_underlying ht, Result.andThen_ok, run_getObj hb, run_checkKey hk hko]
        rw [run_findKey hk hnow]
        simp only [Result.andThen_ok]
        exact run_setObj hb
      · cases e
    · cases e
  · cases e
theorem opMapEntry_sound (hI : Inv n0 w0 I0 σ ρ w) {t kt et : TypeId} {kind : TypeDesc} {z : Tree} {m k v : V} {mv kv : Value}
    (ht : P.underlying t = some (.map kt et)) (hk : P.underlying kt = some kind) (hz : zeroTree P et = some z)
    (e : opMapEntry kind z m k σ = some (v, σ')) (rm : RV w.heap (Icur n0 I0 σ ρ w.heap) σ ρ m mv) (rk : RV w.heap (Icur n0 I0 σ ρ w.heap) σ ρ k kv) :
    ∃ y w', (Instr.mapEntry t mv kv).run P w = .ok y w' ∧ Post n0 w0 I0 σ ρ w v σ' y w' := by
  obtain ⟨zv, hzr, rz⟩ := zeroTree_sound (P := P) (w := w) (σ := σ) (ρ := ρ) (h := w.heap) (I := Icur n0 I0 σ ρ w.heap) hz
  unfold opMapEntry at e
  split at e
  · rename_i key id hkey
    obtain ⟨rfl, hko⟩ := asKey_sound hkey rk
    split at e
    · rename_i es c hob
      obtain ⟨b, ces, rfl, hρ, hb, r⟩ := mp_parts hI hob rm
      split at e
      · rename_i j en hf
        simp only [Option.some.injEq, Prod.mk.injEq] at e
        obtain ⟨rfl, rfl⟩ := e
        obtain ⟨_, hen, d, hd, ⟨h1, h2, hv⟩, hnow, hkeq⟩ := findNow_some hko es ces.toList 0 j en r hf
        simp only [Nat.sub_zero] at hen hd
        have hst := map_step (c' := c) (es' := es.set j { en with key := kv }) (ces' := ces.modify j fun e => { e with key := kv }) hI hob hρ hb (by
          rw [modify_toList _ _ _ d hd]
          exact EntsR_set r ⟨rfl, h2, hv⟩)
        refine ⟨.tuple #[d.val, goInt d.born], _, ?_, ρ, hst.1, hst.2, RV_mono hst.2 _ _ (RV_pair hv (RV_sc.2 (by rw [h2]; rfl)))⟩
        unfold Instr.mapEntry
        simp only [Sem.run_bind, run_underlying ht, Result.andThen_ok, run_getObj hb, run_checkKey hk hko]
        rw [run_findKey hk hnow]
        have hd' : ces[j]? = some d := by rw [← Array.getElem?_toList]; exact hd
        simp only [Result.andThen_ok, Sem.run_bind, hd', Option.map_some, Option.getD_some, h1, run_keyStays hkeq]
        rw [run_setObj hb]
        rfl
      · rename_i hf
        simp only [Option.some.injEq, Prod.mk.injEq] at e
        obtain ⟨rfl, rfl⟩ := e
        have hnow := findNow_none hko es ces.toList 0 r hf
        have hst := map_step (c' := c + 1) (es' := es ++ [{ key := kv, val := .tr z, born := c }]) (ces' := ces.push { key := kv, val := zv, born := c }) hI hob hρ hb (by
          rw [Array.toList_push]
          exact EntsR_snoc r ⟨rfl, rfl, rz⟩)
        refine ⟨.tuple #[zv, goInt c], _, ?_, ρ, hst.1, hst.2, RV_mono hst.2 _ _ (RV_pair rz (RV_sc.2 rfl))⟩
        unfold Instr.mapEntry
        simp only [Sem.run_bind, run_underlying ht, Result.andThen_ok, run_getObj hb, run_checkKey hk hko]
        rw [run_findKey hk hnow]
        simp only [Result.andThen_ok, Sem.run_bind, hzr]
        rw [run_setObj hb]
        rfl
      · cases e
    · cases e
  · cases e
theorem setBorn_sound {h : Array Go.Obj} {I : Nat → Prop} {born : Nat} {v : V} {x : Value} (rv : RV h I σ ρ v x) : ∀ (es es' : List Ent) (cs : List MapEntry), setBorn born v es = some es' → EntsR h I σ ρ es cs →
    ∃ j d, cs.findIdx? (fun e => ((e.born : Int) == (born : Int))) = some j ∧ cs[j]? = some d ∧ EntsR h I σ ρ es' (cs.set j { d with val := x })
  | [], es', cs, e, r => by simp [setBorn] at e
  | en :: es, es', cs, e, r => by
    obtain ⟨d, ds, rfl, ⟨h1, h2, h3⟩, r⟩ := r
    rw [setBorn] at e
    split at e
    · rename_i hb
      simp only [Option.some.injEq] at e
      subst e
      have hb' := Nat.eq_of_beq_eq_true hb
      refine ⟨0, d, ?_, rfl, ?_⟩
      · rw [List.findIdx?_cons, h2, hb']
        simp
      · simp only [List.set_cons_zero, EntsR]
        exact ⟨_, _, rfl, ⟨h1, h2, rv⟩, r⟩
    · rename_i hb
      split at e
      · rename_i es2 hs
        simp only [Option.some.injEq] at e
        subst e
        obtain ⟨j, d', hj, hd', r'⟩ := setBorn_sound rv es es2 ds hs r
        refine ⟨j + 1, d', ?_, by simpa using hd', ?_⟩
        · rw [List.findIdx?_cons, h2]
          have : ((en.born : Int) == (born : Int)) = false := by
            rw [beq_eq_false_iff_ne]
            intro hh
            apply hb
            rw [Nat.beq_eq]
            exact_mod_cast hh
          rw [this]
          simp [hj]
        · simp only [List.set_cons_succ, EntsR]
          exact ⟨_, _, rfl, ⟨h1, h2, h3⟩, r'⟩
      · cases e
theorem opEntryStore_sound (hI : Inv n0 w0 I0 σ ρ w) {t : TypeId} {m s v : V} {mv sv vv : Value}
    (e : opEntryStore m s v σ = some σ') (rm : RV w.heap (Icur n0 I0 σ ρ w.heap) σ ρ m mv) (rs : RV w.heap (Icur n0 I0 σ ρ w.heap) σ ρ s sv)
    (rv : RV w.heap (Icur n0 I0 σ ρ w.heap) σ ρ v vv) :
    ∃ w', (Instr.entryStore t mv sv vv).run P w = .ok () w' ∧ Inv n0 w0 I0 σ' ρ w' ∧ Evo n0 I0 σ ρ w.heap σ' ρ w'.heap := by
  unfold opEntryStore at e
  split at e
  · rename_i id born hs
    obtain ⟨k, rfl⟩ := asIdx_sound hs rs
    split at e
    · rename_i es c hob
      obtain ⟨b, ces, rfl, hρ, hb, r⟩ := mp_parts hI hob rm
      split at e
      · rename_i es' hes
        simp only [Option.some.injEq] at e
        subst e
        obtain ⟨j, d, hj, hd, r'⟩ := setBorn_sound rv es es' ces.toList hes r
        have hst := map_step (c' := c) (es' := es') (ces' := ces.modify j fun e => { e with val := vv }) hI hob hρ hb (by
          rw [modify_toList _ _ _ d hd]
          exact r')
        refine ⟨_, ?_, hst⟩
        unfold Instr.entryStore
        simp only [Sem.run_bind, run_getObj hb, Result.andThen_ok, asInt, asIntOf, Sem.run_pure]
        have hj' : ces.findIdx? (fun e => ((e.born : Int) == (born : Int))) = some j := by
          rw [← List.findIdx?_toArray, Array.toArray_toList] at hj; exact hj
        rw [hj']
        exact run_setObj hb
      · cases e
    · cases e
  · cases e
theorem opMkmap_sound (hI : Inv n0 w0 I0 σ ρ w) {t : TypeId} {v : V} (e : opMkmap σ = some (v, σ')) :
    ∃ y w', (Instr.makeMap t none).run P w = .ok y w' ∧ Post n0 w0 I0 σ ρ w v σ' y w' := by
  simp only [opMkmap, Option.some.injEq, Prod.mk.injEq] at e
  obtain ⟨rfl, rfl⟩ := e
  have h1 := hI.alloc (ob := .map [] 0) (o := .map #[] 0) (w' := { w with heap := w.heap.push (.map #[] 0) }) rfl (alloc_below hI _) (fun E => ⟨rfl, #[], by simp, rfl⟩)
  refine ⟨.map (some w.heap.size), { w with heap := w.heap.push (.map #[] 0) }, by simp [Instr.makeMap], _, h1.1, h1.2, ?_⟩
  simp only [RV]
  exact ⟨[], 0, by simp, _, upd_same _ _ _, rfl⟩
theorem opDelete_sound (hI : Inv n0 w0 I0 σ ρ w) {t kt et ty : TypeId} {ts : Array TypeId} {kind : TypeDesc} {m k v : V} {mv kv : Value} (hts : ts[0]? = some t)
    (ht : P.underlying t = some (.map kt et)) (hk : P.underlying kt = some kind)
    (e : opDelete kind m k σ = some (v, σ')) (rm : RV w.heap (Icur n0 I0 σ ρ w.heap) σ ρ m mv) (rk : RV w.heap (Icur n0 I0 σ ρ w.heap) σ ρ k kv) :
    ∃ y w', (Builtin.delete_ ts ty #[mv, kv]).run P w = .ok y w' ∧ Post n0 w0 I0 σ ρ w v σ' y w' := by
  have ru : ∀ {h : Array Go.Obj} {I : Nat → Prop} {σ : Store} {ρ : Rho}, RV h I σ ρ (.tr (.tup [])) (.tuple #[]) := by
    intros; simp only [RV, RT, RTL]; exact ⟨[], rfl, rfl⟩
  unfold opDelete at e
  split at e
  · rename_i key id hkey
    obtain ⟨rfl, hko⟩ := asKey_sound hkey rk
    split at e
    · rename_i es c hob
      obtain ⟨b, ces, rfl, hρ, hb, r⟩ := mp_parts hI hob rm
      split at e
      · rename_i j en hf
        simp only [Option.some.injEq, Prod.mk.injEq] at e
        obtain ⟨rfl, rfl⟩ := e
        obtain ⟨_, hen, d, hd, ⟨h1, h2, hv⟩, hnow, hkeq⟩ := findNow_some hko es ces.toList 0 j en r hf
        simp only [Nat.sub_zero] at hen hd
        have hj : j < ces.size := by
          rw [Array.getElem?_toList] at hd
          exact (Array.getElem?_eq_some_iff.1 hd).1
        have htl : (ces.eraseIdxIfInBounds j).toList = ces.toList.eraseIdx j := by
          simp [Array.eraseIdxIfInBounds, hj]
        have hst := map_step (c' := c) (es' := es.eraseIdx j) (ces' := ces.eraseIdxIfInBounds j) hI hob hρ hb (by
          rw [htl]
          rw [EntsR_iff] at r ⊢
          refine ⟨by rw [List.length_eraseIdx, List.length_eraseIdx, r.1], fun i e' hi => ?_⟩
          rw [List.getElem?_eraseIdx] at hi ⊢
          split at hi
          · rename_i hlt; rw [if_pos hlt]; exact r.2 _ _ hi
          · rename_i hlt; rw [if_neg hlt]; exact r.2 _ _ hi)
        refine ⟨.tuple #[], _, ?_, ρ, hst.1, hst.2, ru⟩
        unfold Builtin.delete_
        simp only [hts, List.getElem?_toArray, List.getElem?_cons_zero, List.getElem?_cons_succ, Sem.run_bind, run_underlying ht, Result.andThen_ok, run_getObj hb, run_checkKey hk hko]
        rw [run_findKey hk hnow]
        simp only [Result.andThen_ok, Sem.run_bind]
        rw [run_setObj hb]
        rfl
      · rename_i hf
        simp only [Option.some.injEq, Prod.mk.injEq] at e
        obtain ⟨rfl, rfl⟩ := e
        have hnow := findNow_none hko es ces.toList 0 r hf
        have hst := map_step (c' := c) (es' := es) (ces' := ces) hI hob hρ hb r
        rw [set_self hob] at hst
        refine ⟨.tuple #[], _, ?_, ρ, hst.1, hst.2, ru⟩
        unfold Builtin.delete_
        simp only [hts, List.getElem?_toArray, List.getElem?_cons_zero, List.getElem?_cons_succ, Sem.run_bind, run_underlying ht, Result.andThen_ok, run_getObj hb, run_checkKey hk hko]
        rw [run_findKey hk hnow]
        simp only [Result.andThen_ok, Sem.run_bind]
        rw [run_setObj hb]
        rfl
      · cases e
    · cases e
  · rename_i key hkey
    obtain ⟨rfl, hko⟩ := asKey_sound hkey rk
    have := RV_sc.1 rm
    subst this
    simp only [Option.some.injEq, Prod.mk.injEq] at e
    obtain ⟨rfl, rfl⟩ := e
    refine ⟨.tuple #[], w, ?_, Post.same hI ru⟩
    unfold Builtin.delete_
    simp only [hts, List.getElem?_toArray, List.getElem?_cons_zero, List.getElem?_cons_succ, Sem.run_bind, run_underlying ht, Result.andThen_ok, run_checkKey hk hko, Sem.run_pure]
  · cases e
end
end Go.Proofs.Ytodgdmhifbnofaa.AM
end
section
set_option linter.unusedSimpArgs false
set_option linter.unusedVariables false
set_option linter.unusedVariables false
set_option linter.unusedSimpArgs false
open Go.RowKit
namespace Go.Proofs.Ytodgdmhifbnofaa.AM
section
variable {P : Program} {n0 : Nat} {w0 : World} {I0 : Nat → Prop} {σ σ' : Store} {ρ : Rho} {w w' : World}
structure StR (DF : List Deferred) (K : List Nat) (N n0 : Nat) (I0 : Nat → Prop) (ρ : Rho) (w : World) (st : St) (a : Act) : Prop where
  defers : a.defers = DF
  size : N ≤ a.tmps.size
  env : ∀ k v, look st.env k = some v → mem k K = true ∧ ∃ x, a.tmps[k]? = some x ∧ RV w.heap (Icur n0 I0 st.σ ρ w.heap) st.σ ρ v x
  loc : ∀ k v, look st.loc k = some v → mem k K = false ∧ ∃ x, a.tmps[k]? = some x ∧ RV w.heap (Icur n0 I0 st.σ ρ w.heap) st.σ ρ v x
variable {DF : List Deferred} {K : List Nat} {N : Nat} {st : St} {a : Act}
theorem ofValue_sound {h : Array Go.Obj} {I : Nat → Prop} (v : Value) : RV h I σ ρ (ofValue v) v := by
  unfold ofValue
  split
  · rename_i cs
    simp only [RV, RT]
    refine ⟨cs.toList, by simp, ?_⟩
    exact (RVL_tr (σ := σ) (ρ := ρ) _ _).1 (RVL_zero cs)
  · exact RV_sc.2 rfl
theorem eval_tmp {k : Nat} {x : Value} (h : a.tmps[k]? = some x) : a.eval (.tmp k) = x := by
  show a.tmps.getD k undef = x
  rw [Array.getD_eq_getD_getElem?, h]
  rfl
theorem get_sound (hs : StR DF K N n0 I0 ρ w st a) {o : Operand} {v : V} (e : st.get (cHO K o) = some v) : RV w.heap (Icur n0 I0 st.σ ρ w.heap) st.σ ρ v (a.eval o) := by
  cases o with
  | tmp k =>
    simp only [cHO] at e
    split at e
    · obtain ⟨_, x, hx, r⟩ := hs.env k v e
      rw [eval_tmp hx]
      exact r
    · obtain ⟨_, x, hx, r⟩ := hs.loc k v e
      rw [eval_tmp hx]
      exact r
  | const c =>
    simp only [cHO, St.get, Option.some.injEq] at e
    subst e
    exact ofValue_sound c
  | global g =>
    simp only [cHO, St.get, Option.some.injEq] at e
    subst e
    exact RV_sc.2 rfl
  | func f =>
    simp only [cHO, St.get, Option.some.injEq] at e
    subst e
    simp only [RV, RT]
    exact ⟨[], [], rfl, by simp [RTL], by simp [RTL]⟩
theorem gets_sound (hs : StR DF K N n0 I0 ρ w st a) : ∀ {os : List Operand} {vs : List V}, st.gets (os.map (cHO K)) = some vs → RVL w.heap (Icur n0 I0 st.σ ρ w.heap) st.σ ρ vs (os.map a.eval)
  | [], vs, e => by
    simp only [List.map_nil, St.gets, Option.some.injEq] at e
    subst e
    simp [RVL]
  | o :: os, vs, e => by
    simp only [List.map_cons, St.gets] at e
    split at e
    · rename_i v hv
      split at e
      · rename_i us hu
        simp only [Option.some.injEq] at e
        subst e
        simp only [List.map_cons, RVL]
        exact ⟨_, _, rfl, get_sound hs hv, gets_sound hs hu⟩
      · cases e
    · cases e
theorem geto_sound (hs : StR DF K N n0 I0 ρ w st a) {o : Option Operand} {v : Option V} (e : st.geto (o.map (cHO K)) = some v) : RO w.heap (Icur n0 I0 st.σ ρ w.heap) st.σ ρ v (o.map a.eval) := by
  cases o with
  | none =>
    simp only [Option.map_none, St.geto, Option.some.injEq] at e
    subst e
    rfl
  | some o =>
    simp only [Option.map_some, St.geto] at e
    split at e
    · rename_i u hu
      simp only [Option.some.injEq] at e
      subst e
      exact ⟨_, rfl, get_sound hs hu⟩
    · cases e
theorem getp_sound (hs : StR DF K N n0 I0 ρ w st a) {place : Nat → Option (Nat × Nat)} : ∀ {qs : List (Nat × Operand)} {ps : List (Nat × Nat × HO)} {pv : List (Nat × Nat × V)}, cParts K place qs = some ps → st.getp ps = some pv →
    pv.length = (qs.map fun x => (x.1, a.eval x.2)).length ∧ ∀ (k : Nat) p, pv[k]? = some p → ∃ q, (qs.map fun x => (x.1, a.eval x.2))[k]? = some q ∧ place q.1 = some (p.1, p.2.1) ∧ RV w.heap (Icur n0 I0 st.σ ρ w.heap) st.σ ρ p.2.2 q.2
  | [], ps, pv, e1, e2 => by
    simp only [cParts, Option.some.injEq] at e1
    subst e1
    simp only [St.getp, Option.some.injEq] at e2
    subst e2
    simp
  | (i, x) :: qs, ps, pv, e1, e2 => by
    simp only [cParts] at e1
    split at e1
    · rename_i o s hp
      split at e1
      · rename_i ps' hps
        simp only [Option.some.injEq] at e1
        subst e1
        simp only [St.getp] at e2
        split at e2
        · rename_i v hv
          split at e2
          · rename_i vs hvs
            simp only [Option.some.injEq] at e2
            subst e2
            obtain ⟨h1, h2⟩ := getp_sound hs hps hvs
            refine ⟨by simpa using h1, fun k p hk => ?_⟩
            cases k with
            | zero =>
              simp only [List.getElem?_cons_zero, Option.some.injEq] at hk
              subst hk
              exact ⟨_, rfl, hp, get_sound hs hv⟩
            | succ k => exact h2 k p (by simpa using hk)
          · cases e2
        · cases e2
      · cases e1
    · cases e1
theorem pure1_some {s s' : Store} {x : Option V} {v : V} (e : pure1 s x = some (v, s')) : x = some v ∧ s' = s := by
  unfold pure1 at e
  split at e
  · simp only [Option.some.injEq, Prod.mk.injEq] at e
    exact ⟨by rw [e.1], e.2.symm⟩
  · cases e
theorem bind1_some {β : Type} {x : Option V} {f : V → Option β} {r : β} (e : bind1 x f = some r) : ∃ v, x = some v ∧ f v = some r := by
  unfold bind1 at e
  split at e
  · exact ⟨_, rfl, e⟩
  · cases e
theorem skip1_some {x : Option Store} {v : V} {s : Store} (e : skip1 x = some (v, s)) : x = some s ∧ v = undefV := by
  unfold skip1 at e
  split at e
  · simp only [Option.some.injEq, Prod.mk.injEq] at e
    exact ⟨by rw [e.2], e.1.symm⟩
  · cases e
def FnOk (P : Program) (f : FuncId) : Prop := ∃ fn, P.funcs[f]? = some fn ∧ (fn.name == "runtime.NumGoroutine") = false ∧ fn.body.isNone = false
def Runs (P : Program) (f : FuncId) (xs : Array Value) (w : World) (Q : Value → World → Prop) : Prop :=
  (FnOk P f ∧ Calls P f xs w fun e w' => ∃ x, e = .returned x ∧ Q x w') ∨ (∃ x w', (callFunc f xs).run P w = .ok (.value x) w' ∧ Q x w')
theorem Runs.mono {P : Program} {f : FuncId} {xs : Array Value} {w : World} {Q Q' : Value → World → Prop} (h : Runs P f xs w Q) (k : ∀ x w', Q x w' → Q' x w') : Runs P f xs w Q' := by
  rcases h with ⟨h1, h2⟩ | ⟨x, w', h1, h2⟩
  · refine .inl ⟨h1, h2.mono ?_⟩
    rintro e w' ⟨x, rfl, hx⟩
    exact ⟨x, rfl, k x w' hx⟩
  · exact .inr ⟨x, w', h1, k x w' h2⟩
def CallOkAt (P : Program) (call : CallA) (n0 : Nat) (w0 : World) : Prop := ∀ f vs s v s', call f vs s = some (v, s') →
  ∀ (I0 : Nat → Prop) (ρ : Rho) (w : World) (xs : List Value), Inv n0 w0 I0 s ρ w → RVL w.heap (Icur n0 I0 s ρ w.heap) s ρ vs xs → Runs P f xs.toArray w (Post n0 w0 I0 s ρ w v s')
abbrev Ground := Nat → World → Prop
def CallOk (Gd : Ground) (P : Program) (call : CallA) : Prop := ∀ n0 w0, Gd n0 w0 → CallOkAt P call n0 w0
theorem run_callFunc {f : FuncId} (hf : FnOk P f) (args : Array Value) : (callFunc f args).run P w = .ok (.enter f args) w := by
  obtain ⟨fn, h1, h2, h3⟩ := hf
  unfold callFunc
  simp only [Sem.run_bind, run_program, Result.andThen_ok, h1, h2, h3, Bool.false_eq_true, if_false, Sem.run_pure]
abbrev Nx (n0 : Nat) (w0 : World) (I0 : Nat → Prop) (σ : Store) (ρ : Rho) (w : World) (v : V) (σ' : Store) (o : Oper) (a : Act) (next : Act → World → Prop) : Prop :=
  ∀ x w', Post n0 w0 I0 σ ρ w v σ' x w' → next (a.put o.dst x) w'
theorem wp_value {o : Oper} {v : V} {next : Act → World → Prop} {Q : Exit → Act → World → Prop} (hn : Nx n0 w0 I0 σ ρ w v σ' o a next) {y : Value}
    (hr : (execOp a.eval o).run P w = .ok (.value y) w') (hp : Post n0 w0 I0 σ ρ w v σ' y w') : o.wp P a w next Q := by
  unfold Oper.wp
  rw [hr]
  exact hn y w' hp
theorem wp_skipped {o : Oper} {v : V} {next : Act → World → Prop} {Q : Exit → Act → World → Prop} (hn : Nx n0 w0 I0 σ ρ w v σ' o a next)
    (hr : (execOp a.eval o).run P w = .ok .skip w') (hp : Post n0 w0 I0 σ ρ w v σ' undef w') : o.wp P a w next Q := by
  unfold Oper.wp
  rw [hr]
  exact hn undef w' hp
theorem wp_entered {o : Oper} {v : V} {next : Act → World → Prop} {Q : Exit → Act → World → Prop} (hn : Nx n0 w0 I0 σ ρ w v σ' o a next) {f : FuncId} {args : Array Value}
    (hr : (execOp a.eval o).run P w = .ok (.enter f args) w) (hp : Calls P f args w fun e w' => ∃ x, e = .returned x ∧ Post n0 w0 I0 σ ρ w v σ' x w') : o.wp P a w next Q := by
  unfold Oper.wp
  rw [hr]
  refine hp.mono ?_
  rintro e w' ⟨x, rfl, hx⟩
  exact hn x w' hx
theorem RV_undef {h : Array Go.Obj} {I : Nat → Prop} : RV h I σ ρ undefV undef := by
  simp only [undefV, RV, RT, RTL]
  exact ⟨[], rfl, rfl⟩
theorem Post.skip {v : V} (hv : v = undefV) (h1 : Inv n0 w0 I0 σ' ρ w') (h2 : Evo n0 I0 σ ρ w.heap σ' ρ w'.heap) : Post n0 w0 I0 σ ρ w v σ' undef w' := by
  subst hv
  exact ⟨ρ, h1, h2, RV_undef⟩
end
end Go.Proofs.Ytodgdmhifbnofaa.AM
end
section
set_option linter.unusedSimpArgs false
set_option linter.unusedVariables false
set_option linter.unusedVariables false
set_option linter.unusedSimpArgs false
open Go.RowKit
namespace Go.Proofs.Ytodgdmhifbnofaa.AM
section
variable {P : Program} {n0 : Nat} {w0 : World} {I0 : Nat → Prop} {σ σ' : Store} {ρ : Rho} {w w' : World}
variable {DF : List Deferred} {K : List Nat} {N : Nat} {st : St} {a : Act} {H : Hints} {call : CallA}
theorem Nx.at {o : Oper} {v : V} {next : Act → World → Prop} (hn : Nx n0 w0 I0 σ ρ w v σ' o a next) : Nx n0 w0 I0 σ ρ w v σ' o a next := hn
theorem args_two {α β : Type} {f : α → β} {as : Array α} {x y : α} (h : as.toList = [x, y]) : as.map f = #[f x, f y] := by
  apply Array.ext'
  rw [Array.toList_map, h]
  rfl
theorem args_one {α β : Type} {f : α → β} {as : Array α} {x : α} (h : as.toList = [x]) : as.map f = #[f x] := by
  apply Array.ext'
  rw [Array.toList_map, h]
  rfl
theorem arr_two {α : Type} {as : Array α} {x y : α} (h : as.toList = [x, y]) : as = #[x, y] := by
  apply Array.ext'
  rw [h]
theorem arr_one {α : Type} {as : Array α} {x : α} (h : as.toList = [x]) : as = #[x] := by
  apply Array.ext'
  rw [h]
theorem arr_head {α : Type} {as : Array α} {x : α} {l : List α} (h : as.toList = x :: l) : as[0]? = some x := by
  rw [← Array.getElem?_toList, h]
  rfl
theorem kind_of_key {d : Option TypeDesc} {k : TypeDesc} (e : cKey d = some k) : d = some k := by
  unfold cKey at e
  split at e
  · simpa using e
  · simpa using e
  · simpa using e
  · cases e
theorem run_builtin {o : Oper} {c : Call} {b : Builtin} (ho : o.op = .call c) (hc : c.callee = .builtin b) :
    ∃ cs : Array Bool, (execOp a.eval o).run P w = (Go.builtin b c.argTypes o.type cs (c.args.map a.eval)).run P w := by
  unfold execOp
  simp only [ho, resolve, hc, Sem.run_bind, Sem.run_pure, Result.andThen_ok, invoke]
  exact ⟨_, rfl⟩
theorem run_v {s : Sem Value} {y : Value} (h : s.run P w = .ok y w') : (do pure (Next.value (← s)) : Sem Next).run P w = .ok (.value y) w' := by
  rw [Sem.run_bind, h]
  rfl
theorem run_u {s : Sem Unit} (h : s.run P w = .ok () w') : (do s; pure Next.skip : Sem Next).run P w = .ok .skip w' := by
  rw [Sem.run_bind, h]
  rfl
theorem callV_sound (hcall : CallOkAt P call n0 w0) (hI : Inv n0 w0 I0 σ ρ w) {f : V} {fv : Value} {args : List V} {xs : List Value} {v : V}
    (e : callV call f args σ = some (v, σ')) (rf : RV w.heap (Icur n0 I0 σ ρ w.heap) σ ρ f fv) (ra : RVL w.heap (Icur n0 I0 σ ρ w.heap) σ ρ args xs) :
    ∃ g p q, fv = .func (.func g) p q ∧ Runs P g (p ++ xs.toArray ++ q) w (Post n0 w0 I0 σ ρ w v σ') := by
  unfold callV at e
  split at e
  · rename_i g first captured
    simp only [RV] at rf
    obtain ⟨ys, zs, rfl, r1, r2⟩ := rf
    refine ⟨g, ys.toArray, zs.toArray, rfl, ?_⟩
    have := hcall _ _ _ _ _ e I0 ρ w (ys ++ xs ++ zs) hI (RVL_append (RVL_append r1 ra) r2)
    have he : (ys ++ xs ++ zs).toArray = ys.toArray ++ xs.toArray ++ zs.toArray := by simp
    rw [← he]
    exact this
  · rename_i g first captured
    simp only [RV, RT] at rf
    obtain ⟨ys, zs, rfl, r1, r2⟩ := rf
    refine ⟨g, ys.toArray, zs.toArray, rfl, ?_⟩
    have := hcall _ _ _ _ _ e I0 ρ w (ys ++ xs ++ zs) hI (RVL_append (RVL_append ((RVL_tr _ _).2 r1) ra) ((RVL_tr _ _).2 r2))
    have he : (ys ++ xs ++ zs).toArray = ys.toArray ++ xs.toArray ++ zs.toArray := by simp
    rw [← he]
    exact this
  · cases e
theorem parts_eq (qs : Array (Nat × Operand)) : (qs.map fun (i, x) => (i, a.eval x)).toList = qs.toList.map fun x => (x.1, a.eval x.2) := by
  rw [Array.toList_map]
set_option maxHeartbeats 1600000 in
theorem op_sound (hcall : CallOkAt P call n0 w0) {o : Oper} {v : V} (hI : Inv n0 w0 I0 st.σ ρ w) (hs : StR DF K N n0 I0 ρ w st a) (e : opA call (cOp P H K o) st = some (v, σ'))
    {next : Act → World → Prop} {Q : Exit → Act → World → Prop} (hn : Nx n0 w0 I0 st.σ ρ w v σ' o a next) : o.wp P a w next Q := by
  have ex : execOp a.eval o = execOp a.eval o := rfl
  unfold cOp at e
  cases hop : o.op with
  | move x =>
    simp only [hop, opA, o_mv] at e
    obtain ⟨e', rfl⟩ := pure1_some e
    clear e
    have e := e'
    exact wp_value hn (by unfold execOp; rw [hop]; rfl) (Post.same hI (get_sound hs e))
  | assign x =>
    simp only [hop, opA, o_mv] at e
    obtain ⟨e', rfl⟩ := pure1_some e
    clear e
    have e := e'
    exact wp_value hn (by unfold execOp; rw [hop]; rfl) (Post.same hI (get_sound hs e))
  | pick c x y =>
    simp only [hop, opA, o_pick] at e
    obtain ⟨cv, hc, e⟩ := bind1_some e
    have rc := get_sound hs hc
    unfold asBool? at e
    split at e
    · rename_i b hb
      split at hb
      · simp only [Option.some.injEq] at hb
        subst hb
        have := RV_sc.1 rc
        obtain ⟨e', rfl⟩ := pure1_some e
        clear e
        have e := e'
        refine wp_value hn ?_ (Post.same hI (get_sound hs e))
        unfold execOp
        rw [hop]
        simp [this, asBool]
      · cases hb
    · rename_i b hb
      split at hb
      · simp only [Option.some.injEq] at hb
        subst hb
        have := RV_sc.1 rc
        obtain ⟨e', rfl⟩ := pure1_some e
        clear e
        have e := e'
        refine wp_value hn ?_ (Post.same hI (get_sound hs e))
        unfold execOp
        rw [hop]
        simp [this, asBool]
      · cases hb
    · cases e
  | alloc t =>
    simp only [hop] at e
    split at e
    · rename_i z hz
      simp only [opA, o_alloc] at e
      obtain ⟨y, w', hr, hp⟩ := opAlloc_sound hI hz e
      exact wp_value hn (by unfold execOp; rw [hop]; exact run_v hr) hp
    · simp [opA] at e
  | box t x =>
    simp only [hop, opA, o_box] at e
    obtain ⟨xv, hx, e⟩ := bind1_some e
    obtain ⟨y, w', hr, hp⟩ := opBoxB_sound (P := P) (t := t) hI e (get_sound hs hx)
    exact wp_value hn (by unfold execOp; rw [hop]; exact run_v hr) hp
  | build t ps =>
    simp only [hop] at e
    split at e
    · rename_i fs z hu hz
      split at e
      · rename_i hall
        split at e
        · rename_i ps' hps
          simp only [opA, o_build] at e
          split at e
          · rename_i pv hpv
            obtain ⟨e', rfl⟩ := pure1_some e
            clear e
            have e := e'
            obtain ⟨h1, h2⟩ := getp_sound hs hps hpv
            rw [← parts_eq] at h1 h2
            obtain ⟨y, hr, hp⟩ := opBuild_sound (P := P) (w := w) hz hu (.inl ⟨fs, rfl, rfl, hall⟩) e h1 h2
            exact wp_value hn (by unfold execOp; rw [hop]; exact run_v hr) (Post.same hI hp)
          · cases e
        · simp [opA] at e
      · simp [opA] at e
    · rename_i n el z hu hz
      split at e
      · rename_i s hsz
        split at e
        · rename_i ps' hps
          simp only [opA, o_build] at e
          split at e
          · rename_i pv hpv
            obtain ⟨e', rfl⟩ := pure1_some e
            clear e
            have e := e'
            obtain ⟨h1, h2⟩ := getp_sound hs hps hpv
            rw [← parts_eq] at h1 h2
            obtain ⟨y, hr, hp⟩ := opBuild_sound (P := P) (w := w) hz hu (.inr ⟨n, el, s, rfl, hsz, rfl⟩) e h1 h2
            exact wp_value hn (by unfold execOp; rw [hop]; exact run_v hr) (Post.same hI hp)
          · cases e
        · simp [opA] at e
      · simp [opA] at e
    · simp [opA] at e
  | buildSlice t len ps =>
    simp only [hop] at e
    split at e
    · rename_i el hu
      split at e
      · rename_i s z hsz hz
        split at e
        · rename_i hc
          split at e
          · rename_i ps' hps
            simp only [opA, o_bslice] at e
            split at e
            · rename_i pv hpv
              obtain ⟨h1, h2⟩ := getp_sound hs hps hpv
              rw [← parts_eq] at h1 h2
              obtain ⟨y, w', hr, hp⟩ := opBslice_sound (P := P) hI hu hsz hz hc.1 hc.2 e h1 h2
              exact wp_value hn (by unfold execOp; rw [hop]; exact run_v hr) hp
            · cases e
          · simp [opA] at e
        · simp [opA] at e
      · simp [opA] at e
    · simp [opA] at e
  | load t x =>
    simp only [hop] at e
    split at e
    · rename_i d s hu hsz
      split at e
      · rename_i h1
        split at e
        · simp only [opA] at e
          obtain ⟨xv, hx, e⟩ := bind1_some e
          obtain ⟨e', rfl⟩ := pure1_some e
          clear e
          have e := ldt_load e' st.σ
          obtain ⟨y, hr, hp⟩ := opLoad_sound hI hu hsz h1 e (get_sound hs hx)
          exact wp_value hn (by unfold execOp; rw [hop]; exact run_v hr) (Post.same hI hp)
        · simp only [opA, o_load] at e
          obtain ⟨xv, hx, e⟩ := bind1_some e
          obtain ⟨e', rfl⟩ := pure1_some e
          clear e
          have e := e'
          obtain ⟨y, hr, hp⟩ := opLoad_sound hI hu hsz h1 e (get_sound hs hx)
          exact wp_value hn (by unfold execOp; rw [hop]; exact run_v hr) (Post.same hI hp)
      · simp [opA] at e
    · simp [opA] at e
  | store t x y =>
    simp only [hop] at e
    split at e
    · rename_i s hsz
      simp only [opA, o_store] at e
      obtain ⟨xv, hx, e⟩ := bind1_some e
      obtain ⟨yv, hy, e⟩ := bind1_some e
      obtain ⟨e, hv⟩ := skip1_some e
      obtain ⟨w', hr, h1, h2⟩ := opStore_sound hI hsz e (get_sound hs hx) (get_sound hs hy)
      exact wp_skipped hn (by unfold execOp; rw [hop]; exact run_u hr) (Post.skip hv h1 h2)
    · simp [opA] at e
  | nilCheck x =>
    simp only [hop, opA, o_nilchk] at e
    obtain ⟨xv, hx, e⟩ := bind1_some e
    obtain ⟨e', rfl⟩ := pure1_some e
    clear e
    have e := e'
    have rx := get_sound hs hx
    obtain ⟨rfl, hsh⟩ := opNilCheck_sound e rx (pure .skip)
    refine wp_value hn (y := a.eval x) ?_ (Post.same hI rx)
    unfold execOp
    rw [hop]
    rcases hsh with ⟨ad, hx⟩ | ⟨f, p, q, hx⟩
    · simp only [hx]; rfl
    · simp only [hx]; rfl
  | binOp op xt x y yt =>
    simp only [hop] at e
    split at e
    · rename_i offs hsh
      have fin : ∀ neg, opA call (.eqs neg offs (cHO K x) (cHO K y)) st = some (v, σ') → op = (if neg then .neq else .eql) → o.wp P a w next Q := by
        intro neg e hop2
        simp only [opA, o_eqs] at e
        obtain ⟨xv, hx, e⟩ := bind1_some e
        obtain ⟨yv, hy, e⟩ := bind1_some e
        obtain ⟨e', rfl⟩ := pure1_some e
        clear e
        have e := e'
        obtain ⟨z, hr, hp⟩ := opEqs_sound (P := P) (w := w) (xo := x) (yo := y) hsh hop2 e (get_sound hs hx) (get_sound hs hy)
        exact wp_value hn (by unfold execOp; rw [hop]; exact run_v hr) (Post.same hI hp)
      split at e
      · exact fin false e rfl
      · exact fin true e rfl
      · simp [opA] at e
    · split at e
      · rename_i d hu
        simp only [opA, o_bin] at e
        obtain ⟨xv, hx, e⟩ := bind1_some e
        obtain ⟨yv, hy, e⟩ := bind1_some e
        obtain ⟨e', rfl⟩ := pure1_some e
        clear e
        have e := e'
        obtain ⟨z, hr, hp⟩ := opBin_sound (P := P) (w := w) (xo := x) (yo := y) hu e (get_sound hs hx) (get_sound hs hy)
        exact wp_value hn (by unfold execOp; rw [hop]; exact run_v hr) (Post.same hI hp)
      · simp [opA] at e
  | unOp op xt x =>
    simp only [hop, opA, o_un] at e
    obtain ⟨xv, hx, e⟩ := bind1_some e
    obtain ⟨e', rfl⟩ := pure1_some e
    clear e
    have e := e'
    obtain ⟨z, hr, hp⟩ := opUn_sound (P := P) (w := w) e (get_sound hs hx)
    exact wp_value hn (by unfold execOp; rw [hop]; exact run_v hr) (Post.same hI hp)
  | convert s d x =>
    simp only [hop] at e
    have fin : ∀ c, ConvOk P s d c → opA call (.conv c (cHO K x)) st = some (v, σ') → o.wp P a w next Q := by
      intro c hc e
      simp only [opA, o_conv] at e
      obtain ⟨xv, hx, e⟩ := bind1_some e
      obtain ⟨y, w', hr, hp⟩ := opConv_sound hI hc e (get_sound hs hx)
      exact wp_value hn (by unfold execOp; rw [hop]; exact run_v hr) hp
    split at e
    · rename_i d1 k h1 h2
      exact fin (.toInt k) ⟨⟨_, h1⟩, h2⟩ e
    · rename_i d1 k h1 h2
      exact fin (.toFloat k) ⟨⟨_, h1⟩, h2⟩ e
    · rename_i h1 h2
      exact fin .strStr ⟨h1, h2⟩ e
    · rename_i el h1 h2
      split at e
      · rename_i h3
        exact fin .bytesStr ⟨el, h1, h2, h3⟩ e
      · simp [opA] at e
    · rename_i el h1 h2
      split at e
      · rename_i h3
        exact fin .strBytes ⟨el, h1, h2, h3⟩ e
      · simp [opA] at e
    · rename_i el0 el h1 h2
      split at e
      · rename_i hsd h3
        have hsd := eq_of_beq hsd
        subst hsd
        exact fin .same ⟨rfl, el, h2, h3⟩ e
      · simp [opA] at e
    · simp [opA] at e
  | makeInterface t x =>
    simp only [hop] at e
    split at e
    · simp [opA] at e
    · rename_i d hd hu
      simp only [opA, o_mkiface] at e
      obtain ⟨xv, hx, e⟩ := bind1_some e
      have rx := get_sound hs hx
      have run : (execOp a.eval o).run P w = .ok (.value (.iface t (a.eval x))) w := by
        unfold execOp
        rw [hop]
        refine run_v ?_
        unfold Instr.makeInterface
        simp only [Sem.run_bind, run_underlying hu, Result.andThen_ok]
        cases d <;> first | rfl | exact absurd rfl (hd _)
      split at e
      · rename_i t'
        simp only [Option.some.injEq, Prod.mk.injEq] at e
        obtain ⟨rfl, rfl⟩ := e
        refine wp_value hn run (Post.same hI ?_)
        simp only [RV, RT] at rx ⊢
        exact ⟨_, rfl, rx⟩
      · simp only [Option.some.injEq, Prod.mk.injEq] at e
        obtain ⟨rfl, rfl⟩ := e
        refine wp_value hn run (Post.same hI ?_)
        simp only [RV]
        exact ⟨_, rfl, rx⟩
    · simp [opA] at e
  | makeFunc fn p q =>
    simp only [hop, opA, o_mkfn] at e
    split at e
    · rename_i pa qa hpa hqa
      have rp := gets_sound hs hpa
      have rq := gets_sound hs hqa
      have run : (execOp a.eval o).run P w = .ok (.value (.func fn (p.toList.map a.eval).toArray (q.toList.map a.eval).toArray)) w := by
        have hm : ∀ (q : Array Operand), q.map a.eval = (q.toList.map a.eval).toArray := fun q => by apply Array.ext'; simp
        unfold execOp
        rw [hop]
        refine run_v ?_
        rw [hm, hm]
        rfl
      split at e
      · rename_i ta tb h1 h2
        simp only [Option.some.injEq, Prod.mk.injEq] at e
        obtain ⟨rfl, rfl⟩ := e
        rw [allTr_eq h1, RVL_tr] at rp
        rw [allTr_eq h2, RVL_tr] at rq
        refine wp_value hn run (Post.same hI ?_)
        simp only [RV, RT]
        exact ⟨_, _, rfl, rp, rq⟩
      · simp only [Option.some.injEq, Prod.mk.injEq] at e
        obtain ⟨rfl, rfl⟩ := e
        refine wp_value hn run (Post.same hI ?_)
        simp only [RV]
        exact ⟨_, _, rfl, rp, rq⟩
    · cases e
  | makeMap t r =>
    cases r with
    | some r => simp [hop, opA] at e
    | none =>
      simp only [hop, opA, o_mkmap] at e
      obtain ⟨y, w', hr, hp⟩ := opMkmap_sound (P := P) (t := t) hI e
      exact wp_value hn (by unfold execOp; rw [hop]; exact run_v hr) hp
  | makeSlice t l c =>
    simp only [hop] at e
    split at e
    · rename_i el hu
      split at e
      · rename_i s z b hsz hz hb
        split at e
        · rename_i hzl
          simp only [opA, o_mkslice] at e
          obtain ⟨lv, hl, e⟩ := bind1_some e
          obtain ⟨cv, hc, e⟩ := bind1_some e
          obtain ⟨y, w', hr, hp⟩ := opMkslice_sound hI hu hsz hb hz hzl e (get_sound hs hl) (get_sound hs hc)
          exact wp_value hn (by unfold execOp; rw [hop]; exact run_v hr) hp
        · simp [opA] at e
      · simp [opA] at e
    · simp [opA] at e
  | slice t x lo hi mx =>
    simp only [hop] at e
    split at e
    · rename_i hu
      split at e
      · simp only [opA] at e
        obtain ⟨xv, hx, e⟩ := bind1_some e
        split at e
        · rename_i lv hv h1 h2
          obtain ⟨e', rfl⟩ := pure1_some e
          clear e
          have e := e'
          obtain ⟨y, hr, hp⟩ := opSliceStr_sound (P := P) (w := w) hu e (get_sound hs hx) (geto_sound hs h1) (geto_sound hs h2)
          exact wp_value hn (by unfold execOp; rw [hop]; exact run_v hr) (Post.same hI hp)
        · cases e
      · simp [opA] at e
    · rename_i el hu
      split at e
      · rename_i s hsz
        simp only [opA, o_slice] at e
        obtain ⟨xv, hx, e⟩ := bind1_some e
        split at e
        · rename_i lv hv mv h1 h2 h3
          obtain ⟨e', rfl⟩ := pure1_some e
          clear e
          have e := e'
          obtain ⟨y, hr, hp⟩ := opSlice_sound (P := P) hI hu hsz e (get_sound hs hx) (geto_sound hs h1) (geto_sound hs h2) (geto_sound hs h3)
          exact wp_value hn (by unfold execOp; rw [hop]; exact run_v hr) (Post.same hI hp)
        · cases e
      · simp [opA] at e
    · simp [opA] at e
  | fieldAddr t x f =>
    simp only [hop] at e
    split at e
    · rename_i fs hu
      split at e
      · rename_i fl hf
        split at e
        · rename_i s hsz
          split at e
          · simp [opA] at e
          · rename_i h0
            simp only [opA, o_faddr] at e
            obtain ⟨xv, hx, e⟩ := bind1_some e
            obtain ⟨e', rfl⟩ := pure1_some e
            clear e
            have e := e'
            obtain ⟨y, hr, hp⟩ := opFaddr_sound (P := P) (w := w) hu hf hsz h0 e (get_sound hs hx)
            exact wp_value hn (by unfold execOp; rw [hop]; exact run_v hr) (Post.same hI hp)
        · simp [opA] at e
      · simp [opA] at e
    · simp [opA] at e
  | field t x f =>
    simp only [hop] at e
    split at e
    · rename_i fs hu
      split at e
      · rename_i fl hf
        split at e
        · rename_i d s hd hsz
          split at e
          · rename_i h1
            simp only [opA, o_field] at e
            obtain ⟨xv, hx, e⟩ := bind1_some e
            obtain ⟨e', rfl⟩ := pure1_some e
            clear e
            have e := e'
            obtain ⟨y, hr, hp⟩ := opField_sound (P := P) (w := w) hu hf hd hsz h1 e (get_sound hs hx)
            exact wp_value hn (by unfold execOp; rw [hop]; exact run_v hr) (Post.same hI hp)
          · simp [opA] at e
        · simp [opA] at e
      · simp [opA] at e
    · simp [opA] at e
  | indexAddr t x i =>
    simp only [hop] at e
    split at e
    · rename_i el hu
      split at e
      · rename_i s hsz
        simp only [opA, o_iaddr] at e
        obtain ⟨xv, hx, e⟩ := bind1_some e
        obtain ⟨iv, hi, e⟩ := bind1_some e
        obtain ⟨e', rfl⟩ := pure1_some e
        clear e
        have e := e'
        obtain ⟨y, hr, hp⟩ := opIaddr_sound (P := P) hu hsz hI e (get_sound hs hx) (get_sound hs hi)
        exact wp_value hn (by unfold execOp; rw [hop]; exact run_v hr) (Post.same hI hp)
      · simp [opA] at e
    · simp [opA] at e
  | index t x i =>
    simp only [hop] at e
    split at e
    · rename_i hu
      simp only [opA, o_istr] at e
      obtain ⟨xv, hx, e⟩ := bind1_some e
      obtain ⟨iv, hi, e⟩ := bind1_some e
      obtain ⟨e', rfl⟩ := pure1_some e
      clear e
      have e := e'
      obtain ⟨y, hr, hp⟩ := opIndexStr_sound (P := P) (w := w) hu e (get_sound hs hx) (get_sound hs hi)
      exact wp_value hn (by unfold execOp; rw [hop]; exact run_v hr) (Post.same hI hp)
    · simp [opA] at e
  | lookup t x i ok =>
    simp only [hop] at e
    split at e
    · rename_i kt el hu
      split at e
      · rename_i d z hd hz
        simp only [opA, o_lookup] at e
        obtain ⟨xv, hx, e⟩ := bind1_some e
        obtain ⟨iv, hi, e⟩ := bind1_some e
        obtain ⟨e', rfl⟩ := pure1_some e
        clear e
        have e := e'
        obtain ⟨y, hr, hp⟩ := opLookup_sound (P := P) hI hu (kind_of_key hd) hz e (get_sound hs hx) (get_sound hs hi)
        exact wp_value hn (by unfold execOp; rw [hop]; exact run_v hr) (Post.same hI hp)
      · simp [opA] at e
    · simp [opA] at e
  | mapUpdate t m k x =>
    simp only [hop] at e
    split at e
    · rename_i kt el hu
      split at e
      · rename_i d hd
        simp only [opA, o_mupd] at e
        obtain ⟨mv, hm, e⟩ := bind1_some e
        obtain ⟨kv, hk, e⟩ := bind1_some e
        obtain ⟨xv, hx, e⟩ := bind1_some e
        obtain ⟨e, hv⟩ := skip1_some e
        obtain ⟨w', hr, h1, h2⟩ := opMapUpdate_sound (P := P) hI hu (kind_of_key hd) e (get_sound hs hm) (get_sound hs hk) (get_sound hs hx)
        exact wp_skipped hn (by unfold execOp; rw [hop]; exact run_u hr) (Post.skip hv h1 h2)
      · simp [opA] at e
    · simp [opA] at e
  | insert t m k x =>
    simp only [hop] at e
    split at e
    · rename_i kt el hu
      split at e
      · rename_i d hd
        simp only [opA, o_mupd] at e
        obtain ⟨mv, hm, e⟩ := bind1_some e
        obtain ⟨kv, hk, e⟩ := bind1_some e
        obtain ⟨xv, hx, e⟩ := bind1_some e
        obtain ⟨e, hv⟩ := skip1_some e
        obtain ⟨w', hr, h1, h2⟩ := opMapUpdate_sound (P := P) hI hu (kind_of_key hd) e (get_sound hs hm) (get_sound hs hk) (get_sound hs hx)
        exact wp_skipped hn (by unfold execOp; rw [hop]; exact run_u hr) (Post.skip hv h1 h2)
      · simp [opA] at e
    · simp [opA] at e
  | mapEntry t m k =>
    simp only [hop] at e
    split at e
    · rename_i kt el hu
      split at e
      · rename_i d z hd hz
        simp only [opA, o_ment] at e
        obtain ⟨mv, hm, e⟩ := bind1_some e
        obtain ⟨kv, hk, e⟩ := bind1_some e
        obtain ⟨y, w', hr, hp⟩ := opMapEntry_sound (P := P) hI hu (kind_of_key hd) hz e (get_sound hs hm) (get_sound hs hk)
        exact wp_value hn (by unfold execOp; rw [hop]; exact run_v hr) hp
      · simp [opA] at e
    · simp [opA] at e
  | entryStore t m s x =>
    simp only [hop, opA, o_esto] at e
    obtain ⟨mv, hm, e⟩ := bind1_some e
    obtain ⟨sv, hsv, e⟩ := bind1_some e
    obtain ⟨xv, hx, e⟩ := bind1_some e
    obtain ⟨e, hv⟩ := skip1_some e
    obtain ⟨w', hr, h1, h2⟩ := opEntryStore_sound (P := P) (t := t) hI e (get_sound hs hm) (get_sound hs hsv) (get_sound hs hx)
    exact wp_skipped hn (by unfold execOp; rw [hop]; exact run_u hr) (Post.skip hv h1 h2)
  | extract x i =>
    simp only [hop, opA, o_extract] at e
    obtain ⟨xv, hx, e⟩ := bind1_some e
    obtain ⟨e', rfl⟩ := pure1_some e
    clear e
    have e := e'
    obtain ⟨y, hr, hp⟩ := opExtract_sound (P := P) (w := w) e (get_sound hs hx)
    exact wp_value hn (by unfold execOp; rw [hop]; exact run_v hr) (Post.same hI hp)
  | call c =>
    simp only [hop] at e
    have hargs : (c.args.toList.map a.eval).toArray = c.args.map a.eval := by
      apply Array.ext'
      simp
    split at e
    · rename_i f hc
      simp only [opA, o_callf] at e
      split at e
      · rename_i vs hvs
        have hcl := hcall _ _ _ _ _ e I0 ρ w _ hI (gets_sound hs hvs)
        rw [hargs] at hcl
        have harr : (#[] ++ Array.map a.eval c.args ++ #[]) = Array.map a.eval c.args := by simp
        rcases hcl with ⟨hf, hcl⟩ | ⟨x, w', hrun, hp⟩
        · refine wp_entered hn (f := f) (args := c.args.map a.eval) ?_ hcl
          unfold execOp
          rw [hop]
          simp only [resolve, hc, Act.eval, Deferred.ofValue, Sem.run_bind, Sem.run_pure, Result.andThen_ok, invoke]
          rw [harr]
          exact run_callFunc hf _
        · refine wp_value hn (y := x) ?_ hp
          unfold execOp
          rw [hop]
          simp only [resolve, hc, Act.eval, Deferred.ofValue, Sem.run_bind, Sem.run_pure, Result.andThen_ok, invoke]
          rw [harr]
          exact hrun
      · cases e
    · rename_i f hc hnf
      simp only [opA, o_callv] at e
      obtain ⟨fv, hfv, e⟩ := bind1_some e
      split at e
      · rename_i vs hvs
        obtain ⟨g, p, q, hfe, hcl⟩ := callV_sound hcall hI e (get_sound hs hfv) (gets_sound hs hvs)
        rw [hargs] at hcl
        rcases hcl with ⟨hf, hcl⟩ | ⟨x, w', hrun, hp⟩
        · refine wp_entered hn (f := g) (args := p ++ c.args.map a.eval ++ q) ?_ hcl
          unfold execOp
          rw [hop]
          simp only [resolve, hnf, hfe, Deferred.ofValue, Sem.run_bind, Sem.run_pure, Result.andThen_ok, invoke]
          exact run_callFunc hf _
        · refine wp_value hn (y := x) ?_ hp
          unfold execOp
          rw [hop]
          simp only [resolve, hnf, hfe, Deferred.ofValue, Sem.run_bind, Sem.run_pure, Result.andThen_ok, invoke]
          exact hrun
      · cases e
    · simp [opA] at e
    · rename_i b hc
      obtain ⟨cs, rb⟩ := run_builtin (P := P) (w := w) (a := a) hop hc
      split at e
      ·
        rename_i x t hx ht
        rw [args_one hx, arr_one ht] at rb
        have fin : ∀ (k : Nat) (d : TypeDesc), P.underlying t = some d → ((k = 0 ∧ d = .string) ∨ (k = 1 ∧ ∃ e, d = .slice e) ∨ (k = 2 ∧ ∃ a b, d = .map a b)) →
            opA call (.len k (cHO K x)) st = some (v, σ') → o.wp P a w next Q := by
          intro k d hu hk e
          simp only [opA, o_len] at e
          obtain ⟨xv, hxv, e⟩ := bind1_some e
          obtain ⟨e', rfl⟩ := pure1_some e
          clear e
          have e := e'
          obtain ⟨y, hr, hp⟩ := opLen_sound (P := P) (ty := o.type) hI hu hk e (get_sound hs hxv)
          exact wp_value hn (by rw [rb]; exact run_v hr) (Post.same hI hp)
        split at e
        · rename_i hu; exact fin _ _ hu (.inl ⟨rfl, rfl⟩) e
        · rename_i el hu; exact fin _ _ hu (.inr (.inl ⟨rfl, _, rfl⟩)) e
        · rename_i k el hu; exact fin _ _ hu (.inr (.inr ⟨rfl, _, _, rfl⟩)) e
        · simp [opA] at e
      ·
        rename_i x t hx ht
        rw [args_one hx, arr_one ht] at rb
        split at e
        · rename_i el hu
          simp only [opA, o_cap] at e
          obtain ⟨xv, hxv, e⟩ := bind1_some e
          obtain ⟨e', rfl⟩ := pure1_some e
          clear e
          have e := e'
          obtain ⟨y, hr, hp⟩ := opCap_sound (P := P) (ty := o.type) hu hI e (get_sound hs hxv)
          exact wp_value hn (by rw [rb]; exact run_v hr) (Post.same hI hp)
        · simp [opA] at e
      ·
        rename_i s x t u hx ht
        rw [args_two hx, arr_two ht] at rb
        split at e
        · simp [opA] at e
        · rename_i el d hd hu hut
          split at e
          · rename_i sz z bt hsz hz hbt
            split at e
            · rename_i hzl
              split at e
              · simp only [opA, o_qappend] at e
                obtain ⟨sv, hsv, e⟩ := bind1_some e
                split at e
                · obtain ⟨xv, hxv, e⟩ := bind1_some e
                  obtain ⟨y, w', hr, hp⟩ := opAppend_sound (P := P) (ty := o.type) hI hu hut (fun k hk => hd k hk) hsz hbt hz hzl e (get_sound hs hsv) (get_sound hs hxv)
                  exact wp_value hn (by rw [rb]; exact run_v hr) hp
                · cases e
              · simp only [opA, o_append] at e
                obtain ⟨sv, hsv, e⟩ := bind1_some e
                obtain ⟨xv, hxv, e⟩ := bind1_some e
                obtain ⟨y, w', hr, hp⟩ := opAppend_sound (P := P) (ty := o.type) hI hu hut (fun k hk => hd k hk) hsz hbt hz hzl e (get_sound hs hsv) (get_sound hs hxv)
                exact wp_value hn (by rw [rb]; exact run_v hr) hp
            · simp [opA] at e
          · simp [opA] at e
        · simp [opA] at e
      ·
        rename_i d x t l hx ht
        rw [args_two hx] at rb
        split at e
        · rename_i el hu
          split at e
          · rename_i s hsz
            simp only [opA, o_copy] at e
            obtain ⟨dv, hdv, e⟩ := bind1_some e
            obtain ⟨xv, hxv, e⟩ := bind1_some e
            obtain ⟨y, w', hr, hp⟩ := opCopy_sound (P := P) (ty := o.type) hI (arr_head ht) hu hsz e (get_sound hs hdv) (get_sound hs hxv)
            exact wp_value hn (by rw [rb]; exact run_v hr) hp
          · simp [opA] at e
        · simp [opA] at e
      ·
        rename_i x t hx ht
        rw [args_one hx, arr_one ht] at rb
        split at e
        · rename_i el hu
          split at e
          · rename_i s z hsz hz
            split at e
            · simp only [opA, o_clear] at e
              obtain ⟨xv, hxv, e⟩ := bind1_some e
              obtain ⟨y, w', hr, hp⟩ := opClear_sound (P := P) (ty := o.type) hI hu hz e (get_sound hs hxv)
              exact wp_value hn (by rw [rb]; exact run_v hr) hp
            · simp [opA] at e
          · simp [opA] at e
        · simp [opA] at e
      ·
        rename_i x l hx
        simp only [opA, o_minmax] at e
        obtain ⟨xv, hxv, e⟩ := bind1_some e
        split at e
        · rename_i vs hvs
          obtain ⟨e', rfl⟩ := pure1_some e
          clear e
          have e := e'
          obtain ⟨z, hr, hp⟩ := minmaxAll_sound (P := P) (w := w) vs xv v _ _ e (get_sound hs hxv) (gets_sound hs hvs)
          refine wp_value hn (y := z) ?_ (Post.same hI hp)
          rw [rb]
          refine run_v ?_
          unfold Builtin.max_
          have : (c.args.map a.eval).toList = a.eval x :: l.map a.eval := by rw [Array.toList_map, hx]; rfl
          rw [this]
          simpa using hr
        · cases e
      ·
        rename_i x l hx
        simp only [opA, o_minmax] at e
        obtain ⟨xv, hxv, e⟩ := bind1_some e
        split at e
        · rename_i vs hvs
          obtain ⟨e', rfl⟩ := pure1_some e
          clear e
          have e := e'
          obtain ⟨z, hr, hp⟩ := minmaxAll_sound (P := P) (w := w) vs xv v _ _ e (get_sound hs hxv) (gets_sound hs hvs)
          refine wp_value hn (y := z) ?_ (Post.same hI hp)
          rw [rb]
          refine run_v ?_
          unfold Builtin.min_
          have : (c.args.map a.eval).toList = a.eval x :: l.map a.eval := by rw [Array.toList_map, hx]; rfl
          rw [this]
          simpa using hr
        · cases e
      ·
        rename_i m k t l hx ht
        rw [args_two hx] at rb
        split at e
        · rename_i kt el hu
          split at e
          · rename_i d hd
            simp only [opA, o_delete] at e
            obtain ⟨mv, hmv, e⟩ := bind1_some e
            obtain ⟨kv, hkv, e⟩ := bind1_some e
            obtain ⟨y, w', hr, hp⟩ := opDelete_sound (P := P) (ty := o.type) hI (arr_head ht) hu (kind_of_key hd) e (get_sound hs hmv) (get_sound hs hkv)
            exact wp_value hn (by rw [rb]; exact run_v hr) hp
          · simp [opA] at e
        · simp [opA] at e
      · simp [opA] at e
  | _ => simp [hop, opA] at e
end
end Go.Proofs.Ytodgdmhifbnofaa.AM
end
section
set_option linter.unusedSimpArgs false
set_option linter.unusedVariables false
set_option linter.unusedVariables false
set_option linter.unusedSimpArgs false
open Go.RowKit
namespace Go.Proofs.Ytodgdmhifbnofaa.AM
section
variable {P : Program} {n0 : Nat} {w0 : World} {I0 : Nat → Prop} {σ σ' : Store} {ρ ρ' : Rho} {w w' : World}
variable {DF : List Deferred} {K : List Nat} {N : Nat} {st st' : St} {a : Act} {H : Hints} {call : CallA}
theorem look_put : ∀ (env : List (Nat × V)) (d : Nat) (v : V) (k : Nat), look (put env d v) k = if k = d then some v else look env k
  | [], d, v, k => by
    simp only [put, look]
    by_cases h : k = d
    · subst h; simp
    · rw [if_neg h]
      have : Nat.beq k d = false := by rw [Bool.eq_false_iff]; intro hh; exact h (Nat.eq_of_beq_eq_true hh)
      rw [this]; rfl
  | (k', u) :: r, d, v, k => by
    simp only [put]
    split
    · rename_i hd
      have hd' := Nat.eq_of_beq_eq_true hd
      subst hd'
      simp only [look]
      by_cases h : k = d
      · subst h; simp
      · rw [if_neg h]
        have : Nat.beq k d = false := by rw [Bool.eq_false_iff]; intro hh; exact h (Nat.eq_of_beq_eq_true hh)
        rw [this]
        simp
    · rename_i hd
      simp only [look]
      split
      · rename_i hk
        have hk' := Nat.eq_of_beq_eq_true hk
        subst hk'
        rw [if_neg]
        rintro rfl
        exact hd (by simp)
      · rename_i hk
        exact look_put r d v k
theorem tmps_put {d k : Nat} {x y : Value} (hk : k ≠ d) (h : a.tmps[k]? = some y) : (a.put (some d) x).tmps[k]? = some y := by
  show (a.tmps.setIfInBounds d x)[k]? = _
  rw [Array.getElem?_setIfInBounds, if_neg (fun e => hk e.symm)]
  exact h
theorem tmps_put_same {d : Nat} {x : Value} (h : d < a.tmps.size) : (a.put (some d) x).tmps[d]? = some x := by
  show (a.tmps.setIfInBounds d x)[d]? = _
  rw [Array.getElem?_setIfInBounds, if_pos rfl, if_pos h]
theorem StR.put (hs : StR DF K N n0 I0 ρ w st a) (E : Evo n0 I0 st.σ ρ w.heap σ' ρ' w'.heap) {dst : Option Nat} {v : V} {x : Value} (hd : dstOk N dst = true)
    (r : RV w'.heap (Icur n0 I0 σ' ρ' w'.heap) σ' ρ' v x) :
    StR DF K N n0 I0 ρ' w' (({ st with σ := σ' } : St).set dst (kOf K dst) v) (a.put dst x) := by
  have mono : StR DF K N n0 I0 ρ' w' { st with σ := σ' } a := by
    refine ⟨hs.defers, hs.size, fun k v h => ?_, fun k v h => ?_⟩
    · obtain ⟨h1, x, h2, h3⟩ := hs.env k v h
      exact ⟨h1, x, h2, RV_mono E _ _ h3⟩
    · obtain ⟨h1, x, h2, h3⟩ := hs.loc k v h
      exact ⟨h1, x, h2, RV_mono E _ _ h3⟩
  cases dst with
  | none => exact mono
  | some d =>
    have hdN : d < N := by simpa [dstOk, Nat.blt_eq] using hd
    have hda : d < a.tmps.size := Nat.lt_of_lt_of_le hdN hs.size
    have hsz : N ≤ (a.put (some d) x).tmps.size := by
      show N ≤ (a.tmps.setIfInBounds d x).size
      simpa using hs.size
    have hk : kOf K (some d) = mem d K := rfl
    rw [hk]
    by_cases hm : mem d K = true
    · rw [hm]
      show StR DF K N n0 I0 ρ' w' { env := AM.put st.env d v, loc := st.loc, σ := σ' } _
      refine ⟨hs.defers, hsz, fun k u h => ?_, fun k u h => ?_⟩
      · simp only at h
        rw [look_put] at h
        split at h
        · rename_i hk
          subst hk
          simp only [Option.some.injEq] at h
          subst h
          exact ⟨hm, x, tmps_put_same hda, r⟩
        · rename_i hk
          obtain ⟨h1, y, h2, h3⟩ := mono.env k u h
          exact ⟨h1, y, tmps_put hk h2, h3⟩
      · obtain ⟨h1, y, h2, h3⟩ := mono.loc k u h
        refine ⟨h1, y, tmps_put ?_ h2, h3⟩
        rintro rfl
        rw [hm] at h1
        cases h1
    · have hm : mem d K = false := by simpa using hm
      rw [hm]
      show StR DF K N n0 I0 ρ' w' { env := st.env, loc := (d, v) :: st.loc, σ := σ' } _
      refine ⟨hs.defers, hsz, fun k u h => ?_, fun k u h => ?_⟩
      · obtain ⟨h1, y, h2, h3⟩ := mono.env k u h
        refine ⟨h1, y, tmps_put ?_ h2, h3⟩
        rintro rfl
        rw [hm] at h1
        cases h1
      · simp only [look] at h
        split at h
        · rename_i hk
          have hk' := Nat.eq_of_beq_eq_true hk
          subst hk'
          simp only [Option.some.injEq] at h
          subst h
          exact ⟨hm, x, tmps_put_same hda, r⟩
        · rename_i hk
          obtain ⟨h1, y, h2, h3⟩ := mono.loc k u h
          refine ⟨h1, y, tmps_put ?_ h2, h3⟩
          rintro rfl
          exact hk (by simp)
theorem get_tmp (hs : StR DF K N n0 I0 ρ w st a) {d : Nat} {v : V} (e : st.get (cHO K (.tmp d)) = some v) : ∃ x, a.tmps[d]? = some x ∧ RV w.heap (Icur n0 I0 st.σ ρ w.heap) st.σ ρ v x := by
  simp only [cHO] at e
  split at e
  · exact (hs.env d v e).2
  · exact (hs.loc d v e).2
theorem guard_sound (hs : StR DF K N n0 I0 ρ w st a) {ops : Array Oper} {o : Oper} {b : Bool} (e : guardA st (cGuard K ops o.guard) = some b) : Region.wanted o (yielded ops a.tmps) = b := by
  unfold Region.wanted
  cases hg : o.guard with
  | none =>
    rw [hg] at e
    simp only [cGuard, guardA, Option.some.injEq] at e
    exact e
  | some g =>
    obtain ⟨j, want⟩ := g
    rw [hg] at e
    simp only [cGuard] at e
    simp only
    unfold yielded
    cases hd : (ops[j]?).bind (·.dst) with
    | none =>
      rw [hd] at e
      simp only [guardA, St.get, undefV, Option.some.injEq] at e
      subst e
      rfl
    | some d =>
      rw [hd] at e
      simp only [guardA] at e
      simp only [Option.bind_some]
      split at e
      · rename_i c hv
        simp only [Option.some.injEq] at e
        subst e
        obtain ⟨x, hx, r⟩ := get_tmp hs hv
        have := RV_sc.1 r
        subst this
        rw [hx]
        rfl
      · rename_i hv
        simp only [Option.some.injEq] at e
        subst e
        obtain ⟨x, hx, r⟩ := get_tmp hs hv
        simp only [RV, RT, RTL] at r
        obtain ⟨xs, rfl, rfl⟩ := r
        rw [hx]
        rfl
      · cases e
def opsAt (ops : Array Oper) (l : List Nat) : List Oper := l.filterMap (ops[·]?)
theorem range_ops (ops : Array Oper) : opsAt ops (List.range ops.size) = ops.toList := by
  unfold opsAt
  apply List.ext_getElem?
  intro i
  have key : ∀ (n : Nat), n ≤ ops.size → (List.range n).filterMap (ops[·]?) = ops.toList.take n := by
    intro n
    induction n with
    | zero => intro _; simp
    | succ n ih =>
      intro hn
      rw [List.range_succ, List.filterMap_append, ih (by omega), List.take_succ_eq_append_getElem (by simp; omega)]
      congr 1
      simp [Array.getElem?_eq_getElem (show n < ops.size by omega)]
  rw [key ops.size (Nat.le_refl _), List.take_of_length_le (by simp)]
theorem set_σ (st : St) (d : Option Nat) (b : Bool) (v : V) : (st.set d b v).σ = st.σ := by
  unfold St.set
  split
  · rfl
  · split <;> rfl
theorem opStep_wp (hcall : CallOkAt P call n0 w0) {ops : Array Oper} {o : Oper} {rest : List Nat} {i : Nat} (ho : ops[i]? = some o) (hI : Inv n0 w0 I0 st.σ ρ w) (hs : StR DF K N n0 I0 ρ w st a)
    (e : opStep call (cOper P H K N ops o) st = some st') {Q : Exit → Act → World → Prop}
    (hn : ∀ a' ρ' w', Inv n0 w0 I0 st'.σ ρ' w' → StR DF K N n0 I0 ρ' w' st' a' → Evo n0 I0 st.σ ρ w.heap st'.σ ρ' w'.heap → wpOps P ops Q rest a' w') : wpOps P ops Q (i :: rest) a w := by
  unfold opStep at e
  cases hdst : dstOk N o.dst with
  | false => simp only [cOper, hdst, Bool.false_eq_true, if_false, guardA, opA, reduceCtorEq] at e
  | true =>
  simp only [cOper, hdst, if_true] at e
  simp only [wpOps, ho]
  cases hg : guardA st (cGuard K ops o.guard) with
  | none => rw [hg] at e; cases e
  | some b =>
    rw [hg] at e
    have hw := guard_sound hs hg
    rw [hw]
    cases b with
    | true =>
      simp only at e
      simp only [if_true]
      left
      split at e
      · rename_i v σ' hop
        simp only [Option.some.injEq] at e
        subst e
        refine op_sound hcall hI hs hop ?_
        rintro x w' ⟨ρ', h1, h2, h3⟩
        have := StR.put hs h2 hdst h3
        exact hn _ ρ' w' (by rw [set_σ]; exact h1) this (by rw [set_σ]; exact h2)
      · cases e
    | false =>
      simp only at e
      simp only [Bool.false_eq_true, if_false]
      simp only [Option.some.injEq] at e
      subst e
      have := StR.put (σ' := st.σ) (ρ' := ρ) (w' := w) hs Evo.refl hdst (RV_undef)
      exact hn _ ρ w (by rw [set_σ]; exact hI) this (by rw [set_σ]; exact Evo.refl)
theorem opsRun_wp (hcall : CallOkAt P call n0 w0) {ops : Array Oper} : ∀ (l : List Nat) (st : St) (a : Act) (ρ : Rho) (w : World), opsRun call ((opsAt ops l).map (cOper P H K N ops)) st = some st' →
    Inv n0 w0 I0 st.σ ρ w → StR DF K N n0 I0 ρ w st a → ∀ {Q : Exit → Act → World → Prop},
    (∀ a' ρ' w', Inv n0 w0 I0 st'.σ ρ' w' → StR DF K N n0 I0 ρ' w' st' a' → Evo n0 I0 st.σ ρ w.heap st'.σ ρ' w'.heap → Q .normal a' w') → wpOps P ops Q l a w
  | [], st, a, ρ, w, e, hI, hs, Q, hn => by
    simp only [opsAt, List.filterMap_nil, List.map_nil, opsRun, Option.some.injEq] at e
    subst e
    exact hn a ρ w hI hs Evo.refl
  | i :: l, st, a, ρ, w, e, hI, hs, Q, hn => by
    cases ho : ops[i]? with
    | none =>
      simp only [opsAt, List.filterMap_cons, ho] at e
      simp only [wpOps, ho]
      exact opsRun_wp hcall l st a ρ w e hI hs hn
    | some o =>
      simp only [opsAt, List.filterMap_cons, ho, List.map_cons, opsRun] at e
      split at e
      · rename_i st1 h1
        refine opStep_wp hcall ho hI hs h1 ?_
        intro a' ρ' w' hI' hs' E
        refine opsRun_wp hcall l st1 a' ρ' w' e hI' hs' ?_
        intro a2 ρ2 w2 hI2 hs2 E2
        exact hn a2 ρ2 w2 hI2 hs2 (E.trans E2)
      · cases e
theorem opsRun_wpR (hcall : CallOkAt P call n0 w0) {ops : Array Oper} : ∀ (l rest : List Nat) (st : St) (a : Act) (ρ : Rho) (w : World), opsRun call ((opsAt ops l).map (cOper P H K N ops)) st = some st' →
    Inv n0 w0 I0 st.σ ρ w → StR DF K N n0 I0 ρ w st a → ∀ {Q : Exit → Act → World → Prop},
    (∀ a' ρ' w', Inv n0 w0 I0 st'.σ ρ' w' → StR DF K N n0 I0 ρ' w' st' a' → Evo n0 I0 st.σ ρ w.heap st'.σ ρ' w'.heap → wpOps P ops Q rest a' w') → wpOps P ops Q (l ++ rest) a w
  | [], rest, st, a, ρ, w, e, hI, hs, Q, hn => by
    simp only [opsAt, List.filterMap_nil, List.map_nil, opsRun, Option.some.injEq] at e
    subst e
    exact hn a ρ w hI hs Evo.refl
  | i :: l, rest, st, a, ρ, w, e, hI, hs, Q, hn => by
    cases ho : ops[i]? with
    | none =>
      simp only [opsAt, List.filterMap_cons, ho] at e
      simp only [List.cons_append, wpOps, ho]
      exact opsRun_wpR hcall l rest st a ρ w e hI hs hn
    | some o =>
      simp only [opsAt, List.filterMap_cons, ho, List.map_cons, opsRun] at e
      split at e
      · rename_i st1 h1
        refine opStep_wp hcall ho hI hs h1 ?_
        intro a' ρ' w' hI' hs' E
        refine opsRun_wpR hcall l rest st1 a' ρ' w' e hI' hs' ?_
        intro a2 ρ2 w2 hI2 hs2 E2
        exact hn a2 ρ2 w2 hI2 hs2 (E.trans E2)
      · cases e
theorem StR.noLoc (hs : StR DF K N n0 I0 ρ w st a) : StR DF K N n0 I0 ρ w { st with loc := [] } a :=
  ⟨hs.defers, hs.size, hs.env, fun k v h => by simp [look] at h⟩
def Out.toExit : Out → Exit
  | .normal => .normal
  | .exit id => .exit id
  | .ret => .ret
end
end Go.Proofs.Ytodgdmhifbnofaa.AM
end
