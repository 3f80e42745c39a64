/- the packages: parts 21, 22, 23. -/
import Derived.Test.YtodgdmhifbnofaaSn17
set_option linter.unusedSectionVars false
section
set_option maxRecDepth 1000000
set_option linter.unusedVariables false
set_option linter.unusedSimpArgs false
namespace Go.Proofs.Ytodgdmhifbnofaa.AM.Sn
open Go.Proofs
theorem fa_p (i g o n : Nat) : opFaddr o (.ptr i g n) = some (.ptr i g (n + o)) := rfl
def NoneAt (st : St) : Prop := ∃ e L σ, st = ⟨e, L, σ⟩ ∧ look e 2 = some (.ptr 0 0 0) ∧ look e 3 = some (bv false) ∧ σ[0]? = some (.row [nilSl] 0)
theorem none_store {σ : Store} {v : V} (h : σ[0]? = some (.row [v] 0)) : opStore 1 (.ptr 0 0 0) (.tr (.agg [.sc (.slice none 0 0)])) σ = some (σ.set 0 (.row [nilSl] 0)) := by
  have hc : cellsOf (.tr (.agg [.sc (.slice none 0 0)])) = [nilSl] := rfl
  unfold opStore
  simp only [hc, List.length_singleton, if_true]
  unfold obPut
  simp only [h]
  rfl
theorem bld_nil : opBuild [.sc (.slice none 0 0)] [] = some (.tr (.agg [.sc (.slice none 0 0)])) := rfl
theorem dup_files {z : List ZF} {w : V} {q : Nat} {path : List UInt8} {v0 : V} {σ : Store} {e Lo : List (Nat × V)} {Q : Out → St → Prop}
    (hw : GV zV z w σ) (hn : z.length ≤ 30) (hs : Ris zK z) (hq : σ[q]? = some (.row [sv path, w] 0)) (h0 : σ[0]? = some (.row [v0] 0))
    (g2 : look e 2 = some (.ptr 0 0 0)) (g7 : look e 7 = some (.ptr q 0 0)) (g10 : look e 10 = some (iv 1))
    (hbad : ¬ (z.map zK).Nodup → ∀ st, NoneAt st → Q .ret st)
    (hQ : ∀ e' L', Str zK z → (∀ k, k ≠ 10 → look e' k = look e k) → Q (.exit 4) ⟨e', L', σ⟩) :
    Wp T (.loop k6_15) ⟨e, Lo, σ⟩ Q := by
  have hlq := (pair_load hq).2
  have h0l : 0 < σ.length := (List.getElem?_eq_some_iff.1 h0).1
  obtain ⟨I, hI⟩ : ∃ I : Nat → St → Prop, I = (fun r st => ∃ e' Lo', st = ⟨e', Lo', σ⟩ ∧ (∀ (i : Nat) x y, i < r → z[i]? = some x → z[i + 1]? = some y → zK x ≠ zK y) ∧ (∀ k, k ≠ 10 → look e' k = look e k) ∧ look e' 10 = some (iv ((r + 1 : Nat) : Int))) := ⟨_, rfl⟩
  refine wpc_up z.length I ?_ ?_
  · rw [hI]
    exact ⟨e, Lo, rfl, fun i x y h => by omega, fun k _ => rfl, g10⟩
  intro r st hIs
  rw [hI] at hIs
  obtain ⟨e', Lo', rfl, hd, hlk, f10⟩ := hIs
  have f2 : look e' 2 = some (.ptr 0 0 0) := by rw [hlk 2 (by decide)]; exact g2
  have f7 : look e' 7 = some (.ptr q 0 0) := by rw [hlk 7 (by decide)]; exact g7
  have hlen := gv_len hw
  by_cases hlt : r + 1 < z.length
  · have hlt' : ((r + 1 : Nat) : Int) < (z.length : Int) := by omega
    rcases hw with ⟨rfl, _⟩ | ⟨id, g, rfl, hR⟩
    · simp at hlt
    obtain ⟨x, hx⟩ := some_at (l := z) (i := r) (by omega)
    obtain ⟨y, hy⟩ := some_at hlt
    have i1 := hR.iaddr (c := 2) (cap := none) (n := z.length) (k' := .i64) (i := r) (by omega)
    have i2 := hR.iaddr (c := 2) (cap := none) (n := z.length) (k' := .i64) (i := r + 1) hlt
    have l1 := hR.load1 zV_len (o := 0) (v := sv (zK x)) hx rfl
    have l2 := hR.load1 zV_len (o := 0) (v := sv (zK y)) hy rfl
    have w1 : IntKind.i64.wrap (((r + 1 : Nat) : Int) - 1) = (r : Int) := wrapN _ (by omega) (by omega)
    have w2 : IntKind.i64.wrap (((r + 1 : Nat) : Int) + 1) = ((r + 1 + 1 : Nat) : Int) := wrapN _ (by omega) (by omega)
    rw [Nat.add_zero] at l1 l2
    by_cases hxy : zK y = zK x
    · have hst := none_store h0
      generalize ((r + 1 : Nat) : Int) = r1 at *
      simp [k6_15, f2, f7, f10, fa_p, hlq, hlen, hlt', k6_17, i1, i2, l1, l2, w1, bytesEq_iff', hxy, bld_nil, hst]
      refine hbad (not_nodup hx hy hxy.symm) _ ⟨_, _, _, rfl, ?_, ?_, ?_⟩
      · simp [f2]
      · simp
      · simp [h0l]
    · generalize ((r + 1 : Nat) : Int) = r1 at *
      simp [k6_15, f2, f7, f10, fa_p, hlq, hlen, hlt', k6_17, i1, i2, l1, l2, w1, bytesEq_iff', hxy, k6_20, w2]
      refine ⟨by omega, ?_⟩
      rw [hI]
      refine ⟨_, _, rfl, fun i a b hi ha hb => ?_, fun k hk => ?_, by simp⟩
      · rcases Nat.lt_or_ge i r with h | h
        · exact hd i a b h ha hb
        · obtain rfl : i = r := by omega
          rw [hx] at ha
          rw [hy] at hb
          cases ha
          cases hb
          exact fun e => hxy e.symm
      · simp [hk]
        exact hlk k hk
  · have hlt' : ¬ ((r + 1 : Nat) : Int) < (z.length : Int) := by omega
    generalize ((r + 1 : Nat) : Int) = r1 at *
    simp [k6_15, f7, f10, fa_p, hlq, hlen, hlt']
    refine hQ _ _ (str_of hs fun i x y hx hy => hd i x y ?_ hx hy) hlk
    have := (List.getElem?_eq_some_iff.1 hy).1
    omega
end Go.Proofs.Ytodgdmhifbnofaa.AM.Sn
end
section
set_option maxRecDepth 1000000
set_option linter.unusedVariables false
set_option linter.unusedSimpArgs false
namespace Go.Proofs.Ytodgdmhifbnofaa.AM.Sn
open Go.Proofs
abbrev AP := List UInt8 × List AF
def PkgR (g : FV) (p : AP) : Prop := g.1 = p.1 ∧ ∃ fgs : List FV, IsSl fT fgs (.tr g.2.1) ∧ AllR FileR fgs p.2
theorem zip_of {ds : List FV} {fs : List AF} (h : AllR FileR ds fs) : (ds.zip fs).map (·.1) = ds ∧ (ds.zip fs).map (·.2) = fs ∧ ∀ z ∈ ds.zip fs, FileR z.1 z.2 := by
  refine ⟨List.map_fst_zip (by rw [h.1]; exact Nat.le_refl _), List.map_snd_zip (by rw [h.1]; exact Nat.le_refl _), fun z hz => ?_⟩
  obtain ⟨i, hi⟩ := List.getElem?_of_mem hz
  rw [List.getElem?_zip_eq_some] at hi
  exact h.2 i _ _ hi.1 hi.2
theorem flat_z (z : List ZF) : (z.map (·.1)).flatMap fV = z.flatMap zV := by
  rw [List.flatMap_map]
  rfl
theorem gv_zip {ds : List FV} {z : List ZF} {w : V} {σ : Store} (h : GV fV ds w σ) (hz : z.map (·.1) = ds) : GV zV z w σ := by
  have hl : z.length = ds.length := by rw [← hz]; simp
  rcases h with ⟨h1, h2⟩ | ⟨id, g, h1, h2⟩
  · refine .inl ⟨?_, h2⟩
    rw [h1] at hl
    exact List.length_eq_zero_iff.1 hl
  · refine .inr ⟨id, g, by rw [h1, hl], ?_⟩
    unfold RowV at *
    rw [h2, ← hz, flat_z]
def FilesAt (σ : Store) (p : AP) (w : V) : Prop := ∃ z : List ZF, GV zV z w σ ∧ (∀ a ∈ z, FileR a.1 a.2) ∧ (z.map (·.2)).Perm p.2 ∧ Str zK z ∧ z.length ≤ 30
theorem filesAt_keep {σ σ' : Store} {p : AP} {w : V} (h : FilesAt σ p w) (hk : ∀ id g n, w = own2 id g n none → σ'[id]? = σ[id]?) : FilesAt σ' p w := by
  obtain ⟨z, h1, h2⟩ := h
  exact ⟨z, gv_keep h1 hk, h2⟩
theorem names_z {z : List ZF} {fs : List AF} (h : ∀ a ∈ z, FileR a.1 a.2) (hp : (z.map (·.2)).Perm fs) : (z.map zK).Perm (fs.map (·.1)) := by
  have h1 : z.map zK = (z.map (·.2)).map (·.1) := by
    rw [List.map_map]
    refine List.map_congr_left fun a ha => ?_
    exact (h a ha).1
  rw [h1]
  exact hp.map _
theorem single_load {σ : Store} {q : Nat} {x : V} (h : σ[q]? = some (.row [x] 0)) : opLoad 1 false (.ptr q 0 0) σ = some x := by
  simp [opLoad, obCells, h, slice?, ofCells]
theorem single_store {σ : Store} {q : Nat} {x z : V} (h : σ[q]? = some (.row [x] 0)) (hz : cellsOf z = [z]) (ho : oneV z = true) : opStore 1 (.ptr q 0 0) z σ = some (σ.set q (.row [z] 0)) := by
  simp [opStore, hz, obPut, h, ho, splice]
set_option maxHeartbeats 4000000 in
theorem one_pkg {gp : List FV} {ps : List PV} {g : FV} {p : AP} {tp : Tree} {r : Nat} {v0 wv : V} {σ : Store} {e Lo : List (Nat × V)} {Q : Out → St → Prop}
    (hp : IsSl fT gp (.tr tp)) (hg : gp[r]? = some g) (hpr : PkgR g p) (hfb : ∀ f ∈ p.2, f.2.length ≤ 140737488355328) (hn : p.2.length ≤ 30) (hr : r ≤ 100) (hps : ps.length ≤ 100)
    (h0 : σ[0]? = some (.row [v0] 0)) (h1 : σ[1]? = some (.row [wv] 0)) (hwv : GV pV ps wv σ) (hwid : ∀ id g n, wv = own2 id g n none → 2 ≤ id)
    (g2 : look e 2 = some (.ptr 0 0 0)) (g4 : look e 4 = some (.ptr 1 0 0)) (g13 : look e 13 = some (.tr tp)) (g15 : look e 15 = some (iv (r : Int)))
    (hbad : ¬ (p.2.map (·.1)).Nodup → ∀ st, NoneAt st → Q .ret st)
    (hQ : ∀ e' L' σ' w' wv' (ho : oneV w' = true), (p.2.map (·.1)).Nodup → FilesAt σ' p w' → GV pV (ps ++ [(p.1, ⟨w', ho⟩)]) wv' σ' → σ'[1]? = some (.row [wv'] 0) → σ.length ≤ σ'.length →
      (∀ i, i < σ.length → i ≠ 1 → (∀ id g n, wv = own2 id g n none → i ≠ id) → σ'[i]? = σ[i]?) → (∀ id g n, w' = own2 id g n none → σ.length ≤ id ∧ ∀ id' g' n', wv' = own2 id' g' n' none → id' ≠ id) →
      (∀ id g n, wv' = own2 id g n none → (σ.length ≤ id ∨ ∃ g' n', wv = own2 id g' n' none)) → (∀ k, k ≠ 6 → k ≠ 7 → k ≠ 9 → k ≠ 10 → k ≠ 15 → k ≠ 23 → k ≠ 24 → k ≠ 25 → look e' k = look e k) → look e' 15 = some (iv ((r + 1 : Nat) : Int)) → Q .normal ⟨e', L', σ'⟩) :
    wpc T k6_5 ⟨e, Lo, σ⟩ Q := by
  obtain ⟨hpn, fgs, hfgs, hfr⟩ := hpr
  have h1l : 1 < σ.length := (List.getElem?_eq_some_iff.1 h1).1
  have ia := fun σ => isSl_iaddr (σ := σ) hp fT_len (by omega) (k := .i64) hg
  have ld := sl_ld2 hg
  have fl := fun σ => isSl_len (σ := σ) hfgs
  obtain ⟨σ6, hσ6⟩ : ∃ σ6, σ6 = σ ++ [.row (fV g) 0] := ⟨_, rfl⟩
  obtain ⟨σ7, hσ7⟩ : ∃ σ7, σ7 = σ6 ++ [.row [sv p.1, nilSl] 0] := ⟨_, rfl⟩
  have l6 : σ6.length = σ.length + 1 := by rw [hσ6]; simp
  have l7 : σ7.length = σ.length + 2 := by rw [hσ7]; simp [l6]
  obtain ⟨q, hqd⟩ : ∃ q, q = σ.length + 1 := ⟨_, rfl⟩
  have hal : ∀ σ, opAlloc [.sc (.string ⟨⟨[]⟩⟩), .sc (.slice none 0 0)] σ = some (.ptr σ.length 0 0, σ ++ [.row [.tr (.sc (.string ⟨⟨[]⟩⟩)), .tr (.sc (.slice none 0 0))] 0]) := fun σ => rfl
  have hst6 : opStore 2 (.ptr σ.length 0 0) (.tr (.agg (fT g))) (σ ++ [.row [.tr (.sc (.string ⟨⟨[]⟩⟩)), .tr (.sc (.slice none 0 0))] 0]) = some σ6 := by
    rw [hσ6]
    have hc : cellsOf (.tr (.agg (fT g))) = fV g := rfl
    have ho := fV_one g
    unfold opStore
    simp only [hc, fV_len, if_true]
    unfold obPut
    simp [splice, ho, fV_len]
  have hst7 : opStore 2 (.ptr σ6.length 0 0) (.tr (.agg [.sc (.string ⟨⟨g.1⟩⟩), .sc (.slice none 0 0)])) (σ6 ++ [.row [.tr (.sc (.string ⟨⟨[]⟩⟩)), .tr (.sc (.slice none 0 0))] 0]) = some σ7 := by
    rw [hσ7, hpn]
    have hc : cellsOf (.tr (.agg [.sc (.string ⟨⟨p.1⟩⟩), .sc (.slice none 0 0)])) = [sv p.1, nilSl] := rfl
    unfold opStore
    simp only [hc]
    unfold obPut
    simp [splice]
    rfl
  have r6 : σ6[σ.length]? = some (.row [sv g.1, .tr g.2.1] 0) := by rw [hσ6]; simp [fV]
  have ld6 := pair_load r6
  have r67 : σ7[σ.length]? = some (.row [sv g.1, .tr g.2.1] 0) := by rw [hσ7, List.getElem?_append_left (by omega)]; exact r6
  have ld67 := pair_load r67
  have r7 : σ7[q]? = some (.row [sv p.1, nilSl] 0) := by rw [hσ7, hqd, ← l6]; simp
  have k7 : ∀ i, i < σ.length → σ7[i]? = σ[i]? := fun i hi => by rw [hσ7, List.getElem?_append_left (by omega), hσ6, List.getElem?_append_left hi]
  have w15 : IntKind.i64.wrap ((r : Int) + 1) = ((r + 1 : Nat) : Int) := wrapN _ (by omega) (by omega)
  have hfl := fun e Lo Q => files_loop (path := p.1) (q := q) (σ := σ7) (e := e) (Lo := Lo) (Q := Q) hfgs hfr hfb (by rw [hfr.1]; exact hn) r7
  have hq6 : (V.ptr σ6.length 0 0) = .ptr q 0 0 := by rw [l6, hqd]
  rw [hq6] at hst7
  have hal6 := hal σ6
  rw [hq6] at hal6
  have hal5 := hal σ
  clear hal
  generalize hr1 : ((r + 1 : Nat) : Int) = r1 at *
  have hlq : σ6.length = q := by omega
  simp [k6_5, g13, g15, ia, ld, hal5, hst6, fa_p, ld6.1, hlq, hst7, ld67.2, fl]
  refine hfl _ _ _ ?_ ?_ ?_ ?_ ?_
  · simp
  · simp
  · simp
  · simp
  intro e1 L1 σa w ds hds hqa hwa hwq hla hka hlk1
  obtain ⟨hz1, hz2, hz3⟩ := zip_of hds
  have hzl : (ds.zip p.2).length = p.2.length := by rw [← hz2]; simp
  have hwz := gv_zip hwa hz1
  obtain ⟨z', σb, hsort, hzp, hzs, hwb, hlb, hkb⟩ := sort_files hwz (by rw [hzl]; exact hn)
  have hql : q < σa.length := (List.getElem?_eq_some_iff.1 hqa).1
  have hqb : σb[q]? = some (.row [sv p.1, w] 0) := by
    rw [hkb q hql (fun id g n h => (hwq id g n h).1.symm)]; exact hqa
  have hzn : z'.length ≤ 30 := by rw [hzp.length_eq, hzl]; exact hn
  have keepb : ∀ i, i < σ.length → σb[i]? = σ[i]? := by
    intro i hi
    rw [hkb i (by omega) (fun id g n h => by have := (hwq id g n h).2; omega), hka i (by omega) (by omega), k7 i hi]
  have h0b : σb[0]? = some (.row [v0] 0) := by rw [keepb 0 (by omega)]; exact h0
  have h1b : σb[1]? = some (.row [wv] 0) := by rw [keepb 1 h1l]; exact h1
  have hla' := (pair_load hqa).2
  have f7 : look e1 7 = some (.ptr q 0 0) := by rw [hlk1 7 (by decide) (by decide)]; simp
  have hzf : ∀ a ∈ z', FileR a.1 a.2 := fun a ha => hz3 a (hzp.mem_iff.1 ha)
  have hzpf : (z'.map (·.2)).Perm p.2 := by
    have := hzp.map (·.2)
    rwa [hz2] at this
  simp [k6_12, f7, fa_p, hla', hsort]
  refine dup_files (v0 := v0) (path := p.1) hwb hzn hzs hqb h0b ?_ ?_ ?_ ?_ ?_
  · simp [hlk1, g2]
  · simp [f7]
  · simp
  · intro hnd st hst
    refine hbad (fun h => hnd ?_) st hst
    exact ((names_z hzf hzpf).nodup_iff).2 h
  · intro e2 L2 hstr hlk2
    have hl4 : look e2 4 = some (.ptr 1 0 0) := by rw [hlk2 4 (by decide)]; simp [hlk1, g4]
    have hl7 : look e2 7 = some (.ptr q 0 0) := by rw [hlk2 7 (by decide)]; simp [f7]
    have hl15 : look e2 15 = some (iv (r : Int)) := by rw [hlk2 15 (by decide)]; simp [hlk1, g15]
    obtain ⟨hcw, how⟩ := gv_one hwb
    have ld4 := single_load h1b
    have ldq : opLoad 2 true (.ptr q 0 0) σb = some (mkAgg [sv p.1, w]) := by
      have hob : obCells σb q 0 = some [sv p.1, w] := by simp [obCells, hqb]
      simp only [opLoad, hob]
      rfl
    obtain ⟨σc, hσc⟩ : ∃ σc, σc = σb ++ [.row [sv p.1, w] 0] := ⟨_, rfl⟩
    have hbs : opBslice true 1 2 [.sc (.string ⟨⟨[]⟩⟩), .sc (.slice none 0 0)] [(0, 2, mkAgg [sv p.1, w])] σb = some (.own σb.length 0 0 1 2 (some 1), σc) := by
      rw [hσc]
      have : fillV ((rep 1 [Tree.sc (.string ⟨⟨[]⟩⟩), .sc (.slice none 0 0)]).map .tr) [(0, 2, mkAgg [sv p.1, w])] = some [sv p.1, w] := by
        simp only [rep, fillV, cells_mkAgg]
        rfl
      unfold opBslice
      rw [this]
      rfl
    have lbc : σc.length = σb.length + 1 := by rw [hσc]; simp
    have rc : σc[σb.length]? = some (.row [sv p.1, w] 0) := by rw [hσc]; simp
    obtain ⟨x, hx⟩ : ∃ x : PV, x = (p.1, ⟨w, how⟩) := ⟨_, rfl⟩
    have hel : elems σc 2 (.own σb.length 0 0 1 2 (some 1)) = some (pV x, 1) := by
      have hob : obCells σc σb.length 0 = some [sv p.1, w] := by simp [obCells, rc]
      rw [hx]
      simp only [elems, hob]
      rfl
    have keepc : ∀ i, i < σb.length → σc[i]? = σb[i]? := fun i hi => by rw [hσc, List.getElem?_append_left hi]
    have wvlt : ∀ id g n, wv = own2 id g n none → id < σ.length := by
      intro id g n h
      rcases hwv with ⟨_, h2⟩ | ⟨id', g', h2, hR⟩
      · rw [h2] at h; cases h
      · rw [h2] at h; cases h; exact hR.lt
    have hwvc : GV pV ps wv σc := gv_keep hwv fun id g n h => by
      have := wvlt id g n h
      rw [keepc id (by omega), keepb id this]
    obtain ⟨wv', σd, happ, hwvd, hcase⟩ := gv_app pV_len pV_one hwvc (by omega) hel
    have lcd : σc.length ≤ σd.length := by
      rcases hcase with ⟨_, h, _⟩ | ⟨id, gg, _, _, _, h, _⟩
      · rw [h]; simp
      · omega
    have keepd : ∀ i, i < σc.length → (∀ id g n, wv = own2 id g n none → i ≠ id) → σd[i]? = σc[i]? := by
      intro i hi hne
      rcases hcase with ⟨_, h, _⟩ | ⟨id, gg, hwid', _, hN, _, _⟩
      · rw [h, List.getElem?_append_left hi]
      · exact hN.2 i (hne id gg _ hwid') hi
    have h1d : σd[1]? = some (.row [wv] 0) := by
      rw [keepd 1 (by omega) (fun id g n h => by have := hwid id g n h; omega), keepc 1 (by omega)]
      exact h1b
    obtain ⟨hc1, hc2⟩ := gv_one hwvd
    have hs := single_store (z := wv') h1d hc1 hc2
    have wvid : ∀ id g n, wv' = own2 id g n none → id ≠ 1 ∧ (σ.length ≤ id ∨ ∃ g' n', wv = own2 id g' n' none) := by
      intro id g n h
      rcases hcase with ⟨h2, _, _⟩ | ⟨id', gg, hwid', h2, _, _, _⟩
      · rw [h2] at h
        cases h
        exact ⟨by omega, .inl (by omega)⟩
      · rw [h2] at h
        cases h
        exact ⟨by have := hwid _ _ _ hwid'; omega, .inr ⟨_, _, hwid'⟩⟩
    have wid : ∀ id g n, w = own2 id g n none → σ.length + 2 ≤ id ∧ id < σb.length := by
      intro id g n h
      refine ⟨by have := (hwq id g n h).2; omega, ?_⟩
      rcases hwb with ⟨_, h2⟩ | ⟨id', g', h2, hR⟩
      · rw [h2] at h; cases h
      · rw [h2] at h; cases h; exact hR.lt
    have wdis : ∀ id g n, w = own2 id g n none → ∀ id' g' n', wv' = own2 id' g' n' none → id' ≠ id := by
      intro id g n h id' g' n' h'
      have h3 := wid id g n h
      rcases hcase with ⟨h2, _, _⟩ | ⟨id2, gg, hwid', h2, _, _, _⟩
      · rw [h2] at h'
        cases h'
        omega
      · rw [h2] at h'
        cases h'
        have := wvlt _ _ _ hwid'
        omega
    have keepE : ∀ i, i < σ.length → i ≠ 1 → (∀ id g n, wv = own2 id g n none → i ≠ id) → (σd.set 1 (.row [wv'] 0))[i]? = σ[i]? := by
      intro i hi hi1 hne
      rw [List.getElem?_set_ne (Ne.symm hi1), keepd i (by omega) hne, keepc i (by omega), keepb i hi]
    have hfiles : FilesAt (σd.set 1 (.row [wv'] 0)) p w := ⟨z', gv_keep hwb fun id g n h => by
      have h3 := wid id g n h
      rw [List.getElem?_set_ne (by omega), keepd id (by omega) (fun id' g' n' h' => by have := wvlt _ _ _ h'; omega), keepc id (by omega)], hzf, hzpf, hstr, hzn⟩
    have hgv : GV pV (ps ++ [(p.1, ⟨w, how⟩)]) wv' (σd.set 1 (.row [wv'] 0)) := by
      rw [← hx]
      exact gv_keep hwvd fun id g n h => by rw [List.getElem?_set_ne (by have := (wvid id g n h).1; omega)]
    have h1e : (σd.set 1 (.row [wv'] 0))[1]? = some (.row [wv'] 0) := List.getElem?_set_self (by omega)
    have hlook : ∀ k, k ≠ 6 → k ≠ 7 → k ≠ 9 → k ≠ 10 → k ≠ 15 → k ≠ 23 → k ≠ 24 → k ≠ 25 → look e2 k = look e k := by
      intro k a1 a2 a3 a4 a5 a6 a7 a8
      rw [hlk2 k a4]
      simp [a4]
      rw [hlk1 k a3 a8]
      simp [a1, a2, a6, a7, a8]
    have hnod : (p.2.map (·.1)).Nodup := ((names_z hzf hzpf).nodup_iff).1 (str_nodup hstr)
    have hfin := fun e' L' => hQ e' L' _ w wv' how hnod hfiles hgv h1e (by rw [List.length_set]; omega) keepE (fun id g n h => ⟨by have := (wid id g n h).1; omega, wdis id g n h⟩) (fun id g n h => (wvid id g n h).2)
    generalize mkAgg [sv p.1, w] = vm at *
    simp [k6_21, hl4, hl7, fa_p, ld4, ldq, hbs, happ, hs, k6_22, hl15, w15]
    refine hfin _ _ ?_ ?_
    · intro k a1 a2 a3 a4 a5 a6 a7 a8
      simp [a5]
      exact hlook k a1 a2 a3 a4 a5 a6 a7 a8
    · simp
end Go.Proofs.Ytodgdmhifbnofaa.AM.Sn
end
section
set_option maxRecDepth 1000000
set_option linter.unusedVariables false
set_option linter.unusedSimpArgs false
namespace Go.Proofs.Ytodgdmhifbnofaa.AM.Sn
open Go.Proofs
structure Outs (ps : List PV) (pk : List AP) (wv : V) (σ : Store) : Prop where
  h1 : σ[1]? = some (.row [wv] 0)
  gv : GV pV ps wv σ
  rel : AllR (fun (x : PV) (p : AP) => x.1 = p.1 ∧ FilesAt σ p x.2.1) ps pk
  wid : ∀ id g n, wv = own2 id g n none → 2 ≤ id
  fid : ∀ x ∈ ps, ∀ id g n, x.2.1 = own2 id g n none → 2 ≤ id ∧ id < σ.length ∧ ∀ id' g' n', wv = own2 id' g' n' none → id' ≠ id
theorem pkgs_loop {gp : List FV} {pk : List AP} {tp : Tree} {v0 : V} {σ : Store} {e Lo : List (Nat × V)} {Q : Out → St → Prop}
    (hp : IsSl fT gp (.tr tp)) (hpr : AllR PkgR gp pk) (hfb : ∀ p ∈ pk, p.2.length ≤ 30 ∧ ∀ f ∈ p.2, f.2.length ≤ 140737488355328) (hn : gp.length ≤ 8)
    (h0 : σ[0]? = some (.row [v0] 0)) (h1 : σ[1]? = some (.row [nilSl] 0))
    (g2 : look e 2 = some (.ptr 0 0 0)) (g4 : look e 4 = some (.ptr 1 0 0)) (g13 : look e 13 = some (.tr tp)) (g14 : look e 14 = some (iv (gp.length : Int))) (g15 : look e 15 = some (iv 0))
    (hbad : (∃ p ∈ pk, ¬ (p.2.map (·.1)).Nodup) → ∀ st, NoneAt st → Q .ret st)
    (hQ : ∀ e' L' σ' ps wv, (∀ p ∈ pk, (p.2.map (·.1)).Nodup) → Outs ps pk wv σ' → σ'[0]? = some (.row [v0] 0) → look e' 2 = some (.ptr 0 0 0) → look e' 4 = some (.ptr 1 0 0) → Q (.exit 0) ⟨e', L', σ'⟩) :
    Wp T (.loop k6_3) ⟨e, Lo, σ⟩ Q := by
  obtain ⟨I, hI⟩ : ∃ I : Nat → St → Prop, I = (fun r st => r ≤ gp.length ∧ ∃ e' Lo' σ' ps wv, st = ⟨e', Lo', σ'⟩ ∧ ps.length = r ∧ Outs ps (pk.take r) wv σ' ∧ σ'[0]? = some (.row [v0] 0) ∧ (∀ p ∈ pk.take r, (p.2.map (·.1)).Nodup) ∧ look e' 2 = some (.ptr 0 0 0) ∧ look e' 4 = some (.ptr 1 0 0) ∧ look e' 13 = some (.tr tp) ∧ look e' 14 = some (iv (gp.length : Int)) ∧ look e' 15 = some (iv (r : Int))) := ⟨_, rfl⟩
  refine wpc_up gp.length I ?_ ?_
  · rw [hI]
    exact ⟨by omega, e, Lo, σ, [], nilSl, rfl, rfl, ⟨h1, .inl ⟨rfl, rfl⟩, by simpa using allR_nil, fun id g n h => (by cases h), fun x hx => by simp at hx⟩, h0, by simp, g2, g4, g13, g14, g15⟩
  intro r st hIs
  rw [hI] at hIs
  obtain ⟨hr, e', Lo', σ', ps, wv, rfl, hpl, hO, h0', hnod, f2, f4, f13, f14, f15⟩ := hIs
  by_cases hlt : r < gp.length
  · have hlt' : (r : Int) < (gp.length : Int) := by omega
    obtain ⟨g, hg⟩ := some_at hlt
    obtain ⟨p, hpp⟩ := some_at (l := pk) (i := r) (by rw [← hpr.1]; exact hlt)
    have hpm := List.mem_of_getElem? hpp
    have key := one_pkg (v0 := v0) (e := e') (Lo := [(16, bv true)]) (Q := thenN (fun s' => r < gp.length ∧ I (r + 1) s') Q) hp hg (hpr.2 r g p hg hpp) (hfb p hpm).2 (hfb p hpm).1 (by omega) (by omega) h0' hO.h1 hO.gv hO.wid f2 f4 f13 f15
      (fun hnd st hst => by
        show Q .ret st
        exact hbad ⟨p, hpm, hnd⟩ st hst)
      (fun e2 L2 σ2 w2 wv2 ho2 q1 q2 q3 q4 q5 q6 q7 q8 q9 q10 => by
        show r < gp.length ∧ I (r + 1) ⟨e2, L2, σ2⟩
        refine ⟨hlt, ?_⟩
        rw [hI]
        have h1l : 1 < σ'.length := (List.getElem?_eq_some_iff.1 hO.h1).1
        have hkeep : ∀ x ∈ ps, ∀ id g n, x.2.1 = own2 id g n none → σ2[id]? = σ'[id]? := fun x hx id g n h => by
          obtain ⟨a1, a2, a3⟩ := hO.fid x hx id g n h
          exact q6 id a2 (by omega) (fun id' g' n' h' e => a3 id' g' n' h' e.symm)
        refine ⟨by omega, e2, L2, σ2, ps ++ [(p.1, ⟨w2, ho2⟩)], wv2, rfl, by simp [hpl], ⟨q4, q3, ?_, ?_, ?_⟩, ?_, ?_, ?_, ?_, ?_, ?_, q10⟩
        · rw [take_snoc hpp]
          refine allR_snoc ⟨hO.rel.1, fun i a b ha hb => ?_⟩ ⟨rfl, q2⟩
          obtain ⟨b1, b2⟩ := hO.rel.2 i a b ha hb
          exact ⟨b1, filesAt_keep b2 (hkeep a (List.mem_of_getElem? ha))⟩
        · intro id g' n' h
          rcases q8 id g' n' h with h2 | ⟨g2', n2', h2⟩
          · omega
          · exact hO.wid id g2' n2' h2
        · intro x hx id g' n' h
          rcases List.mem_append.1 hx with hx | hx
          · obtain ⟨a1, a2, a3⟩ := hO.fid x hx id g' n' h
            refine ⟨a1, by omega, fun id' g2' n2' h' e => ?_⟩
            subst e
            rcases q8 _ g2' n2' h' with h3 | ⟨g3', n3', h3⟩
            · omega
            · exact a3 _ g3' n3' h3 rfl
          · obtain rfl := List.mem_singleton.1 hx
            have h3 : w2 = own2 id g' n' none := h
            obtain ⟨a1, a2⟩ := q7 id g' n' h3
            refine ⟨by omega, ?_, fun id' g2' n2' h' => a2 id' g2' n2' h'⟩
            obtain ⟨z, hz, _⟩ := q2
            rcases hz with ⟨_, h2⟩ | ⟨id2, gg, h2, hR⟩
            · rw [h2] at h3; cases h3
            · rw [h2] at h3; cases h3; exact hR.lt
        · rw [q6 0 (by omega) (by omega) (fun id g' n' h => by have := hO.wid id g' n' h; omega)]
          exact h0'
        · rw [take_snoc hpp]
          intro p' hp'
          rcases List.mem_append.1 hp' with h | h
          · exact hnod p' h
          · obtain rfl := List.mem_singleton.1 h
            exact q1
        · rw [q9 2 (by decide) (by decide) (by decide) (by decide) (by decide) (by decide) (by decide) (by decide)]; exact f2
        · rw [q9 4 (by decide) (by decide) (by decide) (by decide) (by decide) (by decide) (by decide) (by decide)]; exact f4
        · rw [q9 13 (by decide) (by decide) (by decide) (by decide) (by decide) (by decide) (by decide) (by decide)]; exact f13
        · rw [q9 14 (by decide) (by decide) (by decide) (by decide) (by decide) (by decide) (by decide) (by decide)]; exact f14)
    simp [k6_3, f14, f15, hlt']
    exact key
  · have hlt' : ¬ (r : Int) < (gp.length : Int) := by omega
    generalize (r : Int) = rr at *
    simp [k6_3, f14, f15, hlt']
    rw [List.take_of_length_le (by rw [← hpr.1]; omega)] at hO hnod
    exact hQ _ _ σ' ps wv hnod hO h0' f2 f4
end Go.Proofs.Ytodgdmhifbnofaa.AM.Sn
end
