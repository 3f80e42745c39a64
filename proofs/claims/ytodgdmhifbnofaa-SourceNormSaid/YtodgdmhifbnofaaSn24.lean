/- the packages: parts 24, 25. -/
import Derived.Test.YtodgdmhifbnofaaSn21
set_option linter.unusedSectionVars false
section
set_option maxRecDepth 1000000
set_option linter.unusedVariables false
set_option linter.unusedSimpArgs false
namespace Go.Proofs.Ytodgdmhifbnofaa.AM.Sn
open Go.Proofs
abbrev ZP := PV × AP
def yV (z : ZP) : List V := pV z.1
def yK (z : ZP) : List UInt8 := z.1.1
theorem yV_len (z : ZP) : (yV z).length = 2 := rfl
theorem yV_one (z : ZP) : (yV z).all oneV = true := pV_one z.1
theorem cmpY : CmpOk yV yK (.tr (.fn (.func 16) [] [])) := fun a b σ => cmpP a.1 b.1 σ
theorem dup_pkgs {z : List ZP} {w : V} {v0 : V} {σ : Store} {e Lo : List (Nat × V)} {Q : Out → St → Prop}
    (hw : GV yV z w σ) (hn : z.length ≤ 30) (hs : Ris yK z) (hq : σ[1]? = some (.row [w] 0)) (h0 : σ[0]? = some (.row [v0] 0))
    (g2 : look e 2 = some (.ptr 0 0 0)) (g7 : look e 4 = some (.ptr 1 0 0)) (g10 : look e 11 = some (iv 1))
    (hbad : ¬ (z.map yK).Nodup → ∀ st, NoneAt st → Q .ret st)
    (hQ : ∀ e' L', Str yK z → (∀ k, k ≠ 11 → look e' k = look e k) → Q (.exit 6) ⟨e', L', σ⟩) :
    Wp T (.loop k6_26) ⟨e, Lo, σ⟩ Q := by
  have hlq := single_load hq
  have h0l : 0 < σ.length := (List.getElem?_eq_some_iff.1 h0).1
  obtain ⟨I, hI⟩ : ∃ I : Nat → St → Prop, I = (fun r st => ∃ e' Lo', st = ⟨e', Lo', σ⟩ ∧ (∀ (i : Nat) x y, i < r → z[i]? = some x → z[i + 1]? = some y → yK x ≠ yK y) ∧ (∀ k, k ≠ 11 → look e' k = look e k) ∧ look e' 11 = some (iv ((r + 1 : Nat) : Int))) := ⟨_, rfl⟩
  refine wpc_up z.length I ?_ ?_
  · rw [hI]
    exact ⟨e, Lo, rfl, fun i x y h => by omega, fun k _ => rfl, g10⟩
  intro r st hIs
  rw [hI] at hIs
  obtain ⟨e', Lo', rfl, hd, hlk, f10⟩ := hIs
  have f2 : look e' 2 = some (.ptr 0 0 0) := by rw [hlk 2 (by decide)]; exact g2
  have f7 : look e' 4 = some (.ptr 1 0 0) := by rw [hlk 4 (by decide)]; exact g7
  have hlen := gv_len hw
  by_cases hlt : r + 1 < z.length
  · have hlt' : ((r + 1 : Nat) : Int) < (z.length : Int) := by omega
    rcases hw with ⟨rfl, _⟩ | ⟨id, g, rfl, hR⟩
    · simp at hlt
    obtain ⟨x, hx⟩ := some_at (l := z) (i := r) (by omega)
    obtain ⟨y, hy⟩ := some_at hlt
    have i1 := hR.iaddr (c := 2) (cap := none) (n := z.length) (k' := .i64) (i := r) (by omega)
    have i2 := hR.iaddr (c := 2) (cap := none) (n := z.length) (k' := .i64) (i := r + 1) hlt
    have l1 := hR.load1 yV_len (o := 0) (v := sv (yK x)) hx rfl
    have l2 := hR.load1 yV_len (o := 0) (v := sv (yK y)) hy rfl
    have w1 : IntKind.i64.wrap (((r + 1 : Nat) : Int) - 1) = (r : Int) := wrapN _ (by omega) (by omega)
    have w2 : IntKind.i64.wrap (((r + 1 : Nat) : Int) + 1) = ((r + 1 + 1 : Nat) : Int) := wrapN _ (by omega) (by omega)
    rw [Nat.add_zero] at l1 l2
    by_cases hxy : yK y = yK x
    · have hst := none_store h0
      generalize ((r + 1 : Nat) : Int) = r1 at *
      simp [k6_26, f2, f7, f10, fa_p, hlq, hlen, hlt', k6_28, i1, i2, l1, l2, w1, bytesEq_iff', hxy, bld_nil, hst]
      refine hbad (not_nodup hx hy hxy.symm) _ ⟨_, _, _, rfl, ?_, ?_, ?_⟩
      · simp [f2]
      · simp
      · simp [h0l]
    · generalize ((r + 1 : Nat) : Int) = r1 at *
      simp [k6_26, f2, f7, f10, fa_p, hlq, hlen, hlt', k6_28, i1, i2, l1, l2, w1, bytesEq_iff', hxy, k6_31, w2]
      refine ⟨by omega, ?_⟩
      rw [hI]
      refine ⟨_, _, rfl, fun i a b hi ha hb => ?_, fun k hk => ?_, by simp⟩
      · rcases Nat.lt_or_ge i r with h | h
        · exact hd i a b h ha hb
        · obtain rfl : i = r := by omega
          rw [hx] at ha
          rw [hy] at hb
          cases ha
          cases hb
          exact fun e => hxy e.symm
      · simp [hk]
        exact hlk k hk
  · have hlt' : ¬ ((r + 1 : Nat) : Int) < (z.length : Int) := by omega
    generalize ((r + 1 : Nat) : Int) = r1 at *
    simp [k6_26, f7, f10, fa_p, hlq, hlen, hlt']
    refine hQ _ _ (str_of hs fun i x y hx hy => hd i x y ?_ hx hy) hlk
    have := (List.getElem?_eq_some_iff.1 hy).1
    omega
theorem zip_pk {ps : List PV} {pk : List AP} {R : PV → AP → Prop} (h : AllR R ps pk) : (ps.zip pk).map (·.1) = ps ∧ (ps.zip pk).map (·.2) = pk ∧ ∀ z ∈ ps.zip pk, R z.1 z.2 ∧ z.1 ∈ ps := by
  refine ⟨List.map_fst_zip (by rw [h.1]; exact Nat.le_refl _), List.map_snd_zip (by rw [h.1]; exact Nat.le_refl _), fun z hz => ?_⟩
  obtain ⟨i, hi⟩ := List.getElem?_of_mem hz
  rw [List.getElem?_zip_eq_some] at hi
  exact ⟨h.2 i _ _ hi.1 hi.2, List.mem_of_getElem? hi.1⟩
theorem gv_zipP {ps : List PV} {z : List ZP} {w : V} {σ : Store} (h : GV pV ps w σ) (hz : z.map (·.1) = ps) : GV yV z w σ := by
  have hl : z.length = ps.length := by rw [← hz]; simp
  rcases h with ⟨h1, h2⟩ | ⟨id, g, h1, h2⟩
  · refine .inl ⟨?_, h2⟩
    rw [h1] at hl
    exact List.length_eq_zero_iff.1 hl
  · refine .inr ⟨id, g, by rw [h1, hl], ?_⟩
    unfold RowV at *
    rw [h2, ← hz, List.flatMap_map]
    rfl
theorem sort_pkgs {z : List ZP} {w : V} {σ : Store} (hw : GV yV z w σ) (hn : z.length < 20) :
    ∃ z' σ', callL T 15 [w, .tr (.fn (.func 16) [] [])] σ = some (.tr (.tup []), σ') ∧ z'.Perm z ∧ Ris yK z' ∧ GV yV z' w σ' ∧ σ.length ≤ σ'.length ∧ (∀ i, i < σ.length → (∀ id g n, w = own2 id g n none → i ≠ id) → σ'[i]? = σ[i]?) := by
  rcases hw with ⟨rfl, rfl⟩ | ⟨id, g, rfl, hR⟩
  · exact ⟨[], σ, sort_nilP σ _, List.Perm.refl _, ris_nil, .inl ⟨rfl, rfl⟩, Nat.le_refl _, fun _ _ _ => rfl⟩
  · obtain ⟨z', σ', hc, hp, hs, hR', hN⟩ := sortP_ok (cap := none) yV_len yV_one cmpY rfl hn hR
    refine ⟨z', σ', hc, hp, hs, .inr ⟨id, g, by rw [hp.length_eq], hR'⟩, hN.1, fun i hi h => hN.2 i (h id g _ rfl) hi⟩
theorem norm_tail {ps : List PV} {pk : List AP} {wv v0 : V} {σ : Store} {e Lo : List (Nat × V)} {Q : Out → St → Prop} (hn : pk.length ≤ 8) (hO : Outs ps pk wv σ) (h0 : σ[0]? = some (.row [v0] 0))
    (g2 : look e 2 = some (.ptr 0 0 0)) (g4 : look e 4 = some (.ptr 1 0 0))
    (hbad : ¬ (pk.map (·.1)).Nodup → ∀ st, NoneAt st → Q .ret st)
    (hQ : ∀ e' L' σ' (z : List ZP), (z.map (·.2)).Perm pk → (∀ a ∈ z, a.1.1 = a.2.1 ∧ FilesAt σ' a.2 a.1.2.1) → Str yK z → GV yV z wv σ' → σ'[0]? = some (.row [wv] 0) → look e' 2 = some (.ptr 0 0 0) → look e' 3 = some (bv true) → Q .ret ⟨e', L', σ'⟩) :
    wpc T k6_23 ⟨e, Lo, σ⟩ Q := by
  obtain ⟨hz1, hz2, hz3⟩ := zip_pk hO.rel
  have hzl : (ps.zip pk).length = pk.length := by rw [← hz2]; simp
  have hgz := gv_zipP hO.gv hz1
  obtain ⟨z, σb, hsort, hzp, hzs, hgb, hlb, hkb⟩ := sort_pkgs hgz (by omega)
  have h1l : 1 < σ.length := (List.getElem?_eq_some_iff.1 hO.h1).1
  have h0b : σb[0]? = some (.row [v0] 0) := by rw [hkb 0 (by omega) (fun id g n h => by have := hO.wid id g n h; omega)]; exact h0
  have h1b : σb[1]? = some (.row [wv] 0) := by rw [hkb 1 h1l (fun id g n h => by have := hO.wid id g n h; omega)]; exact hO.h1
  have hld := single_load hO.h1
  have hzf : ∀ a ∈ z, a.1.1 = a.2.1 ∧ FilesAt σb a.2 a.1.2.1 := fun a ha => by
    obtain ⟨⟨a1, a2⟩, a3⟩ := hz3 a (hzp.mem_iff.1 ha)
    refine ⟨a1, filesAt_keep a2 fun id g n h => ?_⟩
    obtain ⟨b1, b2, b3⟩ := hO.fid _ a3 id g n h
    exact hkb id b2 (fun id' g' n' h' e => b3 id' g' n' h' e.symm)
  have hzpk : (z.map (·.2)).Perm pk := by
    have := hzp.map (·.2)
    rwa [hz2] at this
  have hpaths : (z.map yK).Perm (pk.map (·.1)) := by
    have h1 : z.map yK = (z.map (·.2)).map (·.1) := by
      rw [List.map_map]
      exact List.map_congr_left fun a ha => (hzf a ha).1
    rw [h1]
    exact hzpk.map _
  have hzn : z.length ≤ 30 := by rw [hzp.length_eq, hzl]; omega
  simp [k6_23, g4, fa_p, hld, hsort]
  refine dup_pkgs (v0 := v0) hgb hzn hzs h1b h0b ?_ ?_ ?_ ?_ ?_
  · simp [g2]
  · simp [g4]
  · simp
  · intro hnd st hst
    exact hbad (fun h => hnd (hpaths.nodup_iff.2 h)) st hst
  · intro e2 L2 hstr hlk2
    have f2 : look e2 2 = some (.ptr 0 0 0) := by rw [hlk2 2 (by decide)]; simp [g2]
    have f4 : look e2 4 = some (.ptr 1 0 0) := by rw [hlk2 4 (by decide)]; simp [g4]
    have ld1 : opLoad 1 true (.ptr 1 0 0) σb = some (mkAgg [wv]) := by
      have hob : obCells σb 1 0 = some [wv] := by simp [obCells, h1b]
      simp only [opLoad, hob]
      rfl
    have how := (gv_one hgb).2
    have hst : opStore 1 (.ptr 0 0 0) (mkAgg [wv]) σb = some (σb.set 0 (.row [wv] 0)) := by
      unfold opStore
      simp only [cells_mkAgg, List.length_singleton, if_true]
      unfold obPut
      simp [h0b, how, splice]
    have h0l : 0 < σb.length := by omega
    have fin := fun e' L' => hQ e' L' (σb.set 0 (.row [wv] 0)) z hzpk (fun a ha => ⟨(hzf a ha).1, filesAt_keep (hzf a ha).2 fun id g n h => by
        obtain ⟨_, a3⟩ := hz3 a (hzp.mem_iff.1 ha)
        obtain ⟨b1, _, _⟩ := hO.fid _ a3 id g n h
        rw [List.getElem?_set_ne (by omega)]⟩) hstr (gv_keep hgb fun id g n h => by
        have := hO.wid id g n h
        rw [List.getElem?_set_ne (by omega)]) (List.getElem?_set_self h0l)
    generalize mkAgg [wv] = vm at *
    simp [k6_32, f2, f4, ld1, hst]
    refine fin _ _ ?_ ?_
    · simp [f2]
    · simp
end Go.Proofs.Ytodgdmhifbnofaa.AM.Sn
end
section
set_option maxRecDepth 1000000
set_option linter.unusedVariables false
set_option linter.unusedSimpArgs false
namespace Go.Proofs.Ytodgdmhifbnofaa.AM.Sn
open Go.Proofs
def Apart (pk : List AP) : Prop := (pk.map (·.1)).Nodup ∧ ∀ p ∈ pk, (p.2.map (·.1)).Nodup
def OutR (g : FV) (p : AP) : Prop := g.1 = p.1 ∧ ∃ (fgs : List FV) (fs : List AF), IsSl fT fgs (.tr g.2.1) ∧ AllR FileR fgs fs ∧ fs.Perm p.2 ∧ Str (fun f : AF => f.1) fs
def NormR (pk : List AP) (t : Tree) : Prop := (¬ Apart pk ∧ t = .tup [.agg [.sc (.slice none 0 0)], .sc (.bool false)]) ∨
  (Apart pk ∧ ∃ (zo : List (FV × AP)) (tw : Tree), t = .tup [.agg [tw], .sc (.bool true)] ∧ IsSl fT (zo.map (·.1)) (.tr tw) ∧ (zo.map (·.2)).Perm pk ∧ (∀ a ∈ zo, OutR a.1 a.2) ∧ Str (fun a : FV × AP => a.1.1) zo)
theorem flat_tr : ∀ (l : List FV), l.flatMap fV = (l.flatMap fT).map .tr
  | [] => rfl
  | a :: l => by rw [List.flatMap_cons, List.flatMap_cons, List.map_append, flat_tr l]; rfl
theorem allR_map {z : List ZF} (h : ∀ a ∈ z, FileR a.1 a.2) : AllR FileR (z.map (·.1)) (z.map (·.2)) := by
  refine ⟨by simp, fun i a b ha hb => ?_⟩
  rw [List.getElem?_map, Option.map_eq_some_iff] at ha hb
  obtain ⟨x, hx, rfl⟩ := ha
  obtain ⟨y, hy, rfl⟩ := hb
  rw [hx] at hy
  cases hy
  exact h _ (List.mem_of_getElem? hx)
theorem snap_files {σ : Store} {p : AP} {w : V} (h : FilesAt σ p w) (d : Nat) (path : List UInt8) (hp : path = p.1) : ∃ g : FV, g.1 = path ∧ snap σ (d + 1) w = some g.2.1 ∧ OutR g p := by
  obtain ⟨z, hg, hf, hperm, hstr, hn⟩ := h
  have hfs : Str (fun f : AF => f.1) (z.map (·.2)) := by
    unfold Str at *
    rw [List.pairwise_map]
    refine hstr.imp_of_mem ?_
    intro a b ha hb hab
    show bytesLt a.2.1 b.2.1 = true
    rw [← (hf a ha).1, ← (hf b hb).1]
    exact hab
  rcases hg with ⟨rfl, rfl⟩ | ⟨id, g, rfl, hR⟩
  · exact ⟨(path, ⟨.sc (.slice none 0 0), rfl⟩), rfl, snap_tr, hp, [], [], .inl ⟨rfl, rfl⟩, allR_nil, by simpa using hperm, List.Pairwise.nil⟩
  · refine ⟨(path, ⟨.row ((z.map (·.1)).flatMap fT) z.length none, rfl⟩), rfl, ?_, hp, z.map (·.1), z.map (·.2), .inr ⟨none, by simp⟩, allR_map hf, hperm, hfs⟩
    unfold RowV at hR
    have hob : obCells σ id g = some (z.flatMap zV) := by simp [obCells, hR]
    have hs := vE_slice (E := zV) zV_len (l := z) (i := 0) (k := z.length) (by omega)
    rw [Nat.zero_mul, List.drop_zero, List.take_of_length_le (Nat.le_refl _)] at hs
    unfold snap
    simp only [hob, hs]
    rw [← flat_z, flat_tr, snapL_tr]
theorem snap_pkgs {σ : Store} {d : Nat} : ∀ {z : List ZP}, (∀ a ∈ z, a.1.1 = a.2.1 ∧ FilesAt σ a.2 a.1.2.1) → ∃ zo : List (FV × AP), snapL (snap σ (d + 1)) (z.flatMap yV) = some ((zo.map (·.1)).flatMap fT) ∧ zo.map (·.2) = z.map (·.2) ∧ zo.map (fun a => a.1.1) = z.map yK ∧ ∀ a ∈ zo, OutR a.1 a.2
  | [], _ => ⟨[], rfl, rfl, rfl, by simp⟩
  | a :: z, h => by
    obtain ⟨zo, h1, h2, h3, h4⟩ := snap_pkgs (d := d) (z := z) fun b hb => h b (List.mem_cons_of_mem _ hb)
    obtain ⟨b1, b2⟩ := h a (List.mem_cons_self ..)
    obtain ⟨g, g1, g2, g3⟩ := snap_files b2 d a.1.1 b1
    refine ⟨(g, a.2) :: zo, ?_, by simp [h2], by simp [h3, yK, g1], ?_⟩
    · have e1 : (a :: z).flatMap yV = sv a.1.1 :: a.1.2.1 :: z.flatMap yV := rfl
      have e2 : (((g, a.2) :: zo).map (·.1)).flatMap fT = .sc (.string ⟨⟨g.1⟩⟩) :: g.2.1 :: (zo.map (·.1)).flatMap fT := rfl
      rw [e1, e2]
      simp only [snapL, snap_tr, g2, h1, g1]
    · intro b hb
      rcases List.mem_cons.1 hb with rfl | hb
      · exact g3
      · exact h4 b hb
theorem str_of_keys {α β : Type} {k : α → List UInt8} {k' : β → List UInt8} {l : List α} {m : List β} (h : l.map k = m.map k') (hs : Str k' m) : Str k l := by
  unfold Str at *
  rw [← List.pairwise_map (f := k') (R := fun a b => bytesLt a b = true)] at hs
  rw [← List.pairwise_map (f := k) (R := fun a b => bytesLt a b = true), h]
  exact hs
theorem none_res {R : V → Store → Prop} {st : St} (h : NoneAt st) (hR : ∀ σ, R (.tr (.tup [.agg [.sc (.slice none 0 0)], .sc (.bool false)])) σ) : giv [.cell 2 1 true, .tmp 3] R .ret st := by
  obtain ⟨e, L, σ, rfl, f2, f3, h0⟩ := h
  refine ⟨_, ?_, hR σ⟩
  have hob : obCells σ 0 0 = some [nilSl] := by simp [obCells, h0]
  have hl : opLoad 1 true (.ptr 0 0 0) σ = some (.tr (.agg [.sc (.slice none 0 0)])) := by
    simp only [opLoad, hob]
    rfl
  simp only [resultA, resultsA, f2, f3, hl]
  rfl
theorem norm_ok {gp : List FV} {pk : List AP} {tp : Tree} (hp : IsSl fT gp (.tr tp)) (hpr : AllR PkgR gp pk) (hfb : ∀ p ∈ pk, p.2.length ≤ 30 ∧ ∀ f ∈ p.2, f.2.length ≤ 140737488355328) (hn : gp.length ≤ 8) :
    ∃ t, (∀ σ, callL T 6 [.tr (.agg [tp])] σ = some (.tr t, σ)) ∧ NormR pk t := by
  have hh : ∃ t, (∀ σ, callL T 6 ([.agg [tp]].map .tr) σ = some (.tr t, σ)) ∧ NormR pk t := by
    obtain ⟨RR, hRR⟩ : ∃ RR : Tree → Prop, RR = NormR pk := ⟨_, rfl⟩
    rw [← hRR]
    refine call_iso T6 rfl rfl ?_
    obtain ⟨R, hR⟩ : ∃ R : V → Store → Prop, R = (fun v σ => ∃ t, snap σ deepN v = some t ∧ RR t) := ⟨_, rfl⟩
    rw [← hR]
    have hbx : ∀ σ, opBoxB true (.tr (.agg [tp])) σ = some (.tr (.rptr [tp] 0), σ) := fun σ => rfl
    have hfa : opFaddr 0 (.tr (.rptr [tp] 0)) = some (.tr (.rptr [tp] 0)) := rfl
    have hld : ∀ σ, opLoad 1 false (.tr (.rptr [tp] 0)) σ = some (.tr tp) := fun σ => rfl
    have hl := fun σ => isSl_len (σ := σ) hp
    have hbad : ∀ st, ¬ Apart pk → NoneAt st → giv [.cell 2 1 true, .tmp 3] R .ret st := fun st h1 h2 => none_res h2 fun σ => by
      rw [hR]
      exact ⟨_, snap_tr, by rw [hRR]; exact .inl ⟨h1, rfl⟩⟩
    simp [hbx, hfa, hld, hl]
    refine pkgs_loop (v0 := nilSl) hp hpr hfb hn rfl rfl ?_ ?_ ?_ ?_ ?_ ?_ ?_
    · simp
    · simp
    · simp
    · simp
    · simp
    · rintro ⟨p, hpp, hnd⟩ st hst
      exact hbad st (fun h => hnd (h.2 p hpp)) hst
    · intro e' L' σ' ps wv hnod hO h0 f2 f4
      refine norm_tail (v0 := nilSl) (by rw [← hpr.1]; exact hn) hO h0 f2 f4 ?_ ?_
      · intro hnd st hst
        exact hbad st (fun h => hnd h.1) hst
      · intro e2 L2 σ2 z hz1 hz2 hz3 hgv h02 f22 f23
        have hap : Apart pk := by
          refine ⟨?_, hnod⟩
          have h1 : z.map yK = (z.map (·.2)).map (·.1) := by
            rw [List.map_map]
            exact List.map_congr_left fun a ha => (hz2 a ha).1
          have := str_nodup hz3
          rw [h1] at this
          exact ((hz1.map _).nodup_iff).1 this
        have hob : obCells σ2 0 0 = some [wv] := by simp [obCells, h02]
        have hl : opLoad 1 true (.ptr 0 0 0) σ2 = some (mkAgg [wv]) := by
          simp only [opLoad, hob]
          rfl
        refine ⟨mkTup [mkAgg [wv], bv true], ?_, ?_⟩
        · simp only [resultA, resultsA, f22, f23, hl]
        rw [hR]
        rcases hgv with ⟨rfl, rfl⟩ | ⟨id, g, rfl, hRow⟩
        · refine ⟨_, snap_tr, ?_⟩
          rw [hRR]
          exact .inr ⟨hap, [], .sc (.slice none 0 0), rfl, .inl ⟨rfl, rfl⟩, by simpa using hz1, by simp, List.Pairwise.nil⟩
        · obtain ⟨zo, s1, s2, s3, s4⟩ := snap_pkgs (d := 396) hz2
          have hzl : zo.length = z.length := by
            have := congrArg List.length s2
            simpa using this
          refine ⟨.tup [.agg [.row ((zo.map (·.1)).flatMap fT) z.length none], .sc (.bool true)], ?_, ?_⟩
          · unfold RowV at hRow
            have hob2 : obCells σ2 id g = some (z.flatMap yV) := by simp [obCells, hRow]
            have hs := vE_slice (E := yV) yV_len (l := z) (i := 0) (k := z.length) (by omega)
            rw [Nat.zero_mul, List.drop_zero, List.take_of_length_le (Nat.le_refl _)] at hs
            have e1 : snap σ2 398 (own2 id g z.length none) = some (.row ((zo.map (·.1)).flatMap fT) z.length none) := by
              show snap σ2 (397 + 1) (own2 id g z.length none) = _
              unfold snap
              simp only [hob2, hs]
              rw [s1]
            have e2 : snap σ2 399 (.agg [own2 id g z.length none]) = some (.agg [.row ((zo.map (·.1)).flatMap fT) z.length none]) := by
              show snap σ2 (398 + 1) _ = _
              unfold snap
              simp only [snapL, e1]
            show snap σ2 (399 + 1) (.tup [.agg [own2 id g z.length none], bv true]) = _
            unfold snap
            simp only [snapL, e2, snap_tr]
          · rw [hRR]
            exact .inr ⟨hap, zo, _, rfl, .inr ⟨none, by simp [hzl]⟩, by rw [s2]; exact hz1, s4, str_of_keys s3 hz3⟩
  exact hh
end Go.Proofs.Ytodgdmhifbnofaa.AM.Sn
end
