/- The abstract machine, part 4: A44 A45 A46 A47 A48 A49 A50 A56 A51 A52 A53 A54. -/
import Derived.Test.YtolhjhjlfgfifaaGreatDoorAm3
import Derived.IntWalk
import Derived.ChangeArms
import Derived.WideShapes
section
set_option linter.unusedSimpArgs false
set_option linter.unusedVariables false
set_option linter.unusedVariables false
set_option linter.unusedSimpArgs false
namespace Go.Proofs.YtolhjhjlfgfifaaGreatDoor.AM
noncomputable section
def gOps (D : Nat) : List Nat → List HOp → GOp × List Nat
  | names, [] => (cz, names)
  | names, o :: r => (cs (gOp D names o (gK D names o.k)) (gOps D (gN names o) r).1, (gOps D (gN names o) r).2)
def hoIn (ns : List Nat) : HO → Bool
  | .val _ => true
  | .loc k => memN k ns
  | .env k => memN k ns
def hosIn (ns : List Nat) : List HO → Bool
  | [] => true
  | x :: r => hoIn ns x && hosIn ns r
def hpsIn (ns : List Nat) : List (Nat × Nat × HO) → Bool
  | [] => true
  | (_, _, x) :: r => hoIn ns x && hpsIn ns r
def hmIn (ns : List Nat) : Option HO → Bool
  | none => true
  | some x => hoIn ns x
def hkIn (ns : List Nat) : HK → Bool
  | .mv x => hoIn ns x
  | .pick c a b => hoIn ns c && hoIn ns a && hoIn ns b
  | .alloc z => true
  | .box _ x => hoIn ns x
  | .ldt _ _ a => hoIn ns a
  | .build z ps => hpsIn ns ps
  | .bslice own len size z ps => hpsIn ns ps
  | .load size agg a => hoIn ns a
  | .store size a x => hoIn ns a && hoIn ns x
  | .nilchk x => hoIn ns x
  | .bin ek op x y => hoIn ns x && hoIn ns y
  | .eqs neg offs x y => hoIn ns x && hoIn ns y
  | .un op x => hoIn ns x
  | .conv c x => hoIn ns x
  | .mkfn fn a b => hosIn ns a && hosIn ns b
  | .mkmap => true
  | .mkslice z bytes l c => hoIn ns l && hoIn ns c
  | .faddr off x => hoIn ns x
  | .field off size agg x => hoIn ns x
  | .iaddr size x i => hoIn ns x && hoIn ns i
  | .istr x i => hoIn ns x && hoIn ns i
  | .lookup kind z ok m k => hoIn ns m && hoIn ns k
  | .mupd kind m k v => hoIn ns m && hoIn ns k && hoIn ns v
  | .ment kind z m k => hoIn ns m && hoIn ns k
  | .esto m c v => hoIn ns m && hoIn ns c && hoIn ns v
  | .delete kind m k => hoIn ns m && hoIn ns k
  | .extract x i => hoIn ns x
  | .mkiface t x => hoIn ns x
  | .callf f args => hosIn ns args
  | .callv f args => hoIn ns f && hosIn ns args
  | .len k x => hoIn ns x
  | .cap x => hoIn ns x
  | .append size bytes s x => hoIn ns s && hoIn ns x
  | .qappend size bytes s x => hoIn ns s && hoIn ns x
  | .copy size d x => hoIn ns d && hoIn ns x
  | .clear z x => hoIn ns x
  | .minmax mx x l => hoIn ns x && hosIn ns l
  | .slicestr x lo hi => hoIn ns x && hmIn ns lo && hmIn ns hi
  | .slice size x lo hi mx => hoIn ns x && hmIn ns lo && hmIn ns hi && hmIn ns mx
  | .bad => true
def hgIn (ns : List Nat) : Option (HO × Bool) → Bool
  | none => true
  | some (x, _) => hoIn ns x
abbrev Chk := Nat × (FS → Bool)
abbrev GOpD := GCall → K → ET → List V → FS → List Chk → R
def pAll (i : Nat) (s : FS) (ps : List Chk) : Bool := List.rec (motive := fun _ => Bool) true (fun p _ ih => Bool.rec (motive := fun _ => Bool) (Bool.rec (motive := fun _ => Bool) false ih (p.2 s)) ih (Nat.blt p.1 i)) ps
def isR (r : R) : Bool := Option.rec (motive := fun _ => Bool) false (fun _ => true) r
def dz (i : Nat) : GOpD := fun _ k e l s ps => Bool.rec (motive := fun _ => R) none (k e l s) (pAll i s ps)
def d2 (i : Nat) (o : GOp) (r : GOpD) : GOpD := fun c k e l s ps => Bool.rec (motive := fun _ => R) none (o c (fun e l s => r c k e l s ps) e l s) (pAll i s ps)
def d1 (o : GOp) (r : GOpD) : GOpD := fun c k e l s ps => o c (fun e l s => r c k e l s ps) e l s
def again (g : GK) (c : GCall) (e : ET) (l : List V) (s s2 : FS) : Bool := isR (g c (fun v _ => g c (fun v2 _ => bif2 (eqV v2 v) (some (undefV, s2)) none) e l s2) e l s)
def d3 (h : Nat) (g : GK) (o : GOp) (r : GOpD) : GOpD := fun c k e l s ps => o c (fun e' l' s' => r c k e' l' s' ((h, again g c e l s) :: ps)) e l s
def dBad : GOpD := fun _ _ _ _ _ _ => none
def dG (x : GO) (want : Bool) (a b : GOpD) : GOpD := fun c k e l s ps => gGF x want (fun c k e l s => a c k e l s ps) (fun c k e l s => b c k e l s ps) c k e l s
def gOpD (D : Nat) (names : List Nat) (i c : Nat) (ns : List Nat) (o : HOp) (r : GOpD) : GOpD :=
  match hkIn ns o.k && hgIn ns o.guard with
  | false => dBad
  | true => match c with
    | 0 => d1 (gOp D names o (gK D names o.k)) r
    | 1 => d1 (gOp D names o (kQuiet (gK D names o.k))) r
    | 2 => d2 i (gOp D names o (gK D names o.k)) r
    | h + 3 => match o.guard with
      | none => d3 h (gK D names o.k) (gOp D names o (gK D names o.k)) r
      | some (x, want) => dG (gO D names x) want (d3 h (gK D names o.k) (gW D o (gK D names o.k)) r) (d1 (gW D o kUndef) r)
def gOpsD (D : Nat) : Nat → List Nat → List (Nat × List Nat) → List HOp → GOpD × List Nat
  | i, names, [], [] => (dz i, names)
  | i, names, (c, ns) :: is, o :: os => (gOpD D names i c ns o (gOpsD D (i + 1) (gN names o) is os).1, (gOpsD D (i + 1) (gN names o) is os).2)
  | _, names, _, _ => (dBad, names)
def cRegD (o : GOpD) : GC := fun c _ _ k e _ s => o c k e [] s []
def xit : Nat → GC
  | 0 => xZ
  | i + 1 => xS (xit i)
def gC (D : Nat) : List Nat → List Nat → HCode → GC × List Nat
  | ids, names, .skip => (cSkip, names)
  | ids, names, .region ops dr => match dr with
    | none => (cReg (gOps D [] ops).1, (gOps D [] ops).2)
    | some is => (cRegD (gOpsD D 0 [] is ops).1, (gOpsD D 0 [] is ops).2)
  | ids, names, .seq a b => (cSeq (gC D ids names a).1 (gC D ids (gC D ids names a).2 b).1, (gC D ids (gC D ids names a).2 b).2)
  | ids, names, .cond x a b => (cCondF (gO D names x) (gC D ids names a).1 (gC D ids names b).1, [])
  | ids, names, .block id b => (cBlock (gC D (id :: ids) names b).1, [])
  | ids, names, .loop b => (cLoop (gC D ids [] b).1, [])
  | ids, names, .exit id => (match ix id ids with | some i => xit i | none => cBad, [])
  | ids, names, .ret => (cRet, [])
  | ids, names, .bad => (cBad, [])
abbrev GR := (List V → R) → ET → FS → R
def rN : GR := fun k _ _ => k []
def rT (g : GE) (r : GR) : GR := fun k e s => g (fun v => r (fun vs => k (v :: vs)) e s) e
def rC (g : GE) (size : Nat) (agg : Bool) (r : GR) : GR := fun k e s => g (fun a => optR (ldG size agg a s) fun v => r (fun vs => k (v :: vs)) e s) e
def rBad : GR := fun _ _ _ => none
def gRs (D : Nat) : List HRes → GR
  | [] => rN
  | .tmp x :: r => match Nat.blt x (2 ^ D) with | true => rT (eP (bits D x)) (gRs D r) | false => rBad
  | .cell x size agg :: r => match Nat.blt x (2 ^ D) with | true => rC (eP (bits D x)) size agg (gRs D r) | false => rBad
def fin (r : GR) : K := fun e _ s => r (fun vs => match vs with | [v] => some (v, s) | vs => some (mkTup vs, s)) e s
abbrev GA := (ET → R) → ET → List V → R
def gaN : GA := fun k e vs => List.rec (motive := fun _ => R) (k e) (fun _ _ _ => none) vs
def gaC (w : GS) (r : GA) : GA := fun k e vs => List.rec (motive := fun _ => R) none (fun v t _ => w v (fun e => r k e t) e) vs
def gaBad : GA := fun _ _ _ => none
def gArgs (D : Nat) : Nat → Nat → GA
  | 0, _ => gaN
  | n + 1, i => match Nat.blt i (2 ^ D) with | true => gaC (sP (bits D i)) (gArgs D n (i + 1)) | false => gaBad
abbrev GFn := GCall → List V → FS → R
def fnB (a : GA) (c : GC) (k : K) : GFn := fun call vs s => a (fun e => c call [] k k e [] s) .z0 vs
def gFn (D : Nat) (fn : HFn) : GFn := match fn.dfr with
  | none => fnB (gArgs D fn.nargs 0) (gC D [] [] fn.code).1 (fin (gRs D fn.results))
  | some _ => fun _ _ _ => none
theorem gFn_dfr {D : Nat} {fn : HFn} {c : GCall} {vs : List V} {s : FS} {r : V × FS} (h : gFn D fn c vs s = some r) : fn.dfr = none ∧ fnB (gArgs D fn.nargs 0) (gC D [] [] fn.code).1 (fin (gRs D fn.results)) c vs s = some r := by
  unfold gFn at h
  cases hd : fn.dfr with
  | none => rw [hd] at h; exact ⟨rfl, h⟩
  | some d => rw [hd] at h; cases h
def extR2 (k : Nat) (vs : List V) (s : FS) : Option V → Option (V × FS)
  | some v => some (v, s)
  | none => optR (extW k vs (toL s)) fun p => some (p.1, ofL p.2)
def gExt (n k : Nat) : GFn := fun _ vs s => bif2 (Nat.beq n vs.length) (extR2 k vs s (extV k vs (toL s))) none
abbrev TabG := FuncId → Option GFn
def callG (TG : TabG) (n : Nat) : GCall := Nat.rec (motive := fun _ => GCall) (fun _ _ _ => none) (fun _ ih f vs s => optR (TG f) (fun g => g ih vs s)) n
end
def Rel (D : Nat) (names : List Nat) (e : ET) (l : List V) (s : FS) (st : St) : Prop := ERel D e st.env ∧ LRel names l st.loc ∧ SRel s st.σ
section
variable {D : Nat} {names : List Nat} {e : ET} {l : List V} {st : St} {s : FS} {c : GCall} {cas : Nat → CallA}
theorem isB_eq (b w : Bool) : isB b w = (b == w) := by cases b <;> cases w <;> rfl
theorem gW_some (hr : Rel D names e l s st) {o : HOp} {g : GK} {k : K} {r : V × FS} {X : Nat → V → Store → Prop}
    (hg : ∀ (k : V → FS → R) (r : V × FS), g c k e l s = some r → ∃ m v s' σ', X m v σ' ∧ SRel s' σ' ∧ k v s' = some r) (h : gW D o g c k e l s = some r) :
    ∃ e' l' s' st' m v σ', Rel D (gN names o) e' l' s' st' ∧ k e' l' s' = some r ∧ X m v σ' ∧ st' = ({ st with σ := σ' } : St).set o.dst o.inK v := by
  unfold gW at h
  unfold gN
  cases hd : o.dst with
  | none =>
    rw [hd] at h
    obtain ⟨m, v, s', σ', h1, h2, h3⟩ := hg _ _ h
    exact ⟨e, l, s', ⟨st.env, st.loc, σ'⟩, m, v, σ', ⟨hr.1, hr.2.1, h2⟩, h3, h1, rfl⟩
  | some d =>
    rw [hd] at h
    cases hk : o.inK with
    | false =>
      rw [hk] at h
      obtain ⟨m, v, s', σ', h1, h2, h3⟩ := hg _ _ h
      exact ⟨e, v :: l, s', ⟨st.env, (d, v) :: st.loc, σ'⟩, m, v, σ', ⟨hr.1, hr.2.1.push d v, h2⟩, h3, h1, rfl⟩
    | true =>
      rw [hk] at h
      cases hb : Nat.blt d (2 ^ D) with
      | false =>
        simp only [hb] at h
        cases h
      | true =>
        simp only [hb] at h
        obtain ⟨m, v, s', σ', h1, h2, h3⟩ := hg _ _ h
        rw [sP_eq] at h3
        exact ⟨_, l, s', ⟨put st.env d v, st.loc, σ'⟩, m, v, σ', ⟨hr.1.put (by simpa only [Nat.blt_eq] using hb) v, hr.2.1, h2⟩, h3, h1, rfl⟩
theorem gOp_some (hr : Rel D names e l s st) {o : HOp} {g : GK} {k : K} {r : V × FS} {X : Nat → V → Store → Prop}
    (hg : ∀ (k : V → FS → R) (r : V × FS), g c k e l s = some r → ∃ m v s' σ', X m v σ' ∧ SRel s' σ' ∧ k v s' = some r) (h : gOp D names o g c k e l s = some r) :
    ∃ e' l' s' st', Rel D (gN names o) e' l' s' st' ∧ k e' l' s' = some r ∧
      ((guardA st o.guard = some true ∧ ∃ m v σ', X m v σ' ∧ st' = ({ st with σ := σ' } : St).set o.dst o.inK v) ∨ (guardA st o.guard = some false ∧ st' = st.set o.dst o.inK undefV)) := by
  have hu : ∀ {k : K} {r : V × FS}, gW D o kUndef c k e l s = some r → ∃ e' l' s' st', Rel D (gN names o) e' l' s' st' ∧ k e' l' s' = some r ∧ st' = st.set o.dst o.inK undefV := by
    intro k r h
    obtain ⟨e', l', s', st', m, v, σ', h1, h2, ⟨h3, h4⟩, h5⟩ := gW_some (X := fun _ v σ' => v = undefV ∧ σ' = st.σ) hr (fun k r h => ⟨0, undefV, s, st.σ, ⟨rfl, rfl⟩, hr.2.2, h⟩) h
    subst h3
    subst h4
    exact ⟨e', l', s', st', h1, h2, h5⟩
  unfold gOp at h
  cases hgd : o.guard with
  | none =>
    rw [hgd] at h
    obtain ⟨e', l', s', st', m, v, σ', h1, h2, h3, h4⟩ := gW_some hr hg h
    exact ⟨e', l', s', st', h1, h2, .inl ⟨rfl, m, v, σ', h3, h4⟩⟩
  | some p =>
    obtain ⟨x, want⟩ := p
    rw [hgd] at h
    simp only [gGF_eq] at h
    obtain ⟨v, h1, h2⟩ := gO_some hr.1 hr.2.1 (x := x) h
    simp only [guardA, h1]
    split at h2
    · rename_i u
      rw [isB_eq] at h2
      cases hb : (u == want) with
      | true =>
        rw [hb] at h2
        obtain ⟨e', l', s', st', m, v, σ', h1, h2, h3, h4⟩ := gW_some hr hg h2
        exact ⟨e', l', s', st', h1, h2, .inl ⟨by simp only [hb], m, v, σ', h3, h4⟩⟩
      | false =>
        rw [hb] at h2
        obtain ⟨e', l', s', st', h1, h2, h3⟩ := hu h2
        exact ⟨e', l', s', st', h1, h2, .inr ⟨by simp only [hb], h3⟩⟩
    · obtain ⟨e', l', s', st', h1, h2, h3⟩ := hu h2
      exact ⟨e', l', s', st', h1, h2, .inr ⟨rfl, h3⟩⟩
    · cases h2
theorem gOps_some (hc : CallEx c cas) (hm : MonoC cas) : ∀ {ops : List HOp} {names : List Nat} {e : ET} {l : List V} {s : FS} {st : St} {k : K} {r : V × FS}, Rel D names e l s st → (gOps D names ops).1 c k e l s = some r →
    ∃ m e' l' s' st', opsRun (cas m) ops st = some st' ∧ Rel D (gOps D names ops).2 e' l' s' st' ∧ k e' l' s' = some r
  | [], names, e, l, s, st, k, r, hr, h => ⟨0, e, l, s, st, rfl, hr, h⟩
  | o :: os, names, e, l, s, st, k, r, hr, h => by
    obtain ⟨e1, l1, s1, st1, h1, h2, h3⟩ := gOp_some (X := fun m v σ' => opA (cas m) o.k st = some (v, σ')) hr (fun k r h => gK_some hr.1 hr.2.1 hr.2.2 hc h) h
    obtain ⟨m2, e2, l2, s2, st2, h4, h5, h6⟩ := gOps_some hc hm (ops := os) h1 h2
    rcases h3 with ⟨hg, m, v, σ', h7, h8⟩ | ⟨hg, h8⟩
    · refine ⟨max m m2, e2, l2, s2, st2, ?_, h5, h6⟩
      simp only [opsRun, opStep, hg, opA_le (hm m _ (Nat.le_max_left ..)) h7, ← h8]
      exact opsRun_le (hm m2 _ (Nat.le_max_right ..)) h4
    · refine ⟨m2, e2, l2, s2, st2, ?_, h5, h6⟩
      simp only [opsRun, opStep, hg, ← h8]
      exact h4
theorem look_only {k : Nat} (env : List (Nat × V)) : ∀ {ns : List Nat}, memN k ns = true → look (onlyL env ns) k = look env k
  | [], h => by cases h
  | t :: r, h => by
    simp only [memN, Bool.or_eq_true] at h
    simp only [onlyL]
    cases ht : look env t with
    | some v =>
      simp only [look]
      by_cases hk : Nat.beq k t = true
      · rw [if_pos hk, Nat.eq_of_beq_eq_true hk, ht]
      · rw [if_neg hk]
        rcases h with h | h
        · rw [Nat.eq_of_beq_eq_true h] at hk
          simp at hk
        · exact look_only env h
    | none =>
      simp only
      rcases h with h | h
      · have := Nat.eq_of_beq_eq_true h
        subst this
        by_cases hr : memN t r = true
        · exact look_only env hr
        · rw [ht]
          have : ∀ (r : List Nat), ¬ memN t r = true → look (onlyL env r) t = none := by
            intro r
            induction r with
            | nil => intro _; rfl
            | cons a r ih =>
              intro h
              simp only [memN, Bool.or_eq_true, not_or] at h
              simp only [onlyL]
              cases ha : look env a with
              | some u =>
                simp only [look]
                rw [if_neg (fun hh => h.1 (by rw [Nat.eq_of_beq_eq_true hh]; simp))]
                exact ih h.2
              | none => exact ih h.2
          exact this r hr
      · exact look_only env h
theorem get_only {ns : List Nat} {x : HO} (h : hoIn ns x = true) (st : St) : (st.only ns).get x = st.get x := by
  cases x with
  | val v => rfl
  | loc k => exact look_only _ h
  | env k => exact look_only _ h
theorem gets_only {ns : List Nat} (st : St) : ∀ {xs : List HO}, hosIn ns xs = true → (st.only ns).gets xs = st.gets xs
  | [], _ => rfl
  | x :: xs, h => by
    simp only [hosIn, Bool.and_eq_true] at h
    simp only [St.gets, get_only h.1, gets_only st h.2]
theorem getp_only {ns : List Nat} (st : St) : ∀ {xs : List (Nat × Nat × HO)}, hpsIn ns xs = true → (st.only ns).getp xs = st.getp xs
  | [], _ => rfl
  | (_, _, x) :: xs, h => by
    simp only [hpsIn, Bool.and_eq_true] at h
    simp only [St.getp, get_only h.1, getp_only st h.2]
theorem geto_only {ns : List Nat} (st : St) {x : Option HO} (h : hmIn ns x = true) : (st.only ns).geto x = st.geto x := by
  cases x with
  | none => rfl
  | some x => simp only [St.geto, get_only (show hoIn ns x = true from h)]
theorem only_σ (st : St) (ns : List Nat) : (st.only ns).σ = st.σ := rfl
theorem opA_only {ns : List Nat} {hk : HK} (h : hkIn ns hk = true) (call : CallA) (st : St) : opA call hk (st.only ns) = opA call hk st := by
  cases hk <;> simp only [hkIn, Bool.and_eq_true] at h <;>
    simp only [opA, o_mv, o_pick, o_alloc, o_box, o_build, o_bslice, o_load, o_ldt, o_store, o_nilchk, o_bin, o_eqs, o_un, o_conv, o_mkfn, o_mkmap, o_mkslice, o_faddr, o_field, o_iaddr, o_istr, o_lookup, o_mupd, o_ment, o_esto, o_delete,
      o_extract, o_mkiface, o_callf, o_callv, o_len, o_cap, o_append, o_qappend, o_copy, o_clear, o_minmax, o_slicestr, o_slice, only_σ, get_only, gets_only, getp_only, geto_only, h]
theorem guard_only {ns : List Nat} {g : Option (HO × Bool)} (h : hgIn ns g = true) (st : St) : guardA (st.only ns) g = guardA st g := by
  cases g with
  | none => rfl
  | some p =>
    obtain ⟨x, w⟩ := p
    simp only [guardA, get_only (show hoIn ns x = true from h)]
theorem quietG_ex (hc : CallEx c cas) : CallEx (quietG c) (fun m => quietCall (cas m)) := by
  intro f vs s v s' σ h hs
  unfold quietG at h
  rw [toL_eq hs] at h
  unfold quietCall
  split at h
  · cases h
  · rename_i ts hts
    split at h
    · cases h
    · rename_i u s1 hu
      split at h
      · rename_i t ht
        cases h
        obtain ⟨m, σ1, h3, h4⟩ := hc _ _ _ _ _ _ hu SRel.nil
        rw [toL_eq h4] at ht
        refine ⟨m, σ, ?_, hs⟩
        simp only [hts, h3, ht]
      · rename_i hF
        split at h
        · cases h
        · rename_i t ht
          obtain ⟨h1, h2⟩ := bif2_some h
          cases h2
          obtain ⟨m, σ1, h3, h4⟩ := hc _ _ _ _ _ _ hu SRel.nil
          rw [toL_eq h4] at ht hF
          refine ⟨m, σ, ?_, hs⟩
          simp only [hts, h3, hF, ht, h1, if_true]
theorem freshG_eq {s s' : FS} {σ σ' : Store} (hs : SRel s σ) (hs' : SRel s' σ') : freshG s s' = freshOk σ σ' := by
  unfold freshG freshOk obVs
  rw [hs'.2.2, hs.1]
  split
  · rename_i cs g h
    rw [h]
  · rename_i hno
    split
    · rename_i cs g h
      exact absurd h (hno cs g)
    · rfl
def PRel (cas : Nat → CallA) : List Chk → List Pend → Prop
  | [], [] => True
  | g :: gs, p :: ps => g.1 = p.h ∧ (∀ s σ, SRel s σ → g.2 s = true → ∃ m, pendOk (cas m) σ p = true) ∧ PRel cas gs ps
  | _, _ => False
theorem pAll_some (hm : MonoC cas) {i : Nat} {s : FS} {σ : Store} (hs : SRel s σ) : ∀ {gs : List Chk} {ps : List Pend}, PRel cas gs ps → pAll i s gs = true → ∃ m, pendAll (cas m) i σ ps = true
  | [], [], _, _ => ⟨0, rfl⟩
  | g :: gs, p :: ps, h, e => by
    obtain ⟨h1, h2, h3⟩ := h
    have e : Bool.rec (motive := fun _ => Bool) (Bool.rec (motive := fun _ => Bool) false (pAll i s gs) (g.2 s)) (pAll i s gs) (Nat.blt g.1 i) = true := e
    have key : ∃ m, (Nat.blt p.h i || pendOk (cas m) σ p) = true := by
      cases hb : Nat.blt g.1 i with
      | true => exact ⟨0, by rw [← h1, hb]; rfl⟩
      | false =>
        rw [hb] at e
        cases hg : g.2 s with
        | false => rw [hg] at e; cases e
        | true =>
          obtain ⟨m, hm⟩ := h2 s σ hs hg
          exact ⟨m, by rw [hm, Bool.or_true]⟩
    have hr : pAll i s gs = true := by
      cases hb : Nat.blt g.1 i with
      | true => rw [hb] at e; exact e
      | false =>
        rw [hb] at e
        cases hg : g.2 s with
        | false => rw [hg] at e; cases e
        | true => rw [hg] at e; exact e
    obtain ⟨m1, k1⟩ := key
    obtain ⟨m2, k2⟩ := pAll_some hm hs h3 hr
    refine ⟨max m1 m2, ?_⟩
    have k2' := pendAll_le (hm m2 (max m1 m2) (Nat.le_max_right ..)) k2
    unfold pendAll at k2' ⊢
    rw [List.all_cons, k2', Bool.and_true]
    simp only [Bool.or_eq_true] at k1 ⊢
    rcases k1 with k1 | k1
    · exact .inl k1
    · exact .inr (pendOk_le (hm m1 (max m1 m2) (Nat.le_max_left ..)) k1)
  | [], _ :: _, h, _ => h.elim
  | _ :: _, [], h, _ => h.elim
theorem isR_some {r : R} (h : isR r = true) : ∃ p, r = some p := by
  cases r with
  | none => cases h
  | some p => exact ⟨p, rfl⟩
theorem gOpsD_some (hc : CallEx c cas) (hm : MonoC cas) : ∀ {is : List (Nat × List Nat)} {ops : List HOp} {i : Nat} {names : List Nat} {e : ET} {l : List V} {s : FS} {st : St} {gs : List Chk} {ps : List Pend} {k : K} {r : V × FS},
    Rel D names e l s st → PRel cas gs ps → (gOpsD D i names is ops).1 c k e l s gs = some r →
    ∃ m e' l' s' st', opsRunD (cas m) i ps is ops st = some st' ∧ Rel D (gOpsD D i names is ops).2 e' l' s' st' ∧ k e' l' s' = some r
  | [], [], i, names, e, l, s, st, gs, ps, k, r, hr, hp, h => by
    have h : Bool.rec (motive := fun _ => R) none (k e l s) (pAll i s gs) = some r := h
    cases hb : pAll i s gs with
    | false => rw [hb] at h; cases h
    | true =>
      rw [hb] at h
      obtain ⟨m, k1⟩ := pAll_some hm hr.2.2 hp hb
      exact ⟨m, e, l, s, st, by simp only [opsRunD, k1, if_true], hr, h⟩
  | (n, ns) :: is, o :: os, i, names, e, l, s, st, gs, ps, k, r, hr, hp, h => by
    have h : gOpD D names i n ns o (gOpsD D (i + 1) (gN names o) is os).1 c k e l s gs = some r := h
    unfold gOpD at h
    cases hin : hkIn ns o.k && hgIn ns o.guard with
    | false => rw [hin] at h; cases h
    | true =>
      rw [hin] at h
      simp only [Bool.and_eq_true] at hin
      have fin : ∀ (gs' : List Chk) (e1 : ET) (l1 : List V) (s1 : FS) (st1 : St), Rel D (gN names o) e1 l1 s1 st1 → (gOpsD D (i + 1) (gN names o) is os).1 c k e1 l1 s1 gs' = some r → (∃ m, opStepD (cas m) n ns o st = some st1) →
          (Nat.beq n 2 = true → ∃ m, pendAll (cas m) i st.σ ps = true) → (∀ m st', opStepD (cas m) n ns o st = some st' → PRel cas gs' (pendAdd (cas m) n ns o st ps)) →
          ∃ m e' l' s' st', opsRunD (cas m) i ps ((n, ns) :: is) (o :: os) st = some st' ∧ Rel D (gOpsD D (i + 1) (gN names o) is os).2 e' l' s' st' ∧ k e' l' s' = some r := by
        intro gs' e1 l1 s1 st1 h1 h2 hst hpa hpr
        obtain ⟨m1, hst⟩ := hst
        obtain ⟨m2, e2, l2, s2, st2, h4, h5, h6⟩ := gOpsD_some hc hm (is := is) (ops := os) h1 (hpr m1 st1 hst) h2
        obtain ⟨m0, hpa'⟩ : ∃ m0, Nat.beq n 2 = true → pendAll (cas m0) i st.σ ps = true := by
          cases hb : Nat.beq n 2 with
          | true =>
            obtain ⟨m0, h⟩ := hpa hb
            exact ⟨m0, fun _ => h⟩
          | false => exact ⟨0, fun h => by cases h⟩
        have l0 : m0 ≤ max m0 (max m1 m2) := Nat.le_max_left ..
        have l1' : m1 ≤ max m0 (max m1 m2) := Nat.le_trans (Nat.le_max_left ..) (Nat.le_max_right ..)
        have l2' : m2 ≤ max m0 (max m1 m2) := Nat.le_trans (Nat.le_max_right ..) (Nat.le_max_right ..)
        refine ⟨max m0 (max m1 m2), e2, l2, s2, st2, ?_, h5, h6⟩
        simp only [opsRunD]
        have hno : ¬ (Nat.beq n 2 && !pendAll (cas (max m0 (max m1 m2))) i st.σ ps) = true := by
          intro hh
          simp only [Bool.and_eq_true, Bool.not_eq_true'] at hh
          rw [pendAll_le (hm _ _ l0) (hpa' hh.1)] at hh
          cases hh.2
        rw [if_neg hno, opStepD_le (hm _ _ l1') hst]
        simp only
        rw [pendAdd_le (hm _ _ l1') hst]
        exact opsRunD_le (hm _ _ l2') h4
      have step : ∀ (g : GK) (gs' : List Chk), (∀ (k : V → FS → R) (r : V × FS), g c k e l s = some r →
            ∃ m v s' σ', (opA (if Nat.beq n 1 = true then quietCall (cas m) else cas m) o.k st = some (v, σ') ∧ (Nat.beq n 1 = true → freshOk st.σ σ' = true)) ∧ SRel s' σ' ∧ k v s' = some r) →
          gOp D names o g c (fun e l s => (gOpsD D (i + 1) (gN names o) is os).1 c k e l s gs') e l s = some r → (Nat.beq n 2 = true → ∃ m, pendAll (cas m) i st.σ ps = true) →
          (∀ m st', opStepD (cas m) n ns o st = some st' → PRel cas gs' (pendAdd (cas m) n ns o st ps)) →
          ∃ m e' l' s' st', opsRunD (cas m) i ps ((n, ns) :: is) (o :: os) st = some st' ∧ Rel D (gOpsD D (i + 1) (gN names o) is os).2 e' l' s' st' ∧ k e' l' s' = some r := by
        intro g gs' hg h hpa hpr
        obtain ⟨e1, l1, s1, st1, h1, h2, h3⟩ := gOp_some (X := fun m v σ' => opA (if Nat.beq n 1 = true then quietCall (cas m) else cas m) o.k st = some (v, σ') ∧ (Nat.beq n 1 = true → freshOk st.σ σ' = true)) hr hg h
        have hst : ∃ m, opStepD (cas m) n ns o st = some st1 := by
          rcases h3 with ⟨hgd, m, v, σ', ⟨h7, h9⟩, h8⟩ | ⟨hgd, h8⟩
          · refine ⟨m, ?_⟩
            have h11 : ¬ (Nat.beq n 1 && !freshOk st.σ σ') = true := by
              cases hi : Nat.beq n 1 with
              | true => simp [h9 hi]
              | false => simp
            simp only [opStepD, guard_only hin.2, hgd, opA_only hin.1, h7, if_neg h11, ← h8]
          · exact ⟨0, by simp only [opStepD, guard_only hin.2, hgd, ← h8]⟩
        exact fin gs' e1 l1 s1 st1 h1 h2 hst hpa hpr
      match n, h, step, fin with
      | 0, h, step, fin => exact step _ _ (fun k r h => by
          obtain ⟨m, v, s', σ', h1, h2, h3⟩ := gK_some hr.1 hr.2.1 hr.2.2 hc h
          exact ⟨m, v, s', σ', ⟨h1, fun h => by cases h⟩, h2, h3⟩) h (fun h => by cases h) (fun m st' _ => hp)
      | 1, h, step, fin => exact step _ _ (fun k r h => by
          obtain ⟨m, v, s', σ', h1, h2, h3⟩ := gK_some hr.1 hr.2.1 hr.2.2 (quietG_ex hc) (k := fun v s' => bif2 (freshG s s') (k v s') none) h
          obtain ⟨h4, h5⟩ := bif2_some h3
          rw [freshG_eq hr.2.2 h2] at h4
          exact ⟨m, v, s', σ', ⟨h1, fun _ => h4⟩, h2, h5⟩) h (fun h => by cases h) (fun m st' _ => hp)
      | 2, h, step, fin =>
        have h : Bool.rec (motive := fun _ => R) none (gOp D names o (gK D names o.k) c (fun e l s => (gOpsD D (i + 1) (gN names o) is os).1 c k e l s gs) e l s) (pAll i s gs) = some r := h
        cases hb : pAll i s gs with
        | false => rw [hb] at h; cases h
        | true =>
          rw [hb] at h
          exact step _ _ (fun k r h => by
            obtain ⟨m, v, s', σ', h1, h2, h3⟩ := gK_some hr.1 hr.2.1 hr.2.2 hc h
            exact ⟨m, v, s', σ', ⟨h1, fun h => by cases h⟩, h2, h3⟩) h (fun _ => pAll_some hm hr.2.2 hp hb) (fun m st' _ => hp)
      | n + 3, h, step, fin =>
        have hb1 : Nat.beq (n + 3) 1 = false := rfl
        have pend : ∀ (hgt : guardA (st.only ns) o.guard = some true) (m : Nat) (st' : St), opStepD (cas m) (n + 3) ns o st = some st' → PRel cas ((n, again (gK D names o.k) c e l s) :: gs) (pendAdd (cas m) (n + 3) ns o st ps) := by
          intro hgt m st' hst
          have hop : ∃ v σ', opA (cas m) o.k (st.only ns) = some (v, σ') := by
            unfold opStepD at hst
            rw [hgt] at hst
            simp only [hb1, Bool.false_eq_true, if_false] at hst
            split at hst
            · rename_i v σ' h
              exact ⟨v, σ', h⟩
            · cases hst
          obtain ⟨v, σ', hop⟩ := hop
          have hadd : pendAdd (cas m) (n + 3) ns o st ps = ⟨n, o.k, st.only ns, v⟩ :: ps := by
            simp only [pendAdd, hgt, hop]
          rw [hadd]
          refine ⟨rfl, fun s2 σ2 hs2 hag => ?_, hp⟩
          obtain ⟨p, hag⟩ := isR_some hag
          obtain ⟨m1, v1, s1, σ1, g1, _, g2⟩ := gK_some hr.1 hr.2.1 hr.2.2 hc hag
          obtain ⟨m2, v2, s3, σ3, g3, _, g4⟩ := gK_some (st := { st with σ := σ2 }) hr.1 hr.2.1 hs2 hc g2
          obtain ⟨g5, _⟩ := bif2_some g4
          have h1 := opA_le (hm m1 (max m m1) (Nat.le_max_right ..)) g1
          have h2 := opA_le (hm m (max m m1) (Nat.le_max_left ..)) hop
          rw [opA_only hin.1] at h2
          rw [h1] at h2
          cases h2
          refine ⟨m2, ?_⟩
          unfold pendOk
          have h3 : opA (cas m2) o.k { (st.only ns) with σ := σ2 } = some (v2, σ3) := by
            rw [← g3]
            exact opA_only hin.1 (cas m2) { st with σ := σ2 }
          simp only [h3]
          exact g5
        cases hgd : o.guard with
        | some x =>
          obtain ⟨x, want⟩ := x
          simp only [hgd] at h
          have h : gGF (gO D names x) want (fun c k e l s => gW D o (gK D names o.k) c (fun e' l' s' => (gOpsD D (i + 1) (gN names o) is os).1 c k e' l' s' ((n, again (gK D names o.k) c e l s) :: gs)) e l s) (fun c k e l s => gW D o kUndef c (fun e' l' s' => (gOpsD D (i + 1) (gN names o) is os).1 c k e' l' s' gs) e l s) c k e l s = some r := h
          have yes : guardA st o.guard = some true → gW D o (gK D names o.k) c (fun e' l' s' => (gOpsD D (i + 1) (gN names o) is os).1 c k e' l' s' ((n, again (gK D names o.k) c e l s) :: gs)) e l s = some r → ∃ m e' l' s' st', opsRunD (cas m) i ps ((n + 3, ns) :: is) (o :: os) st = some st' ∧ Rel D (gOpsD D (i + 1) (gN names o) is os).2 e' l' s' st' ∧ k e' l' s' = some r := by
            intro hgt h
            obtain ⟨e1, l1, s1, st1, m, v, σ', h1, h2, h3, h4⟩ := gW_some (X := fun m v σ' => opA (cas m) o.k st = some (v, σ')) hr (fun k r h => gK_some hr.1 hr.2.1 hr.2.2 hc h) h
            refine fin _ e1 l1 s1 st1 h1 h2 ⟨m, ?_⟩ (fun h => by cases h) (pend (by rw [guard_only hin.2]; exact hgt))
            simp only [opStepD, guard_only hin.2, hgt, hb1, Bool.false_eq_true, if_false, opA_only hin.1, h3, Bool.false_and, ← h4]
          have no : guardA st o.guard = some false → gW D o kUndef c (fun e' l' s' => (gOpsD D (i + 1) (gN names o) is os).1 c k e' l' s' gs) e l s = some r → ∃ m e' l' s' st', opsRunD (cas m) i ps ((n + 3, ns) :: is) (o :: os) st = some st' ∧ Rel D (gOpsD D (i + 1) (gN names o) is os).2 e' l' s' st' ∧ k e' l' s' = some r := by
            intro hgt h
            obtain ⟨e1, l1, s1, st1, m, v, σ', h1, h2, ⟨h3, h3'⟩, h4⟩ := gW_some (X := fun _ v σ' => v = undefV ∧ σ' = st.σ) hr (fun k r h => ⟨0, undefV, s, st.σ, ⟨rfl, rfl⟩, hr.2.2, h⟩) h
            subst h3 h3'
            have hst : opStepD (cas m) (n + 3) ns o st = some st1 := by simp only [opStepD, guard_only hin.2, hgt, ← h4]
            refine fin _ e1 l1 s1 st1 h1 h2 ⟨m, hst⟩ (fun h => by cases h) (fun m st' _ => ?_)
            simp only [pendAdd, guard_only hin.2, hgt]
            exact hp
          simp only [gGF_eq] at h
          obtain ⟨v, h1, h2⟩ := gO_some hr.1 hr.2.1 (x := x) h
          split at h2
          · rename_i u
            rw [isB_eq] at h2
            cases hb : (u == want) with
            | true =>
              rw [hb] at h2
              exact yes (by rw [hgd]; simp only [guardA, h1, hb]) h2
            | false =>
              rw [hb] at h2
              exact no (by rw [hgd]; simp only [guardA, h1, hb]) h2
          · exact no (by rw [hgd]; simp only [guardA, h1]) h2
          · cases h2
        | none =>
          simp only [hgd] at h
          refine step _ _ (fun k r h => by
            obtain ⟨m, v, s', σ', h1, h2, h3⟩ := gK_some hr.1 hr.2.1 hr.2.2 hc h
            exact ⟨m, v, s', σ', ⟨by rw [hb1]; exact h1, fun h => by rw [hb1] at h; cases h⟩, h2, h3⟩) h (fun h => by cases h) (pend (by rw [hgd]; rfl))
  | [], _ :: _, i, names, e, l, s, st, gs, ps, k, r, hr, hp, h => by cases h
  | _ :: _, [], i, names, e, l, s, st, gs, ps, k, r, hr, hp, h => by cases h
end
end Go.Proofs.YtolhjhjlfgfifaaGreatDoor.AM
end
section
set_option linter.unusedSimpArgs false
set_option linter.unusedVariables false
set_option linter.unusedVariables false
set_option linter.unusedSimpArgs false
namespace Go.Proofs.YtolhjhjlfgfifaaGreatDoor.AM
section
variable {D : Nat} {T : FTab} {c : GCall}
def Ends (D : Nat) (ids names' : List Nat) (ex : List K) (ret k : K) (r : V × FS) (out : Out) (st' : St) : Prop :=
  match out with
  | .normal => ∃ e l s, Rel D names' e l s st' ∧ k e l s = some r
  | .exit id => ∃ i kx e l s, ix id ids = some i ∧ ex[i]? = some kx ∧ Rel D [] e l s st' ∧ kx e l s = some r
  | .ret => ∃ e l s, Rel D [] e l s st' ∧ ret e l s = some r
theorem Rel.weak {names : List Nat} {e : ET} {l : List V} {s : FS} {st : St} (h : Rel D names e l s st) : Rel D [] e l s st := ⟨h.1, LRel.nil _ _, h.2.2⟩
theorem Rel.nilLoc {names : List Nat} {e : ET} {l : List V} {s : FS} {st : St} (h : Rel D names e l s st) : Rel D [] e [] s { st with loc := [] } := ⟨h.1, LRel.nil _ _, h.2.2⟩
theorem xit_some {ret k : K} : ∀ {i : Nat} {ex : List K} {e : ET} {l : List V} {s : FS} {r : V × FS}, xit i c ex ret k e l s = some r → ∃ kx, ex[i]? = some kx ∧ kx e l s = some r
  | 0, [], _, _, _, _, h => by cases h
  | 0, kx :: _, _, _, _, _, h => ⟨kx, rfl, h⟩
  | i + 1, [], _, _, _, _, h => by cases h
  | i + 1, _ :: ex, e, l, s, r, h => by
    obtain ⟨kx, h1, h2⟩ := xit_some (i := i) (ex := ex) h
    exact ⟨kx, by simpa using h1, h2⟩
theorem gC_some (hc : CallEx c (callA T)) : ∀ (co : HCode) {ids names : List Nat} {ex : List K} {ret k : K} {e : ET} {l : List V} {s : FS} {st : St} {r : V × FS}, Rel D names e l s st → (gC D ids names co).1 c ex ret k e l s = some r →
    ∃ n out st', exec T n co st = some (out, st') ∧ Ends D ids (gC D ids names co).2 ex ret k r out st' := by
  intro co
  induction co with
  | skip =>
    intro ids names ex ret k e l s st r hr h
    exact ⟨1, .normal, st, by simp only [exec], e, l, s, hr, h⟩
  | region ops dr =>
    intro ids names ex ret k e l s st r hr h
    cases dr with
    | none =>
      obtain ⟨m, e', l', s', st', h1, h2, h3⟩ := gOps_some hc (callA_mono T) (ops := ops) hr.nilLoc (k := k) h
      exact ⟨m + 1, .normal, st', by simp only [exec, regionRun, h1], e', l', s', h2, h3⟩
    | some is =>
      obtain ⟨m, e', l', s', st', h1, h2, h3⟩ := gOpsD_some hc (callA_mono T) (is := is) (ops := ops) (gs := []) (ps := []) hr.nilLoc trivial (k := k) h
      exact ⟨m + 1, .normal, st', by simp only [exec, regionRun, h1], e', l', s', h2, h3⟩
  | seq a b iha ihb =>
    intro ids names ex ret k e l s st r hr h
    obtain ⟨n1, out, st1, h1, h2⟩ := iha hr (k := (gC D ids (gC D ids names a).2 b).1 c ex ret k) h
    cases out with
    | normal =>
      obtain ⟨e1, l1, s1, h3, h4⟩ := h2
      obtain ⟨n2, out, st2, h5, h6⟩ := ihb h3 h4
      refine ⟨max n1 n2 + 1, out, st2, ?_, h6⟩
      rw [exec]
      simp only [exec_mono T (Nat.le_max_left n1 n2) h1]
      exact exec_mono T (Nat.le_max_right n1 n2) h5
    | exit id => exact ⟨n1 + 1, .exit id, st1, by rw [exec]; simp only [h1], h2⟩
    | ret => exact ⟨n1 + 1, .ret, st1, by rw [exec]; simp only [h1], h2⟩
  | cond x a b iha ihb =>
    intro ids names ex ret k e l s st r hr h
    simp only [gC, cCondF_eq] at h
    obtain ⟨v, h1, h2⟩ := gO_some hr.1 hr.2.1 (x := x) h
    have hw : ∀ {names' : List Nat} {out : Out} {st' : St}, Ends D ids names' ex ret k r out st' → Ends D ids [] ex ret k r out st' := by
      intro names' out st' h
      cases out with
      | normal =>
        obtain ⟨e', l', s', h3, h4⟩ := h
        exact ⟨e', l', s', h3.weak, h4⟩
      | exit id => exact h
      | ret => exact h
    split at h2
    · rename_i u
      cases u with
      | true =>
        obtain ⟨n, out, st', h3, h4⟩ := iha hr h2
        exact ⟨n + 1, out, st', by rw [exec]; simp only [h1, asBool?, h3], hw h4⟩
      | false =>
        obtain ⟨n, out, st', h3, h4⟩ := ihb hr h2
        exact ⟨n + 1, out, st', by rw [exec]; simp only [h1, asBool?, h3], hw h4⟩
    · cases h2
  | block id b ih =>
    intro ids names ex ret k e l s st r hr h
    obtain ⟨n, out, st', h1, h2⟩ := ih hr (ids := id :: ids) (ex := k :: ex) (ret := ret) (k := k) h
    cases out with
    | normal =>
      obtain ⟨e', l', s', h3, h4⟩ := h2
      exact ⟨n + 1, .normal, st', by rw [exec]; simp only [h1], e', l', s', h3.weak, h4⟩
    | exit id' =>
      obtain ⟨i, kx, e', l', s', h3, h4, h5, h6⟩ := h2
      unfold ix at h3
      split at h3
      · rename_i hb
        cases h3
        simp only [List.getElem?_cons_zero, Option.some.injEq] at h4
        subst h4
        exact ⟨n + 1, .normal, st', by rw [exec]; simp only [h1, Nat.eq_of_beq_eq_true hb, if_true], e', l', s', h5, h6⟩
      · rename_i hb
        split at h3
        · rename_i j hj
          cases h3
          refine ⟨n + 1, .exit id', st', ?_, j, kx, e', l', s', hj, by simpa using h4, h5, h6⟩
          rw [exec]
          simp only [h1]
          rw [if_neg]
          rintro rfl
          simp at hb
        · cases h3
    | ret => exact ⟨n + 1, .ret, st', by rw [exec]; simp only [h1], h2⟩
  | loop b ih =>
    intro ids names ex ret k e l s st r hr h
    have key : ∀ (f : Nat) (e : ET) (l : List V) (s : FS) (st : St), Rel D [] e l s st → (Nat.rec (motive := fun _ => K) (fun _ _ _ => none) (fun _ ih => fun e l s => (gC D ids [] b).1 c ex ret ih e l s) f : K) e l s = some r →
        ∃ n out st', exec T n (.loop b) st = some (out, st') ∧ out ≠ .normal ∧ Ends D ids [] ex ret k r out st' := by
      intro f
      induction f with
      | zero => intro e l s st hr h; cases h
      | succ f ihf =>
        intro e l s st hr h
        obtain ⟨n, out, st', h1, h2⟩ := ih hr (ids := ids) (names := []) (ex := ex) (ret := ret) (k := (Nat.rec (motive := fun _ => K) (fun _ _ _ => none) (fun _ ih => fun e l s => (gC D ids [] b).1 c ex ret ih e l s) f : K)) h
        cases out with
        | normal =>
          obtain ⟨e', l', s', h3, h4⟩ := h2
          obtain ⟨n2, out, st2, h5, h6, h7⟩ := ihf e' l' s' st' h3.weak h4
          refine ⟨max n n2 + 1, out, st2, ?_, h6, h7⟩
          rw [exec]
          simp only [exec_mono T (Nat.le_max_left n n2) h1]
          exact exec_mono T (Nat.le_max_right n n2) h5
        | exit id => exact ⟨n + 1, .exit id, st', by rw [exec]; simp only [h1], by simp, h2⟩
        | ret => exact ⟨n + 1, .ret, st', by rw [exec]; simp only [h1], by simp, h2⟩
    have h : cLoop (gC D ids [] b).1 c ex ret k e l s = some r := h
    unfold cLoop at h
    generalize loopFuel = f0 at h
    obtain ⟨n, out, st', h1, _, h2⟩ := key f0 e l s st hr.weak h
    exact ⟨n, out, st', h1, h2⟩
  | exit id =>
    intro ids names ex ret k e l s st r hr h
    cases hi : ix id ids with
    | none =>
      simp only [gC, hi] at h
      cases h
    | some i =>
      simp only [gC, hi] at h
      obtain ⟨kx, h1, h2⟩ := xit_some h
      exact ⟨1, .exit id, st, by simp only [exec], i, kx, e, l, s, hi, h1, hr.weak, h2⟩
  | ret =>
    intro ids names ex ret k e l s st r hr h
    exact ⟨1, .ret, st, by simp only [exec], e, l, s, hr.weak, h⟩
  | bad =>
    intro ids names ex ret k e l s st r hr h
    cases h
theorem gRs_some {names : List Nat} {e : ET} {l : List V} {s : FS} {st : St} (hr : Rel D names e l s st) : ∀ {rs : List HRes} {k : List V → R} {r : V × FS}, gRs D rs k e s = some r → ∃ vs, resultsA st rs = some vs ∧ k vs = some r
  | [], k, r, h => ⟨[], rfl, h⟩
  | .tmp x :: rs, k, r, h => by
    cases hb : Nat.blt x (2 ^ D) with
    | false => simp only [gRs, hb] at h; cases h
    | true =>
      simp only [gRs, hb] at h
      obtain ⟨v, h1, h2⟩ := eP_some h
      rw [hr.1 x (by simpa only [Nat.blt_eq] using hb)] at h1
      obtain ⟨vs, h3, h4⟩ := gRs_some hr (rs := rs) h2
      exact ⟨v :: vs, by simp only [resultsA, h1, h3], h4⟩
  | .cell x size agg :: rs, k, r, h => by
    cases hb : Nat.blt x (2 ^ D) with
    | false => simp only [gRs, hb] at h; cases h
    | true =>
      simp only [gRs, hb] at h
      obtain ⟨a, h1, h2⟩ := eP_some h
      rw [hr.1 x (by simpa only [Nat.blt_eq] using hb)] at h1
      obtain ⟨v, h5, h6⟩ := optR_some h2
      obtain ⟨vs, h3, h4⟩ := gRs_some hr (rs := rs) h6
      exact ⟨v :: vs, by simp only [resultsA, h1, ldG_some hr.2.2 h5, h3], h4⟩
theorem fin_some {names : List Nat} {e : ET} {l : List V} {s : FS} {st : St} (hr : Rel D names e l s st) {rs : List HRes} {v : V} {s' : FS} (h : fin (gRs D rs) e l s = some (v, s')) : resultA st rs = some v ∧ SRel s' st.σ := by
  unfold fin at h
  obtain ⟨vs, h1, h2⟩ := gRs_some hr h
  unfold resultA
  rw [h1]
  split at h2
  · cases h2
    exact ⟨rfl, hr.2.2⟩
  · rename_i hno
    cases h2
    refine ⟨?_, hr.2.2⟩
    split
    · rename_i hv
      exact (hno _ (Option.some.inj hv)).elim
    · rename_i heq
      cases heq
      rfl
    · rename_i heq
      cases heq
theorem look_args : ∀ (vs : List V) (i k : Nat), look (argsEnv vs i) k = if i ≤ k then vs[k - i]? else none
  | [], i, k => by simp [argsEnv, look]
  | v :: vs, i, k => by
    simp only [argsEnv, look, look_args vs (i + 1) k]
    by_cases hk : k = i
    · subst hk
      simp
    · rw [if_neg (fun h => hk (Nat.eq_of_beq_eq_true h))]
      by_cases hi : i + 1 ≤ k
      · rw [if_pos hi, if_pos (by omega)]
        have : k - i = (k - (i + 1)) + 1 := by omega
        rw [this]
        simp
      · rw [if_neg hi, if_neg (by omega)]
theorem gArgs_some : ∀ {n i : Nat} {vs : List V} {e : ET} {k : ET → R} {r : V × FS}, gArgs D n i k e vs = some r → (∀ j, j < 2 ^ D → i ≤ j → getE (bits D j) e = none) →
    ∃ e', vs.length = n ∧ k e' = some r ∧ ∀ j, j < 2 ^ D → getE (bits D j) e' = if i ≤ j then vs[j - i]? else getE (bits D j) e
  | 0, i, vs, e, k, r, h, he => by
    cases vs with
    | cons v t => cases h
    | nil => exact ⟨e, rfl, h, fun j hj => by
      by_cases hi : i ≤ j
      · rw [if_pos hi, he j hj hi]; simp
      · rw [if_neg hi]⟩
  | n + 1, i, vs, e, k, r, h, he => by
    cases hb : Nat.blt i (2 ^ D) with
    | false => simp only [gArgs, hb] at h; cases h
    | true =>
      simp only [gArgs, hb] at h
      have hb : i < 2 ^ D := by simpa only [Nat.blt_eq] using hb
      cases vs with
      | nil => cases h
      | cons v t =>
        have h : sP (bits D i) v (fun e => gArgs D n (i + 1) k e t) e = some r := h
        rw [sP_eq] at h
        have hset : ∀ j, j < 2 ^ D → getE (bits D j) (setE (bits D i) v e) = if j = i then some v else getE (bits D j) e := by
          intro j hj
          rw [getE_set _ _ _ _ (by rw [bits_len, bits_len])]
          by_cases hji : j = i
          · subst hji; simp
          · rw [if_neg hji, if_neg (fun hh => hji (bits_inj D j i hj hb hh))]
        obtain ⟨e', h1, h2, h3⟩ := gArgs_some (n := n) h (fun j hj hij => by rw [hset j hj, if_neg (by omega)]; exact he j hj (by omega))
        refine ⟨e', by simp [h1], h2, fun j hj => ?_⟩
        rw [h3 j hj]
        by_cases hi : i + 1 ≤ j
        · rw [if_pos hi, if_pos (by omega)]
          have : j - i = (j - (i + 1)) + 1 := by omega
          rw [this]
          simp
        · rw [if_neg hi, hset j hj]
          by_cases hji : j = i
          · subst hji; simp
          · rw [if_neg hji, if_neg (by omega)]
end
end Go.Proofs.YtolhjhjlfgfifaaGreatDoor.AM
end
section
set_option linter.unusedSimpArgs false
set_option linter.unusedVariables false
set_option linter.unusedVariables false
set_option linter.unusedSimpArgs false
namespace Go.Proofs.YtolhjhjlfgfifaaGreatDoor.AM
def Ex (T : FTab) (c : HCode) (st : St) (out : Out) (st' : St) : Prop := ∃ m, exec T m c st = some (out, st')
def Cl (T : FTab) (f : FuncId) (vs : List V) (σ : Store) (v : V) (σ' : Store) : Prop := ∃ m, callA T m f vs σ = some (v, σ')
variable {T : FTab} {st st1 st2 : St} {out : Out} {a b : HCode}
theorem ex_skip : Ex T .skip st .normal st := ⟨1, by simp only [exec]⟩
theorem ex_ret : Ex T .ret st .ret st := ⟨1, by simp only [exec]⟩
theorem ex_exit (i : Nat) : Ex T (.exit i) st (.exit i) st := ⟨1, by simp only [exec]⟩
theorem ex_seq (h1 : Ex T a st .normal st1) (h2 : Ex T b st1 out st2) : Ex T (.seq a b) st out st2 := by
  obtain ⟨m1, h1⟩ := h1
  obtain ⟨m2, h2⟩ := h2
  refine ⟨max m1 m2 + 1, ?_⟩
  rw [exec]
  simp only [exec_mono T (Nat.le_max_left m1 m2) h1]
  exact exec_mono T (Nat.le_max_right m1 m2) h2
theorem ex_stop (h1 : Ex T a st out st1) (hn : out ≠ .normal) : Ex T (.seq a b) st out st1 := by
  obtain ⟨m, h1⟩ := h1
  refine ⟨m + 1, ?_⟩
  rw [exec]
  simp only [h1]
  cases out with
  | normal => exact absurd rfl hn
  | _ => rfl
theorem ex_region {ops : List HOp} (h : ∃ m, opsRun (callA T m) ops { st with loc := [] } = some st1) : Ex T (.region ops none) st .normal st1 := by
  obtain ⟨m, h⟩ := h
  exact ⟨m + 1, by simp only [exec, regionRun, h]⟩
theorem ex_true {x : HO} (hx : st.get x = some (.tr (.sc (.bool true)))) (h : Ex T a st out st1) : Ex T (.cond x a b) st out st1 := by
  obtain ⟨m, h⟩ := h
  exact ⟨m + 1, by rw [exec]; simp only [hx, asBool?, h]⟩
theorem ex_false {x : HO} (hx : st.get x = some (.tr (.sc (.bool false)))) (h : Ex T b st out st1) : Ex T (.cond x a b) st out st1 := by
  obtain ⟨m, h⟩ := h
  exact ⟨m + 1, by rw [exec]; simp only [hx, asBool?, h]⟩
theorem ex_block {i : Nat} (h : Ex T b st .normal st1) : Ex T (.block i b) st .normal st1 := by
  obtain ⟨m, h⟩ := h
  exact ⟨m + 1, by rw [exec]; simp only [h]⟩
theorem ex_block_exit {i : Nat} (h : Ex T b st (.exit i) st1) : Ex T (.block i b) st .normal st1 := by
  obtain ⟨m, h⟩ := h
  exact ⟨m + 1, by rw [exec]; simp only [h, if_true]⟩
theorem ex_block_ret {i : Nat} (h : Ex T b st .ret st1) : Ex T (.block i b) st .ret st1 := by
  obtain ⟨m, h⟩ := h
  exact ⟨m + 1, by rw [exec]; simp only [h]⟩
theorem ex_loop (h1 : Ex T b st .normal st1) (h2 : Ex T (.loop b) st1 out st2) : Ex T (.loop b) st out st2 := by
  obtain ⟨m1, h1⟩ := h1
  obtain ⟨m2, h2⟩ := h2
  refine ⟨max m1 m2 + 1, ?_⟩
  rw [exec]
  simp only [exec_mono T (Nat.le_max_left m1 m2) h1]
  exact exec_mono T (Nat.le_max_right m1 m2) h2
theorem ex_loop_out (h1 : Ex T b st out st1) (hn : out ≠ .normal) : Ex T (.loop b) st out st1 := by
  obtain ⟨m, h1⟩ := h1
  refine ⟨m + 1, ?_⟩
  rw [exec]
  simp only [h1]
  cases out with
  | normal => exact absurd rfl hn
  | _ => rfl
theorem cl_of {f : FuncId} {fn : HFn} {vs : List V} {σ : Store} {v : V} {st : St} (hf : T f = some fn) (hm : fn.mode = .shared) (hl : fn.nargs = vs.length)
    (h : Ex T fn.code ⟨argsEnv vs 0, [], σ⟩ out st) (ho : out = .normal ∨ out = .ret) (hr : resultA st fn.results = some v) (hd : fn.dfr = none := by rfl) : Cl T f vs σ v st.σ := by
  obtain ⟨m, h⟩ := h
  refine ⟨m + 2, ?_⟩
  rw [callA, hf]
  simp only [hl, if_true, hm]
  rw [runA]
  rcases ho with rfl | rfl <;> simp only [hd, h, hr]
theorem bin_lss (k : IntKind) (x y : Int) : opBin .other .lss (.tr (.sc (.int k x))) (.tr (.sc (.int k y))) = some (.tr (.sc (.bool (decide (x < y))))) := by simp [opBin, isNil, notNil, binSc, binInt]
theorem bin_gtr (k : IntKind) (x y : Int) : opBin .other .gtr (.tr (.sc (.int k x))) (.tr (.sc (.int k y))) = some (.tr (.sc (.bool (decide (x > y))))) := by simp [opBin, isNil, notNil, binSc, binInt]
theorem bin_leq (k : IntKind) (x y : Int) : opBin .other .leq (.tr (.sc (.int k x))) (.tr (.sc (.int k y))) = some (.tr (.sc (.bool (decide (x ≤ y))))) := by simp [opBin, isNil, notNil, binSc, binInt]
theorem bin_geq (k : IntKind) (x y : Int) : opBin .other .geq (.tr (.sc (.int k x))) (.tr (.sc (.int k y))) = some (.tr (.sc (.bool (decide (x ≥ y))))) := by simp [opBin, isNil, notNil, binSc, binInt]
theorem bin_eql (k : IntKind) (x y : Int) : opBin .other .eql (.tr (.sc (.int k x))) (.tr (.sc (.int k y))) = some (.tr (.sc (.bool (x == y)))) := by simp [opBin, isNil, notNil, binSc, binInt]
theorem bin_add (k : IntKind) (x y : Int) : opBin .other .add (.tr (.sc (.int k x))) (.tr (.sc (.int k y))) = some (.tr (.sc (.int k (k.wrap (x + y))))) := by simp [opBin, isNil, notNil, binSc, binInt]
theorem bin_sub (k : IntKind) (x y : Int) : opBin .other .sub (.tr (.sc (.int k x))) (.tr (.sc (.int k y))) = some (.tr (.sc (.int k (k.wrap (x - y))))) := by simp [opBin, isNil, notNil, binSc, binInt]
theorem bin_bool (x y : Bool) : opBin .bool .eql (.tr (.sc (.bool x))) (.tr (.sc (.bool y))) = some (.tr (.sc (.bool (x == y)))) := by simp [opBin, isNil, notNil, binSc]
theorem bin_str (s t : ByteArray) : opBin .other .eql (.tr (.sc (.string s))) (.tr (.sc (.string t))) = some (.tr (.sc (.bool (bytesEq s.data.toList t.data.toList)))) := by simp [opBin, isNil, notNil, binSc, binStr]
theorem un_not (b : Bool) : opUn .not (.tr (.sc (.bool b))) = some (.tr (.sc (.bool (!b)))) := rfl
end Go.Proofs.YtolhjhjlfgfifaaGreatDoor.AM
end
section
set_option linter.unusedSimpArgs false
set_option linter.unusedVariables false
set_option linter.unusedVariables false
set_option linter.unusedSimpArgs false
open Go.RowKit Go.WideShapes
namespace Go.Proofs.YtolhjhjlfgfifaaGreatDoor.AM
section
variable {h : Array Go.Obj} {I : Nat → Prop}
theorem RTC_append : ∀ (ts us : List Tree) (b o : Nat), RTC h I ts b o → RTC h I us b (o + ts.length) → RTC h I (ts ++ us) b o
  | [], us, b, o, h1, h2 => by simpa using h2
  | t :: ts, us, b, o, h1, h2 => by
    simp only [RTC] at h1
    simp only [List.cons_append, RTC]
    refine ⟨h1.1, RTC_append ts us b (o + 1) h1.2 ?_⟩
    rw [List.length_cons] at h2
    rw [show o + 1 + ts.length = o + (ts.length + 1) by omega]; exact h2
theorem RTC_of_RTL (ts : List Tree) (xs : List Value) (b o : Nat) (r : RTL h I ts xs) (hc : ∀ j, j < xs.length → cellAt h b (o + j) = xs[j]?) : RTC h I ts b o := by
  rw [RTC_iff]
  intro k t hk
  obtain ⟨e, s⟩ := (RTL_iff _ _).1 r
  obtain ⟨x, hx, rx⟩ := s k t hk
  have hlt : k < xs.length := by
    have := (List.getElem?_eq_some_iff.1 hx).1
    exact this
  exact ⟨x, by rw [hc k hlt, hx], rx⟩
theorem RTC_flat {α : Type} (E : α → List Tree) (c : Nat) (hE : ∀ a, (E a).length = c) : ∀ (l : List α) (b o : Nat), (∀ (i : Nat) a, l[i]? = some a → RTC h I (E a) b (o + i * c)) → RTC h I (l.flatMap E) b o
  | [], b, o, _ => by simp [RTC]
  | a :: l, b, o, H => by
    rw [List.flatMap_cons]
    refine RTC_append _ _ _ _ (by simpa using H 0 a rfl) (RTC_flat E c hE l b _ fun i a' hi => ?_)
    have := H (i + 1) a' (by simpa using hi)
    rw [hE, show o + c + i * c = o + (i + 1) * c by rw [Nat.add_mul]; omega]
    exact this
end
theorem cellAt_cell? {w : World} {a : Addr} {v : Value} (hv : w.cell? a = some v) : a.spot = none ∧ a.block < w.heap.size ∧ cellAt w.heap a.block a.off = some v := by
  unfold World.cell? at hv
  unfold cellAt
  split at hv
  · rename_i c x y hb
    split at hv
    · cases hv
    · rename_i hs
      refine ⟨by simpa using hs, ?_, ?_⟩
      · exact (Array.getElem?_eq_some_iff.1 hb).1
      · rw [hb]; exact hv
  · cases hv
theorem choose_list {α : Type} (R : Nat → α → Prop) : ∀ (n : Nat), (∀ i, i < n → ∃ a, R i a) → ∃ l : List α, l.length = n ∧ ∀ (i : Nat) a, l[i]? = some a → R i a
  | 0, _ => ⟨[], rfl, fun i a hi => by simp at hi⟩
  | n + 1, H => by
    obtain ⟨l, hl, hr⟩ := choose_list R n fun i hi => H i (by omega)
    obtain ⟨a, ha⟩ := H n (by omega)
    refine ⟨l ++ [a], by simp [hl], fun i b hi => ?_⟩
    by_cases hlt : i < n
    · rw [List.getElem?_append_left (by omega)] at hi
      exact hr i b hi
    · rw [List.getElem?_append_right (by omega)] at hi
      have : i - l.length = 0 := by
        have := (List.getElem?_eq_some_iff.1 hi).1
        simp at this; omega
      rw [this] at hi
      simp at hi; subst hi
      rw [show i = n by omega]; exact ha
section
variable {H : Type} {enc : TypeId × Value → H} {P : Program} {w : World}
def Opens (enc : TypeId × Value → H) (P : Program) (w : World) (n : Nat) (t : TypeId) {α : Type} (E : α → List Tree) (ok : α → Prop) : Prop :=
  ∀ cs x, DataW.trod enc P w 0 (fun _ => true) true n t cs = some x → ∃ a, ok a ∧ RTL w.heap (fun b => b < w.heap.size) (E a) cs
theorem opens_int {n : Nat} {t : TypeId} {k : IntKind} (ht : P.underlying t = some (.int k)) : Opens enc P w n t (fun z : Int => [.sc (.int k z)]) (fun z => (Lit.int k z).wf = true) := by
  intro cs x hx
  obtain ⟨z, rfl, _, hz⟩ := DataW.trod_int ht hx
  exact ⟨z, hz, by simp [RTL, RT]⟩
def slE {α : Type} (E : α → List Tree) : Option (List α × Nat) → List Tree
  | none => [.sc (.slice none 0 0)]
  | some (l, c) => [.row (l.flatMap E) l.length (some c)]
def slOk {α : Type} (ok : α → Prop) : Option (List α × Nat) → Prop
  | none => True
  | some (l, c) => l.length ≤ c ∧ c ≤ maxLen ∧ ∀ a ∈ l, ok a
theorem opens_slice {n : Nat} {t e : TypeId} {c : Nat} {α : Type} {E : α → List Tree} {ok : α → Prop} (ht : P.underlying t = some (.slice e)) (hc : P.cellsOf e = c) (hE : ∀ a, (E a).length = c)
    (he : ∀ m, n = m + 1 → Opens enc P w m e E ok) : Opens enc P w n t (slE E) (slOk ok) := by
  intro cs x hx
  rcases DataW.trod_slice ht hx with ⟨rfl, _⟩ | ⟨a, len, cap, elems, rest, m, rfl, rfl, _, _, hl, hm, hlen, hel, _, _⟩
  · exact ⟨none, trivial, by simp [slE, RTL, RT]⟩
  obtain ⟨l, hll, hR⟩ := choose_list (fun i b => ok b ∧ ∃ cs', w.cells? 0 (a.add (i * P.cellsOf e)) (P.cellsOf e) = some cs' ∧ RTL w.heap (fun b => b < w.heap.size) (E b) cs') len fun i hi => by
    have h1 := hel i hi
    have h2 : elems[i]? = some elems[i] := List.getElem?_eq_getElem _
    rw [h2, Option.bind_eq_some_iff] at h1
    obtain ⟨cs', h3, h4⟩ := h1
    obtain ⟨b, hb, hr⟩ := he m rfl cs' _ h4
    exact ⟨b, hb, cs', h3, hr⟩
  refine ⟨some (l, cap), ⟨by omega, hm, fun b hb => ?_⟩, ?_⟩
  · obtain ⟨i, hi⟩ := List.getElem?_of_mem hb
    exact (hR i b hi).1
  · simp only [slE, RTL, RT]
    refine ⟨_, [], rfl, ⟨a, cap, by rw [hll], by omega, fun k hk => by simpa using hk, ?_⟩, rfl⟩
    by_cases h0 : l.flatMap E = []
    · exact .inl h0
    right
    have hpos : 0 < c ∧ 0 < len := by
      constructor
      · rcases Nat.eq_zero_or_pos c with h | h
        · exfalso; apply h0
          rw [List.flatMap_eq_nil_iff]
          intro b _
          exact List.length_eq_zero_iff.1 ((hE b).trans h)
        · exact h
      · rcases Nat.eq_zero_or_pos len with h | h
        · exfalso; apply h0
          rw [List.length_eq_zero_iff.1 (hll.trans h)]; rfl
        · exact h
    have hcell : ∀ i, i < len → ∀ b, l[i]? = some b → ∃ cs', cs'.length = c ∧ RTL w.heap (fun b => b < w.heap.size) (E b) cs' ∧ ∀ j, j < c → w.cell? ((a.add (i * c)).add j) = cs'[j]? := by
      intro i hi b hb
      obtain ⟨_, cs', h3, hr⟩ := hR i b hb
      rw [hc] at h3
      obtain ⟨_, h4, h5⟩ := World.cells?_some h3
      exact ⟨cs', h4, hr, h5⟩
    have ha : a.spot = none ∧ a.block < w.heap.size := by
      have hb0 : l[0]? = some l[0] := List.getElem?_eq_getElem _
      obtain ⟨cs', h4, hr, h5⟩ := hcell 0 hpos.2 _ hb0
      have h6 := h5 0 hpos.1
      have h7 : cs'[0]? = some cs'[0] := List.getElem?_eq_getElem _
      rw [h7] at h6
      simp [Addr.add] at h6
      exact ⟨(cellAt_cell? h6).1, (cellAt_cell? h6).2.1⟩
    obtain ⟨b, o, sp⟩ := a
    simp only at ha
    obtain ⟨rfl, hb⟩ := ha
    refine ⟨b, o, rfl, hb, RTC_flat E c hE l b o fun i e' hi => ?_⟩
    have hilt : i < len := by
      have := (List.getElem?_eq_some_iff.1 hi).1
      omega
    obtain ⟨cs', h4, hr, h5⟩ := hcell i hilt e' hi
    refine RTC_of_RTL _ cs' _ _ hr fun j hj => ?_
    have h6 := h5 j (by omega)
    have h7 : cs'[j]? = some cs'[j] := List.getElem?_eq_getElem _
    rw [h7] at h6 ⊢
    have h8 := (cellAt_cell? h6).2.2
    rw [← h8]
    have h9 : ∀ (x y : Nat), ((⟨b, x, none⟩ : Addr).add y).block = b ∧ ((⟨b, x, none⟩ : Addr).add y) = ⟨b, x + y, none⟩ := by
      intro x y
      unfold Addr.add
      by_cases hy : y = 0
      · simp [hy]
      · simp [hy]
    rw [(h9 _ _).2, (h9 _ _).2]
theorem Opens.map {n : Nat} {t : TypeId} {α β : Type} {E : α → List Tree} {ok : α → Prop} {F : β → List Tree} {ok' : β → Prop} (h : Opens enc P w n t E ok) (g : α → β) (hg : ∀ a, ok a → F (g a) = E a) (hk : ∀ a, ok a → ok' (g a)) :
    Opens enc P w n t F ok' := by
  intro cs x hx
  obtain ⟨a, ha, ra⟩ := h cs x hx
  exact ⟨g a, hk a ha, by rw [hg a ha]; exact ra⟩
theorem Opens.slice {t e : TypeId} {r : Reach} {b0 : Nat} {v : Value} {d : DataW H} {ps : List MemPlace} {α : Type} {E : α → Tree} {ok : α → Prop} (ht : P.underlying t = some (.slice e))
    (hval : Value.okWide P w r b0 t v) (hd : DataW.Trod enc P w 0 (fun _ => true) true t v d ps) (h : ∀ n, Opens enc P w n t (fun a => [E a]) ok) :
    ∃ a, ok a ∧ RT w.heap (fun b => b < w.heap.size) (E a) v := by
  obtain ⟨a, len, cap, rfl⟩ := okWide_slice ht hval
  obtain ⟨n, hn⟩ := hd
  obtain ⟨x, hx, rx⟩ := h n _ _ hn
  refine ⟨x, hx, ?_⟩
  simp only [Value.cells, RTL] at rx
  obtain ⟨y, ys, e1, r, rfl⟩ := rx
  simp at e1
  rw [e1]; exact r
theorem Opens.one {t e : TypeId} {r : Reach} {b0 : Nat} {v : Value} {d : DataW H} {ps : List MemPlace} {α : Type} {E : α → List Tree} {ok : α → Prop} (ht : P.underlying t = some (.slice e))
    (hval : Value.okWide P w r b0 t v) (hd : DataW.Trod enc P w 0 (fun _ => true) true t v d ps) (h : ∀ n, Opens enc P w n t E ok) :
    ∃ a, ok a ∧ RTL w.heap (fun b => b < w.heap.size) (E a) [v] := by
  obtain ⟨a, len, cap, rfl⟩ := okWide_slice ht hval
  obtain ⟨n, hn⟩ := hd
  obtain ⟨x, hx, rx⟩ := h n _ _ hn
  exact ⟨x, hx, by simpa [Value.cells] using rx⟩
theorem Opens.struct {t : TypeId} {fs : Array Field} {r : Reach} {b0 : Nat} {v : Value} {d : DataW H} {ps : List MemPlace} {α : Type} {E : α → List Tree} {ok : α → Prop} (ht : P.underlying t = some (.struct fs))
    (hval : Value.okWide P w r b0 t v) (hd : DataW.Trod enc P w 0 (fun _ => true) true t v d ps) (h : ∀ n, Opens enc P w n t E ok) :
    ∃ a, ok a ∧ RT w.heap (fun b => b < w.heap.size) (.agg (E a)) v := by
  obtain ⟨cs, rfl, hs⟩ := okWide_struct ht hval
  obtain ⟨n, hn⟩ := hd
  obtain ⟨x, hx, rx⟩ := h n _ _ hn
  refine ⟨x, hx, ?_⟩
  simp only [RT]
  exact ⟨cs.toList, by simp, by simpa [Value.cells] using rx⟩
end
end Go.Proofs.YtolhjhjlfgfifaaGreatDoor.AM
end
section
set_option linter.unusedSimpArgs false
set_option linter.unusedVariables false
set_option linter.unusedVariables false
set_option linter.unusedSimpArgs false
namespace Go.Proofs.YtolhjhjlfgfifaaGreatDoor.AM
def IsSl {α : Type} (E : α → List Tree) (l : List α) (v : V) : Prop := (l = [] ∧ v = nilSl) ∨ ∃ cap, v = .tr (.row (l.flatMap E) l.length cap)
section
variable {α : Type} {E : α → List Tree} {c : Nat} {l : List α} {v : V} {σ : Store}
theorem flat_len (hE : ∀ a, (E a).length = c) : ∀ (l : List α), (l.flatMap E).length = l.length * c
  | [] => by simp
  | a :: l => by
    rw [List.flatMap_cons, List.length_append, hE, flat_len hE l, List.length_cons, Nat.add_mul]
    omega
theorem flat_drop (hE : ∀ a, (E a).length = c) : ∀ (l : List α) (n : Nat), (l.flatMap E).drop (n * c) = (l.drop n).flatMap E
  | l, 0 => by simp
  | [], n + 1 => by simp
  | a :: l, n + 1 => by
    rw [List.flatMap_cons, List.drop_succ_cons, ← flat_drop hE l n, show (n + 1) * c = (E a).length + n * c by rw [hE, Nat.add_mul]; omega, ← List.drop_drop, List.drop_left]
theorem flat_take (hE : ∀ a, (E a).length = c) : ∀ (l : List α) (n : Nat), (l.flatMap E).take (n * c) = (l.take n).flatMap E
  | l, 0 => by simp
  | [], n + 1 => by simp
  | a :: l, n + 1 => by
    rw [List.flatMap_cons, List.take_succ_cons, List.flatMap_cons, ← flat_take hE l n, show (n + 1) * c = (E a).length + n * c by rw [hE, Nat.add_mul]; omega, List.take_append]
    rw [List.take_of_length_le (by omega)]
    congr 2
    omega
theorem flat_at (hE : ∀ a, (E a).length = c) {i : Nat} {a : α} (h : l[i]? = some a) : ((l.flatMap E).drop (i * c)).take c = E a := by
  have hi := (List.getElem?_eq_some_iff.1 h).1
  rw [flat_drop hE, List.drop_eq_getElem_cons hi, List.flatMap_cons]
  have : l[i] = a := (List.getElem?_eq_some_iff.1 h).2
  rw [this, ← hE a, List.take_left]
theorem slice_flat (hE : ∀ a, (E a).length = c) {i o s : Nat} {a : α} (h : l[i]? = some a) (hs : o + s ≤ c) : slice? (l.flatMap E) (i * c + o) s = some (((E a).drop o).take s) := by
  have e : ((l.flatMap E).drop (i * c + o)).take s = ((E a).drop o).take s := by
    rw [← flat_at hE h, List.drop_take, List.take_take, List.drop_drop]
    congr 1
    omega
  unfold slice?
  simp only [e]
  rw [if_pos]
  rw [List.length_take, List.length_drop, hE]
  omega
theorem isSl_len (h : IsSl E l v) : opLen 1 v σ = some (.tr (.sc (.int .i64 l.length))) := by
  rcases h with ⟨rfl, rfl⟩ | ⟨cap, rfl⟩ <;> rfl
theorem asIdx_nat (k : IntKind) (n : Nat) : asIdx? (.tr (.sc (.int k (n : Int)))) = some n := by
  show (if 0 ≤ (n : Int) then some (n : Int).toNat else none) = some n
  rw [if_pos (by omega)]
  congr 1
theorem isSl_iaddr (h : IsSl E l v) (hE : ∀ a, (E a).length = c) (hc : 0 < c) {k : IntKind} {i : Nat} {a : α} (hi : l[i]? = some a) :
    opIaddr c v (.tr (.sc (.int k (i : Int)))) σ = some (.tr (.rptr (l.flatMap E) (i * c))) := by
  have hlt := (List.getElem?_eq_some_iff.1 hi).1
  rcases h with ⟨rfl, rfl⟩ | ⟨cap, rfl⟩
  · simp at hi
  · unfold opIaddr
    rw [asIdx_nat]
    simp only
    have hne : (l.flatMap E).isEmpty = false := by
      have := flat_len hE l
      cases hf : l.flatMap E with
      | nil =>
        rw [hf, List.length_nil] at this
        have h1 : 0 < l.length * c := Nat.mul_pos (by omega) hc
        omega
      | cons x y => rfl
    rw [if_pos ⟨hlt, hne⟩]
theorem rptr_load (hE : ∀ a, (E a).length = c) {i o s : Nat} {agg : Bool} {a : α} (hi : l[i]? = some a) (hs : o + s ≤ c) : opLoad s agg (.tr (.rptr (l.flatMap E) (i * c + o))) σ = ofCells agg ((((E a).drop o).take s).map .tr) := by
  simp only [opLoad, slice_flat hE hi hs]
theorem rptr_load0 (hE : ∀ a, (E a).length = c) {i s : Nat} {agg : Bool} {a : α} (hi : l[i]? = some a) (hs : s ≤ c) : opLoad s agg (.tr (.rptr (l.flatMap E) (i * c))) σ = ofCells agg (((E a).take s).map .tr) := by
  have := rptr_load (σ := σ) (agg := agg) hE (o := 0) (s := s) hi (by omega)
  simpa using this
theorem isSl_cut (h : IsSl E l v) (hE : ∀ a, (E a).length = c) {k k' : IntKind} {lo hi : Nat} (h1 : lo ≤ hi) (h2 : hi ≤ l.length) :
    ∃ v', opSlice c v (some (.tr (.sc (.int k (lo : Int))))) (some (.tr (.sc (.int k' (hi : Int))))) none σ = some v' ∧ IsSl E ((l.take hi).drop lo) v' := by
  rcases h with ⟨rfl, rfl⟩ | ⟨cap, rfl⟩
  · have h3 : hi = 0 := by simpa using h2
    subst h3
    have h4 : lo = 0 := by omega
    subst h4
    exact ⟨nilSl, by rfl, .inl ⟨by simp, rfl⟩⟩
  · refine ⟨_, ?_, .inr ⟨cutCap cap none lo, rfl⟩⟩
    unfold opSlice
    simp only [optIdx, asIdx_nat, Option.isSome_none, Bool.false_and, Bool.false_eq_true, if_false, Option.getD_some, Option.getD_none]
    rw [if_pos ⟨h1, h2, Nat.le_refl _, .inl h2, flat_len hE l⟩]
    congr 3
    · rw [flat_drop hE, flat_take hE, List.drop_take]
    · rw [List.length_drop, List.length_take]; omega
theorem isSl_cut_hi (h : IsSl E l v) (hE : ∀ a, (E a).length = c) {k' : IntKind} {hi : Nat} (h2 : hi ≤ l.length) :
    ∃ v', opSlice c v none (some (.tr (.sc (.int k' (hi : Int))))) none σ = some v' ∧ IsSl E (l.take hi) v' := by
  obtain ⟨v', h3, h4⟩ := isSl_cut (σ := σ) h hE (k := .i64) (k' := k') (lo := 0) (Nat.zero_le _) h2
  refine ⟨v', ?_, by simpa using h4⟩
  rw [← h3]
  unfold opSlice
  simp only [optIdx, asIdx_nat, Option.getD_some, Option.getD_none]
theorem isSl_cut_lo (h : IsSl E l v) (hE : ∀ a, (E a).length = c) {k : IntKind} {lo : Nat} (h1 : lo ≤ l.length) :
    ∃ v', opSlice c v (some (.tr (.sc (.int k (lo : Int))))) none none σ = some v' ∧ IsSl E (l.drop lo) v' := by
  rcases h with ⟨rfl, rfl⟩ | ⟨cap, rfl⟩
  · have h3 : lo = 0 := by simpa using h1
    subst h3
    exact ⟨nilSl, by rfl, .inl ⟨by simp, rfl⟩⟩
  · refine ⟨_, ?_, .inr ⟨cutCap cap none lo, rfl⟩⟩
    unfold opSlice
    simp only [optIdx, asIdx_nat, Option.isSome_none, Bool.false_and, Bool.false_eq_true, if_false, Option.getD_some, Option.getD_none]
    rw [if_pos ⟨h1, Nat.le_refl _, Nat.le_refl _, .inl (Nat.le_refl _), flat_len hE l⟩]
    congr 3
    · rw [flat_drop hE]
      rw [List.take_of_length_le]
      rw [flat_len hE, List.length_drop]
      exact Nat.le_refl _
    · rw [List.length_drop]
end
def byE (b : UInt8) : List Tree := [.sc (.int .u8 (b.toNat : Int))]
theorem byE_len (b : UInt8) : (byE b).length = 1 := rfl
theorem byE_bytes : ∀ (l : List UInt8), bytesOf? ((l.flatMap byE).map .tr) = some l
  | [] => rfl
  | b :: l => by
    have hb := b.toNat_lt
    simp only [List.flatMap_cons, byE, List.cons_append, List.nil_append, List.map_cons, bytesOf?]
    rw [if_pos ⟨by omega, by omega⟩]
    have h := byE_bytes l
    rw [h]
    simp
section
variable {H : Type} {enc : TypeId × Value → H} {P : Program} {w : World}
theorem opens_bytes {n : Nat} {t e : TypeId} (ht : P.underlying t = some (.slice e)) (he : P.underlying e = some (.int .u8)) (hc : P.cellsOf e = 1) : Opens enc P w n t (slE byE) (slOk fun _ => True) := by
  exact opens_slice ht hc byE_len fun m _ => (opens_int he).map (fun z => UInt8.ofNat z.toNat) (fun z hz => by
    simp only [Lit.wf, Bool.and_eq_true, decide_eq_true_eq] at hz
    have h0 : (0 : Int) ≤ z := hz.1
    have h1 : z ≤ 255 := hz.2
    simp only [byE, UInt8.toNat_ofNat']
    congr 3
    omega) (fun _ _ => trivial)
end
end Go.Proofs.YtolhjhjlfgfifaaGreatDoor.AM
end
section
set_option linter.unusedSimpArgs false
set_option linter.unusedVariables false
set_option linter.unusedVariables false
set_option linter.unusedSimpArgs false
namespace Go.Proofs.YtolhjhjlfgfifaaGreatDoor.AM
def Wp (T : FTab) (c : HCode) (st : St) (Q : Out → St → Prop) : Prop := ∃ o s, Ex T c st o s ∧ Q o s
def okP (o : Option St) (K : St → Prop) : Prop := ∃ s, o = some s ∧ K s
theorem okP_some {s : St} {K : St → Prop} : okP (some s) K ↔ K s := by
  constructor
  · rintro ⟨_, h, k⟩; cases h; exact k
  · exact fun k => ⟨s, rfl, k⟩
theorem okP_mono {o : Option St} {K K' : St → Prop} (h : okP o K) (hk : ∀ s, K s → K' s) : okP o K' := by
  obtain ⟨s, e, k⟩ := h
  exact ⟨s, e, hk s k⟩
def thenN (K : St → Prop) (Q : Out → St → Prop) : Out → St → Prop
  | .normal, s => K s
  | .exit i, s => Q (.exit i) s
  | .ret, s => Q .ret s
def blk (i : Nat) (Q : Out → St → Prop) : Out → St → Prop
  | .normal, s => Q .normal s
  | .exit j, s => if j = i then Q .normal s else Q (.exit j) s
  | .ret, s => Q .ret s
theorem thenN_n {K : St → Prop} {Q : Out → St → Prop} {s : St} : thenN K Q .normal s = K s := rfl
theorem thenN_e {K : St → Prop} {Q : Out → St → Prop} {s : St} {i : Nat} : thenN K Q (.exit i) s = Q (.exit i) s := rfl
theorem thenN_r {K : St → Prop} {Q : Out → St → Prop} {s : St} : thenN K Q .ret s = Q .ret s := rfl
theorem blk_n {Q : Out → St → Prop} {s : St} {i : Nat} : blk i Q .normal s = Q .normal s := rfl
theorem blk_r {Q : Out → St → Prop} {s : St} {i : Nat} : blk i Q .ret s = Q .ret s := rfl
theorem blk_e {Q : Out → St → Prop} {s : St} {i : Nat} : blk i Q (.exit i) s = Q .normal s := if_pos rfl
theorem blk_o {Q : Out → St → Prop} {s : St} {i j : Nat} (h : j ≠ i) : blk i Q (.exit j) s = Q (.exit j) s := if_neg h
variable {T : FTab} {st : St} {Q Q' : Out → St → Prop} {a b : HCode}
theorem Wp.mono (h : Wp T a st Q) (hq : ∀ o s, Q o s → Q' o s) : Wp T a st Q' := by
  obtain ⟨o, s, e, q⟩ := h
  exact ⟨o, s, e, hq o s q⟩
theorem wp_skip (h : Q .normal st) : Wp T .skip st Q := ⟨_, _, ex_skip, h⟩
theorem wp_ret (h : Q .ret st) : Wp T .ret st Q := ⟨_, _, ex_ret, h⟩
theorem wp_exit {i : Nat} (h : Q (.exit i) st) : Wp T (.exit i) st Q := ⟨_, _, ex_exit i, h⟩
theorem wp_seq (h : Wp T a st (thenN (fun s => Wp T b s Q) Q)) : Wp T (.seq a b) st Q := by
  obtain ⟨o, s, e, q⟩ := h
  cases o with
  | normal =>
    obtain ⟨o', s', e', q'⟩ := q
    exact ⟨o', s', ex_seq e e', q'⟩
  | exit i => exact ⟨_, _, ex_stop e (by simp), q⟩
  | ret => exact ⟨_, _, ex_stop e (by simp), q⟩
theorem wp_region {ops : List HOp} (m : Nat) (h : okP (opsRun (callA T m) ops { st with loc := [] }) (Q .normal)) : Wp T (.region ops none) st Q := by
  obtain ⟨s, e, q⟩ := h
  exact ⟨_, _, ex_region ⟨m, e⟩, q⟩
theorem wp_cond {x : HO} (v : Bool) (hx : st.get x = some (.tr (.sc (.bool v)))) (ht : v = true → Wp T a st Q) (hf : v = false → Wp T b st Q) : Wp T (.cond x a b) st Q := by
  cases v with
  | true => obtain ⟨o, s, e, q⟩ := ht rfl; exact ⟨o, s, ex_true hx e, q⟩
  | false => obtain ⟨o, s, e, q⟩ := hf rfl; exact ⟨o, s, ex_false hx e, q⟩
theorem wp_block {i : Nat} (h : Wp T a st (blk i Q)) : Wp T (.block i a) st Q := by
  obtain ⟨o, s, e, q⟩ := h
  cases o with
  | normal => exact ⟨_, _, ex_block e, q⟩
  | ret => exact ⟨_, _, ex_block_ret e, q⟩
  | exit j =>
    by_cases hj : j = i
    · subst hj
      rw [blk_e] at q
      exact ⟨_, _, ex_block_exit e, q⟩
    · rw [blk_o hj] at q
      obtain ⟨m, e⟩ := e
      exact ⟨.exit j, s, ⟨m + 1, by rw [exec]; simp only [e, if_neg hj]⟩, q⟩
theorem wp_loop (I : Nat → St → Prop) (hr : ∀ n s, I n s → Wp T a s (thenN (fun s' => ∃ k, k < n ∧ I k s') Q)) : ∀ n s, I n s → Wp T (.loop a) s Q := by
  intro n
  induction n using Nat.strongRecOn with
  | ind n ih =>
    intro s hs
    obtain ⟨o, s', e, q⟩ := hr n s hs
    cases o with
    | normal =>
      obtain ⟨k, hk, hI⟩ := q
      obtain ⟨o', s2, e', q'⟩ := ih k hk s' hI
      exact ⟨o', s2, ex_loop e e', q'⟩
    | exit i => exact ⟨_, _, ex_loop_out e (by simp), q⟩
    | ret => exact ⟨_, _, ex_loop_out e (by simp), q⟩
end Go.Proofs.YtolhjhjlfgfifaaGreatDoor.AM
end
section
set_option linter.unusedSimpArgs false
set_option linter.unusedVariables false
set_option linter.unusedVariables false
set_option linter.unusedSimpArgs false
namespace Go.Proofs.YtolhjhjlfgfifaaGreatDoor.AM
noncomputable section
def gIso (g : GFn) : GFn := fun c vs s => optR (snapL (snap (toL s) deepN) vs) fun ts => optR (g c (ts.map .tr) FS.nil) fun p => optR (snap (toL p.2) deepN p.1) fun t =>
  bif2 (noRows t) (some (.tr t, s)) (bif2 (dirs.dirsL vs).isEmpty (some (.tr t, s)) (optR (freezeAll (toL s) vs) fun σ' => some (.tr t, ofL σ')))
end
theorem reachN_nil (σ : Store) : ∀ (n : Nat) (S : List Nat), reachN σ n [] S = S
  | 0, S => by first | rfl | simp [reachN]
  | n + 1, S => by first | rfl | simp [reachN]
theorem freezeAll_nil {σ : Store} {vs : List V} (h : dirs.dirsL vs = []) : freezeAll σ vs = some σ := by
  unfold freezeAll
  rw [h]
  simp only [reachN_nil]
  rfl
theorem snapL_len {f : V → Option Tree} : ∀ {vs : List V} {ts : List Tree}, snapL f vs = some ts → ts.length = vs.length
  | [], ts, h => by simp only [snapL, Option.some.injEq] at h; subst h; rfl
  | v :: vs, ts, h => by
    simp only [snapL] at h
    split at h
    · split at h
      · cases h
        rename_i h
        simp [snapL_len h]
      · cases h
    · cases h
theorem bif2_true {α : Type} (x y : α) : bif2 true x y = x := rfl
theorem bif2_false {α : Type} (x y : α) : bif2 false x y = y := rfl
section
variable {T : FTab}
theorem gFn_run {c : GCall} {hf : HFn} {D : Nat} {vs : List V} {s s' : FS} {v : V} {σ : Store} (hc : CallEx c (callA T)) (hmono : True) (h2 : gFn D hf c vs s = some (v, s')) (hs : SRel s σ) :
    hf.nargs = vs.length ∧ ∃ m σ', runA T m hf vs σ = some (v, σ') ∧ SRel s' σ' := by
  obtain ⟨hdf, h2⟩ := gFn_dfr h2
  have h2 : gArgs D hf.nargs 0 (fun e => (gC D [] [] hf.code).1 c [] (fin (gRs D hf.results)) (fin (gRs D hf.results)) e [] s) .z0 vs = some (v, s') := h2
  obtain ⟨e, h5, h6, h7⟩ := gArgs_some h2 (fun j _ _ => getE_e _)
  have hr : Rel D [] e [] s ⟨argsEnv vs 0, [], σ⟩ := ⟨fun j hj => by rw [h7 j hj, look_args, if_pos (Nat.zero_le j), if_pos (Nat.zero_le j)], LRel.nil _ _, hs⟩
  refine ⟨h5.symm, ?_⟩
  obtain ⟨m, out, st', h8, h9⟩ := gC_some hc hf.code hr h6
  cases out with
  | normal =>
    obtain ⟨e', l', s2, h10, h11⟩ := h9
    obtain ⟨h12, h13⟩ := fin_some h10 h11
    exact ⟨m + 1, st'.σ, by rw [runA]; simp only [hdf, h8, h12], h13⟩
  | exit id =>
    obtain ⟨i, kx, e', l', s2, h10, _⟩ := h9
    cases h10
  | ret =>
    obtain ⟨e', l', s2, h10, h11⟩ := h9
    obtain ⟨h12, h13⟩ := fin_some h10 h11
    exact ⟨m + 1, st'.σ, by rw [runA]; simp only [hdf, h8, h12], h13⟩
end
end Go.Proofs.YtolhjhjlfgfifaaGreatDoor.AM
end
section
set_option linter.unusedSimpArgs false
set_option linter.unusedVariables false
set_option linter.unusedVariables false
set_option linter.unusedSimpArgs false
namespace Go.Proofs.YtolhjhjlfgfifaaGreatDoor.AM
noncomputable section
abbrev GD := GCall → K → K
abbrev DfG := FuncId → Nat
def gDf (DG : DfG) (c : GCall) (fv : V) (vs : List V) (s : FS) (k : FS → R) : R := optR (fnV fv) fun p =>
  Nat.rec (motive := fun _ => R) none (fun m _ => Nat.rec (motive := fun _ => R) (optR (c p.1 (p.2.1 ++ vs ++ p.2.2) s) fun q => k q.2)
    (fun n _ => bif2 (Nat.beq n (p.2.1 ++ vs ++ p.2.2).length) (k s) none) m) (DG p.1)
def noK : K := fun _ _ _ => none
def dA (c : GC) (r : GD) : GD := fun call kf e l s => c call [] noK (fun e l s => r call kf e l s) e l s
def dH (DG : DfG) (o1 : GOp) (f : GO) (as : GOs) (w : GOp) (o2 : GOp) (p : GC) : GD := fun call kf e _ s =>
  o1 call (fun e l s => f (fun fv => optR (fnV fv) fun _ => as (fun vs => w call (fun e l s => o2 call (fun e l s =>
    p call [] (fun e l s => gDf DG call fv vs s fun s => kf e l s) (fun e l s => gDf DG call fv vs s fun s => kf e l s) e l s) e l s) e l s) e l) e l) e [] s
def gHD (D : Nat) (DG : DfG) : List Nat → HD → GD
  | names, .after c d => dA (gC D [] names c).1 (gHD D DG (gC D [] names c).2 d)
  | _, .here ops f args dst inK ops2 post => dH DG (gOps D [] ops).1 (gO D (gOps D [] ops).2 f) (gOs D (gOps D [] ops).2 args) (gW D ⟨dst, inK, .bad, none⟩ kUndef)
      (gOps D (gN (gOps D [] ops).2 ⟨dst, inK, .bad, none⟩) ops2).1 (gC D [] (gOps D (gN (gOps D [] ops).2 ⟨dst, inK, .bad, none⟩) ops2).2 post).1
def fnD (a : GA) (d : GD) (k : K) : GFn := fun call vs s => a (fun e => d call k e [] s) .z0 vs
def gFnX (DG : DfG) (D : Nat) (fn : HFn) : GFn := match fn.dfr with
  | none => fnB (gArgs D fn.nargs 0) (gC D [] [] fn.code).1 (fin (gRs D fn.results))
  | some d => fnD (gArgs D fn.nargs 0) (gHD D DG [] d) (fin (gRs D fn.results))
end
section
variable {T : FTab} {c : GCall} {DG : DfG} {D : Nat}
def DfGOk (T : FTab) (DG : DfG) : Prop := ∀ g, (DG g = 1 → ∃ gn, T g = some gn ∧ gn.mode = .shared ∧ gn.dfr = none) ∧ ∀ n, DG g = n + 2 → ∃ gn, T g = some gn ∧ gn.nargs = n ∧ gn.mode = .ext (100 + n)
theorem gDf_some (hD : DfGOk T DG) (hc : CallEx c (callA T)) {fv : V} {vs : List V} {s : FS} {σ : Store} {k : FS → R} {r : V × FS} (hs : SRel s σ) (h : gDf DG c fv vs s k = some r) :
    ∃ m s2 σ2, runDf T m fv vs σ = some σ2 ∧ SRel s2 σ2 ∧ k s2 = some r := by
  unfold gDf at h
  obtain ⟨⟨g, first, cap⟩, h1, h2⟩ := optR_some h
  simp only at h2
  cases hg : DG g with
  | zero => rw [hg] at h2; cases h2
  | succ m =>
    rw [hg] at h2
    cases m with
    | zero =>
      have h2 : optR (c g (first ++ vs ++ cap) s) (fun q => k q.2) = some r := h2
      obtain ⟨⟨v, s2⟩, h3, h4⟩ := optR_some h2
      obtain ⟨m, σ2, h5, h6⟩ := hc _ _ _ _ _ _ h3 hs
      obtain ⟨gn, h7, h8, h9⟩ := (hD g).1 hg
      cases m with
      | zero => simp [callA] at h5
      | succ m =>
        rw [callA, h7] at h5
        simp only at h5
        split at h5
        · rename_i hl
          rw [h8] at h5
          simp only at h5
          refine ⟨m + 1, s2, σ2, ?_, h6, h4⟩
          rw [runDf, h1]
          simp only [h7, hl, if_true, h8, h9, h5]
        · cases h5
    | succ n =>
      have h2 : bif2 (Nat.beq n (first ++ vs ++ cap).length) (k s) none = some r := h2
      obtain ⟨h3, h4⟩ := bif2_some h2
      obtain ⟨gn, h7, h8, h9⟩ := (hD g).2 n hg
      refine ⟨1, s, σ, ?_, hs, h4⟩
      rw [runDf, h1]
      simp only [h7, h8, Nat.eq_of_beq_eq_true h3, if_true, h9]
      rw [if_pos (by simp)]
theorem execD_mono {d : HD} {st : St} {r : List V → Prop} {x : V × List V × Out × St} {n m : Nat} (h : n ≤ m) (e : execD T n d st = some x) : execD T m d st = some x := by
  induction h with
  | refl => exact e
  | step _ ih => exact (mono1 T _).2.2.2.1 _ _ _ ih
theorem runDf_mono {fv : V} {vs : List V} {σ σ2 : Store} {n m : Nat} (h : n ≤ m) (e : runDf T n fv vs σ = some σ2) : runDf T m fv vs σ = some σ2 := by
  induction h with
  | refl => exact e
  | step _ ih => exact (mono1 T _).2.2.2.2 _ _ _ _ ih
theorem gHD_some (hD : DfGOk T DG) (hc : CallEx c (callA T)) : ∀ (d : HD) {names : List Nat} {kf : K} {e : ET} {l : List V} {s : FS} {st : St} {r : V × FS}, Rel D names e l s st → gHD D DG names d c kf e l s = some r →
    ∃ m fv vs out st1 σ2, execD T m d st = some (fv, vs, out, st1) ∧ (out = .normal ∨ out = .ret) ∧ runDf T m fv vs st1.σ = some σ2 ∧ ∃ e l s2, Rel D [] e l s2 { st1 with σ := σ2 } ∧ kf e l s2 = some r
  | .after co d, names, kf, e, l, s, st, r, hr, h => by
    have h : (gC D [] names co).1 c [] noK (fun e l s => gHD D DG (gC D [] names co).2 d c kf e l s) e l s = some r := h
    obtain ⟨m, out, st', h1, h2⟩ := gC_some hc co hr h
    cases out with
    | normal =>
      obtain ⟨e', l', s', h3, h4⟩ := h2
      obtain ⟨m2, fv, vs, out, st1, σ2, h5, h6, h7, h8⟩ := gHD_some hD hc d h3 h4
      refine ⟨max m m2 + 1, fv, vs, out, st1, σ2, ?_, h6, runDf_mono (by omega) h7, h8⟩
      rw [execD]
      simp only [exec_mono T (Nat.le_max_left m m2) h1]
      exact execD_mono (r := fun _ => True) (Nat.le_max_right m m2) h5
    | exit id =>
      obtain ⟨i, kx, e', l', s2, h10, _⟩ := h2
      cases h10
    | ret =>
      obtain ⟨e', l', s', h3, h4⟩ := h2
      cases h4
  | .here ops f args dst inK ops2 post, names, kf, e, l, s, st, r, hr, h => by
    have hm := callA_mono T
    have h : dH DG (gOps D [] ops).1 (gO D (gOps D [] ops).2 f) (gOs D (gOps D [] ops).2 args) (gW D ⟨dst, inK, .bad, none⟩ kUndef)
      (gOps D (gN (gOps D [] ops).2 ⟨dst, inK, .bad, none⟩) ops2).1 (gC D [] (gOps D (gN (gOps D [] ops).2 ⟨dst, inK, .bad, none⟩) ops2).2 post).1 c kf e l s = some r := h
    unfold dH at h
    obtain ⟨m1, e1, l1, s1, st1, h1, h2, h3⟩ := gOps_some hc hm hr.nilLoc h
    obtain ⟨fv, h4, h5⟩ := gO_some h2.1 h2.2.1 (x := f) h3
    obtain ⟨q, h6, h7⟩ := optR_some h5
    obtain ⟨vs, h8, h9⟩ := gOs_some h2.1 h2.2.1 (xs := args) h7
    obtain ⟨e2, l2, s2, st2, mx, vx, σx, g1, g2, ⟨g3, g4⟩, g5⟩ := gW_some (X := fun _ v σ' => v = undefV ∧ σ' = st1.σ) h2 (fun k r h => ⟨0, undefV, s1, st1.σ, ⟨rfl, rfl⟩, h2.2.2, h⟩) h9
    subst g3 g4
    obtain ⟨m3, e3, l3, s3, st3, j1, j2, j3⟩ := gOps_some hc hm g1 g2
    obtain ⟨m4, out, st4, p1, p2⟩ := gC_some hc post j2 j3
    have last : ∀ {ns : List Nat} {e : ET} {l : List V} {s : FS}, (out = .normal ∨ out = .ret) → Rel D ns e l s st4 → gDf DG c fv vs s (fun s => kf e l s) = some r →
        ∃ m fv vs out st1 σ2, execD T m (.here ops f args dst inK ops2 post) st = some (fv, vs, out, st1) ∧ (out = .normal ∨ out = .ret) ∧ runDf T m fv vs st1.σ = some σ2 ∧ ∃ e l s2, Rel D [] e l s2 { st1 with σ := σ2 } ∧ kf e l s2 = some r := by
      intro ns e l s ho hrel hd
      obtain ⟨m5, s5, σ5, q1, q2, q3⟩ := gDf_some hD hc hrel.2.2 hd
      refine ⟨max (max m1 m3) (max m4 m5) + 1, fv, vs, out, st4, σ5, ?_, ho, runDf_mono (by omega) q1, e, l, s5, ⟨hrel.1, LRel.nil _ _, q2⟩, q3⟩
      have l1 : m1 ≤ max (max m1 m3) (max m4 m5) := by omega
      have l3 : m3 ≤ max (max m1 m3) (max m4 m5) := by omega
      have l4 : m4 ≤ max (max m1 m3) (max m4 m5) := by omega
      rw [execD]
      have k1 := opsRun_le (hm _ _ l1) h1
      have k3 := opsRun_le (hm _ _ l3) j1
      have k4 := exec_mono T l4 p1
      simp only [k1, h4, h8, h6]
      rw [show (st1.set dst inK undefV) = ({ st1 with σ := st1.σ } : St).set dst inK undefV from rfl, ← g5]
      simp only [k3, k4]
    cases out with
    | normal =>
      obtain ⟨e', l', s', t1, t2⟩ := p2
      exact last (.inl rfl) t1 t2
    | exit id =>
      obtain ⟨i, kx, e', l', s2, h10, _⟩ := p2
      cases h10
    | ret =>
      obtain ⟨e', l', s', t1, t2⟩ := p2
      exact last (.inr rfl) t1 t2
theorem gFnX_run (hD : DfGOk T DG) {hf : HFn} {vs : List V} {s s' : FS} {v : V} {σ : Store} (hc : CallEx c (callA T)) (h2 : gFnX DG D hf c vs s = some (v, s')) (hs : SRel s σ) :
    hf.nargs = vs.length ∧ ∃ m σ', runA T m hf vs σ = some (v, σ') ∧ SRel s' σ' := by
  cases hd : hf.dfr with
  | none =>
    refine gFn_run (D := D) hc trivial ?_ hs
    unfold gFnX at h2
    unfold gFn
    rw [hd] at h2 ⊢
    exact h2
  | some d =>
    unfold gFnX at h2
    rw [hd] at h2
    have h2 : gArgs D hf.nargs 0 (fun e => gHD D DG [] d c (fin (gRs D hf.results)) e [] s) .z0 vs = some (v, s') := h2
    obtain ⟨e, h5, h6, h7⟩ := gArgs_some h2 (fun j _ _ => getE_e _)
    have hr : Rel D [] e [] s ⟨argsEnv vs 0, [], σ⟩ := ⟨fun j hj => by rw [h7 j hj, look_args, if_pos (Nat.zero_le j), if_pos (Nat.zero_le j)], LRel.nil _ _, hs⟩
    refine ⟨h5.symm, ?_⟩
    obtain ⟨m, fv, ws, out, st1, σ2, h8, h9, h10, e', l', s2, h11, h12⟩ := gHD_some hD hc d hr h6
    obtain ⟨h13, h14⟩ := fin_some h11 h12
    refine ⟨m + 1, σ2, ?_, h14⟩
    rw [runA]
    simp only [hd, h8]
    rcases h9 with rfl | rfl <;> simp only [h10, h13]
theorem callG_isoX {TG : TabG} (hD : DfGOk T DG) (hT : ∀ f g, TG f = some g → (∃ D h, T f = some h ∧ h.mode = .shared ∧ g = gFnX DG D h) ∨ (∃ D h, T f = some h ∧ h.mode = .iso ∧ g = gIso (gFnX DG D h)) ∨ ∃ k h, T f = some h ∧ h.mode = .ext k ∧ g = gExt h.nargs k) : ∀ n, CallEx (callG TG n) (callA T)
  | 0, f, vs, s, v, s', σ, h, hs => by cases h
  | n + 1, f, vs, s, v, s', σ, h, hs => by
    have h : optR (TG f) (fun g => g (callG TG n) vs s) = some (v, s') := h
    obtain ⟨g, h1, h2⟩ := optR_some h
    rcases hT f g h1 with ⟨D, hf, h3, h4, rfl⟩ | ⟨D, hf, h3, h4, rfl⟩ | ⟨k, hf, h3, h4, rfl⟩
    · obtain ⟨h5, m, σ', h6, h7⟩ := gFnX_run hD (callG_isoX hD hT n) h2 hs
      refine ⟨m + 1, σ', ?_, h7⟩
      rw [callA, h3]
      simp only [h5, if_true, h4]
      exact h6
    · unfold gIso at h2
      obtain ⟨ts, h8, h2⟩ := optR_some h2
      obtain ⟨p, h9, h2⟩ := optR_some h2
      obtain ⟨t, h10, h2⟩ := optR_some h2
      obtain ⟨h5, m, σ1, h6, h7⟩ := gFnX_run (v := p.1) (s' := p.2) hD (callG_isoX hD hT n) h9 SRel.nil
      rw [toL_eq hs] at h8 h2
      rw [toL_eq h7] at h10
      have hlen : ts.length = vs.length := snapL_len h8
      have h5' : hf.nargs = vs.length := by rw [h5, List.length_map, hlen]
      cases hn : noRows t with
      | true =>
        rw [hn, bif2_true] at h2
        cases h2
        refine ⟨m + 1, σ, ?_, hs⟩
        rw [callA, h3]
        simp only [h5', if_true, h4, h8, h6, h10, hn]
      | false =>
        rw [hn, bif2_false] at h2
        cases hd : (dirs.dirsL vs).isEmpty with
        | true =>
          rw [hd, bif2_true] at h2
          cases h2
          have hd : dirs.dirsL vs = [] := by simpa using hd
          refine ⟨m + 1, σ, ?_, hs⟩
          rw [callA, h3]
          simp only [h5', if_true, h4, h8, h6, h10, hn, freezeAll_nil hd, Bool.false_eq_true, if_false]
        | false =>
          rw [hd, bif2_false] at h2
          obtain ⟨σ2, h11, h2⟩ := optR_some h2
          cases h2
          refine ⟨m + 1, σ2, ?_, ofL_ok σ2⟩
          rw [callA, h3]
          simp only [h5', if_true, h4, h8, h6, h10, hn, h11, Bool.false_eq_true, if_false]
    · unfold gExt at h2
      obtain ⟨h5, h6⟩ := bif2_some h2
      rw [toL_eq hs] at h6
      cases h7 : extV k vs σ with
      | some u =>
        rw [h7] at h6
        cases h6
        refine ⟨1, σ, ?_, hs⟩
        rw [callA, h3]
        simp only [Nat.eq_of_beq_eq_true h5, if_true, h4, h7]
      | none =>
        rw [h7] at h6
        simp only [extR2] at h6
        obtain ⟨p, h8, h9⟩ := optR_some h6
        cases h9
        rw [toL_eq hs] at h8
        refine ⟨1, p.2, ?_, ofL_ok p.2⟩
        rw [callA, h3]
        simp only [Nat.eq_of_beq_eq_true h5, if_true, h4, h7, h8]
end
section
variable {T : FTab} {DG : DfG} {D : Nat}
noncomputable def tgOf (DG : DfG) (D : Nat) (T : FTab) : TabG := fun f => match T f with
  | none => none
  | some h => match h.mode with
    | .shared => some (gFnX DG D h)
    | .iso => some (gIso (gFnX DG D h))
    | .ext k => some (gExt h.nargs k)
theorem tgOf_ok (f : FuncId) (g : GFn) (e : tgOf DG D T f = some g) : (∃ D h, T f = some h ∧ h.mode = .shared ∧ g = gFnX DG D h) ∨ (∃ D h, T f = some h ∧ h.mode = .iso ∧ g = gIso (gFnX DG D h)) ∨ ∃ k h, T f = some h ∧ h.mode = .ext k ∧ g = gExt h.nargs k := by
  unfold tgOf at e
  split at e
  · cases e
  · rename_i h hT
    split at e <;> rename_i hm <;> cases e
    · exact .inl ⟨D, h, hT, hm, rfl⟩
    · exact .inr (.inl ⟨D, h, hT, hm, rfl⟩)
    · exact .inr (.inr ⟨_, h, hT, hm, rfl⟩)
end
end Go.Proofs.YtolhjhjlfgfifaaGreatDoor.AM
end
section
set_option linter.unusedSimpArgs false
set_option linter.unusedVariables false
set_option linter.unusedVariables false
set_option linter.unusedSimpArgs false
namespace Go.Proofs.YtolhjhjlfgfifaaGreatDoor.AM
open Classical in
noncomputable def callL (T : FTab) : CallA := fun f vs σ => if h : ∃ r, ∃ m, callA T m f vs σ = some r then some (Classical.choose h) else none
variable {T : FTab}
theorem callL_some {f : FuncId} {vs : List V} {σ : Store} {r : V × Store} : callL T f vs σ = some r ↔ ∃ m, callA T m f vs σ = some r := by
  unfold callL
  constructor
  · intro h
    split at h
    · rename_i hx
      cases h
      exact Classical.choose_spec hx
    · cases h
  · rintro ⟨m, h⟩
    have hx : ∃ r, ∃ m, callA T m f vs σ = some r := ⟨r, m, h⟩
    rw [dif_pos hx]
    obtain ⟨m', h'⟩ := Classical.choose_spec hx
    have h1 := callA_mono T m (max m m') (Nat.le_max_left ..) _ _ _ _ h
    have h2 := callA_mono T m' (max m m') (Nat.le_max_right ..) _ _ _ _ h'
    rw [h1] at h2
    exact h2.symm
theorem cl_iff {f : FuncId} {vs : List V} {σ σ' : Store} {v : V} : Cl T f vs σ v σ' ↔ callL T f vs σ = some (v, σ') := callL_some.symm
theorem callA_le_L (m : Nat) : CallLe (callA T m) (callL T) := fun f vs σ r h => callL_some.2 ⟨m, h⟩
theorem opA_fin {k : HK} {st : St} {r : V × Store} (e : opA (callL T) k st = some r) : ∃ m, opA (callA T m) k st = some r := by
  cases k with
  | callf f args =>
    simp only [opA, o_callf] at e ⊢
    split at e
    · rename_i h
      obtain ⟨m, hm⟩ := callL_some.1 e
      exact ⟨m, by simp only [hm]⟩
    · cases e
  | callv f args =>
    simp only [opA, o_callv] at e ⊢
    unfold bind1 at e ⊢
    split at e
    · rename_i hf
      split at e
      · rename_i ha
        unfold callV at e ⊢
        simp only at e ⊢
        split at e
        · obtain ⟨m, hm⟩ := callL_some.1 e
          exact ⟨m, by simp only [hm]⟩
        · obtain ⟨m, hm⟩ := callL_some.1 e
          exact ⟨m, by simp only [hm]⟩
        · cases e
      · cases e
    · cases e
  | _ => exact ⟨0, e⟩
theorem opStep_fin {o : HOp} {st st' : St} (e : opStep (callL T) o st = some st') : ∃ m, opStep (callA T m) o st = some st' := by
  unfold opStep at e ⊢
  cases hg : guardA st o.guard with
  | none => rw [hg] at e; cases e
  | some b =>
    simp only [hg] at e ⊢
    cases b with
    | true =>
      simp only at e ⊢
      split at e
      · rename_i v σ h
        obtain ⟨m, hm⟩ := opA_fin h
        exact ⟨m, by simp only [hm]; exact e⟩
      · cases e
    | false => exact ⟨0, e⟩
theorem opsRun_fin : ∀ {ops : List HOp} {st st' : St}, opsRun (callL T) ops st = some st' → ∃ m, opsRun (callA T m) ops st = some st'
  | [], st, st', e => ⟨0, e⟩
  | o :: r, st, st', e => by
    simp only [opsRun] at e
    split at e
    · rename_i s h
      obtain ⟨m, hm⟩ := opStep_fin h
      obtain ⟨m', hm'⟩ := opsRun_fin e
      refine ⟨max m m', ?_⟩
      simp only [opsRun, opStep_le (callA_mono T _ _ (Nat.le_max_left m m')) hm]
      exact opsRun_le (callA_mono T _ _ (Nat.le_max_right m m')) hm'
    · cases e
theorem quiet_fin {f : FuncId} {vs : List V} {σ : Store} {r : V × Store} (e : quietCall (callL T) f vs σ = some r) : ∃ m, quietCall (callA T m) f vs σ = some r := by
  unfold quietCall at e ⊢
  split at e
  · cases e
  · rename_i hs
    split at e
    · cases e
    · rename_i h
      obtain ⟨m, hm⟩ := callL_some.1 h
      exact ⟨m, by simp only [hm]; exact e⟩
theorem opAq_fin {k : HK} {st : St} {r : V × Store} (e : opA (quietCall (callL T)) k st = some r) : ∃ m, opA (quietCall (callA T m)) k st = some r := by
  cases k with
  | callf f args =>
    simp only [opA, o_callf] at e ⊢
    split at e
    · rename_i h
      obtain ⟨m, hm⟩ := quiet_fin e
      exact ⟨m, by simp only [hm]⟩
    · cases e
  | callv f args =>
    simp only [opA, o_callv] at e ⊢
    unfold bind1 at e ⊢
    split at e
    · rename_i hf
      split at e
      · rename_i ha
        unfold callV at e ⊢
        simp only at e ⊢
        split at e
        · obtain ⟨m, hm⟩ := quiet_fin e
          exact ⟨m, by simp only [hm]⟩
        · obtain ⟨m, hm⟩ := quiet_fin e
          exact ⟨m, by simp only [hm]⟩
        · cases e
      · cases e
    · cases e
  | _ => exact ⟨0, e⟩
theorem opStepD_fin {k : Nat} {ns : List Nat} {o : HOp} {st st' : St} (e : opStepD (callL T) k ns o st = some st') : ∃ m, opStepD (callA T m) k ns o st = some st' := by
  unfold opStepD at e ⊢
  cases hg : guardA (st.only ns) o.guard with
  | none => rw [hg] at e; cases e
  | some b =>
    simp only [hg] at e ⊢
    cases b with
    | true =>
      simp only at e ⊢
      split at e
      · rename_i v σ h
        have : ∃ m, opA (if Nat.beq k 1 = true then quietCall (callA T m) else callA T m) o.k (st.only ns) = some (v, σ) := by
          cases hk : Nat.beq k 1 with
          | true =>
            rw [hk, if_pos rfl] at h
            simp only [if_true]
            exact opAq_fin h
          | false =>
            rw [hk, if_neg (by simp)] at h
            simp only [Bool.false_eq_true, if_false]
            exact opA_fin h
        obtain ⟨m, hm⟩ := this
        exact ⟨m, by simp only [hm]; exact e⟩
      · cases e
    | false => exact ⟨0, e⟩
theorem pendOk_fin {σ : Store} {p : Pend} (e : pendOk (callL T) σ p = true) : ∃ m, pendOk (callA T m) σ p = true := by
  unfold pendOk at e ⊢
  split at e
  · rename_i v s h
    obtain ⟨m, hm⟩ := opA_fin h
    exact ⟨m, by simp only [hm]; exact e⟩
  · cases e
theorem pendAll_fin {i : Nat} {σ : Store} : ∀ {ps : List Pend}, pendAll (callL T) i σ ps = true → ∃ m, pendAll (callA T m) i σ ps = true
  | [], e => ⟨0, e⟩
  | p :: ps, e => by
    have e' : ((Nat.blt p.h i || pendOk (callL T) σ p) && pendAll (callL T) i σ ps) = true := e
    simp only [Bool.and_eq_true] at e'
    obtain ⟨m, hm⟩ := pendAll_fin e'.2
    have : ∃ m', (Nat.blt p.h i || pendOk (callA T m') σ p) = true := by
      cases hb : Nat.blt p.h i with
      | true => exact ⟨0, rfl⟩
      | false =>
        rw [hb, Bool.false_or] at e'
        obtain ⟨m', hm'⟩ := pendOk_fin e'.1
        exact ⟨m', by simpa using hm'⟩
    obtain ⟨m', hm'⟩ := this
    refine ⟨max m m', ?_⟩
    show ((Nat.blt p.h i || pendOk (callA T (max m m')) σ p) && pendAll (callA T (max m m')) i σ ps) = true
    rw [Bool.and_eq_true]
    refine ⟨?_, pendAll_le (callA_mono T _ _ (Nat.le_max_left m m')) hm⟩
    cases hb : Nat.blt p.h i with
    | true => rfl
    | false =>
      rw [hb, Bool.false_or] at hm'
      rw [Bool.false_or]
      exact pendOk_le (callA_mono T _ _ (Nat.le_max_right m m')) hm'
theorem opsRunD_fin : ∀ {is : List (Nat × List Nat)} {ops : List HOp} {i : Nat} {ps : List Pend} {st st' : St}, opsRunD (callL T) i ps is ops st = some st' → ∃ m, opsRunD (callA T m) i ps is ops st = some st'
  | [], [], i, ps, st, st', e => by
    simp only [opsRunD] at e ⊢
    split at e
    · rename_i h
      obtain ⟨m, hm⟩ := pendAll_fin h
      exact ⟨m, by rw [if_pos hm]; exact e⟩
    · cases e
  | (k, ns) :: is, o :: r, i, ps, st, st', e => by
    simp only [opsRunD] at e
    split at e
    · cases e
    · rename_i h
      have hp : ∃ m, ¬ (Nat.beq k 2 && !pendAll (callA T m) i st.σ ps) = true := by
        cases hk : Nat.beq k 2 with
        | false => exact ⟨0, by simp⟩
        | true =>
          rw [hk, Bool.true_and] at h
          have h1 : pendAll (callL T) i st.σ ps = true := by simpa using h
          obtain ⟨m, hm⟩ := pendAll_fin h1
          exact ⟨m, by simp [hm]⟩
      obtain ⟨m0, h0⟩ := hp
      split at e
      · rename_i s hs
        obtain ⟨m1, h1⟩ := opStepD_fin hs
        rw [pendAdd_le (callA_le_L m1) h1] at e
        obtain ⟨m2, h2⟩ := opsRunD_fin e
        refine ⟨max (max m0 m1) m2, ?_⟩
        have l0 : m0 ≤ max (max m0 m1) m2 := by omega
        have l1 : m1 ≤ max (max m0 m1) m2 := by omega
        have l2 : m2 ≤ max (max m0 m1) m2 := by omega
        simp only [opsRunD]
        have h0' : ¬ (Nat.beq k 2 && !pendAll (callA T (max (max m0 m1) m2)) i st.σ ps) = true := by
          cases hk : Nat.beq k 2 with
          | false => simp
          | true =>
            rw [hk, Bool.true_and] at h0
            have h1 : pendAll (callA T m0) i st.σ ps = true := by simpa using h0
            rw [pendAll_le (callA_mono T _ _ l0) h1]
            simp
        rw [if_neg h0', opStepD_le (callA_mono T _ _ l1) h1]
        simp only
        rw [pendAdd_le (callA_mono T _ _ l1) h1]
        exact opsRunD_le (callA_mono T _ _ l2) h2
      · cases e
  | [], _ :: _, _, _, _, _, e => by simp [opsRunD] at e
  | _ :: _, [], _, _, _, _, e => by simp [opsRunD] at e
theorem regionRun_fin {ops : List HOp} {dr : Option (List (Nat × List Nat))} {st st' : St} (e : regionRun (callL T) ops dr st = some st') : ∃ m, regionRun (callA T m) ops dr st = some st' := by
  unfold regionRun at e ⊢
  cases dr with
  | none => exact opsRun_fin e
  | some is => exact opsRunD_fin e
def wpc (T : FTab) : HCode → St → (Out → St → Prop) → Prop
  | .skip, st, Q => Q .normal st
  | .region ops dr, st, Q => okP (regionRun (callL T) ops dr st) (Q .normal)
  | .seq a b, st, Q => wpc T a st (thenN (fun s => wpc T b s Q) Q)
  | .cond x a b, st, Q => ∃ v, st.get x = some (.tr (.sc (.bool v))) ∧ (v = true → wpc T a st Q) ∧ (v = false → wpc T b st Q)
  | .block i b, st, Q => wpc T b st (blk i Q)
  | .loop b, st, Q => Wp T (.loop b) st Q
  | .exit i, st, Q => Q (.exit i) st
  | .ret, st, Q => Q .ret st
  | .bad, _, _ => False
theorem wpc_ok : ∀ (c : HCode) (st : St) (Q : Out → St → Prop), wpc T c st Q → Wp T c st Q
  | .skip, st, Q, h => wp_skip h
  | .region ops dr, st, Q, h => by
    obtain ⟨s, e, q⟩ := h
    obtain ⟨m, e⟩ := regionRun_fin e
    exact ⟨.normal, s, ⟨m + 1, by rw [exec]; simp only [e]⟩, q⟩
  | .seq a b, st, Q, h => by
    refine wp_seq ((wpc_ok a st _ h).mono fun o s hq => ?_)
    cases o with
    | normal => exact wpc_ok b s Q hq
    | exit i => exact hq
    | ret => exact hq
  | .cond x a b, st, Q, ⟨v, hx, ht, hf⟩ => wp_cond v hx (fun e => wpc_ok a st Q (ht e)) (fun e => wpc_ok b st Q (hf e))
  | .block i b, st, Q, h => wp_block (wpc_ok b st _ h)
  | .loop b, st, Q, h => h
  | .exit i, st, Q, h => wp_exit h
  | .ret, st, Q, h => wp_ret h
  | .bad, st, Q, h => h.elim
theorem wpc_loop {a : HCode} {Q : Out → St → Prop} (I : Nat → St → Prop) (n : Nat) (s : St) (h0 : I n s) (hr : ∀ n s, I n s → wpc T a s (thenN (fun s' => ∃ k, k < n ∧ I k s') Q)) : Wp T (.loop a) s Q :=
  wp_loop I (fun n s hI => wpc_ok _ _ _ (hr n s hI)) n s h0
def giv (rs : List HRes) (R : V → Store → Prop) : Out → St → Prop
  | .normal, s => ∃ v, resultA s rs = some v ∧ R v s.σ
  | .ret, s => ∃ v, resultA s rs = some v ∧ R v s.σ
  | .exit _, _ => False
theorem call_shared {f : FuncId} {fn : HFn} {vs : List V} {σ : Store} {R : V → Store → Prop} (hf : T f = some fn) (hm : fn.mode = .shared) (hl : fn.nargs = vs.length)
    (h : wpc T fn.code ⟨argsEnv vs 0, [], σ⟩ (giv fn.results R)) (hd : fn.dfr = none := by rfl) : ∃ v σ', callL T f vs σ = some (v, σ') ∧ R v σ' := by
  obtain ⟨o, s, e, q⟩ := wpc_ok _ _ _ h
  have key : ∃ v, resultA s fn.results = some v ∧ R v s.σ ∧ (o = .normal ∨ o = .ret) := by
    cases o with
    | normal => obtain ⟨v, h1, h2⟩ := q; exact ⟨v, h1, h2, .inl rfl⟩
    | ret => obtain ⟨v, h1, h2⟩ := q; exact ⟨v, h1, h2, .inr rfl⟩
    | exit i => exact q.elim
  obtain ⟨v, h1, h2, h3⟩ := key
  exact ⟨v, s.σ, cl_iff.1 (cl_of hf hm hl e h3 h1 hd), h2⟩
theorem snapL_tr {n : Nat} {σ : Store} : ∀ (ts : List Tree), snapL (snap σ n) (ts.map .tr) = some ts
  | [] => rfl
  | t :: ts => by
    have h : snap σ n (.tr t) = some t := by cases n <;> simp only [snap]
    simp only [List.map_cons, snapL, h, snapL_tr ts]
theorem dirs_tr : ∀ (ts : List Tree), dirs.dirsL (ts.map .tr) = []
  | [] => rfl
  | t :: ts => by simp only [List.map_cons, dirs.dirsL, dirs, dirs_tr ts, List.nil_append]
theorem call_iso {f : FuncId} {fn : HFn} {ts : List Tree} {R : Tree → Prop} (hf : T f = some fn) (hm : fn.mode = .iso) (hl : fn.nargs = ts.length)
    (h : wpc T fn.code ⟨argsEnv (ts.map .tr) 0, [], []⟩ (giv fn.results fun v σ => ∃ t, snap σ deepN v = some t ∧ R t)) (hd : fn.dfr = none := by rfl) : ∃ t, (∀ σ, callL T f (ts.map .tr) σ = some (.tr t, σ)) ∧ R t := by
  obtain ⟨o, s, e, q⟩ := wpc_ok _ _ _ h
  have key : ∃ v t, resultA s fn.results = some v ∧ snap s.σ deepN v = some t ∧ R t ∧ (o = .normal ∨ o = .ret) := by
    cases o with
    | normal => obtain ⟨v, h1, t, h2, h3⟩ := q; exact ⟨v, t, h1, h2, h3, .inl rfl⟩
    | ret => obtain ⟨v, h1, t, h2, h3⟩ := q; exact ⟨v, t, h1, h2, h3, .inr rfl⟩
    | exit i => exact q.elim
  obtain ⟨v, t, h1, h2, h3, h4⟩ := key
  refine ⟨t, fun σ => ?_, h3⟩
  obtain ⟨m, e⟩ := e
  refine callL_some.2 ⟨m + 2, ?_⟩
  have hr : runA T (m + 1) fn (ts.map .tr) [] = some (v, s.σ) := by
    rw [runA]
    rcases h4 with rfl | rfl <;> simp only [hd, e, h1]
  have hz : freezeAll σ (ts.map .tr) = some σ := by
    unfold freezeAll
    rw [dirs_tr]
    have hn : ∀ (n : Nat) (S : List Nat), reachN σ n [] S = S := by
      intro n S
      cases n <;> simp [reachN]
    simp only [hn]
    rfl
  rw [callA, hf]
  simp only [hl, List.length_map, if_true, hm, snapL_tr, hr, h2, hz]
  split <;> rfl
end Go.Proofs.YtolhjhjlfgfifaaGreatDoor.AM
end
section
set_option linter.unusedSimpArgs false
set_option linter.unusedVariables false
set_option linter.unusedVariables false
set_option linter.unusedSimpArgs false
namespace Go.Proofs.YtolhjhjlfgfifaaGreatDoor.AM
def sq (T : FTab) (b : HCode) (Q : Out → St → Prop) : Out → St → Prop := thenN (fun s => wpc T b s Q) Q
def okA (r : Option (V × Store)) (d : Option Nat) (inK : Bool) (st : St) (K : St → Prop) : Prop := ∃ v σ, r = some (v, σ) ∧ K ({ st with σ := σ }.set d inK v)
def okR (c : CallA) (r : List HOp) (K : St → Prop) (s : St) : Prop := okP (opsRun c r s) K
def okD (c : CallA) (i : Nat) (is : List (Nat × List Nat)) (r : List HOp) (K : St → Prop) (s : St) : Prop := okP (opsRunD c i [] is r s) K
def okF (f : Bool) (σ : Store) (r : Option (V × Store)) : Option (V × Store) := match r with
  | some (v, σ') => if f && !freshOk σ σ' then none else some (v, σ')
  | none => none
theorem okA_sm {v : V} {σ : Store} {d : Option Nat} {inK : Bool} {st : St} {K : St → Prop} : okA (some (v, σ)) d inK st K ↔ K ({ st with σ := σ }.set d inK v) := by
  simp only [okA, Option.some.injEq, Prod.mk.injEq]
  exact ⟨by rintro ⟨_, _, ⟨rfl, rfl⟩, h⟩; exact h, fun h => ⟨_, _, ⟨rfl, rfl⟩, h⟩⟩
theorem okA_no {d : Option Nat} {inK : Bool} {st : St} {K : St → Prop} : okA none d inK st K ↔ False := by
  simp [okA]
def okG (g : Option V) (want : Bool) (c : CallA) (d : Option Nat) (inK : Bool) (k : HK) (r : List HOp) (K : St → Prop) (st : St) : Prop :=
  match g with
  | some (.tr (.sc (.bool b))) => if b = want then okA (opA c k st) d inK st (okR c r K) else okP (opsRun c r (st.set d inK undefV)) K
  | some (.tr (.tup [])) => okP (opsRun c r (st.set d inK undefV)) K
  | _ => False
def okGD (g : Option V) (want : Bool) (c : CallA) (i n : Nat) (ns : List Nat) (is : List (Nat × List Nat)) (d : Option Nat) (inK : Bool) (k : HK) (r : List HOp) (K : St → Prop) (st : St) : Prop :=
  match g with
  | some (.tr (.sc (.bool b))) => if b = want then okA (okF (Nat.beq n 1) st.σ (opA (if Nat.beq n 1 then quietCall c else c) k (st.only ns))) d inK st (okD c (i + 1) is r K) else okP (opsRunD c (i + 1) [] is r (st.set d inK undefV)) K
  | some (.tr (.tup [])) => okP (opsRunD c (i + 1) [] is r (st.set d inK undefV)) K
  | _ => False
def okC (g : Option V) (T : FTab) (a b : HCode) (st : St) (Q : Out → St → Prop) : Prop :=
  match g with
  | some (.tr (.sc (.bool v))) => if v = true then wpc T a st Q else wpc T b st Q
  | _ => False
section
variable {T : FTab} {c : CallA} {e L : List (Nat × V)} {σ σ' : Store} {st : St} {Q : Out → St → Prop} {K : St → Prop} {a b : HCode} {v : V} {d : Nat} {k : HK} {r : List HOp} {ns : List Nat} {i : Nat} {is : List (Nat × List Nat)}
@[simp] theorem wpc_skip : wpc T .skip st Q ↔ Q .normal st := Iff.rfl
@[simp] theorem wpc_seq : wpc T (.seq a b) st Q ↔ wpc T a st (sq T b Q) := Iff.rfl
@[simp] theorem wpc_block {i : Nat} : wpc T (.block i b) st Q ↔ wpc T b st (blk i Q) := Iff.rfl
@[simp] theorem wpc_exit {i : Nat} : wpc T (.exit i) st Q ↔ Q (.exit i) st := Iff.rfl
@[simp] theorem wpc_ret : wpc T .ret st Q ↔ Q .ret st := Iff.rfl
@[simp] theorem wpc_loop_iff : wpc T (.loop b) st Q ↔ Wp T (.loop b) st Q := Iff.rfl
@[simp] theorem wpc_region {ops : List HOp} : wpc T (.region ops none) ⟨e, L, σ⟩ Q ↔ okP (opsRun (callL T) ops ⟨e, [], σ⟩) (Q .normal) := Iff.rfl
@[simp] theorem wpc_regionD {ops : List HOp} : wpc T (.region ops (some is)) ⟨e, L, σ⟩ Q ↔ okP (opsRunD (callL T) 0 [] is ops ⟨e, [], σ⟩) (Q .normal) := Iff.rfl
theorem wpc_cond {x : HO} : wpc T (.cond x a b) st Q ↔ ∃ v, st.get x = some (.tr (.sc (.bool v))) ∧ (v = true → wpc T a st Q) ∧ (v = false → wpc T b st Q) := Iff.rfl
theorem wpc_if {x : HO} {v : Bool} (h : st.get x = some (.tr (.sc (.bool v)))) : wpc T (.cond x a b) st Q ↔ (if v = true then wpc T a st Q else wpc T b st Q) := by
  rw [wpc_cond]
  constructor
  · rintro ⟨v', h', h1, h2⟩
    rw [h] at h'
    cases h'
    cases v with
    | true => exact h1 rfl
    | false => exact h2 rfl
  · intro h1
    refine ⟨v, h, fun e => ?_, fun e => ?_⟩ <;> subst e <;> simpa using h1
@[simp] theorem sq_n : sq T b Q .normal st ↔ wpc T b st Q := Iff.rfl
@[simp] theorem sq_e {i : Nat} : sq T b Q (.exit i) st ↔ Q (.exit i) st := Iff.rfl
@[simp] theorem sq_r : sq T b Q .ret st ↔ Q .ret st := Iff.rfl
attribute [simp] thenN_n thenN_e thenN_r blk_n blk_r
@[simp] theorem blk_exit {i j : Nat} : blk i Q (.exit j) st ↔ if Nat.beq j i then Q .normal st else Q (.exit j) st := by
  by_cases h : j = i
  · subst h; rw [blk_e]; simp
  · rw [blk_o h, if_neg]
    intro h2
    exact h (Nat.eq_of_beq_eq_true h2)
@[simp] theorem okP_sm : okP (some st) K ↔ K st := okP_some
@[simp] theorem okP_no : okP none K ↔ False := by simp [okP]
@[simp] theorem okR_iff : okR c r K st ↔ okP (opsRun c r st) K := Iff.rfl
@[simp] theorem okD_iff : okD c i is r K st ↔ okP (opsRunD c i [] is r st) K := Iff.rfl
@[simp] theorem ops_nil : okP (opsRun c [] st) K ↔ K st := okP_some
theorem ops_cons {o : HOp} : okP (opsRun c (o :: r) st) K ↔ okP (opStep c o st) (okR c r K) := by
  simp only [opsRun]
  cases h : opStep c o st with
  | none => simp
  | some s => simp
@[simp] theorem ops_step {d : Option Nat} {inK : Bool} : okP (opsRun c (⟨d, inK, k, none⟩ :: r) st) K ↔ okA (opA c k st) d inK st (okR c r K) := by
  rw [ops_cons]
  unfold opStep
  simp only [guardA]
  cases h : opA c k st with
  | none => simp [okA_no]
  | some p => obtain ⟨v, s⟩ := p; simp [okA_sm]
@[simp] theorem ops_okG {d : Option Nat} {inK want : Bool} {x : HO} :
    okP (opsRun c (⟨d, inK, k, some (x, want)⟩ :: r) st) K ↔ okG (st.get x) want c d inK k r K st := by
  rw [ops_cons]
  have key : ∀ g, st.get x = some (.tr (.sc (.bool g))) → (okP (opStep c ⟨d, inK, k, some (x, want)⟩ st) (okR c r K) ↔ okG (st.get x) want c d inK k r K st) := by
    intro b hg
    unfold opStep okG
    simp only [guardA, hg]
    by_cases h : b = want
    · subst h
      simp only [beq_self_eq_true, if_true]
      cases h : opA c k st with
      | none => simp [okA_no]
      | some p => obtain ⟨v, s⟩ := p; simp [okA_sm]
    · have : (b == want) = false := by simpa using h
      simp [this, h]
  cases hg : st.get x with
  | none => simp [opStep, guardA, hg, okG]
  | some v =>
    cases v with
    | tr t =>
      cases t with
      | sc s =>
        cases s with
        | bool b => rw [key b hg, hg]
        | _ => simp [opStep, guardA, hg, okG]
      | tup l => cases l <;> simp [opStep, guardA, hg, okG]
      | _ => simp [opStep, guardA, hg, okG]
    | _ => simp [opStep, guardA, hg, okG]
@[simp] theorem okG_tt {d : Option Nat} {inK : Bool} : okG (some (.tr (.sc (.bool true)))) true c d inK k r K st ↔ okA (opA c k st) d inK st (okR c r K) := by simp [okG]
@[simp] theorem okG_ff {d : Option Nat} {inK : Bool} : okG (some (.tr (.sc (.bool false)))) false c d inK k r K st ↔ okA (opA c k st) d inK st (okR c r K) := by simp [okG]
@[simp] theorem okG_tf {d : Option Nat} {inK : Bool} : okG (some (.tr (.sc (.bool true)))) false c d inK k r K st ↔ okP (opsRun c r (st.set d inK undefV)) K := by simp [okG]
@[simp] theorem okG_ft {d : Option Nat} {inK : Bool} : okG (some (.tr (.sc (.bool false)))) true c d inK k r K st ↔ okP (opsRun c r (st.set d inK undefV)) K := by simp [okG]
@[simp] theorem okG_u {d : Option Nat} {inK want : Bool} : okG (some undefV) want c d inK k r K st ↔ okP (opsRun c r (st.set d inK undefV)) K := by simp [okG, undefV]
@[simp] theorem wpc_okC {x : HO} : wpc T (.cond x a b) st Q ↔ okC (st.get x) T a b st Q := by
  cases h : st.get x with
  | none => simp [wpc, okC, h]
  | some v =>
    unfold okC
    split
    · rename_i b hb
      cases hb
      exact wpc_if h
    · rename_i hn
      simp only [wpc_cond, h, iff_false]
      rintro ⟨b, hb, _⟩
      exact hn b hb
@[simp] theorem okC_t : okC (some (.tr (.sc (.bool true)))) T a b st Q ↔ wpc T a st Q := by simp [okC]
@[simp] theorem okC_f : okC (some (.tr (.sc (.bool false)))) T a b st Q ↔ wpc T b st Q := by simp [okC]
@[simp] theorem okA_env : okA (some (v, σ')) (some d) true ⟨e, L, σ⟩ K ↔ K ⟨put e d v, L, σ'⟩ := by
  simp only [okA, Option.some.injEq, Prod.mk.injEq]
  exact ⟨by rintro ⟨_, _, ⟨rfl, rfl⟩, h⟩; exact h, fun h => ⟨_, _, ⟨rfl, rfl⟩, h⟩⟩
@[simp] theorem okA_loc : okA (some (v, σ')) (some d) false ⟨e, L, σ⟩ K ↔ K ⟨e, (d, v) :: L, σ'⟩ := by
  simp only [okA, Option.some.injEq, Prod.mk.injEq]
  exact ⟨by rintro ⟨_, _, ⟨rfl, rfl⟩, h⟩; exact h, fun h => ⟨_, _, ⟨rfl, rfl⟩, h⟩⟩
@[simp] theorem okA_none {inK : Bool} : okA (some (v, σ')) none inK ⟨e, L, σ⟩ K ↔ K ⟨e, L, σ'⟩ := by
  simp only [okA, Option.some.injEq, Prod.mk.injEq]
  exact ⟨by rintro ⟨_, _, ⟨rfl, rfl⟩, h⟩; exact h, fun h => ⟨_, _, ⟨rfl, rfl⟩, h⟩⟩
@[simp] theorem set_env : St.set ⟨e, L, σ⟩ (some d) true v = ⟨put e d v, L, σ⟩ := rfl
@[simp] theorem set_loc : St.set ⟨e, L, σ⟩ (some d) false v = ⟨e, (d, v) :: L, σ⟩ := rfl
@[simp] theorem opsD_nil : okP (opsRunD c i [] [] [] st) K ↔ K st := by simp [opsRunD, pendAll]
theorem opsD_cons {o : HOp} {n : Nat} (hn : n < 3) : okP (opsRunD c i [] ((n, ns) :: is) (o :: r) st) K ↔ okP (opStepD c n ns o st) (okD c (i + 1) is r K) := by
  have h1 : pendAll c i st.σ [] = true := rfl
  have h2 : pendAdd c n ns o st [] = [] := by
    unfold pendAdd
    split
    · omega
    · rfl
  simp only [opsRunD, h1, h2, Bool.not_true, Bool.and_false, Bool.false_eq_true, if_false]
  cases h : opStepD c n ns o st with
  | none => simp
  | some s => simp
@[simp] theorem opsD_0 {d : Option Nat} {inK : Bool} : okP (opsRunD c i [] ((0, ns) :: is) (⟨d, inK, k, none⟩ :: r) st) K ↔ okA (opA c k (st.only ns)) d inK st (okD c (i + 1) is r K) := by
  rw [opsD_cons (by omega)]
  have hb : Nat.beq 0 1 = false := rfl
  unfold opStepD
  simp only [guardA, hb, Bool.false_and, Bool.false_eq_true, if_false]
  cases h : opA c k (st.only ns) with
  | none => simp [okA_no]
  | some p => obtain ⟨v, s⟩ := p; simp [okA_sm]
@[simp] theorem opsD_2 {d : Option Nat} {inK : Bool} : okP (opsRunD c i [] ((2, ns) :: is) (⟨d, inK, k, none⟩ :: r) st) K ↔ okA (opA c k (st.only ns)) d inK st (okD c (i + 1) is r K) := by
  rw [opsD_cons (by omega)]
  have hb : Nat.beq 2 1 = false := rfl
  unfold opStepD
  simp only [guardA, hb, Bool.false_and, Bool.false_eq_true, if_false]
  cases h : opA c k (st.only ns) with
  | none => simp [okA_no]
  | some p => obtain ⟨v, s⟩ := p; simp [okA_sm]
@[simp] theorem opsD_1 {d : Option Nat} {inK : Bool} : okP (opsRunD c i [] ((1, ns) :: is) (⟨d, inK, k, none⟩ :: r) st) K ↔ okA (okF true st.σ (opA (quietCall c) k (st.only ns))) d inK st (okD c (i + 1) is r K) := by
  rw [opsD_cons (by omega)]
  have hb : Nat.beq 1 1 = true := rfl
  unfold opStepD okF
  simp only [guardA, hb, Bool.true_and, if_true]
  cases h : opA (quietCall c) k (st.only ns) with
  | none => simp [okA_no]
  | some p =>
    obtain ⟨v, s⟩ := p
    cases hf : freshOk st.σ s with
    | true => simp [okA_sm, hf]
    | false => simp [okA_no, hf]
theorem opsD_guard {d : Option Nat} {inK want g : Bool} {x : HO} {n : Nat} (hn : n < 3) (hg : (st.only ns).get x = some (.tr (.sc (.bool g)))) :
    okP (opsRunD c i [] ((n, ns) :: is) (⟨d, inK, k, some (x, want)⟩ :: r) st) K ↔ (if g = want then okA (okF (Nat.beq n 1) st.σ (opA (if Nat.beq n 1 then quietCall c else c) k (st.only ns))) d inK st (okD c (i + 1) is r K) else okP (opsRunD c (i + 1) [] is r (st.set d inK undefV)) K) := by
  rw [opsD_cons hn]
  unfold opStepD okF
  simp only [guardA, hg]
  by_cases h : g = want
  · subst h
    simp only [beq_self_eq_true, if_true]
    cases h : opA (if Nat.beq n 1 = true then quietCall c else c) k (st.only ns) with
    | none => simp [okA_no]
    | some p =>
      obtain ⟨v, s⟩ := p
      cases hf : freshOk st.σ s with
      | true => simp [okA_sm, hf]
      | false => cases hn : Nat.beq n 1 <;> simp [okA_sm, okA_no, hf]
  · have : (g == want) = false := by simpa using h
    simp [this, h]
@[simp] theorem opsD_okG {d : Option Nat} {inK want : Bool} {x : HO} {n : Nat} (hn : n < 3) :
    okP (opsRunD c i [] ((n, ns) :: is) (⟨d, inK, k, some (x, want)⟩ :: r) st) K ↔ okGD ((st.only ns).get x) want c i n ns is d inK k r K st := by
  have key : ∀ g, (st.only ns).get x = some (.tr (.sc (.bool g))) → (okP (opsRunD c i [] ((n, ns) :: is) (⟨d, inK, k, some (x, want)⟩ :: r) st) K ↔ okGD ((st.only ns).get x) want c i n ns is d inK k r K st) := by
    intro b hg
    rw [opsD_guard hn hg, hg]
    rfl
  cases hg : (st.only ns).get x with
  | none => rw [opsD_cons hn]; simp [opStepD, guardA, hg, okGD]
  | some v =>
    cases v with
    | tr t =>
      cases t with
      | sc s =>
        cases s with
        | bool b => rw [key b hg, hg]
        | _ => rw [opsD_cons hn]; simp [opStepD, guardA, hg, okGD]
      | tup l => rw [opsD_cons hn]; cases l <;> simp [opStepD, guardA, hg, okGD]
      | _ => rw [opsD_cons hn]; simp [opStepD, guardA, hg, okGD]
    | _ => rw [opsD_cons hn]; simp [opStepD, guardA, hg, okGD]
@[simp] theorem okGD_0 {d : Option Nat} {inK : Bool} : okGD (some (.tr (.sc (.bool true)))) true c i 0 ns is d inK k r K st ↔ okA (opA c k (st.only ns)) d inK st (okD c (i + 1) is r K) := by
  have hb : Nat.beq 0 1 = false := rfl
  unfold okGD okF
  simp only [hb, Bool.false_and, Bool.false_eq_true, if_false, if_true]
  cases h : opA c k (st.only ns) with
  | none => simp [okA_no]
  | some p => obtain ⟨v, s⟩ := p; simp [okA_sm]
@[simp] theorem okGD_2 {d : Option Nat} {inK : Bool} : okGD (some (.tr (.sc (.bool true)))) true c i 2 ns is d inK k r K st ↔ okA (opA c k (st.only ns)) d inK st (okD c (i + 1) is r K) := by
  have hb : Nat.beq 2 1 = false := rfl
  unfold okGD okF
  simp only [hb, Bool.false_and, Bool.false_eq_true, if_false, if_true]
  cases h : opA c k (st.only ns) with
  | none => simp [okA_no]
  | some p => obtain ⟨v, s⟩ := p; simp [okA_sm]
@[simp] theorem okGD_1 {d : Option Nat} {inK : Bool} : okGD (some (.tr (.sc (.bool true)))) true c i 1 ns is d inK k r K st ↔ okA (okF true st.σ (opA (quietCall c) k (st.only ns))) d inK st (okD c (i + 1) is r K) := by
  have hb : Nat.beq 1 1 = true := rfl
  unfold okGD
  simp only [hb, if_true]
@[simp] theorem okGD_f {d : Option Nat} {inK : Bool} {n : Nat} : okGD (some (.tr (.sc (.bool false)))) true c i n ns is d inK k r K st ↔ okP (opsRunD c (i + 1) [] is r (st.set d inK undefV)) K := by simp [okGD]
@[simp] theorem okGD_u {d : Option Nat} {inK want : Bool} {n : Nat} : okGD (some undefV) want c i n ns is d inK k r K st ↔ okP (opsRunD c (i + 1) [] is r (st.set d inK undefV)) K := by simp [okGD, undefV]
@[simp] theorem okF_same : okF true σ (some (v, σ)) = some (v, σ) := by
  have : freshOk σ σ = true := by
    unfold freshOk obVs
    simp [dirs.dirsL]
  simp [okF, this]
@[simp] theorem okF_false : okF false σ (some (v, σ')) = some (v, σ') := by simp [okF]
theorem lookOnly (k : Nat) : ∀ (ns : List Nat), look (onlyL e ns) k = if memN k ns then look e k else none
  | [] => rfl
  | t :: r => by
    have ih := lookOnly k r
    simp only [onlyL]
    cases h : Nat.beq t k with
    | true =>
      have := Nat.eq_of_beq_eq_true h
      subst this
      cases hl : look e t with
      | none => simp only [ih, memN, h, hl]; simp
      | some v => simp [look, memN]
    | false =>
      have hk : Nat.beq k t = false := by
        cases h2 : Nat.beq k t with
        | false => rfl
        | true => rw [Nat.eq_of_beq_eq_true h2] at h; simp at h
      cases hl : look e t with
      | none => simp only [ih, memN, h, Bool.false_or]
      | some v => simp only [look, hk, ih, memN, h, Bool.false_or, Bool.false_eq_true, if_false]
@[simp] theorem get_loc : St.get ⟨e, L, σ⟩ (.loc d) = look L d := rfl
@[simp] theorem get_env : St.get ⟨e, L, σ⟩ (.env d) = look e d := rfl
@[simp] theorem get_val : St.get st (.val v) = some v := rfl
@[simp] theorem only_loc : St.get (St.only ⟨e, L, σ⟩ ns) (.loc d) = if memN d ns then look L d else none := lookOnly d ns
@[simp] theorem only_env : St.get (St.only ⟨e, L, σ⟩ ns) (.env d) = if memN d ns then look e d else none := lookOnly d ns
@[simp] theorem only_st : (St.only st ns).σ = st.σ := rfl
@[simp] theorem gets_nil : St.gets st [] = some [] := rfl
attribute [simp] St.gets St.getp St.geto
theorem lookPut {k j : Nat} : ∀ {e : List (Nat × V)}, look (put e k v) j = if Nat.beq j k then some v else look e j
  | [] => rfl
  | (k', u) :: r => by
    unfold put
    cases h : Nat.beq k k' with
    | true =>
      simp only [if_true]
      have := Nat.eq_of_beq_eq_true h
      subst this
      unfold look
      cases h2 : Nat.beq j k <;> simp
    | false =>
      simp only [Bool.false_eq_true, if_false]
      unfold look
      rw [lookPut]
      cases h2 : Nat.beq j k' with
      | false => simp
      | true =>
        have := Nat.eq_of_beq_eq_true h2
        subst this
        cases h3 : Nat.beq j k with
        | false => simp
        | true =>
          have := Nat.eq_of_beq_eq_true h3
          subst this
          simp at h
attribute [simp] lookPut
@[simp] theorem look_cons {k j : Nat} : look ((k, v) :: e) j = if Nat.beq j k then some v else look e j := rfl
@[simp] theorem look_nil {j : Nat} : look [] j = none := rfl
attribute [simp] argsEnv memN
@[simp] theorem bind1_sm {β : Type} {f : V → Option β} : bind1 (some v) f = f v := rfl
@[simp] theorem bind1_no {β : Type} {f : V → Option β} : bind1 none f = none := rfl
@[simp] theorem pure1_sm : pure1 σ (some v) = some (v, σ) := rfl
@[simp] theorem pure1_no : pure1 σ none = none := rfl
@[simp] theorem skip1_sm : skip1 (some σ) = some (undefV, σ) := rfl
@[simp] theorem skip1_no : skip1 none = none := rfl
attribute [simp] opA o_mv o_pick o_alloc o_box o_build o_bslice o_load o_ldt o_store o_nilchk o_bin o_eqs o_un o_conv o_mkfn o_mkmap o_mkslice o_faddr o_field o_iaddr o_istr o_lookup o_mupd o_ment o_esto o_delete o_extract o_mkiface o_callf o_callv o_len o_cap o_append o_qappend o_copy o_clear o_minmax o_slicestr o_slice asBool?
attribute [simp] resultA resultsA
@[simp] theorem giv_n {rs : List HRes} {R : V → Store → Prop} : giv rs R .normal st ↔ ∃ v, resultA st rs = some v ∧ R v st.σ := Iff.rfl
@[simp] theorem giv_r {rs : List HRes} {R : V → Store → Prop} : giv rs R .ret st ↔ ∃ v, resultA st rs = some v ∧ R v st.σ := Iff.rfl
attribute [simp] bin_lss bin_gtr bin_leq bin_geq bin_add bin_sub bin_bool bin_str un_not
section
variable (k : IntKind) (x y : Int)
@[simp] theorem bin_eq : opBin .other .eql (.tr (.sc (.int k x))) (.tr (.sc (.int k y))) = some (.tr (.sc (.bool (decide (x = y))))) := by
  rw [bin_eql]
  congr 4
@[simp] theorem bin_neq : opBin .other .neq (.tr (.sc (.int k x))) (.tr (.sc (.int k y))) = some (.tr (.sc (.bool (!decide (x = y))))) := by
  have : (x != y) = !decide (x = y) := rfl
  simp [opBin, isNil, notNil, binSc, binInt, this]
@[simp] theorem bin_mul : opBin .other .mul (.tr (.sc (.int k x))) (.tr (.sc (.int k y))) = some (.tr (.sc (.int k (k.wrap (x * y))))) := by simp [opBin, isNil, notNil, binSc, binInt]
theorem bin_quo (h : y ≠ 0) : opBin .other .quo (.tr (.sc (.int k x))) (.tr (.sc (.int k y))) = some (.tr (.sc (.int k (k.wrap (x.tdiv y))))) := by simp [opBin, isNil, notNil, binSc, binInt, h]
theorem bin_rem (h : y ≠ 0) : opBin .other .rem (.tr (.sc (.int k x))) (.tr (.sc (.int k y))) = some (.tr (.sc (.int k (x.tmod y)))) := by simp [opBin, isNil, notNil, binSc, binInt, h]
theorem bin_shr {k' : IntKind} (h : 0 ≤ y) : opBin .other .shr (.tr (.sc (.int k x))) (.tr (.sc (.int k' y))) = some (.tr (.sc (.int k (x.fdiv (2 ^ (min y.toNat k.bits)))))) := by
  have : ¬ y < 0 := by omega
  simp [opBin, isNil, notNil, binSc, binShift, this]
@[simp] theorem bin_boolne (x y : Bool) : opBin .bool .neq (.tr (.sc (.bool x))) (.tr (.sc (.bool y))) = some (.tr (.sc (.bool (!(x == y))))) := by simp [opBin, isNil, notNil, binSc]
@[simp] theorem bin_strne (s t : ByteArray) : opBin .other .neq (.tr (.sc (.string s))) (.tr (.sc (.string t))) = some (.tr (.sc (.bool (!bytesEq s.data.toList t.data.toList)))) := by simp [opBin, isNil, notNil, binSc, binStr]
@[simp] theorem conv_int {k' : IntKind} {σ : Store} : opConv (.toInt k) (.tr (.sc (.int k' x))) σ = some (.tr (.sc (.int k (k.wrap x))), σ) := rfl
end
end
end Go.Proofs.YtolhjhjlfgfifaaGreatDoor.AM
end
section
set_option linter.unusedSimpArgs false
set_option linter.unusedVariables false
set_option linter.unusedVariables false
set_option linter.unusedSimpArgs false
namespace Go.Proofs.YtolhjhjlfgfifaaGreatDoor.AM
def nE (k : IntKind) (x : Nat) : List Tree := [.sc (.int k (x : Int))]
theorem nE_len (k : IntKind) (x : Nat) : (nE k x).length = 1 := rfl
abbrev nv (k : IntKind) (x : Nat) : V := .tr (.sc (.int k (x : Int)))
abbrev iv (x : Int) : V := .tr (.sc (.int .i64 x))
abbrev bv (b : Bool) : V := .tr (.sc (.bool b))
def cK (k : IntKind) (l : List Nat) : List V := l.map (nv k)
section
variable {k : IntKind} {l : List Nat} {i x : Nat} {σ : Store} {id n : Nat} {cap : Option Nat}
theorem cK_len : (cK k l).length = l.length := by simp [cK]
theorem room_ok {b : Nat} (h : n ≤ 1000000) (hb : b ≤ 8) : room n b = true := by
  unfold room
  have : n * (b + 1) ≤ 1000000 * 9 := Nat.mul_le_mul h (by omega)
  exact Nat.ble_eq_true_of_le (by omega)
theorem own_iaddr {g off : Nat} {k' : IntKind} {cs : List V} (hs : σ[id]? = some (.row cs g)) (hi : i < n) : opIaddr 1 (.own id g off n 1 cap) (.tr (.sc (.int k' (i : Int)))) σ = some (.ptr id g (off + i)) := by
  unfold opIaddr
  rw [asIdx_nat]
  simp only [hs, genOf, hi, true_and, Nat.mul_one]
  rw [if_pos trivial]
theorem cK_trees (l : List Nat) : cK k l = (l.flatMap (nE k)).map .tr := by
  induction l with
  | nil => rfl
  | cons x l ih =>
    simp only [List.flatMap_cons, List.map_append, ← ih]
    rfl
theorem snap_own {g d : Nat} (hs : σ[id]? = some (.row (cK k l) g)) (hn : n = l.length) : snap σ (d + 1) (.own id g 0 n 1 cap) = some (.row (l.flatMap (nE k)) l.length cap) := by
  subst hn
  have h1 : obCells σ id g = some (cK k l) := by simp [obCells, hs]
  have h2 : slice? (cK k l) 0 (l.length * 1) = some (cK k l) := by
    unfold slice?
    have : ((cK k l).drop 0).take (l.length * 1) = cK k l := by
      rw [List.drop_zero, Nat.mul_one, List.take_of_length_le (by rw [cK_len]; exact Nat.le_refl _)]
    simp only [this]
    rw [if_pos (by rw [cK_len, Nat.mul_one])]
  unfold snap
  simp only [h1, h2]
  rw [cK_trees, snapL_tr]
theorem sl_elems {v : V} (h : IsSl (nE k) l v) : elems σ 1 v = some (cK k l, l.length) := by
  rcases h with ⟨rfl, rfl⟩ | ⟨cap, rfl⟩
  · rfl
  · have := flat_len (nE_len k) l
    simp only [elems, this, if_true, cK_trees]
theorem app_nil {v : V} {b : Nat} (h : IsSl (nE k) l v) (hl : 0 < l.length) (hr : room l.length b = true) : opAppend 1 b nilSl v σ = some (.own σ.length 0 0 l.length 1 none, σ ++ [.row (cK k l) 0]) := by
  have h1 : ¬ l.length = 0 := by omega
  unfold opAppend nilSl
  simp [sl_elems h, hr, h1]
theorem app_own {v : V} {b g : Nat} {m : List Nat} (hs : σ[id]? = some (.row (cK k l) g)) (hn : n = l.length) (h : IsSl (nE k) m v) (hm : 0 < m.length) (hr : room m.length b = true) (hr2 : room l.length b = true) :
    opAppend 1 b (.own id g 0 n 1 none) v σ = some (.own id (g + 1) 0 (n + m.length) 1 none, σ.set id (.row (cK k (l ++ m)) (g + 1))) := by
  subst hn
  have h1 : ¬ m.length = 0 := by omega
  have h2 : slice? (cK k l) 0 (l.length * 1) = some (cK k l) := by
    unfold slice?
    have : ((cK k l).drop 0).take (l.length * 1) = cK k l := by
      rw [List.drop_zero, Nat.mul_one, List.take_of_length_le (by rw [cK_len]; exact Nat.le_refl _)]
    simp only [this]
    rw [if_pos (by rw [cK_len, Nat.mul_one])]
  have h3 : ¬ (0 + (l.length + m.length) * 1 ≤ (cK k l).length ∧ 0 < 1) := by rw [cK_len]; omega
  have h4 : (cK k m).all oneV = true := by
    rw [List.all_eq_true]
    intro x hx
    obtain ⟨y, _, rfl⟩ := List.mem_map.1 hx
    rfl
  have h5 : cK k l ++ cK k m = cK k (l ++ m) := by simp [cK]
  unfold opAppend
  simp only [sl_elems h, hr, hr2, hs, h2, h1, h4, h5, Bool.not_true, Bool.false_eq_true, if_false, if_true, ne_eq, not_true_eq_false, h3]
end
theorem wpc_mono {T : FTab} : ∀ (a : HCode) (s : St) (Q Q' : Out → St → Prop), (∀ o s, Q o s → Q' o s) → wpc T a s Q → wpc T a s Q'
  | .skip, s, Q, Q', h, hw => h _ _ hw
  | .region ops dr, s, Q, Q', h, hw => okP_mono hw (h _)
  | .seq a b, s, Q, Q', h, hw => by
    refine wpc_mono a s _ _ (fun o s' hq => ?_) hw
    cases o with
    | normal => exact wpc_mono b s' Q Q' h hq
    | exit i => exact h _ _ hq
    | ret => exact h _ _ hq
  | .cond x a b, s, Q, Q', h, ⟨v, hx, ht, hf⟩ => ⟨v, hx, fun e => wpc_mono a s Q Q' h (ht e), fun e => wpc_mono b s Q Q' h (hf e)⟩
  | .block i b, s, Q, Q', h, hw => by
    refine wpc_mono b s _ _ (fun o s' hq => ?_) hw
    cases o with
    | normal => exact h _ _ hq
    | ret => exact h _ _ hq
    | exit j =>
      by_cases hj : j = i
      · subst hj
        rw [blk_e] at hq ⊢
        exact h _ _ hq
      · rw [blk_o hj] at hq ⊢
        exact h _ _ hq
  | .loop b, s, Q, Q', h, hw => Wp.mono hw h
  | .exit i, s, Q, Q', h, hw => h _ _ hw
  | .ret, s, Q, Q', h, hw => h _ _ hw
  | .bad, s, Q, Q', h, hw => hw
theorem wpc_up {T : FTab} {a : HCode} {Q : Out → St → Prop} (N : Nat) (I : Nat → St → Prop) {s : St} (h0 : I 0 s) (hr : ∀ i s, I i s → wpc T a s (thenN (fun s' => i < N ∧ I (i + 1) s') Q)) : Wp T (.loop a) s Q := by
  refine wpc_loop (fun n s => ∃ i, n = N - i ∧ I i s) N s ⟨0, rfl, h0⟩ ?_
  rintro n s ⟨i, rfl, hI⟩
  obtain h := hr i s hI
  have key : ∀ o s', thenN (fun s' => i < N ∧ I (i + 1) s') Q o s' → thenN (fun s' => ∃ k, k < N - i ∧ ∃ i, k = N - i ∧ I i s') Q o s' := by
    intro o s' hq
    cases o with
    | normal => exact ⟨N - (i + 1), by have := hq.1; omega, i + 1, rfl, hq.2⟩
    | exit j => exact hq
    | ret => exact hq
  exact wpc_mono a s _ _ key h
section
variable {n : Int}
theorem w64 (h0 : -9223372036854775808 ≤ n) (h : n ≤ 9223372036854775807) : IntKind.i64.wrap n = n := IntWalk.i64_in n ⟨h0, h⟩
@[simp] theorem shr_u64_32 (n : Int) : opBin .other .shr (.tr (.sc (.int .u64 n))) (.tr (.sc (.int .u64 32))) = some (.tr (.sc (.int .u64 (n / 4294967296)))) := by
  rw [bin_shr _ _ _ (by omega)]
  congr 4
  exact Int.fdiv_eq_ediv_of_nonneg _ (by decide)
@[simp] theorem shr_i64_32 (n : Int) : opBin .other .shr (.tr (.sc (.int .i64 n))) (.tr (.sc (.int .u64 32))) = some (.tr (.sc (.int .i64 (n / 4294967296)))) := by
  rw [bin_shr _ _ _ (by omega)]
  congr 4
  exact Int.fdiv_eq_ediv_of_nonneg _ (by decide)
end
attribute [simp] Int.natCast_inj
attribute [simp] opBuild fillV mkAgg allTr
theorem splice_0 (a : V) (r : List V) (s : V) : splice (a :: r) 0 [s] = s :: r := by simp [splice]
theorem splice_1 (a b : V) (r : List V) (s : V) : splice (a :: b :: r) 1 [s] = a :: s :: r := by simp [splice]
@[simp] theorem one_b {b : Bool} : oneV (.tr (.sc (.bool b))) = true := rfl
@[simp] theorem one_i {k : IntKind} {n : Int} : oneV (.tr (.sc (.int k n))) = true := rfl
@[simp] theorem one_s {s : ByteArray} : oneV (.tr (.sc (.string s))) = true := rfl
@[simp] theorem one_l {a : Option Addr} {n c : Nat} : oneV (.tr (.sc (.slice a n c))) = true := rfl
@[simp] theorem one_r {cs : List Tree} {n : Nat} {c : Option Nat} : oneV (.tr (.row cs n c)) = true := rfl
@[simp] theorem one_p {cs : List Tree} {n : Nat} : oneV (.tr (.rptr cs n)) = true := rfl
@[simp] theorem one_o {i g o n s : Nat} {c : Option Nat} : oneV (.own i g o n s c) = true := rfl
@[simp] theorem one_q {i g o : Nat} : oneV (.ptr i g o) = true := rfl
@[simp] theorem one_m {i : Nat} : oneV (.mp i) = true := rfl
@[simp] theorem one_f {t : TypeId} {v : Tree} : oneV (.tr (.iface t v)) = true := rfl
@[simp] theorem cells_agg {cs : List V} : cellsOf (.agg cs) = cs := rfl
@[simp] theorem cells_tr {ts : List Tree} : cellsOf (.tr (.agg ts)) = ts.map .tr := rfl
theorem cells_one {v : V} (h : oneV v = true) : cellsOf v = [v] := by
  cases v with
  | tr t =>
    cases t with
    | sc s => cases s <;> first | rfl | cases h
    | _ => first | rfl | cases h
  | _ => first | rfl | cases h
@[simp] theorem cells_b {b : Bool} : cellsOf (.tr (.sc (.bool b))) = [.tr (.sc (.bool b))] := rfl
@[simp] theorem cells_i {k : IntKind} {n : Int} : cellsOf (.tr (.sc (.int k n))) = [.tr (.sc (.int k n))] := rfl
@[simp] theorem cells_s {s : ByteArray} : cellsOf (.tr (.sc (.string s))) = [.tr (.sc (.string s))] := rfl
@[simp] theorem cells_l {a : Option Addr} {n c : Nat} : cellsOf (.tr (.sc (.slice a n c))) = [.tr (.sc (.slice a n c))] := rfl
@[simp] theorem cells_r {cs : List Tree} {n : Nat} {c : Option Nat} : cellsOf (.tr (.row cs n c)) = [.tr (.row cs n c)] := rfl
@[simp] theorem cells_p {cs : List Tree} {n : Nat} : cellsOf (.tr (.rptr cs n)) = [.tr (.rptr cs n)] := rfl
@[simp] theorem cells_o {i g o n s : Nat} {c : Option Nat} : cellsOf (.own i g o n s c) = [.own i g o n s c] := rfl
@[simp] theorem cells_q {i g o : Nat} : cellsOf (.ptr i g o) = [.ptr i g o] := rfl
@[simp] theorem cells_m {i : Nat} : cellsOf (.mp i) = [.mp i] := rfl
@[simp] theorem cells_f {t : TypeId} {v : Tree} : cellsOf (.tr (.iface t v)) = [.tr (.iface t v)] := rfl
attribute [simp] splice_0 splice_1 snapL ofCells opAlloc
@[simp] theorem snap_tr {σ : Store} {n : Nat} {t : Tree} : snap σ n (.tr t) = some t := by cases n <;> simp only [snap]
@[simp] theorem noNil_row {cs : List Tree} {n : Nat} {c : Option Nat} : opBin .slice .eql (.tr (.row cs n c)) (.tr (.sc (.slice none 0 0))) = some (.tr (.sc (.bool false))) := rfl
@[simp] theorem noNil_own {i g o n s : Nat} {c : Option Nat} : opBin .slice .eql (.own i g o n s c) (.tr (.sc (.slice none 0 0))) = some (.tr (.sc (.bool false))) := rfl
@[simp] theorem isNil_nil : opBin .slice .eql (.tr (.sc (.slice none 0 0))) (.tr (.sc (.slice none 0 0))) = some (.tr (.sc (.bool true))) := rfl
end Go.Proofs.YtolhjhjlfgfifaaGreatDoor.AM
end
section
set_option linter.unusedSimpArgs false
set_option linter.unusedVariables false
set_option linter.unusedVariables false
set_option linter.unusedSimpArgs false
namespace Go.Proofs.YtolhjhjlfgfifaaGreatDoor.AM
def Rw (ts : List Tree) (v : V) : Prop := (ts = [] ∧ v = nilSl) ∨ ∃ cap, v = .tr (.row ts ts.length cap)
abbrev tE (t : Tree) : List Tree := [t]
theorem flat_tE : ∀ ts : List Tree, ts.flatMap tE = ts
  | [] => rfl
  | t :: ts => by rw [List.flatMap_cons, flat_tE ts]; rfl
theorem rw_isSl {ts : List Tree} {v : V} : Rw ts v ↔ IsSl tE ts v := by
  unfold Rw IsSl
  rw [flat_tE]
section
variable {ts : List Tree} {t : Tree} {v : V} {σ : Store} {id g n i : Nat} {cap : Option Nat}
theorem rw_len (h : Rw ts v) : opLen 1 v σ = some (nv .i64 ts.length) := isSl_len (rw_isSl.1 h)
theorem rw_iaddr (h : Rw ts v) (hi : ts[i]? = some t) (k : IntKind) : opIaddr 1 v (.tr (.sc (.int k (i : Int)))) σ = some (.tr (.rptr ts i)) := by
  have := isSl_iaddr (σ := σ) (rw_isSl.1 h) (c := 1) (fun _ => rfl) (by omega) (k := k) hi
  rwa [flat_tE, Nat.mul_one] at this
theorem rw_load (hi : ts[i]? = some t) : opLoad 1 false (.tr (.rptr ts i)) σ = some (.tr t) := by
  have := rptr_load0 (σ := σ) (agg := false) (E := tE) (c := 1) (fun _ => rfl) hi (s := 1) (by omega)
  rw [flat_tE, Nat.mul_one] at this
  rw [this]; rfl
theorem rw_ldt (hi : ts[i]? = some t) : opLdt 1 false (.tr (.rptr ts i)) = some (.tr t) := rw_load (σ := []) hi
theorem bs1 (z : Tree) (h : oneV (.tr t) = true) : opBslice false 1 1 [z] [(0, 1, .tr t)] σ = some (.tr (.row [t] 1 (some 1)), σ) := by
  unfold opBslice
  simp [rep, fillV, cells_one h, splice, allTr]
theorem ownT_load (hs : σ[id]? = some (.row (ts.map .tr) g)) (hi : ts[i]? = some t) : opLoad 1 false (.ptr id g i) σ = some (.tr t) := by
  have h1 : obCells σ id g = some (ts.map .tr) := by simp [obCells, hs]
  have hlt := (List.getElem?_eq_some_iff.1 hi).1
  have hx : ts[i] = t := (List.getElem?_eq_some_iff.1 hi).2
  have h2 : slice? (ts.map V.tr) i 1 = some [.tr t] := by
    unfold slice?
    have : ((ts.map V.tr).drop i).take 1 = [.tr t] := by
      rw [List.drop_eq_getElem_cons (by rw [List.length_map]; exact hlt)]
      simp [hx]
    simp only [this]
    rfl
  simp only [opLoad, h1, h2, ofCells]
theorem snapT {off : Nat} {pre post : List Tree} {d : Nat} (hs : σ[id]? = some (.row ((pre ++ ts ++ post).map .tr) g)) (ho : pre.length = off) (hn : n = ts.length) : snap σ (d + 1) (.own id g off n 1 cap) = some (.row ts ts.length cap) := by
  subst hn
  have h1 : obCells σ id g = some ((pre ++ ts ++ post).map .tr) := by simp [obCells, hs]
  have h2 : slice? ((pre ++ ts ++ post).map V.tr) off (ts.length * 1) = some (ts.map .tr) := by
    unfold slice?
    have : (((pre ++ ts ++ post).map V.tr).drop off).take (ts.length * 1) = ts.map .tr := by
      rw [← ho, Nat.mul_one]
      simp
    simp only [this]
    rw [if_pos (by simp)]
  unfold snap
  simp only [h1, h2]
  rw [snapL_tr]
end
def Stk (id : Nat) (td : List Tree) (w : V) (σ : Store) : Prop := ∃ g cap pre post, w = .own id g pre.length td.length 1 cap ∧ σ[id]? = some (.row ((pre ++ td ++ post).map .tr) g) ∧ ∀ c, cap = some c → c ≤ td.length + post.length
def Gw (id : Nat) (td : List Tree) (w : V) (σ : Store) : Prop := (td = [] ∧ w = nilSl) ∨ Stk id td w σ
structure Nxt (id : Nat) (σ σ' : Store) : Prop where
  len : σ.length ≤ σ'.length
  same : ∀ i, i ≠ id → i < σ.length → σ'[i]? = σ[i]?
theorem Nxt.refl (id : Nat) (σ : Store) : Nxt id σ σ := ⟨Nat.le_refl _, fun _ _ _ => rfl⟩
theorem Nxt.at {id i : Nat} {σ σ' : Store} {o : Ob} (h : Nxt id σ σ') (hs : σ[i]? = some o) (hi : i ≠ id) : σ'[i]? = some o := by
  rw [h.same i hi (List.getElem?_eq_some_iff.1 hs).1]; exact hs
section
variable {id : Nat} {td : List Tree} {t : Tree} {w v : V} {σ : Store} {b : Nat}
theorem Stk.len (h : Stk id td w σ) : opLen 1 w σ = some (nv .i64 td.length) := by
  obtain ⟨g, cap, pre, post, rfl, _, _⟩ := h
  rfl
theorem Gw.len (h : Gw id td w σ) : opLen 1 w σ = some (nv .i64 td.length) := by
  rcases h with ⟨rfl, rfl⟩ | h
  · rfl
  · exact h.len
theorem Stk.lt (h : Stk id td w σ) : id < σ.length := by
  obtain ⟨g, cap, pre, post, rfl, hs, _⟩ := h
  exact (List.getElem?_eq_some_iff.1 hs).1
theorem Stk.load (h : Stk id td w σ) {i : Nat} (hi : td[i]? = some t) (k : IntKind) : ∃ p, opIaddr 1 w (.tr (.sc (.int k (i : Int)))) σ = some p ∧ opLoad 1 false p σ = some (.tr t) := by
  obtain ⟨g, cap, pre, post, rfl, hs, _⟩ := h
  have hlt := (List.getElem?_eq_some_iff.1 hi).1
  refine ⟨.ptr id g (pre.length + i), own_iaddr hs hlt, ownT_load hs ?_⟩
  rw [List.getElem?_append_left (by simp; omega), List.getElem?_append_right (by omega), Nat.add_sub_cancel_left]
  exact hi
theorem Gw.load (h : Gw id td w σ) {i : Nat} (hi : td[i]? = some t) (k : IntKind) : ∃ p, opIaddr 1 w (.tr (.sc (.int k (i : Int)))) σ = some p ∧ opLoad 1 false p σ = some (.tr t) := by
  rcases h with ⟨rfl, rfl⟩ | h
  · simp at hi
  · exact h.load hi k
theorem Stk.snap (h : Stk id td w σ) (d : Nat) : ∃ cap, snap σ (d + 1) w = some (.row td td.length cap) := by
  obtain ⟨g, cap, pre, post, rfl, hs, _⟩ := h
  exact ⟨cap, snapT hs rfl rfl⟩
theorem Gw.snap (h : Gw id td w σ) (d : Nat) : ∃ t, Go.Proofs.YtolhjhjlfgfifaaGreatDoor.AM.snap σ (d + 1) w = some t ∧ Rw td (.tr t) := by
  rcases h with ⟨rfl, rfl⟩ | h
  · exact ⟨.sc (.slice none 0 0), by simp [nilSl], .inl ⟨rfl, rfl⟩⟩
  · obtain ⟨c, hc⟩ := h.snap d
    exact ⟨_, hc, .inr ⟨c, rfl⟩⟩
theorem Stk.mono (h : Stk id td w σ) {σ' : Store} (hs : σ'[id]? = σ[id]?) : Stk id td w σ' := by
  obtain ⟨g, cap, pre, post, rfl, h1, h2⟩ := h
  exact ⟨g, cap, pre, post, rfl, by rw [hs]; exact h1, h2⟩
theorem Gw.mono (h : Gw id td w σ) {σ' : Store} (hs : id < σ.length → σ'[id]? = σ[id]?) : Gw id td w σ' := by
  rcases h with h | h
  · exact .inl h
  · exact .inr (h.mono (hs h.lt))
def Gx (bad : List Nat) (td : List Tree) (w : V) (σ : Store) : Prop := (td = [] ∧ w = nilSl) ∨ ∃ id, id ∉ bad ∧ td ≠ [] ∧ Stk id td w σ
theorem Gx.len {bad : List Nat} (h : Gx bad td w σ) : opLen 1 w σ = some (nv .i64 td.length) := by
  rcases h with ⟨rfl, rfl⟩ | ⟨id, _, _, h⟩
  · rfl
  · exact h.len
theorem Gx.load {bad : List Nat} (h : Gx bad td w σ) {i : Nat} (hi : td[i]? = some t) (k : IntKind) : ∃ p, opIaddr 1 w (.tr (.sc (.int k (i : Int)))) σ = some p ∧ opLoad 1 false p σ = some (.tr t) := by
  rcases h with ⟨rfl, rfl⟩ | ⟨id, _, _, h⟩
  · simp at hi
  · exact h.load hi k
theorem Gx.snap {bad : List Nat} (h : Gx bad td w σ) (d : Nat) : ∃ t, Go.Proofs.YtolhjhjlfgfifaaGreatDoor.AM.snap σ (d + 1) w = some t ∧ Rw td (.tr t) := by
  rcases h with h | ⟨id, _, _, h⟩
  · exact Gw.snap (id := 0) (.inl h) d
  · exact Gw.snap (.inr h) d
theorem Gx.sub {bad bad' : List Nat} (h : Gx bad td w σ) (hs : ∀ i ∈ bad', i ∈ bad) : Gx bad' td w σ := by
  rcases h with h | ⟨id, hb, hne, h⟩
  · exact .inl h
  · exact .inr ⟨id, fun hi => hb (hs _ hi), hne, h⟩
theorem Gx.move {bad bad' : List Nat} {j : Nat} {σ' : Store} (h : Gx bad td w σ) (hj : j ∈ bad) (hn : Nxt j σ σ') (hb : ∀ i ∈ bad', i ∈ bad ∨ σ.length ≤ i) : Gx bad' td w σ' := by
  rcases h with h | ⟨id, hi, hne, h⟩
  · exact .inl h
  · refine .inr ⟨id, fun hm => ?_, hne, h.mono (hn.same id (fun e => hi (e ▸ hj)) h.lt)⟩
    rcases hb id hm with h1 | h1
    · exact hi h1
    · have := h.lt; omega
end
theorem callL_extV {T : FTab} {f : FuncId} {fn : HFn} {vs : List V} {σ : Store} {v : V} {k : Nat} (hf : T f = some fn) (hm : fn.mode = .ext k) (hl : fn.nargs = vs.length) (h1 : extV k vs σ = some v) : callL T f vs σ = some (v, σ) := by
  refine callL_some.2 ⟨1, ?_⟩
  rw [callA, hf]
  simp only [hl, if_true, hm, h1]
section
variable {id : Nat} {w : V} {σ : Store}
end
def MapOf {κ : Type} (enc : κ → Value) (kv : List (κ × V)) (id : Nat) (σ : Store) : Prop := ∃ es clock, σ[id]? = some (.map es clock) ∧ es.map (fun e => (e.key, e.val)) = kv.map fun p => (enc p.1, p.2)
section
variable {κ : Type} [DecidableEq κ] {enc : κ → Value} {kv : List (κ × V)} {id : Nat} {σ : Store}
def setK (k : κ) (v : V) : List (κ × V) → List (κ × V)
  | [] => [(k, v)]
  | p :: r => if k = p.1 then (k, v) :: r else p :: setK k v r
theorem bytesEq_iff' : ∀ a b : List UInt8, bytesEq a b = decide (a = b)
  | [], [] => by simp [bytesEq]
  | [], _ :: _ => by simp [bytesEq]
  | _ :: _, [] => by simp [bytesEq]
  | a :: x, b :: y => by
    rw [bytesEq, bytesEq_iff' x y, Bool.eq_iff_iff]
    simp only [Bool.and_eq_true, Nat.beq_eq, decide_eq_true_eq, List.cons.injEq, UInt8.toNat_inj]
end
theorem MapOf.mono {κ : Type} {enc : κ → Value} {kv : List (κ × V)} {id : Nat} {σ σ' : Store} (h : MapOf enc kv id σ) (hs : σ'[id]? = σ[id]?) : MapOf enc kv id σ' := by
  obtain ⟨es, c, h1, h2⟩ := h
  exact ⟨es, c, by rw [hs]; exact h1, h2⟩
theorem MapOf.lt {κ : Type} {enc : κ → Value} {kv : List (κ × V)} {id : Nat} {σ : Store} (h : MapOf enc kv id σ) : id < σ.length := by
  obtain ⟨es, c, h1, h2⟩ := h
  exact (List.getElem?_eq_some_iff.1 h1).1
end Go.Proofs.YtolhjhjlfgfifaaGreatDoor.AM
end
