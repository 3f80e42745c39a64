/- The abstract machine, part 3: A28 A29 A30 A31 A32 A33 A39 A38 A46 A47 A48 A49 A51. -/
import Derived.Test.YtbdebcmklaooaaaDoorAm2
import Derived.Orders
import Derived.IntWalk
import Derived.ChangeArms
import Derived.WideShapes
section
set_option linter.unusedSimpArgs false
set_option linter.unusedVariables false
/- Operations that leave the store, or lay one place behind it, say the same over a longer store. -/
set_option linter.unusedVariables false
set_option linter.unusedSimpArgs false
open Go.RowKit
namespace Go.Proofs.YtbdebcmklaooaaaDoor.AM

section
variable {σ τ σ' : Store} {st : St} {call : CallA} {k : HK} {v : V}

theorem get_over (st : St) (τ : Store) : ∀ x, ({ st with σ := τ } : St).get x = st.get x
  | .loc _ => rfl
  | .env _ => rfl
  | .val _ => rfl
theorem gets_over (st : St) (τ : Store) : ∀ xs, ({ st with σ := τ } : St).gets xs = st.gets xs
  | [] => rfl
  | x :: r => by simp only [St.gets, get_over, gets_over st τ r]
theorem getp_over (st : St) (τ : Store) : ∀ xs, ({ st with σ := τ } : St).getp xs = st.getp xs
  | [] => rfl
  | (o, s, x) :: r => by simp only [St.getp, get_over, getp_over st τ r]
theorem geto_over (st : St) (τ : Store) : ∀ x, ({ st with σ := τ } : St).geto x = st.geto x
  | none => rfl
  | some x => by simp only [St.geto, get_over]
theorem guard_over (st : St) (τ : Store) : ∀ g, guardA ({ st with σ := τ } : St) g = guardA st g
  | none => rfl
  | some (x, want) => by simp only [guardA, get_over]

theorem pure1_of {x : Option V} (h : x = some v) (τ : Store) : pure1 τ x = some (v, τ) := by
  subst h; rfl

/-- Free kinds. -/
theorem free_over (hk : freeK k = true) (e : opA call k st = some (v, σ')) : σ' = st.σ ∧ ∀ τ, opA call k { st with σ := τ } = some (v, τ) := by
  have p1 : ∀ {x : Option V}, pure1 st.σ x = some (v, σ') → σ' = st.σ ∧ ∀ τ, pure1 τ x = some (v, τ) := by
    intro x h
    obtain ⟨h1, h2⟩ := pure1_some h
    exact ⟨h2, pure1_of h1⟩
  cases k with
  | mv x => simp only [opA, o_mv, o_pick, o_alloc, o_box, o_build, o_bslice, o_load, o_ldt, o_store, o_nilchk, o_bin, o_eqs, o_un, o_conv, o_mkfn, o_mkmap, o_mkslice, o_faddr, o_field, o_iaddr, o_istr, o_lookup, o_mupd, o_ment, o_esto, o_delete, o_extract, o_mkiface, o_callf, o_callv, o_len, o_cap, o_append, o_qappend, o_copy, o_clear, o_minmax, o_slicestr, o_slice, get_over] at e ⊢; exact p1 e
  | pick c a b =>
    simp only [opA, o_mv, o_pick, o_alloc, o_box, o_build, o_bslice, o_load, o_ldt, o_store, o_nilchk, o_bin, o_eqs, o_un, o_conv, o_mkfn, o_mkmap, o_mkslice, o_faddr, o_field, o_iaddr, o_istr, o_lookup, o_mupd, o_ment, o_esto, o_delete, o_extract, o_mkiface, o_callf, o_callv, o_len, o_cap, o_append, o_qappend, o_copy, o_clear, o_minmax, o_slicestr, o_slice, get_over] at e ⊢
    obtain ⟨cv, hc, e⟩ := bind1_some e
    rw [hc]
    simp only [bind1]
    split at e
    · exact p1 e
    · exact p1 e
    · cases e
  | build z ps =>
    simp only [opA, o_mv, o_pick, o_alloc, o_box, o_build, o_bslice, o_load, o_ldt, o_store, o_nilchk, o_bin, o_eqs, o_un, o_conv, o_mkfn, o_mkmap, o_mkslice, o_faddr, o_field, o_iaddr, o_istr, o_lookup, o_mupd, o_ment, o_esto, o_delete, o_extract, o_mkiface, o_callf, o_callv, o_len, o_cap, o_append, o_qappend, o_copy, o_clear, o_minmax, o_slicestr, o_slice, getp_over] at e ⊢
    split at e
    · exact p1 e
    · cases e
  | nilchk x =>
    simp only [opA, o_mv, o_pick, o_alloc, o_box, o_build, o_bslice, o_load, o_ldt, o_store, o_nilchk, o_bin, o_eqs, o_un, o_conv, o_mkfn, o_mkmap, o_mkslice, o_faddr, o_field, o_iaddr, o_istr, o_lookup, o_mupd, o_ment, o_esto, o_delete, o_extract, o_mkiface, o_callf, o_callv, o_len, o_cap, o_append, o_qappend, o_copy, o_clear, o_minmax, o_slicestr, o_slice, get_over] at e ⊢
    obtain ⟨cv, hc, e⟩ := bind1_some e
    rw [hc]
    exact p1 e
  | bin ek op x y =>
    simp only [opA, o_mv, o_pick, o_alloc, o_box, o_build, o_bslice, o_load, o_ldt, o_store, o_nilchk, o_bin, o_eqs, o_un, o_conv, o_mkfn, o_mkmap, o_mkslice, o_faddr, o_field, o_iaddr, o_istr, o_lookup, o_mupd, o_ment, o_esto, o_delete, o_extract, o_mkiface, o_callf, o_callv, o_len, o_cap, o_append, o_qappend, o_copy, o_clear, o_minmax, o_slicestr, o_slice, get_over] at e ⊢
    obtain ⟨cv, hc, e⟩ := bind1_some e
    obtain ⟨dv, hd, e⟩ := bind1_some e
    rw [hc, hd]
    exact p1 e
  | eqs neg offs x y =>
    simp only [opA, o_mv, o_pick, o_alloc, o_box, o_build, o_bslice, o_load, o_ldt, o_store, o_nilchk, o_bin, o_eqs, o_un, o_conv, o_mkfn, o_mkmap, o_mkslice, o_faddr, o_field, o_iaddr, o_istr, o_lookup, o_mupd, o_ment, o_esto, o_delete, o_extract, o_mkiface, o_callf, o_callv, o_len, o_cap, o_append, o_qappend, o_copy, o_clear, o_minmax, o_slicestr, o_slice, get_over] at e ⊢
    obtain ⟨cv, hc, e⟩ := bind1_some e
    obtain ⟨dv, hd, e⟩ := bind1_some e
    rw [hc, hd]
    exact p1 e
  | un op x =>
    simp only [opA, o_mv, o_pick, o_alloc, o_box, o_build, o_bslice, o_load, o_ldt, o_store, o_nilchk, o_bin, o_eqs, o_un, o_conv, o_mkfn, o_mkmap, o_mkslice, o_faddr, o_field, o_iaddr, o_istr, o_lookup, o_mupd, o_ment, o_esto, o_delete, o_extract, o_mkiface, o_callf, o_callv, o_len, o_cap, o_append, o_qappend, o_copy, o_clear, o_minmax, o_slicestr, o_slice, get_over] at e ⊢
    obtain ⟨cv, hc, e⟩ := bind1_some e
    rw [hc]
    exact p1 e
  | conv c x =>
    simp only [opA, o_mv, o_pick, o_alloc, o_box, o_build, o_bslice, o_load, o_ldt, o_store, o_nilchk, o_bin, o_eqs, o_un, o_conv, o_mkfn, o_mkmap, o_mkslice, o_faddr, o_field, o_iaddr, o_istr, o_lookup, o_mupd, o_ment, o_esto, o_delete, o_extract, o_mkiface, o_callf, o_callv, o_len, o_cap, o_append, o_qappend, o_copy, o_clear, o_minmax, o_slicestr, o_slice, get_over] at e ⊢
    obtain ⟨cv, hc, e⟩ := bind1_some e
    rw [hc]
    simp only [bind1]
    cases c with
    | toInt k =>
      unfold opConv at e ⊢
      split at e <;> simp_all
      · split at e
        · split at e
          · rename_i hif
            simp only [Option.some.injEq, Prod.mk.injEq] at e
            simp [e.1, e.2]
            exact hif
          · cases e
        · cases e
    | toFloat k =>
      unfold opConv at e ⊢
      split at e <;> simp_all
      · split at e
        · rename_i hif
          simp only [Option.some.injEq, Prod.mk.injEq] at e
          simp [e.1, e.2]
          simp_all
        · rename_i hif
          split at e
          · cases e
          · simp only [Option.some.injEq, Prod.mk.injEq] at e
            simp_all
          · split at e
            · cases e
            · simp only [Option.some.injEq, Prod.mk.injEq] at e
              simp_all
    | strStr =>
      unfold opConv at e ⊢
      split at e <;> simp_all
    | bytesStr => simp [freeK] at hk
    | same => simp [freeK] at hk
    | strBytes => simp [freeK] at hk
  | mkfn fn a b =>
    simp only [opA, o_mv, o_pick, o_alloc, o_box, o_build, o_bslice, o_load, o_ldt, o_store, o_nilchk, o_bin, o_eqs, o_un, o_conv, o_mkfn, o_mkmap, o_mkslice, o_faddr, o_field, o_iaddr, o_istr, o_lookup, o_mupd, o_ment, o_esto, o_delete, o_extract, o_mkiface, o_callf, o_callv, o_len, o_cap, o_append, o_qappend, o_copy, o_clear, o_minmax, o_slicestr, o_slice, gets_over] at e ⊢
    split at e
    · split at e
      · simp only [Option.some.injEq, Prod.mk.injEq] at e
        obtain ⟨rfl, rfl⟩ := e
        exact ⟨rfl, fun _ => rfl⟩
      · simp only [Option.some.injEq, Prod.mk.injEq] at e
        obtain ⟨rfl, rfl⟩ := e
        exact ⟨rfl, fun _ => rfl⟩
    · cases e
  | ldt size agg x =>
    simp only [opA, o_mv, o_pick, o_alloc, o_box, o_build, o_bslice, o_load, o_ldt, o_store, o_nilchk, o_bin, o_eqs, o_un, o_conv, o_mkfn, o_mkmap, o_mkslice, o_faddr, o_field, o_iaddr, o_istr, o_lookup, o_mupd, o_ment, o_esto, o_delete, o_extract, o_mkiface, o_callf, o_callv, o_len, o_cap, o_append, o_qappend, o_copy, o_clear, o_minmax, o_slicestr, o_slice, get_over] at e ⊢
    obtain ⟨cv, hc, e⟩ := bind1_some e
    rw [hc]
    exact p1 e
  | faddr off x =>
    simp only [opA, o_mv, o_pick, o_alloc, o_box, o_build, o_bslice, o_load, o_ldt, o_store, o_nilchk, o_bin, o_eqs, o_un, o_conv, o_mkfn, o_mkmap, o_mkslice, o_faddr, o_field, o_iaddr, o_istr, o_lookup, o_mupd, o_ment, o_esto, o_delete, o_extract, o_mkiface, o_callf, o_callv, o_len, o_cap, o_append, o_qappend, o_copy, o_clear, o_minmax, o_slicestr, o_slice, get_over] at e ⊢
    obtain ⟨cv, hc, e⟩ := bind1_some e
    rw [hc]
    exact p1 e
  | field off size agg x =>
    simp only [opA, o_mv, o_pick, o_alloc, o_box, o_build, o_bslice, o_load, o_ldt, o_store, o_nilchk, o_bin, o_eqs, o_un, o_conv, o_mkfn, o_mkmap, o_mkslice, o_faddr, o_field, o_iaddr, o_istr, o_lookup, o_mupd, o_ment, o_esto, o_delete, o_extract, o_mkiface, o_callf, o_callv, o_len, o_cap, o_append, o_qappend, o_copy, o_clear, o_minmax, o_slicestr, o_slice, get_over] at e ⊢
    obtain ⟨cv, hc, e⟩ := bind1_some e
    rw [hc]
    exact p1 e
  | istr x i =>
    simp only [opA, o_mv, o_pick, o_alloc, o_box, o_build, o_bslice, o_load, o_ldt, o_store, o_nilchk, o_bin, o_eqs, o_un, o_conv, o_mkfn, o_mkmap, o_mkslice, o_faddr, o_field, o_iaddr, o_istr, o_lookup, o_mupd, o_ment, o_esto, o_delete, o_extract, o_mkiface, o_callf, o_callv, o_len, o_cap, o_append, o_qappend, o_copy, o_clear, o_minmax, o_slicestr, o_slice, get_over] at e ⊢
    obtain ⟨cv, hc, e⟩ := bind1_some e
    obtain ⟨dv, hd, e⟩ := bind1_some e
    rw [hc, hd]
    exact p1 e
  | extract x i =>
    simp only [opA, o_mv, o_pick, o_alloc, o_box, o_build, o_bslice, o_load, o_ldt, o_store, o_nilchk, o_bin, o_eqs, o_un, o_conv, o_mkfn, o_mkmap, o_mkslice, o_faddr, o_field, o_iaddr, o_istr, o_lookup, o_mupd, o_ment, o_esto, o_delete, o_extract, o_mkiface, o_callf, o_callv, o_len, o_cap, o_append, o_qappend, o_copy, o_clear, o_minmax, o_slicestr, o_slice, get_over] at e ⊢
    obtain ⟨cv, hc, e⟩ := bind1_some e
    rw [hc]
    exact p1 e
  | mkiface t x =>
    simp only [opA, o_mv, o_pick, o_alloc, o_box, o_build, o_bslice, o_load, o_ldt, o_store, o_nilchk, o_bin, o_eqs, o_un, o_conv, o_mkfn, o_mkmap, o_mkslice, o_faddr, o_field, o_iaddr, o_istr, o_lookup, o_mupd, o_ment, o_esto, o_delete, o_extract, o_mkiface, o_callf, o_callv, o_len, o_cap, o_append, o_qappend, o_copy, o_clear, o_minmax, o_slicestr, o_slice, get_over] at e ⊢
    obtain ⟨cv, hc, e⟩ := bind1_some e
    rw [hc]
    simp only [bind1]
    split at e
    · simp only [Option.some.injEq, Prod.mk.injEq] at e
      obtain ⟨rfl, rfl⟩ := e
      exact ⟨rfl, fun _ => rfl⟩
    · simp only [Option.some.injEq, Prod.mk.injEq] at e
      obtain ⟨rfl, rfl⟩ := e
      exact ⟨rfl, fun _ => rfl⟩
  | minmax mx x l =>
    simp only [opA, o_mv, o_pick, o_alloc, o_box, o_build, o_bslice, o_load, o_ldt, o_store, o_nilchk, o_bin, o_eqs, o_un, o_conv, o_mkfn, o_mkmap, o_mkslice, o_faddr, o_field, o_iaddr, o_istr, o_lookup, o_mupd, o_ment, o_esto, o_delete, o_extract, o_mkiface, o_callf, o_callv, o_len, o_cap, o_append, o_qappend, o_copy, o_clear, o_minmax, o_slicestr, o_slice, get_over, gets_over] at e ⊢
    obtain ⟨cv, hc, e⟩ := bind1_some e
    rw [hc]
    simp only [bind1]
    split at e
    · exact p1 e
    · cases e
  | slicestr x lo hi =>
    simp only [opA, o_mv, o_pick, o_alloc, o_box, o_build, o_bslice, o_load, o_ldt, o_store, o_nilchk, o_bin, o_eqs, o_un, o_conv, o_mkfn, o_mkmap, o_mkslice, o_faddr, o_field, o_iaddr, o_istr, o_lookup, o_mupd, o_ment, o_esto, o_delete, o_extract, o_mkiface, o_callf, o_callv, o_len, o_cap, o_append, o_qappend, o_copy, o_clear, o_minmax, o_slicestr, o_slice, get_over, geto_over] at e ⊢
    obtain ⟨cv, hc, e⟩ := bind1_some e
    rw [hc]
    simp only [bind1]
    split at e
    · exact p1 e
    · cases e
  | len k x =>
    simp only [opA, o_mv, o_pick, o_alloc, o_box, o_build, o_bslice, o_load, o_ldt, o_store, o_nilchk, o_bin, o_eqs, o_un, o_conv, o_mkfn, o_mkmap, o_mkslice, o_faddr, o_field, o_iaddr, o_istr, o_lookup, o_mupd, o_ment, o_esto, o_delete, o_extract, o_mkiface, o_callf, o_callv, o_len, o_cap, o_append, o_qappend, o_copy, o_clear, o_minmax, o_slicestr, o_slice, get_over] at e ⊢
    obtain ⟨cv, hc, e⟩ := bind1_some e
    rw [hc]
    simp only [freeK, Nat.ble_eq] at hk
    match k, hk with
    | 0, _ => exact p1 e
    | 1, _ => exact p1 e
  | _ => simp [freeK] at hk

theorem at_over {id : Nat} {ob : Ob} (h : σ[id]? = some ob) (τ : Store) : (σ ++ τ)[id]? = some ob := by
  have := (List.getElem?_eq_some_iff.1 h).1
  rw [List.getElem?_append_left this]
  exact h
theorem obCells_over {id g : Nat} {cs : List V} (h : obCells σ id g = some cs) (τ : Store) : obCells (σ ++ τ) id g = some cs := by
  unfold obCells at h ⊢
  cases ho : σ[id]? with
  | none => rw [ho] at h; cases h
  | some ob => rw [ho] at h; rw [at_over ho]; exact h

theorem snapL_over {f g : V → Option Tree} (h : ∀ v t, f v = some t → g v = some t) : ∀ (vs : List V) (ts : List Tree), snapL f vs = some ts → snapL g vs = some ts
  | [], ts, e => by simpa [snapL] using e
  | v :: vs, ts, e => by
    simp only [snapL] at e ⊢
    split at e
    · rename_i t ht
      rw [h v t ht]
      split at e
      · rename_i us hu
        rw [snapL_over h vs us hu]
        exact e
      · cases e
    · cases e

theorem snap_over (τ : Store) : ∀ (n : Nat) (v : V) (t : Tree), snap σ n v = some t → snap (σ ++ τ) n v = some t := by
  intro n
  induction n with
  | zero =>
    intro v t e
    cases v <;> simp only [snap] at e ⊢ <;> first | exact e | cases e
  | succ n ih =>
    intro v t e
    cases v with
    | tr u => simpa only [snap] using e
    | agg cs =>
      simp only [snap] at e ⊢
      split at e
      · rename_i ts h
        rw [snapL_over ih _ _ h]
        exact e
      · cases e
    | tup cs =>
      simp only [snap] at e ⊢
      split at e
      · rename_i ts h
        rw [snapL_over ih _ _ h]
        exact e
      · cases e
    | own id g off len sz cap =>
      simp only [snap] at e ⊢
      split at e
      · rename_i cs h
        rw [obCells_over h]
        simp only
        split at e
        · rename_i r hr
          split at e
          · rename_i ts ht
            rw [snapL_over ih _ _ ht]
            exact e
          · cases e
        · cases e
      · cases e
    | ptr id g off =>
      simp only [snap] at e ⊢
      split at e
      · rename_i cs h
        rw [obCells_over h]
        simp only
        split at e
        · rename_i ts ht
          rw [snapL_over ih _ _ ht]
          exact e
        · cases e
      · cases e
    | fn f a b =>
      simp only [snap] at e ⊢
      split at e
      · rename_i ta tb ha hb
        rw [snapL_over ih _ _ ha, snapL_over ih _ _ hb]
        exact e
      · cases e
    | iface t u =>
      simp only [snap] at e ⊢
      split at e
      · rename_i u hu
        rw [ih _ _ hu]
        exact e
      · cases e
    | mp id => simp [snap] at e

/-- Calls that leave the store. -/
def QuietC (call : CallA) : Prop := ∀ f vs σ v σ', call f vs σ = some (v, σ') → σ' = σ ∧ ∀ τ, call f vs (σ ++ τ) = some (v, σ ++ τ)

theorem quietCall_quiet (call : CallA) : QuietC (quietCall call) := by
  intro f vs σ v σ' e
  unfold quietCall at e ⊢
  split at e
  · cases e
  rename_i ts hts
  split at e
  · cases e
  rename_i u s1 hu
  split at e
  · rename_i t ht
    simp only [Option.some.injEq, Prod.mk.injEq] at e
    obtain ⟨rfl, rfl⟩ := e
    refine ⟨rfl, fun τ => ?_⟩
    rw [snapL_over (snap_over τ deepN) _ _ hts]
    simp only [hu, ht]
  · rename_i hF
    split at e
    · cases e
    rename_i t ht
    split at e
    · rename_i hc
      simp only [Option.some.injEq, Prod.mk.injEq] at e
      obtain ⟨rfl, rfl⟩ := e
      refine ⟨rfl, fun τ => ?_⟩
      rw [snapL_over (snap_over τ deepN) _ _ hts]
      simp only [hu, hF, ht, hc, if_true]
    · cases e

def IsMk (mk : Nat → V) : Prop := (mk = fun id => .ptr id 0 0) ∨ (∃ len sz cap, mk = fun id => .own id 0 0 len sz cap) ∨ mk = .mp

def Lays (call : CallA) (k : HK) (st : St) (v : V) (σ' : Store) : Prop :=
  (σ' = st.σ ∧ ∀ τ, opA call k { st with σ := st.σ ++ τ } = some (v, st.σ ++ τ)) ∨
  (∃ ob mk, IsMk mk ∧ v = mk st.σ.length ∧ σ' = st.σ ++ [ob] ∧ ((∃ cs g, ob = .row cs g) ∨ ∃ c, ob = .map [] c) ∧ ∀ τ, opA call k { st with σ := st.σ ++ τ } = some (mk (st.σ ++ τ).length, (st.σ ++ τ) ++ [ob]))

theorem elems_over {n : Nat} {x : V} {r : List V × Nat} (h : elems σ n x = some r) (τ : Store) : elems (σ ++ τ) n x = some r := by
  unfold elems at h ⊢
  split at h
  · exact h
  · exact h
  · exact h
  · split at h
    · rename_i hsz
      rw [if_pos hsz]
      split at h
      · rename_i cs' hcs
        simp only [obCells_over hcs]
        exact h
      · cases h
    · cases h
  · cases h

theorem conv_strBytes {x : V} (e : opConv .strBytes x σ = some (v, σ')) : ∃ s : ByteArray, x = .tr (.sc (.string s)) ∧ v = .own σ.length 0 0 s.data.toList.length 1 none ∧
    σ' = σ ++ [.row (s.data.toList.map fun b => .tr (.sc (.int .u8 b.toNat))) 0] := by
  unfold opConv at e
  split at e
  all_goals try (rename_i hh; cases hh; done)
  all_goals try (rename_i hh _; cases hh; done)
  all_goals simp_all

theorem conv_bytesStr_eq (x : V) (s : Store) : opConv .bytesStr x s = match elems s 1 x with
    | some (cs, _) => match x with
      | .tr (.sc (.string _)) => none
      | _ => match bytesOf? cs with
        | some l => some (.tr (.sc (.string ⟨⟨l⟩⟩)), s)
        | none => none
    | none => none := rfl

theorem conv_bytesStr {x : V} (e : opConv .bytesStr x σ = some (v, σ')) : σ' = σ ∧ ∀ τ, opConv .bytesStr x (σ ++ τ) = some (v, σ ++ τ) := by
  rw [conv_bytesStr_eq] at e
  split at e
  · rename_i cs n hel
    split at e
    · cases e
    · rename_i x' hne
      split at e
      · rename_i l hl
        simp only [Option.some.injEq, Prod.mk.injEq] at e
        obtain ⟨rfl, rfl⟩ := e
        refine ⟨rfl, fun τ => ?_⟩
        rw [conv_bytesStr_eq, elems_over hel τ]
        simp only
        simp only [hl]
      · cases e
  · cases e

/-- Quiet kinds. -/
theorem quiet_over (hc : QuietC call) (hk : quietK k = true) (e : opA call k st = some (v, σ')) : Lays call k st v σ' := by
  have p1 : ∀ {x : Option V} {y : Store → Option V}, pure1 st.σ x = some (v, σ') → (∀ τ, x = some v → y τ = some v) →
      (∀ τ, opA call k { st with σ := st.σ ++ τ } = pure1 (st.σ ++ τ) (y τ)) → Lays call k st v σ' := by
    intro x y h h1 h2
    obtain ⟨h3, h4⟩ := pure1_some h
    refine .inl ⟨h4, fun τ => ?_⟩
    rw [h2]
    exact pure1_of (h1 τ h3) _
  cases k with
  | alloc z =>
    simp only [opA, o_mv, o_pick, o_alloc, o_box, o_build, o_bslice, o_load, o_ldt, o_store, o_nilchk, o_bin, o_eqs, o_un, o_conv, o_mkfn, o_mkmap, o_mkslice, o_faddr, o_field, o_iaddr, o_istr, o_lookup, o_mupd, o_ment, o_esto, o_delete, o_extract, o_mkiface, o_callf, o_callv, o_len, o_cap, o_append, o_qappend, o_copy, o_clear, o_minmax, o_slicestr, o_slice, opAlloc, Option.some.injEq, Prod.mk.injEq] at e
    obtain ⟨rfl, rfl⟩ := e
    exact .inr ⟨.row (z.map .tr) 0, fun id => .ptr id 0 0, .inl rfl, rfl, rfl, by simp, fun τ => rfl⟩
  | box t x =>
    simp only [opA, o_mv, o_pick, o_alloc, o_box, o_build, o_bslice, o_load, o_ldt, o_store, o_nilchk, o_bin, o_eqs, o_un, o_conv, o_mkfn, o_mkmap, o_mkslice, o_faddr, o_field, o_iaddr, o_istr, o_lookup, o_mupd, o_ment, o_esto, o_delete, o_extract, o_mkiface, o_callf, o_callv, o_len, o_cap, o_append, o_qappend, o_copy, o_clear, o_minmax, o_slicestr, o_slice] at e
    obtain ⟨xv, hx, e⟩ := bind1_some e
    have new : opBox xv st.σ = some (v, σ') → (∀ τ : Store, opBoxB t xv τ = opBox xv τ) → Lays call (.box t x) st v σ' := by
      intro e hB
      simp only [opBox, Option.some.injEq, Prod.mk.injEq] at e
      obtain ⟨rfl, rfl⟩ := e
      refine .inr ⟨.row (cellsOf xv) 0, fun id => .ptr id 0 0, .inl rfl, rfl, rfl, by simp, fun τ => ?_⟩
      simp only [opA, o_mv, o_pick, o_alloc, o_box, o_build, o_bslice, o_load, o_ldt, o_store, o_nilchk, o_bin, o_eqs, o_un, o_conv, o_mkfn, o_mkmap, o_mkslice, o_faddr, o_field, o_iaddr, o_istr, o_lookup, o_mupd, o_ment, o_esto, o_delete, o_extract, o_mkiface, o_callf, o_callv, o_len, o_cap, o_append, o_qappend, o_copy, o_clear, o_minmax, o_slicestr, o_slice, get_over, hx, bind1, opBox]
      simp only [hB, opBox]
    unfold opBoxB at e
    split at e
    · split at e
      · rename_i ts hat
        simp only [Option.some.injEq, Prod.mk.injEq] at e
        obtain ⟨rfl, rfl⟩ := e
        refine .inl ⟨rfl, fun τ => ?_⟩
        simp only [opA, o_mv, o_pick, o_alloc, o_box, o_build, o_bslice, o_load, o_ldt, o_store, o_nilchk, o_bin, o_eqs, o_un, o_conv, o_mkfn, o_mkmap, o_mkslice, o_faddr, o_field, o_iaddr, o_istr, o_lookup, o_mupd, o_ment, o_esto, o_delete, o_extract, o_mkiface, o_callf, o_callv, o_len, o_cap, o_append, o_qappend, o_copy, o_clear, o_minmax, o_slicestr, o_slice, get_over, hx, bind1, opBox]
        simp only [opBoxB, hat]
      · rename_i hat
        exact new e fun τ => by simp only [opBoxB, hat]
    · exact new e fun τ => rfl
  | bslice own len size z ps =>
    simp only [opA, o_mv, o_pick, o_alloc, o_box, o_build, o_bslice, o_load, o_ldt, o_store, o_nilchk, o_bin, o_eqs, o_un, o_conv, o_mkfn, o_mkmap, o_mkslice, o_faddr, o_field, o_iaddr, o_istr, o_lookup, o_mupd, o_ment, o_esto, o_delete, o_extract, o_mkiface, o_callf, o_callv, o_len, o_cap, o_append, o_qappend, o_copy, o_clear, o_minmax, o_slicestr, o_slice] at e
    split at e
    · rename_i pv hp
      unfold opBslice at e
      split at e
      · rename_i cs hcs
        split at e
        · rename_i ho
          simp only [Option.some.injEq, Prod.mk.injEq] at e
          obtain ⟨rfl, rfl⟩ := e
          refine .inr ⟨.row cs 0, fun id => .own id 0 0 len size (some len), .inr (.inl ⟨len, size, some len, rfl⟩), rfl, rfl, by simp, fun τ => ?_⟩
          simp only [opA, o_mv, o_pick, o_alloc, o_box, o_build, o_bslice, o_load, o_ldt, o_store, o_nilchk, o_bin, o_eqs, o_un, o_conv, o_mkfn, o_mkmap, o_mkslice, o_faddr, o_field, o_iaddr, o_istr, o_lookup, o_mupd, o_ment, o_esto, o_delete, o_extract, o_mkiface, o_callf, o_callv, o_len, o_cap, o_append, o_qappend, o_copy, o_clear, o_minmax, o_slicestr, o_slice, getp_over, hp, opBslice, hcs, ho, if_true]
        · rename_i ho
          split at e
          · rename_i ts hts
            simp only [Option.some.injEq, Prod.mk.injEq] at e
            obtain ⟨rfl, rfl⟩ := e
            refine .inl ⟨rfl, fun τ => ?_⟩
            simp only [opA, o_mv, o_pick, o_alloc, o_box, o_build, o_bslice, o_load, o_ldt, o_store, o_nilchk, o_bin, o_eqs, o_un, o_conv, o_mkfn, o_mkmap, o_mkslice, o_faddr, o_field, o_iaddr, o_istr, o_lookup, o_mupd, o_ment, o_esto, o_delete, o_extract, o_mkiface, o_callf, o_callv, o_len, o_cap, o_append, o_qappend, o_copy, o_clear, o_minmax, o_slicestr, o_slice, getp_over, hp, opBslice, hcs, ho, if_false, hts]
            rfl
          · rename_i hts
            simp only [Option.some.injEq, Prod.mk.injEq] at e
            obtain ⟨rfl, rfl⟩ := e
            refine .inr ⟨.row cs 0, fun id => .own id 0 0 len size (some len), .inr (.inl ⟨len, size, some len, rfl⟩), rfl, rfl, by simp, fun τ => ?_⟩
            simp only [opA, o_mv, o_pick, o_alloc, o_box, o_build, o_bslice, o_load, o_ldt, o_store, o_nilchk, o_bin, o_eqs, o_un, o_conv, o_mkfn, o_mkmap, o_mkslice, o_faddr, o_field, o_iaddr, o_istr, o_lookup, o_mupd, o_ment, o_esto, o_delete, o_extract, o_mkiface, o_callf, o_callv, o_len, o_cap, o_append, o_qappend, o_copy, o_clear, o_minmax, o_slicestr, o_slice, getp_over, hp, opBslice, hcs, ho, if_false, hts]
            rfl
      · cases e
    · cases e
  | load size agg a =>
    simp only [opA, o_mv, o_pick, o_alloc, o_box, o_build, o_bslice, o_load, o_ldt, o_store, o_nilchk, o_bin, o_eqs, o_un, o_conv, o_mkfn, o_mkmap, o_mkslice, o_faddr, o_field, o_iaddr, o_istr, o_lookup, o_mupd, o_ment, o_esto, o_delete, o_extract, o_mkiface, o_callf, o_callv, o_len, o_cap, o_append, o_qappend, o_copy, o_clear, o_minmax, o_slicestr, o_slice] at e
    obtain ⟨av, ha, e⟩ := bind1_some e
    refine p1 (y := fun τ => opLoad size agg av (st.σ ++ τ)) e (fun τ h => ?_) (fun τ => by simp only [opA, o_mv, o_pick, o_alloc, o_box, o_build, o_bslice, o_load, o_ldt, o_store, o_nilchk, o_bin, o_eqs, o_un, o_conv, o_mkfn, o_mkmap, o_mkslice, o_faddr, o_field, o_iaddr, o_istr, o_lookup, o_mupd, o_ment, o_esto, o_delete, o_extract, o_mkiface, o_callf, o_callv, o_len, o_cap, o_append, o_qappend, o_copy, o_clear, o_minmax, o_slicestr, o_slice, get_over, ha, bind1])
    unfold opLoad at h ⊢
    split at h
    · split at h
      · rename_i cs hcs
        simp only [obCells_over hcs]
        exact h
      · cases h
    · exact h
    · cases h
  | mkslice z bytes l c =>
    simp only [opA, o_mv, o_pick, o_alloc, o_box, o_build, o_bslice, o_load, o_ldt, o_store, o_nilchk, o_bin, o_eqs, o_un, o_conv, o_mkfn, o_mkmap, o_mkslice, o_faddr, o_field, o_iaddr, o_istr, o_lookup, o_mupd, o_ment, o_esto, o_delete, o_extract, o_mkiface, o_callf, o_callv, o_len, o_cap, o_append, o_qappend, o_copy, o_clear, o_minmax, o_slicestr, o_slice] at e
    obtain ⟨lv, hl, e⟩ := bind1_some e
    obtain ⟨cv, hcv, e⟩ := bind1_some e
    unfold opMkslice at e
    split at e
    · rename_i li ci h1 h2
      split at e
      · rename_i hif
        simp only [Option.some.injEq, Prod.mk.injEq] at e
        obtain ⟨rfl, rfl⟩ := e
        refine .inr ⟨.row ((rep ci z).map .tr) 0, fun id => .own id 0 0 li z.length (some ci), .inr (.inl ⟨_, _, _, rfl⟩), rfl, rfl, by simp, fun τ => ?_⟩
        simp only [opA, o_mv, o_pick, o_alloc, o_box, o_build, o_bslice, o_load, o_ldt, o_store, o_nilchk, o_bin, o_eqs, o_un, o_conv, o_mkfn, o_mkmap, o_mkslice, o_faddr, o_field, o_iaddr, o_istr, o_lookup, o_mupd, o_ment, o_esto, o_delete, o_extract, o_mkiface, o_callf, o_callv, o_len, o_cap, o_append, o_qappend, o_copy, o_clear, o_minmax, o_slicestr, o_slice, get_over, hl, hcv, bind1, opMkslice, h1, h2]
        rw [if_pos hif]
      · cases e
    · cases e
  | mkmap =>
    simp only [opA, o_mv, o_pick, o_alloc, o_box, o_build, o_bslice, o_load, o_ldt, o_store, o_nilchk, o_bin, o_eqs, o_un, o_conv, o_mkfn, o_mkmap, o_mkslice, o_faddr, o_field, o_iaddr, o_istr, o_lookup, o_mupd, o_ment, o_esto, o_delete, o_extract, o_mkiface, o_callf, o_callv, o_len, o_cap, o_append, o_qappend, o_copy, o_clear, o_minmax, o_slicestr, o_slice, opMkmap, Option.some.injEq, Prod.mk.injEq] at e
    obtain ⟨rfl, rfl⟩ := e
    exact .inr ⟨.map [] 0, .mp, .inr (.inr rfl), rfl, rfl, by simp, fun τ => rfl⟩
  | iaddr size x i =>
    simp only [opA, o_mv, o_pick, o_alloc, o_box, o_build, o_bslice, o_load, o_ldt, o_store, o_nilchk, o_bin, o_eqs, o_un, o_conv, o_mkfn, o_mkmap, o_mkslice, o_faddr, o_field, o_iaddr, o_istr, o_lookup, o_mupd, o_ment, o_esto, o_delete, o_extract, o_mkiface, o_callf, o_callv, o_len, o_cap, o_append, o_qappend, o_copy, o_clear, o_minmax, o_slicestr, o_slice] at e
    obtain ⟨xv, hx, e⟩ := bind1_some e
    obtain ⟨iv, hi, e⟩ := bind1_some e
    refine p1 (y := fun τ => opIaddr size xv iv (st.σ ++ τ)) e (fun τ h => ?_) (fun τ => by simp only [opA, o_mv, o_pick, o_alloc, o_box, o_build, o_bslice, o_load, o_ldt, o_store, o_nilchk, o_bin, o_eqs, o_un, o_conv, o_mkfn, o_mkmap, o_mkslice, o_faddr, o_field, o_iaddr, o_istr, o_lookup, o_mupd, o_ment, o_esto, o_delete, o_extract, o_mkiface, o_callf, o_callv, o_len, o_cap, o_append, o_qappend, o_copy, o_clear, o_minmax, o_slicestr, o_slice, get_over, hx, hi, bind1])
    unfold opIaddr at h ⊢
    split at h
    · cases h
    · split at h
      · split at h
        · rename_i ob ho
          simp only [at_over ho]
          exact h
        · cases h
      · exact h
      · cases h
  | lookup kind z ok m kk =>
    simp only [opA, o_mv, o_pick, o_alloc, o_box, o_build, o_bslice, o_load, o_ldt, o_store, o_nilchk, o_bin, o_eqs, o_un, o_conv, o_mkfn, o_mkmap, o_mkslice, o_faddr, o_field, o_iaddr, o_istr, o_lookup, o_mupd, o_ment, o_esto, o_delete, o_extract, o_mkiface, o_callf, o_callv, o_len, o_cap, o_append, o_qappend, o_copy, o_clear, o_minmax, o_slicestr, o_slice] at e
    obtain ⟨xv, hx, e⟩ := bind1_some e
    obtain ⟨iv, hi, e⟩ := bind1_some e
    refine p1 (y := fun τ => opLookup kind z ok xv iv (st.σ ++ τ)) e (fun τ h => ?_) (fun τ => by simp only [opA, o_mv, o_pick, o_alloc, o_box, o_build, o_bslice, o_load, o_ldt, o_store, o_nilchk, o_bin, o_eqs, o_un, o_conv, o_mkfn, o_mkmap, o_mkslice, o_faddr, o_field, o_iaddr, o_istr, o_lookup, o_mupd, o_ment, o_esto, o_delete, o_extract, o_mkiface, o_callf, o_callv, o_len, o_cap, o_append, o_qappend, o_copy, o_clear, o_minmax, o_slicestr, o_slice, get_over, hx, hi, bind1])
    unfold opLookup at h ⊢
    split at h
    · simp_all
    · rename_i h1
      split at h
      · rename_i es c ho
        simp only [h1, at_over ho]
        exact h
      · cases h
    · cases h
  | callf f args =>
    simp only [opA, o_mv, o_pick, o_alloc, o_box, o_build, o_bslice, o_load, o_ldt, o_store, o_nilchk, o_bin, o_eqs, o_un, o_conv, o_mkfn, o_mkmap, o_mkslice, o_faddr, o_field, o_iaddr, o_istr, o_lookup, o_mupd, o_ment, o_esto, o_delete, o_extract, o_mkiface, o_callf, o_callv, o_len, o_cap, o_append, o_qappend, o_copy, o_clear, o_minmax, o_slicestr, o_slice] at e
    split at e
    · rename_i vs hv
      obtain ⟨h1, h2⟩ := hc _ _ _ _ _ e
      refine .inl ⟨h1, fun τ => ?_⟩
      simp only [opA, o_mv, o_pick, o_alloc, o_box, o_build, o_bslice, o_load, o_ldt, o_store, o_nilchk, o_bin, o_eqs, o_un, o_conv, o_mkfn, o_mkmap, o_mkslice, o_faddr, o_field, o_iaddr, o_istr, o_lookup, o_mupd, o_ment, o_esto, o_delete, o_extract, o_mkiface, o_callf, o_callv, o_len, o_cap, o_append, o_qappend, o_copy, o_clear, o_minmax, o_slicestr, o_slice, gets_over, hv]
      exact h2 τ
    · cases e
  | callv f args =>
    simp only [opA, o_mv, o_pick, o_alloc, o_box, o_build, o_bslice, o_load, o_ldt, o_store, o_nilchk, o_bin, o_eqs, o_un, o_conv, o_mkfn, o_mkmap, o_mkslice, o_faddr, o_field, o_iaddr, o_istr, o_lookup, o_mupd, o_ment, o_esto, o_delete, o_extract, o_mkiface, o_callf, o_callv, o_len, o_cap, o_append, o_qappend, o_copy, o_clear, o_minmax, o_slicestr, o_slice] at e
    obtain ⟨fv, hf, e⟩ := bind1_some e
    split at e
    · rename_i vs hv
      unfold callV at e
      split at e
      · obtain ⟨h1, h2⟩ := hc _ _ _ _ _ e
        refine .inl ⟨h1, fun τ => ?_⟩
        simp only [opA, o_mv, o_pick, o_alloc, o_box, o_build, o_bslice, o_load, o_ldt, o_store, o_nilchk, o_bin, o_eqs, o_un, o_conv, o_mkfn, o_mkmap, o_mkslice, o_faddr, o_field, o_iaddr, o_istr, o_lookup, o_mupd, o_ment, o_esto, o_delete, o_extract, o_mkiface, o_callf, o_callv, o_len, o_cap, o_append, o_qappend, o_copy, o_clear, o_minmax, o_slicestr, o_slice, gets_over, get_over, hf, bind1, hv]
        exact h2 τ
      · obtain ⟨h1, h2⟩ := hc _ _ _ _ _ e
        refine .inl ⟨h1, fun τ => ?_⟩
        simp only [opA, o_mv, o_pick, o_alloc, o_box, o_build, o_bslice, o_load, o_ldt, o_store, o_nilchk, o_bin, o_eqs, o_un, o_conv, o_mkfn, o_mkmap, o_mkslice, o_faddr, o_field, o_iaddr, o_istr, o_lookup, o_mupd, o_ment, o_esto, o_delete, o_extract, o_mkiface, o_callf, o_callv, o_len, o_cap, o_append, o_qappend, o_copy, o_clear, o_minmax, o_slicestr, o_slice, gets_over, get_over, hf, bind1, hv]
        exact h2 τ
      · cases e
    · cases e
  | len kk x =>
    simp only [opA, o_mv, o_pick, o_alloc, o_box, o_build, o_bslice, o_load, o_ldt, o_store, o_nilchk, o_bin, o_eqs, o_un, o_conv, o_mkfn, o_mkmap, o_mkslice, o_faddr, o_field, o_iaddr, o_istr, o_lookup, o_mupd, o_ment, o_esto, o_delete, o_extract, o_mkiface, o_callf, o_callv, o_len, o_cap, o_append, o_qappend, o_copy, o_clear, o_minmax, o_slicestr, o_slice] at e
    obtain ⟨xv, hx, e⟩ := bind1_some e
    refine p1 (y := fun τ => opLen kk xv (st.σ ++ τ)) e (fun τ h => ?_) (fun τ => by simp only [opA, o_mv, o_pick, o_alloc, o_box, o_build, o_bslice, o_load, o_ldt, o_store, o_nilchk, o_bin, o_eqs, o_un, o_conv, o_mkfn, o_mkmap, o_mkslice, o_faddr, o_field, o_iaddr, o_istr, o_lookup, o_mupd, o_ment, o_esto, o_delete, o_extract, o_mkiface, o_callf, o_callv, o_len, o_cap, o_append, o_qappend, o_copy, o_clear, o_minmax, o_slicestr, o_slice, get_over, hx, bind1])
    unfold opLen at h ⊢
    split at h
    · exact h
    · exact h
    · unfold opLenMap at h ⊢
      split at h
      · exact h
      · split at h
        · rename_i es c ho
          simp only [at_over ho]
          exact h
        · cases h
      · cases h
  | cap x =>
    simp only [opA, o_mv, o_pick, o_alloc, o_box, o_build, o_bslice, o_load, o_ldt, o_store, o_nilchk, o_bin, o_eqs, o_un, o_conv, o_mkfn, o_mkmap, o_mkslice, o_faddr, o_field, o_iaddr, o_istr, o_lookup, o_mupd, o_ment, o_esto, o_delete, o_extract, o_mkiface, o_callf, o_callv, o_len, o_cap, o_append, o_qappend, o_copy, o_clear, o_minmax, o_slicestr, o_slice] at e
    obtain ⟨xv, hx, e⟩ := bind1_some e
    refine p1 (y := fun τ => opCap (st.σ ++ τ) xv) e (fun τ h => ?_) (fun τ => by simp only [opA, o_mv, o_pick, o_alloc, o_box, o_build, o_bslice, o_load, o_ldt, o_store, o_nilchk, o_bin, o_eqs, o_un, o_conv, o_mkfn, o_mkmap, o_mkslice, o_faddr, o_field, o_iaddr, o_istr, o_lookup, o_mupd, o_ment, o_esto, o_delete, o_extract, o_mkiface, o_callf, o_callv, o_len, o_cap, o_append, o_qappend, o_copy, o_clear, o_minmax, o_slicestr, o_slice, get_over, hx, bind1])
    unfold opCap at h ⊢
    split at h
    · exact h
    · exact h
    · split at h
      · rename_i ob ho
        simp only [at_over ho]
        exact h
      · cases h
    · cases h
  | slice size x lo hi mx =>
    simp only [opA, o_mv, o_pick, o_alloc, o_box, o_build, o_bslice, o_load, o_ldt, o_store, o_nilchk, o_bin, o_eqs, o_un, o_conv, o_mkfn, o_mkmap, o_mkslice, o_faddr, o_field, o_iaddr, o_istr, o_lookup, o_mupd, o_ment, o_esto, o_delete, o_extract, o_mkiface, o_callf, o_callv, o_len, o_cap, o_append, o_qappend, o_copy, o_clear, o_minmax, o_slicestr, o_slice] at e
    obtain ⟨xv, hx, e⟩ := bind1_some e
    split at e
    · rename_i lv hv mv h1 h2 h3
      refine p1 (y := fun τ => opSlice size xv lv hv mv (st.σ ++ τ)) e (fun τ h => ?_) (fun τ => by simp only [opA, o_mv, o_pick, o_alloc, o_box, o_build, o_bslice, o_load, o_ldt, o_store, o_nilchk, o_bin, o_eqs, o_un, o_conv, o_mkfn, o_mkmap, o_mkslice, o_faddr, o_field, o_iaddr, o_istr, o_lookup, o_mupd, o_ment, o_esto, o_delete, o_extract, o_mkiface, o_callf, o_callv, o_len, o_cap, o_append, o_qappend, o_copy, o_clear, o_minmax, o_slicestr, o_slice, get_over, geto_over, hx, bind1, h1, h2, h3])
      unfold opSlice at h ⊢
      split at h
      · rename_i l' h' m' e1 e2 e3
        split at h
        · cases h
        · rename_i hn
          simp only [e1, e2, e3]
          rw [if_neg hn]
          split at h
          · split at h
            · cases h
            · rename_i hz
              rw [if_neg hz]
              split at h
              · cases h
              · rename_i cs hcs
                simp only [obCells_over hcs]
                exact h
          · exact h
          · exact h
          · cases h
      · cases h
    · cases e
  | qappend size bytes a x =>
    simp only [opA, o_mv, o_pick, o_alloc, o_box, o_build, o_bslice, o_load, o_ldt, o_store, o_nilchk, o_bin, o_eqs, o_un, o_conv, o_mkfn, o_mkmap, o_mkslice, o_faddr, o_field, o_iaddr, o_istr, o_lookup, o_mupd, o_ment, o_esto, o_delete, o_extract, o_mkiface, o_callf, o_callv, o_len, o_cap, o_append, o_qappend, o_copy, o_clear, o_minmax, o_slicestr, o_slice] at e
    obtain ⟨av, ha, e⟩ := bind1_some e
    split at e
    · rename_i t
      obtain ⟨xv, hx, e⟩ := bind1_some e
      have fin : ∀ τ, opA call (.qappend size bytes a x) { st with σ := st.σ ++ τ } = opAppend size bytes (.tr t) xv (st.σ ++ τ) := by
        intro τ
        simp only [opA, o_mv, o_pick, o_alloc, o_box, o_build, o_bslice, o_load, o_ldt, o_store, o_nilchk, o_bin, o_eqs, o_un, o_conv, o_mkfn, o_mkmap, o_mkslice, o_faddr, o_field, o_iaddr, o_istr, o_lookup, o_mupd, o_ment, o_esto, o_delete, o_extract, o_mkiface, o_callf, o_callv, o_len, o_cap, o_append, o_qappend, o_copy, o_clear, o_minmax, o_slicestr, o_slice, get_over, ha, hx, bind1]
      have e0 := e
      unfold opAppend at e
      split at e
      · cases e
      · rename_i xs n hel
        split at e
        · cases e
        · rename_i hroom
          have hel' : ∀ τ, elems (st.σ ++ τ) size xv = some (xs, n) := fun τ => elems_over hel τ
          split at e
          · rename_i heq
            cases heq
            split at e
            · rename_i hn
              simp only [Option.some.injEq, Prod.mk.injEq] at e
              obtain ⟨rfl, rfl⟩ := e
              refine .inl ⟨rfl, fun τ => ?_⟩
              rw [fin τ]
              unfold opAppend
              simp only [hel' τ]
              rw [if_neg hroom, if_pos hn]
            · rename_i hn
              simp only [Option.some.injEq, Prod.mk.injEq] at e
              obtain ⟨rfl, rfl⟩ := e
              refine .inr ⟨.row xs 0, fun id => .own id 0 0 n size none, .inr (.inl ⟨_, _, _, rfl⟩), rfl, rfl, .inl ⟨_, _, rfl⟩, fun τ => ?_⟩
              rw [fin τ]
              unfold opAppend
              simp only [hel' τ]
              rw [if_neg hroom, if_neg hn]
          · rename_i cs len cap heq
            cases heq
            split at e
            · rename_i hn
              simp only [Option.some.injEq, Prod.mk.injEq] at e
              obtain ⟨rfl, rfl⟩ := e
              refine .inl ⟨rfl, fun τ => ?_⟩
              rw [fin τ]
              unfold opAppend
              simp only [hel' τ]
              rw [if_neg hroom, if_pos hn]
            · rename_i hn
              split at e
              · rename_i hc
                split at e
                · rename_i c
                  split at e
                  · cases e
                  · rename_i hle
                    simp only [Option.some.injEq, Prod.mk.injEq] at e
                    obtain ⟨rfl, rfl⟩ := e
                    refine .inr ⟨.row (cs.map .tr ++ xs) 0, fun id => .own id 0 0 (len + n) size none, .inr (.inl ⟨_, _, _, rfl⟩), rfl, rfl, .inl ⟨_, _, rfl⟩, fun τ => ?_⟩
                    rw [fin τ]
                    unfold opAppend
                    simp only [hel' τ]
                    rw [if_neg hroom, if_neg hn, if_pos hc, if_neg hle]
                · cases e
              · cases e
          · rename_i heq
            cases heq
          · cases e
    · cases e
  | conv c x =>
    simp only [opA, o_mv, o_pick, o_alloc, o_box, o_build, o_bslice, o_load, o_ldt, o_store, o_nilchk, o_bin, o_eqs, o_un, o_conv, o_mkfn, o_mkmap, o_mkslice, o_faddr, o_field, o_iaddr, o_istr, o_lookup, o_mupd, o_ment, o_esto, o_delete, o_extract, o_mkiface, o_callf, o_callv, o_len, o_cap, o_append, o_qappend, o_copy, o_clear, o_minmax, o_slicestr, o_slice] at e
    obtain ⟨xv, hx, e⟩ := bind1_some e
    cases c with
    | strBytes =>
      rcases conv_strBytes e with ⟨s, rfl, rfl, rfl⟩
      refine .inr ⟨_, fun id => .own id 0 0 s.data.toList.length 1 none, .inr (.inl ⟨_, _, _, rfl⟩), rfl, rfl, by simp, fun τ => ?_⟩
      simp only [opA, o_mv, o_pick, o_alloc, o_box, o_build, o_bslice, o_load, o_ldt, o_store, o_nilchk, o_bin, o_eqs, o_un, o_conv, o_mkfn, o_mkmap, o_mkslice, o_faddr, o_field, o_iaddr, o_istr, o_lookup, o_mupd, o_ment, o_esto, o_delete, o_extract, o_mkiface, o_callf, o_callv, o_len, o_cap, o_append, o_qappend, o_copy, o_clear, o_minmax, o_slicestr, o_slice, get_over, hx, bind1, opConv]
    | same =>
      simp only [opConv] at e
      split at e
      · rename_i u hu
        cases e
        refine .inl ⟨rfl, fun τ => ?_⟩
        simp only [opA, o_mv, o_pick, o_alloc, o_box, o_build, o_bslice, o_load, o_ldt, o_store, o_nilchk, o_bin, o_eqs, o_un, o_conv, o_mkfn, o_mkmap, o_mkslice, o_faddr, o_field, o_iaddr, o_istr, o_lookup, o_mupd, o_ment, o_esto, o_delete, o_extract, o_mkiface, o_callf, o_callv, o_len, o_cap, o_append, o_qappend, o_copy, o_clear, o_minmax, o_slicestr, o_slice, get_over, hx, bind1]
        have : opSame xv (st.σ ++ τ) = some v := by
          unfold opSame at hu ⊢
          split at hu
          · split at hu
            · rename_i ho
              rw [at_over ho]
              exact hu
            · cases hu
          · cases hu
        simp only [opConv, this]
      · cases e
    | bytesStr =>
      obtain ⟨h1, h2⟩ := conv_bytesStr e
      refine .inl ⟨h1, fun τ => ?_⟩
      simp only [opA, o_mv, o_pick, o_alloc, o_box, o_build, o_bslice, o_load, o_ldt, o_store, o_nilchk, o_bin, o_eqs, o_un, o_conv, o_mkfn, o_mkmap, o_mkslice, o_faddr, o_field, o_iaddr, o_istr, o_lookup, o_mupd, o_ment, o_esto, o_delete, o_extract, o_mkiface, o_callf, o_callv, o_len, o_cap, o_append, o_qappend, o_copy, o_clear, o_minmax, o_slicestr, o_slice, get_over, hx, bind1]
      exact h2 τ
    | toInt kk =>
      obtain ⟨h1, h2⟩ := free_over (call := call) (k := .conv (.toInt kk) x) (st := st) rfl (by simp only [opA, o_mv, o_pick, o_alloc, o_box, o_build, o_bslice, o_load, o_ldt, o_store, o_nilchk, o_bin, o_eqs, o_un, o_conv, o_mkfn, o_mkmap, o_mkslice, o_faddr, o_field, o_iaddr, o_istr, o_lookup, o_mupd, o_ment, o_esto, o_delete, o_extract, o_mkiface, o_callf, o_callv, o_len, o_cap, o_append, o_qappend, o_copy, o_clear, o_minmax, o_slicestr, o_slice, hx, bind1]; exact e)
      exact .inl ⟨h1, fun τ => h2 _⟩
    | toFloat kk =>
      obtain ⟨h1, h2⟩ := free_over (call := call) (k := .conv (.toFloat kk) x) (st := st) rfl (by simp only [opA, o_mv, o_pick, o_alloc, o_box, o_build, o_bslice, o_load, o_ldt, o_store, o_nilchk, o_bin, o_eqs, o_un, o_conv, o_mkfn, o_mkmap, o_mkslice, o_faddr, o_field, o_iaddr, o_istr, o_lookup, o_mupd, o_ment, o_esto, o_delete, o_extract, o_mkiface, o_callf, o_callv, o_len, o_cap, o_append, o_qappend, o_copy, o_clear, o_minmax, o_slicestr, o_slice, hx, bind1]; exact e)
      exact .inl ⟨h1, fun τ => h2 _⟩
    | strStr =>
      obtain ⟨h1, h2⟩ := free_over (call := call) (k := .conv .strStr x) (st := st) rfl (by simp only [opA, o_mv, o_pick, o_alloc, o_box, o_build, o_bslice, o_load, o_ldt, o_store, o_nilchk, o_bin, o_eqs, o_un, o_conv, o_mkfn, o_mkmap, o_mkslice, o_faddr, o_field, o_iaddr, o_istr, o_lookup, o_mupd, o_ment, o_esto, o_delete, o_extract, o_mkiface, o_callf, o_callv, o_len, o_cap, o_append, o_qappend, o_copy, o_clear, o_minmax, o_slicestr, o_slice, hx, bind1]; exact e)
      exact .inl ⟨h1, fun τ => h2 _⟩
  | _ => simp [quietK] at hk

end
end Go.Proofs.YtbdebcmklaooaaaDoor.AM
end
section
set_option linter.unusedSimpArgs false
set_option linter.unusedVariables false
/- Quiet calls are sound; places may be named otherwise. -/
set_option linter.unusedVariables false
set_option linter.unusedSimpArgs false
open Go.RowKit
namespace Go.Proofs.YtbdebcmklaooaaaDoor.AM

section
variable {P : Program} {n0 : Nat} {w0 : World} {I0 : Nat → Prop} {σ σ' : Store} {ρ ρ' : Rho} {w w' : World} {call : CallA}

theorem quietCall_ok {Gd : Ground} (hgd : GroundOk Gd) (hc : CallOk Gd P call) : CallOk Gd P (quietCall call) := by
  intro n0 w0 hG f vs s v s' e I0 ρ w xs hI ra
  unfold quietCall at e
  split at e
  · cases e
  rename_i ts hts
  split at e
  · cases e
  rename_i v1 σ1 hrun
  have hcall : ∀ n0 w0 w, Gd n0 w0 → Below n0 w0 w → n0 ≤ w.heap.size → CallOkAt P call w.heap.size w := fun n0 w0 w hG hb hle => hc w.heap.size w (hgd n0 w0 w hG hb hle)
  split at e
  · rename_i t ht
    simp only [Option.some.injEq, Prod.mk.injEq] at e
    obtain ⟨rfl, rfl⟩ := e
    have hr := snapL_sound hI (S := fun _ => True) (fun _ _ _ _ _ _ => trivial) deepN vs ts xs hts (fun _ _ => trivial) ra
    have hI1 := Inv.empty (w := w) (IS n0 I0 s ρ w.heap fun _ => True) (fun b hb => IS_lt hI hb)
    have hr1 : RVL w.heap (Icur w.heap.size (IS n0 I0 s ρ w.heap fun _ => True) [] (fun _ => none) w.heap) [] (fun _ => none) (ts.map .tr) xs :=
      (RVL_tr _ _).2 (RTL_mono (fun b hb => ⟨.inl hb, rfl⟩) _ _ hr)
    refine (hcall n0 w0 w hG hI.below hI.n0_le f (ts.map .tr) [] v1 σ1 hrun _ _ _ _ hI1 hr1).mono ?_
    rintro x w' ⟨ρ1, hI2, _, rx⟩
    obtain ⟨hI', hE⟩ := hI.frame hI2.below
    refine ⟨ρ, hI', hE, ?_⟩
    simp only [RV]
    refine RT_mono (fun b hb' => ⟨?_, rfl⟩) _ _ (snapF_sound hI2 deepN v1 t x ht rx)
    obtain ⟨i, o, hio⟩ := hb'
    have h3 := hI2.new i b o hio
    refine .inr ⟨Nat.le_trans hI.n0_le h3.1, h3.2.1, fun i o ho => ?_⟩
    have := (hI.new i b o ho).2.1
    omega
  split at e
  · cases e
  rename_i t ht
  split at e
  case isFalse => cases e
  rename_i hcond
  simp only [Option.some.injEq, Prod.mk.injEq] at e
  obtain ⟨rfl, rfl⟩ := e
  have hcall := hcall n0 w0 w hG hI.below hI.n0_le f (ts.map .tr) [] v1 σ1 hrun
  have run : ∀ (I1 : Nat → Prop), (∀ b, I1 b → b < w.heap.size) → RTL w.heap I1 ts xs →
      Runs P f xs.toArray w fun x w' => Below w.heap.size w w' ∧ RT w'.heap (fun b => I1 b ∨ (w.heap.size ≤ b ∧ b < w'.heap.size)) t x := by
    intro I1 h1 hr
    have hI1 := Inv.empty (w := w) I1 h1
    have hr1 : RVL w.heap (Icur w.heap.size I1 [] (fun _ => none) w.heap) [] (fun _ => none) (ts.map .tr) xs :=
      (RVL_tr _ _).2 (RTL_mono (fun b hb => ⟨.inl hb, rfl⟩) _ _ hr)
    refine (hcall _ _ _ _ hI1 hr1).mono ?_
    rintro x w' ⟨ρ1, hI2, _, rx⟩
    refine ⟨hI2.below, ?_⟩
    have hr2 := snap_sound hI2 (S := fun _ => True) (fun _ _ _ _ _ _ => trivial) deepN v1 t x ht (fun _ _ => trivial) rx
    refine RT_mono (fun b hb => ⟨?_, rfl⟩) _ _ hr2
    rcases hb with hb | ⟨i, o, _, ho⟩
    · rcases hb with hb | ⟨h3, h4, _⟩
      · exact .inl hb
      · exact .inr ⟨h3, h4⟩
    · have := hI2.new i b o ho
      exact .inr ⟨this.1, this.2.1⟩
  · have hd' : dirs.dirsL vs = [] := by simpa using hcond
    have hr := snapL_sound hI (S := fun _ => False) (fun i hi => hi.elim) deepN vs ts xs hts (fun j hj => by rw [hd'] at hj; cases hj) ra
    refine (run _ (fun b hb => IS_lt hI hb) hr).mono ?_
    rintro x w' ⟨hb, rx⟩
    obtain ⟨hI', hE⟩ := hI.frame hb
    refine ⟨ρ, hI', hE, ?_⟩
    simp only [RV]
    refine RT_mono (fun b hb' => ⟨?_, rfl⟩) _ _ rx
    rcases hb' with hb' | ⟨h3, h4⟩
    · rcases hb' with hb' | ⟨i, o, hi, ho⟩
      · exact (hE.imm b hb').1
      · exact hi.elim
    · refine .inr ⟨Nat.le_trans hI.n0_le h3, h4, fun i o ho => ?_⟩
      have := (hI.new i b o ho).2.1
      omega

/-- A longer store, of which nothing is known. -/
theorem Inv.pad (hI : Inv n0 w0 I0 σ ρ w) (τ : Store) : Inv n0 w0 I0 (σ ++ τ) ρ w ∧ Evo n0 I0 σ ρ w.heap (σ ++ τ) ρ w.heap := by
  have hat : ∀ {i b o}, ρ i = some (b, o) → (σ ++ τ)[i]? = σ[i]? := fun h => List.getElem?_append_left (hI.new _ _ _ h).2.2
  have E : Evo n0 I0 σ ρ w.heap (σ ++ τ) ρ w.heap := by
    refine ⟨⟨Nat.le_refl _, fun i ob h => ⟨ob, at_over h τ, Nat.le_refl _, rfl, fun _ p hp => ⟨hp, rfl⟩⟩, fun i p hp => ⟨p, hp⟩, fun b hb => ⟨?_, rfl⟩⟩, fun _ _ h => h⟩
    rcases hb with h | ⟨h1, h2, h3⟩
    · exact .inl h
    · refine .inr ⟨h1, h2, fun i o ho => ?_⟩
      rw [hat ho]
      exact h3 i o ho
  refine ⟨⟨hI.below, hI.size0, hI.i0, fun i b o h => ?_, hI.inj, fun i b o ob h k => ?_⟩, E⟩
  · have := hI.new i b o h
    exact ⟨this.1, this.2.1, by simp; omega⟩
  · rw [hat h] at k
    exact ObR_mono E rfl (hI.obs i b o ob h k)

/-- The last place under another name. -/
def rename (ρ : Rho) (n l : Nat) : Rho := fun i => if i = n then ρ l else if i < l then ρ i else none

section move
variable {n : Nat} {ob : Ob} (hn : n < σ.length) (hob : σ[n]? = some ob) (hfro : ∀ ts g, ob ≠ .fro ts g) (h0 : ρ n = none)
variable (hI0 : Inv n0 w0 I0 σ ρ w) (hI : Inv n0 w0 I0 (σ ++ [ob]) ρ' w') (E : Evo n0 I0 σ ρ w.heap (σ ++ [ob]) ρ' w'.heap)
include hn hob hfro h0 hI0 hI E

theorem move_at {i : Nat} {p : Nat × Nat} (h : rename ρ' n σ.length i = some p) : (i = n ∧ ρ' σ.length = some p) ∨ (i ≠ n ∧ i < σ.length ∧ ρ' i = some p) := by
  have _u0 := hn
  have _u1 := hob
  have _u2 := hfro
  have _u3 := h0
  have _u4 := hI0
  have _u5 := hI
  have _u6 := E
  unfold rename at h
  split at h
  · exact .inl ⟨‹_›, h⟩
  · split at h
    · exact .inr ⟨‹_›, ‹_›, h⟩
    · cases h

theorem move_icur {b : Nat} (h : Icur n0 I0 (σ ++ [ob]) ρ' w'.heap b) : Icur n0 I0 σ (rename ρ' n σ.length) w'.heap b := by
  rcases h with h | ⟨h1, h2, h3⟩
  · exact .inl h
  · refine .inr ⟨h1, h2, fun i o ho => ?_⟩
    rcases move_at hn hob hfro h0 hI0 hI E ho with ⟨rfl, h⟩ | ⟨hne, hlt, h⟩
    · obtain ⟨ts, g, hh⟩ := h3 _ o h
      rw [List.getElem?_append_right (Nat.le_refl _), Nat.sub_self] at hh
      simp only [List.getElem?_cons_zero, Option.some.injEq] at hh
      exact absurd hh (hfro ts g)
    · obtain ⟨ts, g, hh⟩ := h3 i o h
      rw [List.getElem?_append_left hlt] at hh
      exact ⟨ts, g, hh⟩

theorem move_evo : EvoW n0 I0 σ ρ w.heap σ (rename ρ' n σ.length) w'.heap := by
  refine ⟨E.size, fun i o e => ⟨o, e, Nat.le_refl _, rfl, fun _ p hp => ?_⟩, fun i p hp => ?_, fun b hb => ⟨move_icur hn hob hfro h0 hI0 hI E (E.imm b hb).1, (E.imm b hb).2⟩⟩
  · have hlt := (List.getElem?_eq_some_iff.1 e).1
    obtain ⟨o', e', _, _, hh⟩ := E.ob i o e
    have : o' = o := by
      rw [List.getElem?_append_left hlt, e] at e'
      exact (Option.some.inj e').symm
    subst this
    obtain ⟨h1, h2⟩ := hh rfl p hp
    refine ⟨?_, h2⟩
    have hne : i ≠ n := by rintro rfl; rw [h0] at hp; cases hp
    simp only [rename, if_neg hne, if_pos hlt]
    exact h1
  · have hlt := (hI0.new i p.1 p.2 hp).2.2
    have hne : i ≠ n := by rintro rfl; rw [h0] at hp; cases hp
    obtain ⟨q, hq⟩ := E.dom i p hp
    exact ⟨q, by simp only [rename, if_neg hne, if_pos hlt]; exact hq⟩

theorem move_out {i : Nat} (hi : i < σ.length) (hne : i ≠ n) (h : ρ i = none) : rename ρ' n σ.length i = none := by
  have _u0 := hn
  have _u1 := hob
  have _u2 := hfro
  have _u3 := h0
  have _u4 := hI0
  have _u5 := hI
  simp only [rename, if_neg hne, if_pos hi]
  exact E.out i hi h

mutual
theorem move_RV : ∀ (v : V) (x y : Value), RV w.heap (Icur n0 I0 σ ρ w.heap) σ ρ v y → RV w'.heap (Icur n0 I0 (σ ++ [ob]) ρ' w'.heap) (σ ++ [ob]) ρ' v x → RV w'.heap (Icur n0 I0 σ (rename ρ' n σ.length) w'.heap) σ (rename ρ' n σ.length) v x
  | .tr t, x, y, _, h => by
    simp only [RV] at h ⊢
    exact RT_mono (fun b hb => ⟨move_icur hn hob hfro h0 hI0 hI E hb, rfl⟩) t x h
  | .agg cs, x, y, hy, h => by
    simp only [RV] at hy h ⊢
    obtain ⟨ys, _, ry⟩ := hy
    obtain ⟨xs, ex, rx⟩ := h
    exact ⟨xs, ex, move_RVL cs xs ys ry rx⟩
  | .tup cs, x, y, hy, h => by
    simp only [RV] at hy h ⊢
    obtain ⟨ys, _, ry⟩ := hy
    obtain ⟨xs, ex, rx⟩ := h
    exact ⟨xs, ex, move_RVL cs xs ys ry rx⟩
  | .own id g off len sz cap, x, y, hy, h => by
    simp only [RV] at hy h ⊢
    obtain ⟨o1, _, _, e1, _, hg1, r1⟩ := hy
    obtain ⟨o2, a, c, e2, ex, hg2, r2⟩ := h
    have hlt := (List.getElem?_eq_some_iff.1 e1).1
    rw [List.getElem?_append_left hlt, e1] at e2
    cases e2
    refine ⟨o1, a, c, e1, ex, hg2, fun hh => ?_⟩
    obtain ⟨b1, p1, hρ1, _⟩ := r1 hh
    obtain ⟨b, p, hρ, r⟩ := r2 hh
    have hne : id ≠ n := by rintro rfl; rw [h0] at hρ1; cases hρ1
    exact ⟨b, p, by simp only [rename, if_neg hne, if_pos hlt]; exact hρ, r⟩
  | .ptr id g off, x, y, hy, h => by
    simp only [RV] at hy h ⊢
    obtain ⟨o1, _, e1, _, hg1, r1⟩ := hy
    obtain ⟨o2, a, e2, ex, hg2, r2⟩ := h
    have hlt := (List.getElem?_eq_some_iff.1 e1).1
    rw [List.getElem?_append_left hlt, e1] at e2
    cases e2
    refine ⟨o1, a, e1, ex, hg2, fun hh => ?_⟩
    obtain ⟨b1, p1, hρ1, _⟩ := r1 hh
    obtain ⟨b, p, hρ, r⟩ := r2 hh
    have hne : id ≠ n := by rintro rfl; rw [h0] at hρ1; cases hρ1
    exact ⟨b, p, by simp only [rename, if_neg hne, if_pos hlt]; exact hρ, r⟩
  | .fn f p q, x, y, hy, h => by
    simp only [RV] at hy h ⊢
    obtain ⟨ys, zs, _, r1, r2⟩ := hy
    obtain ⟨xs, us, ex, s1, s2⟩ := h
    exact ⟨xs, us, ex, move_RVL p xs ys r1 s1, move_RVL q us zs r2 s2⟩
  | .mp id, x, y, hy, h => by
    simp only [RV] at hy h ⊢
    obtain ⟨es1, c1, e1, b1, hρ1, _⟩ := hy
    obtain ⟨es, c, e2, b, hρ, ex⟩ := h
    have hlt := (List.getElem?_eq_some_iff.1 e1).1
    have hne : id ≠ n := by rintro rfl; rw [h0] at hρ1; cases hρ1
    rw [List.getElem?_append_left hlt] at e2
    exact ⟨es, c, e2, b, by simp only [rename, if_neg hne, if_pos hlt]; exact hρ, ex⟩
  | .iface t v, x, y, hy, h => by
    simp only [RV] at hy h ⊢
    obtain ⟨y', _, ry⟩ := hy
    obtain ⟨x', ex, rx⟩ := h
    exact ⟨x', ex, move_RV v x' y' ry rx⟩
theorem move_RVL : ∀ (vs : List V) (xs ys : List Value), RVL w.heap (Icur n0 I0 σ ρ w.heap) σ ρ vs ys → RVL w'.heap (Icur n0 I0 (σ ++ [ob]) ρ' w'.heap) (σ ++ [ob]) ρ' vs xs → RVL w'.heap (Icur n0 I0 σ (rename ρ' n σ.length) w'.heap) σ (rename ρ' n σ.length) vs xs
  | [], xs, ys, _, h => by
    have _u0 := hn
    have _u1 := hob
    have _u2 := hfro
    have _u3 := h0
    have _u4 := hI0
    have _u5 := hI
    have _u6 := E
    simpa only [RVL] using h
  | v :: vs, xs, ys, hy, h => by
    simp only [RVL] at hy h ⊢
    obtain ⟨y, ys', _, r1, r2⟩ := hy
    obtain ⟨x, xs', ex, s1, s2⟩ := h
    exact ⟨x, xs', ex, move_RV v x y r1 s1, move_RVL vs xs' ys' r2 s2⟩
end

mutual
theorem move_RV2 : ∀ (v : V) (x : Value), (∀ j ∈ dirs v, j < σ.length ∧ j ≠ n) → RV w'.heap (Icur n0 I0 (σ ++ [ob]) ρ' w'.heap) (σ ++ [ob]) ρ' v x → RV w'.heap (Icur n0 I0 σ (rename ρ' n σ.length) w'.heap) σ (rename ρ' n σ.length) v x
  | .tr t, x, _, h => by
    simp only [RV] at h ⊢
    exact RT_mono (fun b hb => ⟨move_icur hn hob hfro h0 hI0 hI E hb, rfl⟩) t x h
  | .agg cs, x, hd, h => by
    simp only [RV] at h ⊢
    obtain ⟨xs, ex, rx⟩ := h
    exact ⟨xs, ex, move_RVL2 cs xs (by simpa only [dirs] using hd) rx⟩
  | .tup cs, x, hd, h => by
    simp only [RV] at h ⊢
    obtain ⟨xs, ex, rx⟩ := h
    exact ⟨xs, ex, move_RVL2 cs xs (by simpa only [dirs] using hd) rx⟩
  | .own id g off len sz cap, x, hd, h => by
    simp only [RV] at h ⊢
    obtain ⟨o2, a, c, e2, ex, hg2, r2⟩ := h
    obtain ⟨hlt, hne⟩ := hd id (by simp [dirs])
    rw [List.getElem?_append_left hlt] at e2
    refine ⟨o2, a, c, e2, ex, hg2, fun hh => ?_⟩
    obtain ⟨b, p, hρ, r⟩ := r2 hh
    exact ⟨b, p, by simp only [rename, if_neg hne, if_pos hlt]; exact hρ, r⟩
  | .ptr id g off, x, hd, h => by
    simp only [RV] at h ⊢
    obtain ⟨o2, a, e2, ex, hg2, r2⟩ := h
    obtain ⟨hlt, hne⟩ := hd id (by simp [dirs])
    rw [List.getElem?_append_left hlt] at e2
    refine ⟨o2, a, e2, ex, hg2, fun hh => ?_⟩
    obtain ⟨b, p, hρ, r⟩ := r2 hh
    exact ⟨b, p, by simp only [rename, if_neg hne, if_pos hlt]; exact hρ, r⟩
  | .fn f p q, x, hd, h => by
    simp only [RV] at h ⊢
    obtain ⟨xs, us, ex, s1, s2⟩ := h
    exact ⟨xs, us, ex, move_RVL2 p xs (fun j hj => hd j (by simp [dirs, hj])) s1, move_RVL2 q us (fun j hj => hd j (by simp [dirs, hj])) s2⟩
  | .mp id, x, hd, h => by
    simp only [RV] at h ⊢
    obtain ⟨es, c, e2, b, hρ, ex⟩ := h
    obtain ⟨hlt, hne⟩ := hd id (by simp [dirs])
    rw [List.getElem?_append_left hlt] at e2
    exact ⟨es, c, e2, b, by simp only [rename, if_neg hne, if_pos hlt]; exact hρ, ex⟩
  | .iface t v, x, hd, h => by
    simp only [RV] at h ⊢
    obtain ⟨x', ex, rx⟩ := h
    exact ⟨x', ex, move_RV2 v x' (by simpa only [dirs] using hd) rx⟩
theorem move_RVL2 : ∀ (vs : List V) (xs : List Value), (∀ j ∈ dirs.dirsL vs, j < σ.length ∧ j ≠ n) → RVL w'.heap (Icur n0 I0 (σ ++ [ob]) ρ' w'.heap) (σ ++ [ob]) ρ' vs xs → RVL w'.heap (Icur n0 I0 σ (rename ρ' n σ.length) w'.heap) σ (rename ρ' n σ.length) vs xs
  | [], xs, _, h => by
    have _u0 := hn
    have _u1 := hob
    have _u2 := hfro
    have _u3 := h0
    have _u4 := hI0
    have _u5 := hI
    have _u6 := E
    simpa only [RVL] using h
  | v :: vs, xs, hd, h => by
    simp only [RVL] at h ⊢
    obtain ⟨x, xs', ex, s1, s2⟩ := h
    exact ⟨x, xs', ex, move_RV2 v x (fun j hj => hd j (by simp [dirs.dirsL, hj])) s1, move_RVL2 vs xs' (fun j hj => hd j (by simp [dirs.dirsL, hj])) s2⟩
end

theorem move_ents : ∀ (es : List Ent) (cs ds : List MapEntry), EntsR w.heap (Icur n0 I0 σ ρ w.heap) σ ρ es ds → EntsR w'.heap (Icur n0 I0 (σ ++ [ob]) ρ' w'.heap) (σ ++ [ob]) ρ' es cs →
    EntsR w'.heap (Icur n0 I0 σ (rename ρ' n σ.length) w'.heap) σ (rename ρ' n σ.length) es cs
  | [], cs, ds, _, h => h
  | e :: es, cs, ds, hd, h => by
    obtain ⟨d, ds', _, ⟨_, _, r1⟩, r2⟩ := hd
    obtain ⟨c, cs', ex, ⟨k1, k2, s1⟩, s2⟩ := h
    exact ⟨c, cs', ex, ⟨k1, k2, move_RV hn hob hfro h0 hI0 hI E _ _ _ r1 s1⟩, move_ents es cs' ds' r2 s2⟩

theorem move_inv (hnew : (∃ cs g, ob = .row cs g ∧ ∀ j ∈ dirs.dirsL cs, j < σ.length ∧ j ≠ n) ∨ (∃ c, ob = .map [] c)) : Inv n0 w0 I0 σ (rename ρ' n σ.length) w' := by
  refine ⟨hI.below, hI.size0, hI.i0, fun i b o h => ?_, fun i j b o o' h1 h2 => ?_, fun i b o ob1 h e => ?_⟩
  · rcases move_at hn hob hfro h0 hI0 hI E h with ⟨rfl, hh⟩ | ⟨hne, hlt, hh⟩
    · have := hI.new _ b o hh
      exact ⟨this.1, this.2.1, hn⟩
    · have := hI.new _ b o hh
      exact ⟨this.1, this.2.1, hlt⟩
  · rcases move_at hn hob hfro h0 hI0 hI E h1 with ⟨rfl, k1⟩ | ⟨hne1, hlt1, k1⟩ <;> rcases move_at hn hob hfro h0 hI0 hI E h2 with ⟨rfl, k2⟩ | ⟨hne2, hlt2, k2⟩
    · rfl
    · have := hI.inj _ _ _ _ _ k1 k2
      omega
    · have := hI.inj _ _ _ _ _ k1 k2
      omega
    · exact hI.inj _ _ _ _ _ k1 k2
  · rcases move_at hn hob hfro h0 hI0 hI E h with ⟨rfl, hh⟩ | ⟨hne, hlt, hh⟩
    · rw [hob] at e
      cases e
      have hr := hI.obs _ b o ob hh (by rw [List.getElem?_append_right (Nat.le_refl _), Nat.sub_self]; rfl)
      rcases hnew with ⟨cs, g, rfl, hd⟩ | ⟨c, rfl⟩
      · obtain ⟨arr, t, lo, hi, e1, e2, e3, r⟩ := hr
        refine ⟨arr, t, lo, hi, e1, e2, e3, fun k c hc => ?_⟩
        obtain ⟨y, hy, ry⟩ := r k c hc
        refine ⟨y, hy, move_RV2 hn hob hfro h0 hI0 hI E c y (fun j hj => hd j ?_) ry⟩
        have : ∀ (l : List V) (k : Nat), l[k]? = some c → ∀ j ∈ dirs c, j ∈ dirs.dirsL l := by
          intro l
          induction l with
          | nil => intro k h; simp at h
          | cons v l ih =>
            intro k h j hj
            cases k with
            | zero =>
              simp only [List.getElem?_cons_zero, Option.some.injEq] at h
              subst h
              simp [dirs.dirsL, hj]
            | succ k =>
              have := ih k (by simpa using h) j hj
              simp [dirs.dirsL, this]
        exact this cs k hc j hj
      · obtain ⟨h0', ces, e1, r⟩ := hr
        exact ⟨h0', ces, e1, r⟩
    · obtain ⟨p, hp⟩ : ∃ p, ρ i = some p := by
        cases hq : ρ i with
        | some p => exact ⟨p, rfl⟩
        | none =>
          have := E.out i hlt hq
          rw [this] at hh
          cases hh
      have hold := hI0.obs i p.1 p.2 ob1 hp e
      have hr := hI.obs i b o ob1 hh (at_over e _)
      cases ob1 with
      | row cs g =>
        obtain ⟨arr, t, lo, hi, e1, e2, e3, r⟩ := hr
        obtain ⟨_, _, _, _, _, _, _, r0⟩ := hold
        refine ⟨arr, t, lo, hi, e1, e2, e3, fun k c hc => ?_⟩
        obtain ⟨y, hy, ry⟩ := r k c hc
        obtain ⟨y0, _, ry0⟩ := r0 k c hc
        exact ⟨y, hy, move_RV hn hob hfro h0 hI0 hI E c y y0 ry0 ry⟩
      | fro ts g =>
        obtain ⟨hIb, r⟩ := hr
        exact ⟨move_icur hn hob hfro h0 hI0 hI E hIb, RTC_mono (fun b hb => ⟨move_icur hn hob hfro h0 hI0 hI E hb, rfl⟩) ts b o hIb r⟩
      | map es c =>
        obtain ⟨h0', ces, e1, r⟩ := hr
        obtain ⟨_, ces0, _, r0⟩ := hold
        exact ⟨h0', ces, e1, move_ents hn hob hfro h0 hI0 hI E es _ _ r0 r⟩

theorem move_mk {mk : Nat → V} (hmk : IsMk mk) {x : Value} (h : RV w'.heap (Icur n0 I0 (σ ++ [ob]) ρ' w'.heap) (σ ++ [ob]) ρ' (mk σ.length) x) :
    RV w'.heap (Icur n0 I0 σ (rename ρ' n σ.length) w'.heap) σ (rename ρ' n σ.length) (mk n) x := by
  have _u0 := hn
  have _u1 := h0
  have _u2 := hI0
  have hat : (σ ++ [ob])[σ.length]? = some ob := by rw [List.getElem?_append_right (Nat.le_refl _), Nat.sub_self]; rfl
  have hren : rename ρ' n σ.length n = ρ' σ.length := by simp [rename]
  rcases hmk with rfl | ⟨len, sz, cap, rfl⟩ | rfl
  · simp only [RV] at h ⊢
    obtain ⟨o2, a, e2, ex, hg2, r2⟩ := h
    rw [hat] at e2
    cases e2
    exact ⟨ob, a, hob, ex, hg2, fun hh => by rw [hren]; exact r2 hh⟩
  · simp only [RV] at h ⊢
    obtain ⟨o2, a, c, e2, ex, hg2, r2⟩ := h
    rw [hat] at e2
    cases e2
    exact ⟨ob, a, c, hob, ex, hg2, fun hh => by rw [hren]; exact r2 hh⟩
  · simp only [RV] at h ⊢
    obtain ⟨es, c, e2, b, hρ, ex⟩ := h
    rw [hat] at e2
    cases e2
    exact ⟨es, c, hob, b, by rw [hren]; exact hρ, ex⟩

end move
end
end Go.Proofs.YtbdebcmklaooaaaDoor.AM
end
section
set_option linter.unusedSimpArgs false
set_option linter.unusedVariables false
/- A region whose order is open: what comes ahead of what, and the run in the text's order. -/
set_option linter.unusedVariables false
set_option linter.unusedSimpArgs false
open Go.RowKit
namespace Go.Proofs.YtbdebcmklaooaaaDoor.AM

section
variable {P : Program} {H : Hints} {K : List Nat} {N : Nat} {ops : Array Oper} {call : CallA}

inductive Anc (ops : Array Oper) : Nat → Nat → Prop
  | one {j : Nat} {o : Oper} {e : Edge} (h : ops[j]? = some o) (he : e ∈ o.after) (hb : Region.binds .any e = true) : Anc ops j e.on
  | more {j i : Nat} {o : Oper} {e : Edge} (h : ops[j]? = some o) (he : e ∈ o.after) (hb : Region.binds .any e = true) (r : Anc ops e.on i) : Anc ops j i

theorem bitsOf_sound (acc : List Nat) (i : Nat) : ∀ (es : List Edge), Nat.testBit (bitsOf acc es) i = true → ∃ e ∈ es, Region.binds .any e = true ∧ (e.on = i ∨ Nat.testBit (acc.getD e.on 0) i = true)
  | [], h => by simp [bitsOf] at h
  | e :: r, h => by
    simp only [bitsOf] at h
    split at h
    · rename_i hb
      rw [Nat.testBit_or, Nat.testBit_or, Nat.testBit_two_pow] at h
      simp only [Bool.or_eq_true, decide_eq_true_eq] at h
      rcases h with h | h | h
      · exact ⟨e, List.mem_cons_self .., hb, .inl h⟩
      · exact ⟨e, List.mem_cons_self .., hb, .inr h⟩
      · obtain ⟨e', he, h'⟩ := bitsOf_sound acc i r h
        exact ⟨e', List.mem_cons_of_mem _ he, h'⟩
    · obtain ⟨e', he, h'⟩ := bitsOf_sound acc i r h
      exact ⟨e', List.mem_cons_of_mem _ he, h'⟩

theorem ancL_sound (ops : Array Oper) : ∀ (os : List Oper) (pre : List Oper) (acc : List Nat), ops.toList = pre ++ os → acc.length = pre.length →
    (∀ j i, Nat.testBit (acc.getD j 0) i = true → Anc ops j i) → ∀ j i, Nat.testBit ((ancL os acc).getD j 0) i = true → Anc ops j i
  | [], pre, acc, h1, h2, h3 => by simpa [ancL] using h3
  | o :: r, pre, acc, h1, h2, h3 => by
    simp only [ancL]
    refine ancL_sound ops r (pre ++ [o]) _ (by simp [h1]) (by simp [h2]) ?_
    intro j i h
    rcases Nat.lt_trichotomy j acc.length with hj | hj | hj
    · refine h3 j i ?_
      rw [List.getD_eq_getElem?_getD, List.getElem?_append_left hj] at h
      rwa [List.getD_eq_getElem?_getD]
    · subst hj
      rw [List.getD_eq_getElem?_getD, List.getElem?_append_right (Nat.le_refl _), Nat.sub_self] at h
      simp only [List.getElem?_cons_zero, Option.getD_some] at h
      obtain ⟨e, he, hb, hh⟩ := bitsOf_sound acc i _ h
      have ho : ops[acc.length]? = some o := by
        rw [← Array.getElem?_toList, h1, h2, List.getElem?_append_right (Nat.le_refl _), Nat.sub_self]
        rfl
      rcases hh with hh | hh
      · subst hh
        exact .one ho (by simpa using he) hb
      · exact .more ho (by simpa using he) hb (h3 _ _ hh)
    · rw [List.getD_eq_getElem?_getD, List.getElem?_eq_none (by simp; omega)] at h
      simp at h

abbrev anOf (ops : Array Oper) : List Nat := ancL ops.toList []

theorem ahead_anc {j i : Nat} (h : ahead (anOf ops) j i = true) : Anc ops j i :=
  ancL_sound ops ops.toList [] [] rfl rfl (by simp) j i h

theorem inTurn_iff {i k : Nat} (h : inTurn (anOf ops) i k = true) : (k < i ∧ Anc ops i k) ∨ (i < k ∧ Anc ops k i) := by
  unfold inTurn at h
  simp only [Bool.or_eq_true, Bool.and_eq_true, Nat.blt_eq] at h
  rcases h with ⟨h1, h2⟩ | ⟨h1, h2⟩
  · exact .inl ⟨h1, ahead_anc h2⟩
  · exact .inr ⟨h1, ahead_anc h2⟩

abbrev Li (D : Array Bool) (k : Nat) : Prop := D.getD k false = true
def ClosedD (ops : Array Oper) (D : Array Bool) : Prop := ∀ j o, ops[j]? = some o → Li D j → ∀ e ∈ o.after, Region.binds .any e = true → Li D e.on

theorem anc_in {D : Array Bool} (hc : ClosedD ops D) {j i : Nat} (h : Anc ops j i) : (∀ o, ops[j]? = some o → ∀ e ∈ o.after, Region.binds .any e = true → Li D e.on) → Li D i := by
  induction h with
  | one h he hb => exact fun hd => hd _ h _ he hb
  | more h he hb r ih => exact fun hd => ih fun o' ho' => hc _ o' ho' (hd _ h _ he hb)
theorem anc_of {D : Array Bool} (hc : ClosedD ops D) {j i : Nat} (h : Anc ops j i) (hj : Li D j) : Li D i :=
  anc_in hc h fun o ho => hc j o ho hj

/-- The run in the text's order, step by step. -/
def StepOf (call : CallA) (o : HOp) (c : Nat) (ns : List Nat) (s s' : St) (v : V) : Prop :=
  s' = ({ s with σ := s'.σ } : St).set o.dst o.inK v ∧
  ((guardA (s.only ns) o.guard = some true ∧ opA (if Nat.beq c 1 then quietCall call else call) o.k (s.only ns) = some (v, s'.σ) ∧ (c = 1 → freshOk s.σ s'.σ = true)) ∨
   (guardA (s.only ns) o.guard = some false ∧ v = undefV ∧ s'.σ = s.σ))

theorem set_σ' (s : St) (τ : Store) (d : Option Nat) (b : Bool) (v : V) : (({ s with σ := τ } : St).set d b v).σ = τ := by
  rw [set_σ]

theorem opStepD_of {o : HOp} {c : Nat} {ns : List Nat} {s s' : St} (e : opStepD call c ns o s = some s') : ∃ v, StepOf call o c ns s s' v := by
  unfold opStepD at e
  split at e
  · rename_i hg
    split at e
    · rename_i v τ hop
      split at e
      · cases e
      · rename_i hf
        simp only [Option.some.injEq] at e
        subst e
        refine ⟨v, by rw [set_σ'], .inl ⟨hg, by rw [set_σ']; exact hop, fun hc => ?_⟩⟩
        rw [set_σ']
        subst hc
        simpa using hf
    · cases e
  · rename_i hg
    simp only [Option.some.injEq] at e
    subst e
    exact ⟨undefV, by rw [set_σ], .inr ⟨hg, rfl, by rw [set_σ]⟩⟩
  · cases e

theorem eqO_sound : ∀ {a b : Option Nat}, eqO a b = true → a = b
  | none, none, _ => rfl
  | some a, some b, h => by rw [Nat.eq_of_beq_eq_true h]
  | none, some _, h => by cases h
  | some _, none, h => by cases h
theorem eqInt_sound {a b : Int} (h : eqInt a b = true) : a = b := by
  cases a <;> cases b <;> simp only [eqInt] at h
  · rw [Nat.eq_of_beq_eq_true h]
  · cases h
  · cases h
  · rw [Nat.eq_of_beq_eq_true h]
theorem bytesEq_sound : ∀ {a b : List UInt8}, bytesEq a b = true → a = b
  | [], [], _ => rfl
  | a :: x, b :: y, h => by
    simp only [bytesEq, Bool.and_eq_true] at h
    rw [UInt8.toNat_inj.1 (Nat.eq_of_beq_eq_true h.1), bytesEq_sound h.2]
  | [], _ :: _, h => by simp [bytesEq] at h
  | _ :: _, [], h => by simp [bytesEq] at h
theorem eqS_sound {a b : Value} (h : eqS a b = true) : a = b := by
  unfold eqS at h
  split at h
  · rename_i k x k' y
    simp only [Bool.and_eq_true] at h
    have h1 := Nat.eq_of_beq_eq_true h.1
    have hk : k = k' := by cases k <;> cases k' <;> first | rfl | (exact absurd h1 (by decide))
    rw [hk, eqInt_sound h.2]
  · rename_i x y
    have := bytesEq_sound h
    cases x with | mk x => cases y with | mk y =>
    cases x with | mk x => cases y with | mk y =>
    simp only at this
    rw [this]
  · rfl
  · rfl
  · simp only [Bool.and_eq_true] at h
    rw [Nat.eq_of_beq_eq_true h.1, Nat.eq_of_beq_eq_true h.2]
  all_goals first | rfl | (cases h; done)
theorem eqFn_sound {a b : Fn} (h : eqFn a b = true) : a = b := by
  unfold eqFn at h
  split at h
  · rw [Nat.eq_of_beq_eq_true h]
  · cases h
mutual
theorem eqT_sound : ∀ (a b : Tree), eqT a b = true → a = b
  | .sc a, b, h => by
    cases b <;> simp only [eqT, Bool.false_eq_true] at h
    rw [eqS_sound h]
  | .agg a, b, h => by
    cases b <;> simp only [eqT, Bool.false_eq_true] at h
    rw [eqTL_sound _ _ h]
  | .tup a, b, h => by
    cases b <;> simp only [eqT, Bool.false_eq_true] at h
    rw [eqTL_sound _ _ h]
  | .row a n c, b, h => by
    cases b <;> simp only [eqT, Bool.false_eq_true, Bool.and_eq_true] at h
    rw [eqTL_sound _ _ h.2, Nat.eq_of_beq_eq_true h.1.1, eqO_sound h.1.2]
  | .rptr a n, b, h => by
    cases b <;> simp only [eqT, Bool.false_eq_true, Bool.and_eq_true] at h
    rw [eqTL_sound _ _ h.2, Nat.eq_of_beq_eq_true h.1]
  | .fn f p q, b, h => by
    cases b <;> simp only [eqT, Bool.false_eq_true, Bool.and_eq_true] at h
    rw [eqTL_sound _ _ h.2, eqTL_sound _ _ h.1.2, eqFn_sound h.1.1]
  | .iface t a, b, h => by
    cases b <;> simp only [eqT, Bool.false_eq_true, Bool.and_eq_true] at h
    rw [eqT_sound _ _ h.2, Nat.eq_of_beq_eq_true h.1]
theorem eqTL_sound : ∀ (a b : List Tree), eqTL a b = true → a = b
  | [], [], _ => rfl
  | a :: x, b :: y, h => by
    simp only [eqTL, Bool.and_eq_true] at h
    rw [eqT_sound a b h.1, eqTL_sound x y h.2]
  | [], _ :: _, h => by simp [eqTL] at h
  | _ :: _, [], h => by simp [eqTL] at h
end
mutual
theorem eqV_sound : ∀ (a b : V), eqV a b = true → a = b
  | .tr a, b, h => by
    cases b <;> simp only [eqV, Bool.false_eq_true] at h
    rw [eqT_sound _ _ h]
  | .agg a, b, h => by
    cases b <;> simp only [eqV, Bool.false_eq_true] at h
    rw [eqVL_sound _ _ h]
  | .tup a, b, h => by
    cases b <;> simp only [eqV, Bool.false_eq_true] at h
    rw [eqVL_sound _ _ h]
  | .own i g o l z c, b, h => by
    cases b <;> simp only [eqV, Bool.false_eq_true, Bool.and_eq_true] at h
    obtain ⟨⟨⟨⟨⟨h1, h2⟩, h3⟩, h4⟩, h5⟩, h6⟩ := h
    rw [Nat.eq_of_beq_eq_true h1, Nat.eq_of_beq_eq_true h2, Nat.eq_of_beq_eq_true h3, Nat.eq_of_beq_eq_true h4, Nat.eq_of_beq_eq_true h5, eqO_sound h6]
  | .ptr i g o, b, h => by
    cases b <;> simp only [eqV, Bool.false_eq_true, Bool.and_eq_true] at h
    obtain ⟨⟨h1, h2⟩, h3⟩ := h
    rw [Nat.eq_of_beq_eq_true h1, Nat.eq_of_beq_eq_true h2, Nat.eq_of_beq_eq_true h3]
  | .fn f p q, b, h => by
    cases b <;> simp only [eqV, Bool.false_eq_true, Bool.and_eq_true] at h
    rw [eqVL_sound _ _ h.2, eqVL_sound _ _ h.1.2, eqFn_sound h.1.1]
  | .mp i, b, h => by
    cases b <;> simp only [eqV, Bool.false_eq_true] at h
    rw [Nat.eq_of_beq_eq_true h]
  | .iface t a, b, h => by
    cases b <;> simp only [eqV, Bool.false_eq_true, Bool.and_eq_true] at h
    rw [eqV_sound _ _ h.2, Nat.eq_of_beq_eq_true h.1]
theorem eqVL_sound : ∀ (a b : List V), eqVL a b = true → a = b
  | [], [], _ => rfl
  | a :: x, b :: y, h => by
    simp only [eqVL, Bool.and_eq_true] at h
    rw [eqV_sound a b h.1, eqVL_sound x y h.2]
  | [], _ :: _, h => by simp [eqVL] at h
  | _ :: _, [], h => by simp [eqVL] at h
end

/-- A reading leaves the store. -/
theorem read_same {k : HK} {st : St} {v : V} {σ' : Store} (hk : readK k = true) (e : opA call k st = some (v, σ')) : σ' = st.σ := by
  cases k with
  | load size agg a =>
    obtain ⟨av, ha, e⟩ := bind1_some e
    exact (pure1_some e).2
  | iaddr size x i =>
    obtain ⟨xv, hx, e⟩ := bind1_some e
    obtain ⟨iv, hi, e⟩ := bind1_some e
    exact (pure1_some e).2
  | lookup kind z ok m kk =>
    obtain ⟨xv, hx, e⟩ := bind1_some e
    obtain ⟨iv, hi, e⟩ := bind1_some e
    exact (pure1_some e).2
  | len kk x =>
    obtain ⟨xv, hx, e⟩ := bind1_some e
    exact (pure1_some e).2
  | cap x =>
    obtain ⟨xv, hx, e⟩ := bind1_some e
    exact (pure1_some e).2
  | slice size x lo hi mx =>
    simp only [opA, o_slice] at e
    obtain ⟨xv, hx, e⟩ := bind1_some e
    split at e
    · exact (pure1_some e).2
    · cases e
  | _ => simp [readK] at hk

def clsN (c : Nat) : Nat := if 3 ≤ c then 0 else c
def clsI (is : List (Nat × List Nat)) (i : Nat) : Nat := match is[i]? with | some (c, _) => clsN c | none => 3
theorem pendAll_at {i e h : Nat} {σ : Store} {ps : List Pend} (hp : pendAll call e σ ps = true) {p : Pend} (hm : p ∈ ps) (he : e ≤ p.h) : pendOk call σ p = true := by
  unfold pendAll at hp
  have := List.all_eq_true.1 hp p hm
  simp only [Bool.or_eq_true, Nat.blt_eq] at this
  rcases this with h | h
  · omega
  · exact h

theorem opsRunD_of : ∀ (is : List (Nat × List Nat)) (os : List HOp) (i : Nat) (ps : List Pend) (s s' : St), opsRunD call i ps is os s = some s' →
    ∃ (f : Nat → St) (vals : Nat → V), f 0 = s ∧ f os.length = s' ∧ (∀ i o, os[i]? = some o → ∃ c ns, is[i]? = some (c, ns) ∧ StepOf call o c ns (f i) (f (i + 1)) (vals i)) ∧
      (∀ p ∈ ps, ∀ e, e ≤ os.length → (e = os.length ∨ clsI is e = 2) → i + e ≤ p.h → pendOk call (f e).σ p = true) ∧
      (∀ j o h ns, os[j]? = some o → is[j]? = some (h + 3, ns) → guardA ((f j).only ns) o.guard = some true → ∀ e, j < e → e ≤ os.length → (e = os.length ∨ clsI is e = 2) → i + e ≤ h →
        pendOk call (f e).σ ⟨h, o.k, (f j).only ns, vals j⟩ = true)
  | [], [], i, ps, s, s', e => by
    simp only [opsRunD] at e
    split at e
    · rename_i hp
      simp only [Option.some.injEq] at e
      subst e
      refine ⟨fun _ => s, fun _ => undefV, rfl, rfl, fun i o h => by simp at h, fun p hm e he _ hh => ?_, fun j o h ns ho => by simp at ho⟩
      have : e = 0 := by simpa using he
      subst this
      exact pendAll_at (i := 0) (h := 0) hp hm (by simpa using hh)
    · cases e
  | (c, ns) :: is, o :: os, i, ps, s, s', e => by
    simp only [opsRunD] at e
    split at e
    · cases e
    rename_i hc2
    split at e
    · rename_i s1 h1
      obtain ⟨v, hv⟩ := opStepD_of h1
      obtain ⟨f, vals, h2, h3, h4, h5, h6⟩ := opsRunD_of is os (i + 1) _ s1 s' e
      refine ⟨fun i => match i with | 0 => s | i + 1 => f i, fun i => match i with | 0 => v | i + 1 => vals i, rfl, by simpa using h3, fun i o' ho => ?_, fun p hm m he hec hh => ?_, fun j o' h ns' ho hj hg m hje he hec hh => ?_⟩
      · cases i with
        | zero =>
          simp only [List.getElem?_cons_zero, Option.some.injEq] at ho
          subst ho
          refine ⟨c, ns, rfl, ?_⟩
          simp only
          rw [h2]
          exact hv
        | succ i => exact h4 i o' (by simpa using ho)
      · cases m with
        | zero =>
          simp only
          rcases hec with hec | hec
          · simp at hec
          · have : c = 2 := by
              unfold clsI clsN at hec
              simp only [List.getElem?_cons_zero] at hec
              split at hec <;> omega
            subst this
            have hp : pendAll call i s.σ ps = true := by simpa using hc2
            exact pendAll_at (i := 0) (h := 0) hp hm (by omega)
        | succ m =>
          have hin : p ∈ pendAdd call c ns o s ps := by
            unfold pendAdd
            split
            · split
              · split
                · exact List.mem_cons_of_mem _ hm
                · exact hm
              · exact hm
            · exact hm
          refine h5 p hin m (by simpa using he) ?_ (by omega)
          rcases hec with hec | hec
          · exact .inl (by simpa using hec)
          · exact .inr (by simpa [clsI] using hec)
      · cases j with
        | zero =>
          simp only [List.getElem?_cons_zero, Option.some.injEq] at ho hj
          subst ho
          cases hj
          cases m with
          | zero => omega
          | succ m =>
            simp only at hg ⊢
            obtain ⟨_, hv⟩ := hv
            rcases hv with ⟨_, hop, _⟩ | ⟨hg', _⟩
            · have hb : ¬ Nat.beq (h + 3) 1 = true := by simp
              rw [if_neg hb] at hop
              have hin : (⟨h, o.k, s.only ns, v⟩ : Pend) ∈ pendAdd call (h + 3) ns o s ps := by
                simp only [pendAdd, hg, hop]
                exact List.mem_cons_self ..
              refine h5 _ hin m (by simpa using he) ?_ (by simp only; omega)
              rcases hec with hec | hec
              · exact .inl (by simpa using hec)
              · exact .inr (by simpa [clsI] using hec)
            · rw [hg] at hg'
              cases hg'
        | succ j =>
          cases m with
          | zero => omega
          | succ m =>
            refine h6 j o' h ns' (by simpa using ho) (by simpa using hj) hg m (by omega) (by simpa using he) ?_ (by omega)
            rcases hec with hec | hec
            · exact .inl (by simpa using hec)
            · exact .inr (by simpa [clsI] using hec)
    · cases e
  | [], _ :: _, i, ps, s, s', e => by simp [opsRunD] at e
  | _ :: _, [], i, ps, s, s', e => by simp [opsRunD] at e

def has (st : St) (b : Bool) (t : Nat) (v : V) : Prop := if b then look st.env t = some v else look st.loc t = some v

theorem look_onlyL (e : List (Nat × V)) (t : Nat) (v : V) : ∀ (ns : List Nat), look (onlyL e ns) t = some v → mem t ns = true ∧ look e t = some v
  | [], h => by simp [onlyL, look] at h
  | n :: ns, h => by
    simp only [onlyL] at h
    split at h
    · rename_i u hu
      simp only [look] at h
      split at h
      · rename_i hb
        have := Nat.eq_of_beq_eq_true hb
        subst this
        simp only [Option.some.injEq] at h
        subst h
        exact ⟨by simp [mem], hu⟩
      · obtain ⟨h1, h2⟩ := look_onlyL e t v ns h
        exact ⟨by simp [mem, h1], h2⟩
    · obtain ⟨h1, h2⟩ := look_onlyL e t v ns h
      exact ⟨by simp [mem, h1], h2⟩

theorem has_only {st : St} {ns : List Nat} {b : Bool} {t : Nat} {v : V} (h : has (st.only ns) b t v) : mem t ns = true ∧ has st b t v := by
  unfold has at h ⊢
  cases b
  · exact look_onlyL _ _ _ _ h
  · exact look_onlyL _ _ _ _ h

theorem has_set {st : St} {d : Option Nat} {u v : V} {b : Bool} {t : Nat} (h : has (st.set d (kOf K d) u) b t v) (hb : has st b t v → b = mem t K) :
    (d = some t ∧ v = u ∧ b = mem t K) ∨ (has st b t v ∧ d ≠ some t) := by
  cases d with
  | none => exact .inr ⟨h, by simp⟩
  | some d =>
    have hk : kOf K (some d) = mem d K := rfl
    rw [hk] at h
    cases hm : mem d K with
    | true =>
      rw [hm] at h
      unfold has at h hb ⊢
      cases b with
      | true =>
        simp only [if_true] at h hb ⊢
        have h' : look (put st.env d u) t = some v := h
        rw [look_put] at h'
        split at h'
        · rename_i ht
          subst ht
          exact .inl ⟨rfl, (Option.some.inj h').symm, hm.symm⟩
        · rename_i ht
          exact .inr ⟨h', fun e => ht (Option.some.inj e).symm⟩
      | false =>
        simp only [Bool.false_eq_true, if_false] at h hb ⊢
        have h' : look st.loc t = some v := h
        refine .inr ⟨h', fun e => ?_⟩
        have := hb h'
        rw [Option.some.inj e] at hm
        rw [hm] at this
        cases this
    | false =>
      rw [hm] at h
      unfold has at h hb ⊢
      cases b with
      | true =>
        simp only [if_true] at h hb ⊢
        have h' : look st.env t = some v := h
        refine .inr ⟨h', fun e => ?_⟩
        have := hb h'
        rw [Option.some.inj e] at hm
        rw [hm] at this
        cases this
      | false =>
        simp only [Bool.false_eq_true, if_false] at h hb ⊢
        have h' : look ((d, u) :: st.loc) t = some v := h
        simp only [look] at h'
        split at h'
        · rename_i ht
          have := Nat.eq_of_beq_eq_true ht
          subst this
          exact .inl ⟨rfl, (Option.some.inj h').symm, hm.symm⟩
        · rename_i ht
          exact .inr ⟨h', fun e => ht (by rw [Option.some.inj e]; simp)⟩

abbrev dstA (ops : Array Oper) (k : Nat) : Option Nat := (ops[k]?).bind (·.dst)

theorem has_f {f : Nat → St} {vals : Nat → V} (hstep : ∀ i o, ops[i]? = some o → f (i + 1) = ({ f i with σ := (f (i + 1)).σ } : St).set o.dst (kOf K o.dst) (vals i)) (h0 : ∀ b t v, has (f 0) b t v → b = mem t K) :
    ∀ i, i ≤ ops.size → ∀ b t v, has (f i) b t v → (∃ k, k < i ∧ dstA ops k = some t ∧ v = vals k ∧ b = mem t K) ∨ (has (f 0) b t v ∧ ∀ k, k < i → dstA ops k ≠ some t)
  | 0, _, b, t, v, h => .inr ⟨h, fun k hk => by omega⟩
  | i + 1, hi, b, t, v, h => by
    have ho : ops[i]? = some ops[i] := Array.getElem?_eq_getElem (by omega)
    have ih := has_f hstep h0 i (by omega)
    rw [hstep i _ ho] at h
    have hb : has ({ f i with σ := (f (i + 1)).σ } : St) b t v → b = mem t K := by
      intro h'
      rcases ih b t v h' with ⟨k, _, _, _, h⟩ | ⟨h, _⟩
      · exact h
      · exact h0 b t v h
    rcases has_set h hb with ⟨h1, h2, h3⟩ | ⟨h1, h2⟩
    · exact .inl ⟨i, by omega, by simp only [dstA, ho, Option.bind_some]; exact h1, h2, h3⟩
    · rcases ih b t v h1 with ⟨k, hk, h⟩ | ⟨h, hk⟩
      · exact .inl ⟨k, by omega, h⟩
      · refine .inr ⟨h, fun k hk' => ?_⟩
        rcases Nat.lt_or_ge k i with h4 | h4
        · exact hk k h4
        · have : k = i := by omega
          subst this
          simp only [dstA, ho, Option.bind_some]
          exact h2

end
end Go.Proofs.YtbdebcmklaooaaaDoor.AM
end
section
set_option linter.unusedSimpArgs false
set_option linter.unusedVariables false
/- A region whose order is open: whatever the order, the text's run tells the outcome. -/
set_option linter.unusedVariables false
set_option linter.unusedSimpArgs false
open Go.RowKit
namespace Go.Proofs.YtbdebcmklaooaaaDoor.AM

section
variable {P : Program} {H : Hints} {K : List Nat} {N : Nat} {ops : Array Oper} {call : CallA} {is : List (Nat × List Nat)}
variable {n0 : Nat} {w0 : World} {I0 : Nat → Prop} {f : Nat → St} {vals : Nat → V}

abbrev cls (is : List (Nat × List Nat)) (i : Nat) : Nat := clsI is i
theorem cls_of {is : List (Nat × List Nat)} {i c : Nat} {ns : List Nat} (h : is[i]? = some (c, ns)) : cls is i = clsN c := by
  unfold cls clsI
  rw [h]
theorem clsN_two {c : Nat} (h : clsN c = 2) : c = 2 := by
  unfold clsN at h
  split at h <;> omega
theorem clsN_ne {c : Nat} (h : clsN c ≠ 0) : c ≠ 0 ∧ c < 3 := by
  unfold clsN at h
  split at h <;> omega

/-- What is known of a region and its run in the text's order. -/
structure Text (P : Program) (H : Hints) (K : List Nat) (N : Nat) (ops : Array Oper) (call : CallA) (is : List (Nat × List Nat)) (f : Nat → St) (vals : Nat → V) : Prop where
  ok : drawOk P H K N ops (anOf ops) is = true
  tr : ∀ i o, ops[i]? = some o → ∃ c ns, is[i]? = some (c, ns) ∧ StepOf call (cOper P H K N ops o) c ns (f i) (f (i + 1)) (vals i)
  h0 : ∀ b t v, has (f 0) b t v → b = mem t K
  fl : ∀ i o h ns, ops[i]? = some o → is[i]? = some (h + 3, ns) → guardA ((f i).only ns) (cOper P H K N ops o).guard = some true → ∀ e, i < e → e ≤ ops.size → (e = ops.size ∨ cls is e = 2) → e ≤ h →
    pendOk call (f e).σ ⟨h, (cOper P H K N ops o).k, (f i).only ns, vals i⟩ = true

theorem Text.one (T : Text P H K N ops call is f vals) {i : Nat} {o : Oper} (ho : ops[i]? = some o) : drawOne P H K N ops (anOf ops) is i = true := by
  have hi := (Array.getElem?_eq_some_iff.1 ho).1
  have := T.ok
  unfold drawOk at this
  simp only [Bool.and_eq_true, List.all_eq_true, List.mem_range] at this
  exact (this.2 i hi).1

theorem Text.pair (T : Text P H K N ops call is f vals) {i k : Nat} {oi ok : Oper} {ci ck : Nat} {ni nk : List Nat} (hi : ops[i]? = some oi) (hk : ops[k]? = some ok)
    (si : is[i]? = some (ci, ni)) (sk : is[k]? = some (ck, nk)) (hne : i ≠ k) :
    (∀ t, ok.dst = some t → oi.dst ≠ some t) ∧ (∀ t, ok.dst = some t → mem t ni = true → inTurn (anOf ops) i k = true) ∧ (ci = 2 → ck ≠ 0 → ck < 3 → inTurn (anOf ops) i k = true) := by
  have hi' := (Array.getElem?_eq_some_iff.1 hi).1
  have hk' := (Array.getElem?_eq_some_iff.1 hk).1
  have := T.ok
  unfold drawOk at this
  simp only [Bool.and_eq_true, List.all_eq_true, List.mem_range] at this
  have h := (this.2 i hi').2 k hk'
  unfold drawPair at h
  rw [Array.getElem?_toList, Array.getElem?_toList, hi, hk, si, sk] at h
  simp only at h
  have hb : Nat.beq i k = false := by rw [Bool.eq_false_iff]; intro hh; exact hne (Nat.eq_of_beq_eq_true hh)
  rw [hb] at h
  simp only [Bool.false_eq_true, if_false, Bool.and_eq_true, Bool.or_eq_true, Bool.not_eq_true'] at h
  obtain ⟨⟨h1, h2⟩, h3⟩ := h
  refine ⟨fun t ht e => ?_, fun t ht hm => ?_, fun h4 h5 h6 => ?_⟩
  · rw [ht, e] at h1
    simp at h1
  · rw [ht] at h2
    simp only [hm, Bool.not_true, Bool.false_or] at h2
    exact h2
  · subst h4
    rcases h3 with ((h3 | h3) | h3) | h3
    · simp at h3
    · exact absurd (Nat.eq_of_beq_eq_true h3) h5
    · have := Nat.le_of_ble_eq_true h3
      omega
    · exact h3

theorem Text.σ_free (T : Text P H K N ops call is f vals) {i : Nat} {o : Oper} {ns : List Nat} (ho : ops[i]? = some o) (hs : is[i]? = some (0, ns)) : (f (i + 1)).σ = (f i).σ := by
  obtain ⟨c, ns', hs', _, h⟩ := T.tr i o ho
  rw [hs] at hs'
  cases hs'
  rcases h with ⟨_, h, _⟩ | ⟨_, _, h⟩
  · have h1 := T.one ho
    unfold drawOne at h1
    rw [ho, hs] at h1
    simp only [Bool.and_eq_true] at h1
    exact (free_over h1.2 h).1
  · exact h

theorem Text.σ_float (T : Text P H K N ops call is f vals) {i h : Nat} {o : Oper} {ns : List Nat} (ho : ops[i]? = some o) (hs : is[i]? = some (h + 3, ns)) : (f (i + 1)).σ = (f i).σ := by
  obtain ⟨c, ns', hs', _, hh⟩ := T.tr i o ho
  rw [hs] at hs'
  cases hs'
  rcases hh with ⟨_, hh, _⟩ | ⟨_, _, hh⟩
  · have h1 := T.one ho
    unfold drawOne at h1
    rw [ho, hs] at h1
    simp only [Bool.and_eq_true] at h1
    exact read_same (st := (f i).only ns) h1.2.1 hh
  · exact hh

theorem Text.σ_quiet (T : Text P H K N ops call is f vals) {i : Nat} {o : Oper} {ns : List Nat} (ho : ops[i]? = some o) (hs : is[i]? = some (1, ns)) : (f (i + 1)).σ = (f i).σ ∨ ∃ ob, (f (i + 1)).σ = (f i).σ ++ [ob] := by
  obtain ⟨c, ns', hs', _, h⟩ := T.tr i o ho
  rw [hs] at hs'
  cases hs'
  rcases h with ⟨_, h, _⟩ | ⟨_, _, h⟩
  · have h1 := T.one ho
    unfold drawOne at h1
    rw [ho, hs] at h1
    simp only [Bool.and_eq_true] at h1
    rcases quiet_over (quietCall_quiet call) h1.2 h with ⟨h2, _⟩ | ⟨ob, mk, _, _, h2, _⟩
    · exact .inl h2
    · exact .inr ⟨ob, h2⟩
  · exact .inl h

theorem Text.σ_step (T : Text P H K N ops call is f vals) {i : Nat} (hi : i < ops.size) (hc : cls is i ≠ 2) : ∃ τ, (f (i + 1)).σ = (f i).σ ++ τ := by
  have ho : ops[i]? = some ops[i] := Array.getElem?_eq_getElem hi
  obtain ⟨c, ns, hs, _⟩ := T.tr i _ ho
  have h1 := T.one ho
  unfold drawOne at h1
  rw [ho, hs] at h1
  simp only [Bool.and_eq_true] at h1
  rw [cls_of hs] at hc
  match c, hs, h1, hc with
  | 0, hs, _, _ => exact ⟨[], by rw [T.σ_free ho hs]; simp⟩
  | 1, hs, _, _ =>
    rcases T.σ_quiet ho hs with h | ⟨ob, h⟩
    · exact ⟨[], by rw [h]; simp⟩
    · exact ⟨[ob], h⟩
  | 2, _, _, hc => exact absurd rfl hc
  | n + 3, hs, _, _ => exact ⟨[], by rw [T.σ_float ho hs]; simp⟩

theorem Text.σ_ext (T : Text P H K N ops call is f vals) {i : Nat} : ∀ {j : Nat}, i ≤ j → j ≤ ops.size → (∀ x, i ≤ x → x < j → cls is x ≠ 2) → ∃ τ, (f j).σ = (f i).σ ++ τ := by
  intro j
  induction j with
  | zero =>
    intro h _ _
    have : i = 0 := by omega
    subst this
    exact ⟨[], by simp⟩
  | succ j ih =>
    intro h1 h2 h3
    rcases Nat.lt_or_ge i (j + 1) with h | h
    · obtain ⟨τ, hτ⟩ := ih (by omega) (by omega) (fun x hx hx' => h3 x hx (by omega))
      obtain ⟨τ', hτ'⟩ := T.σ_step (show j < ops.size by omega) (h3 j (by omega) (by omega))
      exact ⟨τ ++ τ', by rw [hτ', hτ, List.append_assoc]⟩
    · have : i = j + 1 := by omega
      subst this
      exact ⟨[], by simp⟩

theorem Text.σ_len (T : Text P H K N ops call is f vals) {i j : Nat} (h1 : i ≤ j) (h2 : j ≤ ops.size) (h3 : ∀ x, i ≤ x → x < j → cls is x ≠ 2) : (f i).σ.length ≤ (f j).σ.length := by
  obtain ⟨τ, hτ⟩ := T.σ_ext h1 h2 h3
  rw [hτ]
  simp

/-- The slots, while some operations are done. -/
structure Slots (K : List Nat) (N : Nat) (ops : Array Oper) (s0 : St) (vals : Nat → V) (n0 : Nat) (I0 : Nat → Prop) (D : Array Bool) (σ : Store) (ρ : Rho) (h : Array Go.Obj) (a : Act) : Prop where
  defers : a.defers = []
  size : N ≤ a.tmps.size
  old : ∀ b t v, has s0 b t v → (∀ k, Li D k → dstA ops k ≠ some t) → ∃ x, a.tmps[t]? = some x ∧ RV h (Icur n0 I0 σ ρ h) σ ρ v x
  new : ∀ k t, Li D k → dstA ops k = some t → ∃ x, a.tmps[t]? = some x ∧ RV h (Icur n0 I0 σ ρ h) σ ρ (vals k) x

theorem Li_set {D : Array Bool} {i k : Nat} (hi : i < D.size) : Li (D.setIfInBounds i true) k ↔ k = i ∨ Li D k := by
  unfold Li
  by_cases h : i = k
  · subst h
    simp [hi]
  · rw [getD_set_ne false h]
    constructor
    · exact fun hh => .inr hh
    · rintro (hh | hh)
      · exact absurd hh.symm h
      · exact hh

theorem Text.slots_step (T : Text P H K N ops call is f vals) {D : Array Bool} {i : Nat} {o : Oper} {a : Act} {σ σ' : Store} {ρ ρ' : Rho} {h h' : Array Go.Obj} {x : Value}
    (ho : ops[i]? = some o) (hsz : i < D.size) (hdst : dstOk N o.dst = true) (hD : D.size = ops.size) (hS : Slots K N ops (f 0) vals n0 I0 D σ ρ h a) (E : EvoW n0 I0 σ ρ h σ' ρ' h')
    (r : RV h' (Icur n0 I0 σ' ρ' h') σ' ρ' (vals i) x) (hni : ¬ Li D i) : Slots K N ops (f 0) vals n0 I0 (D.setIfInBounds i true) σ' ρ' h' (a.put o.dst x) := by
  have hdi : dstA ops i = o.dst := by simp [dstA, ho]
  have keep : ∀ (t : Nat) (y : Value), o.dst ≠ some t → a.tmps[t]? = some y → (a.put o.dst x).tmps[t]? = some y := by
    intro t y hne hy
    cases hd : o.dst with
    | none => exact hy
    | some d => exact tmps_put (fun e => hne (by rw [hd, e])) hy
  refine ⟨?_, ?_, fun b t v hv hk => ?_, fun k t hk hd => ?_⟩
  · cases o.dst <;> exact hS.defers
  · cases o.dst with
    | none => exact hS.size
    | some d => show N ≤ (a.tmps.setIfInBounds d x).size; simpa using hS.size
  · obtain ⟨y, h1, h2⟩ := hS.old b t v hv (fun k hk' => hk k ((Li_set hsz).2 (.inr hk')))
    have := hk i ((Li_set hsz).2 (.inl rfl))
    rw [hdi] at this
    exact ⟨y, keep t y this h1, RV_monoW E _ _ h2⟩
  · rcases (Li_set hsz).1 hk with rfl | hk'
    · rw [hdi] at hd
      rw [hd] at hdst ⊢
      have : t < a.tmps.size := Nat.lt_of_lt_of_le (by simpa [dstOk, Nat.blt_eq] using hdst) hS.size
      exact ⟨x, tmps_put_same this, r⟩
    · obtain ⟨y, h1, h2⟩ := hS.new k t hk' hd
      have hki : k ≠ i := by rintro rfl; exact hni hk'
      obtain ⟨ok, hok⟩ : ∃ ok, ops[k]? = some ok := by
        cases hok : ops[k]? with
        | none => simp [dstA, hok] at hd
        | some ok => exact ⟨ok, rfl⟩
      obtain ⟨_, _, si, _⟩ := T.tr i o ho
      obtain ⟨_, _, sk, _⟩ := T.tr k ok hok
      have hp := (T.pair ho hok si sk (fun e => hki e.symm)).1 t (by simpa [dstA, hok] using hd)
      exact ⟨y, keep t y hp h1, RV_monoW E _ _ h2⟩

theorem Text.dst (T : Text P H K N ops call is f vals) {i : Nat} {o : Oper} (ho : ops[i]? = some o) {c : Nat} {ns : List Nat} {s s' : St} {v : V} (h : StepOf call (cOper P H K N ops o) c ns s s' v) : dstOk N o.dst = true := by
  rcases h with ⟨_, ⟨_, h, _⟩ | ⟨h, _, _⟩⟩
  · cases hd : dstOk N o.dst with
    | true => rfl
    | false => simp [cOper, hd, opA, o_mv, o_pick, o_alloc, o_box, o_build, o_bslice, o_load, o_ldt, o_store, o_nilchk, o_bin, o_eqs, o_un, o_conv, o_mkfn, o_mkmap, o_mkslice, o_faddr, o_field, o_iaddr, o_istr, o_lookup, o_mupd, o_ment, o_esto, o_delete, o_extract, o_mkiface, o_callf, o_callv, o_len, o_cap, o_append, o_qappend, o_copy, o_clear, o_minmax, o_slicestr, o_slice] at h
  · cases hd : dstOk N o.dst with
    | true => rfl
    | false => simp [cOper, hd, guardA] at h

theorem Text.stepf (T : Text P H K N ops call is f vals) : ∀ i o, ops[i]? = some o → f (i + 1) = ({ f i with σ := (f (i + 1)).σ } : St).set o.dst (kOf K o.dst) (vals i) := by
  intro i o ho
  obtain ⟨c, ns, _, h⟩ := T.tr i o ho
  have hd := T.dst ho h
  have := h.1
  simpa only [cOper, hd, if_true] using this

/-- The slots that an operation names hold what they hold in the text's order. -/
theorem Text.names (T : Text P H K N ops call is f vals) {D : Array Bool} {i : Nat} {o : Oper} {c : Nat} {ns : List Nat} {a : Act} {σ : Store} {ρ : Rho} {w : World}
    (ho : ops[i]? = some o) (si : is[i]? = some (c, ns)) (hcl : ClosedD ops D) (hni : ¬ Li D i) (hrd : ∀ e ∈ o.after, Region.binds .any e = true → Li D e.on)
    (hS : Slots K N ops (f 0) vals n0 I0 D σ ρ w.heap a) : StR K N n0 I0 ρ w { (f i).only ns with σ := σ } a := by
  have hi := (Array.getElem?_eq_some_iff.1 ho).1
  have key : ∀ b t v, has ((f i).only ns) b t v → mem t K = b ∧ ∃ x, a.tmps[t]? = some x ∧ RV w.heap (Icur n0 I0 σ ρ w.heap) σ ρ v x := by
    intro b t v h
    obtain ⟨hm, h⟩ := has_only h
    have pr : ∀ k, k < ops.size → dstA ops k = some t → k ≠ i → inTurn (anOf ops) i k = true := by
      intro k hk hd hki
      have hok : ops[k]? = some ops[k] := Array.getElem?_eq_getElem hk
      obtain ⟨_, _, sk, _⟩ := T.tr k _ hok
      exact (T.pair ho hok si sk (fun e => hki e.symm)).2.1 t (by simpa [dstA, hok] using hd) hm
    rcases has_f T.stepf T.h0 i (by omega) b t v h with ⟨k, hk, hd, rfl, hb⟩ | ⟨h, hno⟩
    · refine ⟨hb.symm, hS.new k t ?_ hd⟩
      rcases inTurn_iff (pr k (by omega) hd (by omega)) with ⟨_, h2⟩ | ⟨h1, _⟩
      · exact anc_in hcl h2 (fun o' ho' => by rw [ho] at ho'; cases ho'; exact hrd)
      · omega
    · refine ⟨(T.h0 b t v h).symm, hS.old b t v h fun k hk hd => ?_⟩
      have hks : k < ops.size := by
        rcases Nat.lt_or_ge k ops.size with h | h
        · exact h
        · simp [dstA, Array.getElem?_eq_none h] at hd
      rcases Nat.lt_trichotomy k i with h1 | h1 | h1
      · exact hno k h1 hd
      · subst h1; exact hni hk
      · rcases inTurn_iff (pr k hks hd (by omega)) with ⟨h2, _⟩ | ⟨_, h2⟩
        · omega
        · exact hni (anc_of hcl h2 hk)
  exact ⟨hS.defers, hS.size, fun k v h => key true k v h, fun k v h => key false k v h⟩

end
end Go.Proofs.YtbdebcmklaooaaaDoor.AM
end
section
set_option linter.unusedSimpArgs false
set_option linter.unusedVariables false
/- A region whose order is open: one step, all steps. -/
set_option linter.unusedVariables false
set_option linter.unusedSimpArgs false
open Go.RowKit
namespace Go.Proofs.YtbdebcmklaooaaaDoor.AM

section
variable {P : Program} {H : Hints} {K : List Nat} {N : Nat} {ops : Array Oper} {call : CallA} {is : List (Nat × List Nat)}
variable {n0 : Nat} {w0 : World} {I0 : Nat → Prop} {f : Nat → St} {vals : Nat → V} {ρ0 : Rho} {hp0 : Array Go.Obj}

structure Jat (ops : Array Oper) (is : List (Nat × List Nat)) (K : List Nat) (N : Nat) (f : Nat → St) (vals : Nat → V) (n0 : Nat) (w0 : World) (I0 : Nat → Prop) (ρ0 : Rho) (hp0 : Array Go.Obj)
    (s e : Nat) (ρ : Rho) (D : Array Bool) (a : Act) (w : World) : Prop where
  se : s ≤ e
  en : e ≤ ops.size
  ne : ¬ Li D e
  eb : e = ops.size ∨ cls is e = 2
  done : ∀ x, x < e → cls is x = 2 → Li D x
  seg : ∀ x, s ≤ x → x < e → cls is x ≠ 2
  start : s = 0 ∨ ∃ q, s = q + 1 ∧ cls is q = 2
  len : (f 0).σ.length ≤ (f s).σ.length
  inv : Inv n0 w0 I0 (f e).σ ρ w
  evo : Evo n0 I0 (f 0).σ ρ0 hp0 (f e).σ ρ w.heap
  unal : ∀ j, j < e → ¬ Li D j → ∀ id, (f j).σ.length ≤ id → id < (f (j + 1)).σ.length → ρ id = none
  slots : Slots K N ops (f 0) vals n0 I0 D (f e).σ ρ w.heap a

def JJ (ops : Array Oper) (is : List (Nat × List Nat)) (K : List Nat) (N : Nat) (f : Nat → St) (vals : Nat → V) (n0 : Nat) (w0 : World) (I0 : Nat → Prop) (ρ0 : Rho) (hp0 : Array Go.Obj)
    (D : Array Bool) (a : Act) (w : World) : Prop :=
  D.size = ops.size ∧ ClosedD ops D ∧ ∃ s e ρ, Jat ops is K N f vals n0 w0 I0 ρ0 hp0 s e ρ D a w

theorem Text.bar (T : Text P H K N ops call is f vals) {q i : Nat} (hq : q < ops.size) (hi : i < ops.size) (hne : q ≠ i) (h2 : cls is q = 2) (h0 : cls is i ≠ 0) : (i < q ∧ Anc ops q i) ∨ (q < i ∧ Anc ops i q) := by
  have hoq : ops[q]? = some ops[q] := Array.getElem?_eq_getElem hq
  have hoi : ops[i]? = some ops[i] := Array.getElem?_eq_getElem hi
  obtain ⟨cq, nq, sq, _⟩ := T.tr q _ hoq
  obtain ⟨ci, ni, si, _⟩ := T.tr i _ hoi
  have h := (T.pair hoq hoi sq si hne).2.2
  rw [cls_of sq] at h2
  rw [cls_of si] at h0
  exact inTurn_iff (h (clsN_two h2) (clsN_ne h0).1 (clsN_ne h0).2)

theorem Evo.len {σ σ' : Store} {ρ ρ' : Rho} {h h' : Array Go.Obj} (E : Evo n0 I0 σ ρ h σ' ρ' h') : σ.length ≤ σ'.length := by
  rcases Nat.eq_zero_or_pos σ.length with h | h
  · omega
  · obtain ⟨ob', e', _⟩ := E.ob (σ.length - 1) _ (List.getElem?_eq_getElem (by omega))
    have := (List.getElem?_eq_some_iff.1 e').1
    omega

/-- The next place where the order is fixed. -/
theorem nextBar (is : List (Nat × List Nat)) (n : Nat) : ∀ k s, s + k = n → ∃ e, s ≤ e ∧ e ≤ n ∧ (e = n ∨ cls is e = 2) ∧ ∀ x, s ≤ x → x < e → cls is x ≠ 2
  | 0, s, h => ⟨s, Nat.le_refl _, by omega, .inl (by omega), fun x h1 h2 => by omega⟩
  | k + 1, s, h => by
    by_cases hs : cls is s = 2
    · exact ⟨s, Nat.le_refl _, by omega, .inr hs, fun x h1 h2 => by omega⟩
    · obtain ⟨e, h1, h2, h3, h4⟩ := nextBar is n k (s + 1) (by omega)
      refine ⟨e, by omega, h2, h3, fun x hx hx' => ?_⟩
      rcases Nat.lt_or_ge s x with h5 | h5
      · exact h4 x (by omega) hx'
      · have : x = s := by omega
        subst this
        exact hs

variable {D : Array Bool} {a : Act} {w : World} {s e : Nat} {ρ : Rho}

theorem Jat.after (T : Text P H K N ops call is f vals) (hcl : ClosedD ops D) (J : Jat ops is K N f vals n0 w0 I0 ρ0 hp0 s e ρ D a w) {j : Nat} (hj : j < e) (hn : ¬ Li D j) (h0 : cls is j ≠ 0) :
    s ≤ j ∧ ∀ x, j ≤ x → x < e → cls is x ≠ 2 := by
  have hjn : j < ops.size := Nat.lt_of_lt_of_le hj J.en
  have hlater : ∀ x, j ≤ x → x < e → cls is x ≠ 2 := by
    intro x h1 h2 h3
    have hx := J.done x h2 h3
    have hxn : x < ops.size := Nat.lt_of_lt_of_le h2 J.en
    rcases Nat.lt_or_ge j x with h4 | h4
    · rcases T.bar hxn hjn (by omega) h3 h0 with ⟨_, h5⟩ | ⟨h5, _⟩
      · exact hn (anc_of hcl h5 hx)
      · omega
    · have : x = j := by omega
      subst this
      exact hn hx
  refine ⟨?_, hlater⟩
  rcases J.start with h | ⟨q, hq, h2⟩
  · omega
  · rcases Nat.lt_or_ge j s with h3 | h3
    · exact absurd h2 (hlater q (by omega) (by have := J.se; omega))
    · exact h3

theorem Text.cls_free (T : Text P H K N ops call is f vals) {j : Nat} (hj : j < ops.size) (h : cls is j = 0) : (f (j + 1)).σ = (f j).σ := by
  have ho : ops[j]? = some ops[j] := Array.getElem?_eq_getElem hj
  obtain ⟨c, ns, si, _⟩ := T.tr j _ ho
  rw [cls_of si] at h
  match c, si, h with
  | 0, si, _ => exact T.σ_free ho si
  | 1, _, h => simp [clsN] at h
  | 2, _, h => simp [clsN] at h
  | h + 3, si, _ => exact T.σ_float ho si

theorem Jat.len_e (T : Text P H K N ops call is f vals) (J : Jat ops is K N f vals n0 w0 I0 ρ0 hp0 s e ρ D a w) : (f 0).σ.length ≤ (f e).σ.length :=
  Nat.le_trans J.len (T.σ_len J.se J.en J.seg)

theorem closed_set (hcl : ClosedD ops D) {i : Nat} {o : Oper} (ho : ops[i]? = some o) (hsz : i < D.size) (hrd : ∀ e ∈ o.after, Region.binds .any e = true → Li D e.on) : ClosedD ops (D.setIfInBounds i true) := by
  intro j o' ho' hj ed he hb
  refine (Li_set hsz).2 (.inr ?_)
  rcases (Li_set hsz).1 hj with rfl | hj
  · rw [ho] at ho'
    cases ho'
    exact hrd ed he hb
  · exact hcl j o' ho' hj ed he hb

/-- A free or a quiet operation is done. -/
theorem Jat.quiet (T : Text P H K N ops call is f vals) (hD : D.size = ops.size) (J : Jat ops is K N f vals n0 w0 I0 ρ0 hp0 s e ρ D a w) {i : Nat} {o : Oper} (ho : ops[i]? = some o) (hni : ¬ Li D i)
    (h2 : cls is i ≠ 2) {ρ' : Rho} {w' : World} {x : Value} (hI : Inv n0 w0 I0 (f e).σ ρ' w') (E : EvoW n0 I0 (f e).σ ρ w.heap (f e).σ ρ' w'.heap)
    (hout : ∀ id, id < (f 0).σ.length → ρ id = none → ρ' id = none)
    (hun : ∀ j, j < e → j ≠ i → ¬ Li D j → ∀ id, (f j).σ.length ≤ id → id < (f (j + 1)).σ.length → ρ id = none → ρ' id = none)
    (r : RV w'.heap (Icur n0 I0 (f e).σ ρ' w'.heap) (f e).σ ρ' (vals i) x) : Jat ops is K N f vals n0 w0 I0 ρ0 hp0 s e ρ' (D.setIfInBounds i true) (a.put o.dst x) w' := by
  have hi := (Array.getElem?_eq_some_iff.1 ho).1
  have hsz : i < D.size := by omega
  obtain ⟨c, ns, si, hst⟩ := T.tr i o ho
  have hie : e ≠ i := by
    rintro rfl
    rcases J.eb with h | h
    · omega
    · exact h2 h
  refine ⟨J.se, J.en, fun h => ?_, J.eb, fun x h1 h3 => (Li_set hsz).2 (.inr (J.done x h1 h3)), J.seg, J.start, J.len, hI, ⟨J.evo.toEvoW.trans E, fun id hid hn => hout id hid (J.evo.out id hid hn)⟩, fun j hj hnj id h1 h3 => ?_,
    T.slots_step ho hsz (T.dst ho hst) hD J.slots E r hni⟩
  · rcases (Li_set hsz).1 h with h | h
    · exact hie h
    · exact J.ne h
  · have hji : j ≠ i := by rintro rfl; exact hnj ((Li_set hsz).2 (.inl rfl))
    have hnj' : ¬ Li D j := fun h => hnj ((Li_set hsz).2 (.inr h))
    exact hun j hj hji hnj' id h1 h3 (J.unal j hj hnj' id h1 h3)

theorem wpOp_of {Q : Exit → Act → World → Prop} {i : Nat} {o : Oper} {Kn : Act → World → Prop} (ho : ops[i]? = some o) {b : Bool} (hw : Region.wanted o (yielded ops a.tmps) = b)
    (h1 : b = true → o.wp P a w Kn Q) (h2 : b = false → Kn (a.put o.dst undef) w) : wpOp P ops Q i Kn a w := by
  unfold wpOp
  simp only [ho]
  rw [hw]
  cases b with
  | true => simp only [if_true]; exact .inl (h1 rfl)
  | false => simp only [Bool.false_eq_true, if_false]; exact h2 rfl

theorem JJ.step (T : Text P H K N ops call is f vals) {Gd : Ground} (hgd : GroundOk Gd) (hG : Gd n0 w0) (hcall : CallOk Gd P call) (hJ : JJ ops is K N f vals n0 w0 I0 ρ0 hp0 D a w) {i : Nat} (hr : i ∈ Region.ready .any ops D) {Q : Exit → Act → World → Prop} :
    wpOp P ops Q i (JJ ops is K N f vals n0 w0 I0 ρ0 hp0 (D.setIfInBounds i true)) a w := by
  obtain ⟨hD, hcl, s, e, ρ, J⟩ := hJ
  obtain ⟨hni', o, ho, hrd⟩ := mem_ready.1 hr
  have hi := (Array.getElem?_eq_some_iff.1 ho).1
  have hsz : i < D.size := by omega
  have hni : ¬ Li D i := by
    unfold Li
    simp only [Array.getD_eq_getD_getElem?, Array.getElem?_eq_getElem hsz, Option.getD_some] at hni' ⊢
    simp [hni']
  obtain ⟨c, ns, si, hst⟩ := T.tr i o ho
  have hdst := T.dst ho hst
  have hcop : cOper P H K N ops o = { dst := o.dst, inK := kOf K o.dst, k := cOp P H K o, guard := cGuard K ops o.guard } := by simp only [cOper, hdst, if_true]
  have hs := T.names (w := w) ho si hcl hni hrd J.slots
  have hclS := closed_set hcl ho hsz hrd
  have hDS : (D.setIfInBounds i true).size = ops.size := by simpa using hD
  have hone := T.one ho
  unfold drawOne at hone
  rw [ho, si] at hone
  simp only [Bool.and_eq_true] at hone
  have hci : cls is i = clsN c := cls_of si
  obtain ⟨hst1, hst2⟩ := hst
  rw [hcop] at hst2 hone
  simp only at hst2 hone
  have hg : ∀ b, guardA ((f i).only ns) (cGuard K ops o.guard) = some b → Region.wanted o (yielded ops a.tmps) = b := by
    intro b hb
    refine guard_sound hs ?_
    rw [guard_over]
    exact hb
  have hfree : ∀ j, j < e → ∀ id, (f j).σ.length ≤ id → id < (f (j + 1)).σ.length → cls is j ≠ 0 := by
    intro j hj id h1 h2 h3
    rw [T.cls_free (Nat.lt_of_lt_of_le hj J.en) h3] at h2
    omega
  have hlt : ∀ j, j < e → ¬ Li D j → ∀ id, (f j).σ.length ≤ id → id < (f (j + 1)).σ.length → id < (f e).σ.length := by
    intro j hj hnj id h1 h2
    have := (J.after T hcl hj hnj (hfree j hj id h1 h2)).2
    have := T.σ_len (i := j + 1) (j := e) (by omega) J.en (fun x h3 h4 => this x (by omega) h4)
    omega
  by_cases hc2 : c = 2
  · -- an operation in turn
    subst hc2
    have hie : i = e := by
      rcases Nat.lt_trichotomy i e with h | h | h
      · exact absurd (J.done i h hci) hni
      · exact h
      · rcases J.eb with h1 | h1
        · omega
        · rcases T.bar (show e < ops.size by omega) hi (by omega) h1 (by rw [hci]; decide) with ⟨h2, _⟩ | ⟨_, h2⟩
          · omega
          · exact absurd (anc_in hcl h2 (fun o' ho' => by rw [ho] at ho'; cases ho'; exact hrd)) J.ne
    subst hie
    have hsame : ({ (f i).only ns with σ := (f i).σ } : St) = (f i).only ns := rfl
    obtain ⟨e', he1, he2, he3, he4⟩ := nextBar is ops.size (ops.size - (i + 1)) (i + 1) (by omega)
    obtain ⟨τ, hτ⟩ := T.σ_ext he1 he2 he4
    have all : ∀ (ρ' : Rho) (w' : World) (x : Value), Inv n0 w0 I0 (f (i + 1)).σ ρ' w' → Evo n0 I0 (f i).σ ρ w.heap (f (i + 1)).σ ρ' w'.heap →
        RV w'.heap (Icur n0 I0 (f (i + 1)).σ ρ' w'.heap) (f (i + 1)).σ ρ' (vals i) x → JJ ops is K N f vals n0 w0 I0 ρ0 hp0 (D.setIfInBounds i true) (a.put o.dst x) w' := by
      intro ρ' w' x hI' E r
      obtain ⟨hI2, E2⟩ := hI'.pad τ
      rw [← hτ] at hI2 E2
      refine ⟨hDS, hclS, i + 1, e', ρ', he1, he2, fun h => ?_, he3, fun x hx hx2 => ?_, he4, .inr ⟨i, rfl, hci⟩, Nat.le_trans (J.len_e T) E.len, hI2, J.evo.trans (E.trans E2), fun j hj hnj id h1 h2 => ?_,
        T.slots_step ho hsz hdst hD J.slots (E.trans E2).toEvoW (RV_mono E2 _ _ r) hni⟩
      · rcases (Li_set hsz).1 h with h | h
        · omega
        · rcases he3 with h3 | h3
          · subst h3
            unfold Li at h
            rw [Array.getD_eq_getD_getElem?, Array.getElem?_eq_none (by omega)] at h
            cases h
          · have hlt' : e' < ops.size := by
              rcases Nat.lt_or_ge e' ops.size with h5 | h5
              · exact h5
              · unfold Li at h
                rw [Array.getD_eq_getD_getElem?, Array.getElem?_eq_none (by omega)] at h
                cases h
            rcases T.bar hlt' hi (by omega) h3 (by rw [hci]; decide) with ⟨_, h4⟩ | ⟨h4, _⟩
            · exact hni (anc_of hcl h4 h)
            · omega
      · refine (Li_set hsz).2 ?_
        rcases Nat.lt_trichotomy x i with h | h | h
        · exact .inr (J.done x h hx2)
        · exact .inl h
        · exact absurd hx2 (he4 x (by omega) hx)
      · have hji : j ≠ i := by rintro rfl; exact hnj ((Li_set hsz).2 (.inl rfl))
        have hnj' : ¬ Li D j := fun h => hnj ((Li_set hsz).2 (.inr h))
        rcases Nat.lt_or_ge j i with h3 | h3
        · have hj0 := hfree j h3 id h1 h2
          rcases T.bar hi (show j < ops.size by omega) (by omega) hci hj0 with ⟨_, h4⟩ | ⟨h4, _⟩
          · exact absurd (anc_in hcl h4 (fun o' ho' => by rw [ho] at ho'; cases ho'; exact hrd)) hnj'
          · omega
        · have := T.σ_len (i := i + 1) (j := j) (by omega) (by omega) (fun x h4 h5 => he4 x h4 (by omega))
          cases hq : ρ' id with
          | none => rfl
          | some p =>
            have := (hI'.new id p.1 p.2 hq).2.2
            omega
    rcases hst2 with ⟨h1, h2, _⟩ | ⟨h1, h2, h3⟩
    · refine wpOp_of ho (hg _ h1) (fun _ => ?_) (by simp)
      refine op_sound (st := { (f i).only ns with σ := (f i).σ }) (hcall n0 w0 hG) J.inv hs h2 ?_
      rintro x w' ⟨ρ', g1, g2, g3⟩
      exact all ρ' w' x g1 g2 g3
    · refine wpOp_of ho (hg _ h1) (by simp) (fun _ => ?_)
      refine all ρ w undef (by rw [h3]; exact J.inv) (by rw [h3]; exact Evo.refl) ?_
      rw [h2]
      exact RV_undef
  · have fin : ∀ {ρ' : Rho} {w' : World} {x : Value}, Inv n0 w0 I0 (f e).σ ρ' w' → EvoW n0 I0 (f e).σ ρ w.heap (f e).σ ρ' w'.heap → (∀ id, id < (f 0).σ.length → ρ id = none → ρ' id = none) →
        (∀ j, j < e → j ≠ i → ¬ Li D j → ∀ id, (f j).σ.length ≤ id → id < (f (j + 1)).σ.length → ρ id = none → ρ' id = none) →
        RV w'.heap (Icur n0 I0 (f e).σ ρ' w'.heap) (f e).σ ρ' (vals i) x → JJ ops is K N f vals n0 w0 I0 ρ0 hp0 (D.setIfInBounds i true) (a.put o.dst x) w' :=
      fun h1 h2 h3 h4 h5 => ⟨hDS, hclS, s, e, _, J.quiet T hD ho hni (by rw [hci]; exact fun h => hc2 (clsN_two h)) h1 h2 h3 h4 h5⟩
    have fin' : ∀ {ρ' : Rho} {w' : World} {x : Value}, Inv n0 w0 I0 (f e).σ ρ' w' → Evo n0 I0 (f e).σ ρ w.heap (f e).σ ρ' w'.heap →
        RV w'.heap (Icur n0 I0 (f e).σ ρ' w'.heap) (f e).σ ρ' (vals i) x → JJ ops is K N f vals n0 w0 I0 ρ0 hp0 (D.setIfInBounds i true) (a.put o.dst x) w' :=
      fun h1 h2 h5 => fin h1 h2.toEvoW (fun id hid hn => h2.out id (Nat.lt_of_lt_of_le hid (J.len_e T)) hn) (fun j hj _ hnj id g1 g2 hn => h2.out id (hlt j hj hnj id g1 g2) hn) h5
    rcases hst2 with ⟨h1, h2, h3⟩ | ⟨h1, h2, h3⟩
    · refine wpOp_of ho (hg _ h1) (fun _ => ?_) (by simp)
      match c, si, hone, hci, hc2, h2, h3 with
      | 0, si, hone, hci, hc2, h2, h3 =>
        obtain ⟨_, h4⟩ := free_over hone.2 h2
        refine op_sound (st := { (f i).only ns with σ := (f e).σ }) (hcall n0 w0 hG) J.inv hs (h4 _) ?_
        rintro x w' ⟨ρ', g1, g2, g3⟩
        exact fin' g1 g2 g3
      | h + 3, si, hone, hci, hc2, h2, h3 =>
        have hone2 : readK (cOp P H K o) = true ∧ floatOk (anOf ops) is ops.size i h = true := by simpa only [Bool.and_eq_true] using hone.2
        have hrk := hone2.1
        have hfo := hone2.2
        unfold floatOk at hfo
        simp only [Bool.and_eq_true, List.all_eq_true, List.mem_range, Bool.or_eq_true] at hfo
        obtain ⟨hlo, hhi⟩ := hfo
        have hie : i < e := by
          rcases Nat.lt_trichotomy i e with h' | h' | h'
          · exact h'
          · rcases J.eb with h4 | h4
            · omega
            · rw [← h', hci] at h4
              have := clsN_two h4
              omega
          · rcases J.eb with h4 | h4
            · omega
            · have hes : e < ops.size := by omega
              obtain ⟨ce, ne, se', _⟩ := T.tr e _ (Array.getElem?_eq_getElem hes)
              have hb := hlo e h'
              rw [se'] at hb
              rw [cls_of se'] at h4
              simp only [clsN_two h4] at hb
              have hanc : Anc ops i e := ahead_anc (by simpa using hb)
              exact absurd (anc_in hcl hanc (fun o' ho' => by rw [ho] at ho'; cases ho'; exact hrd)) J.ne
        have heh : e ≤ h := by
          rcases hhi with h4 | h4
          · have := Nat.eq_of_beq_eq_true h4
            have := J.en
            omega
          · rcases Nat.lt_or_ge h e with h5 | h5
            · exfalso
              have hes : h < ops.size := by have := J.en; omega
              obtain ⟨ce, ne, se', _⟩ := T.tr h _ (Array.getElem?_eq_getElem hes)
              rw [se'] at h4
              simp only [Bool.and_eq_true] at h4
              have hc := Nat.eq_of_beq_eq_true h4.1
              have hdone := J.done h h5 (by rw [cls_of se', hc]; rfl)
              exact hni (anc_of hcl (ahead_anc h4.2) hdone)
            · exact h5
        have hp := T.fl i o h ns ho si (by rw [hcop]; exact h1) e hie J.en J.eb heh
        rw [hcop] at hp
        unfold pendOk at hp
        simp only at hp
        split at hp
        · rename_i v' σ'' hop
          have hv := eqV_sound _ _ hp
          subst hv
          have hσ : σ'' = (f e).σ := read_same (st := { (f i).only ns with σ := (f e).σ }) hrk hop
          subst hσ
          refine op_sound (st := { (f i).only ns with σ := (f e).σ }) (hcall n0 w0 hG) J.inv hs hop ?_
          rintro x w' ⟨ρ', g1, g2, g3⟩
          exact fin' g1 g2 g3
        · cases hp
      | 1, si, hone, hci, hc2, h2, h3 =>
        have hie : i < e := by
          rcases Nat.lt_trichotomy i e with h | h | h
          · exact h
          · rcases J.eb with h' | h'
            · omega
            · rw [← h, hci] at h'
              cases h'
          · rcases J.eb with h' | h'
            · omega
            · rcases T.bar (show e < ops.size by omega) hi (by omega) h' (by rw [hci]; decide) with ⟨h2, _⟩ | ⟨_, h2⟩
              · omega
              · exact absurd (anc_in hcl h2 (fun o' ho' => by rw [ho] at ho'; cases ho'; exact hrd)) J.ne
        have hc0 : cls is i ≠ 0 := by rw [hci]; decide
        obtain ⟨hsi, hseg⟩ := J.after T hcl hie hni hc0
        rcases quiet_over (quietCall_quiet call) hone.2 h2 with ⟨h4, h5⟩ | ⟨ob, mk, hmk, hv, h4, hob, h5⟩
        · obtain ⟨τ, hτ⟩ := T.σ_ext (i := i) (j := e) (by omega) J.en hseg
          have h6 := h5 τ
          have he : ((f i).only ns).σ ++ τ = (f e).σ := hτ.symm
          rw [he] at h6
          refine op_sound (st := { (f i).only ns with σ := (f e).σ }) (quietCall_ok hgd hcall n0 w0 hG) J.inv hs h6 ?_
          rintro x w' ⟨ρ', g1, g2, g3⟩
          exact fin' g1 g2 g3
        · have h4' : (f (i + 1)).σ = (f i).σ ++ [ob] := h4
          obtain ⟨τ, hτ⟩ := T.σ_ext (i := i + 1) (j := e) (by omega) J.en (fun x h7 h8 => hseg x (by omega) h8)
          have hτ' : (f e).σ = (f i).σ ++ ([ob] ++ τ) := by rw [hτ, h4', List.append_assoc]
          have h6 := h5 ([ob] ++ τ)
          have he : ((f i).only ns).σ ++ ([ob] ++ τ) = (f e).σ := hτ'.symm
          rw [he] at h6
          have hn : (f i).σ.length < (f e).σ.length := by rw [hτ']; simp
          have hobn : (f e).σ[(f i).σ.length]? = some ob := by
            rw [hτ', List.getElem?_append_right (Nat.le_refl _), Nat.sub_self]
            rfl
          have hρn : ρ (f i).σ.length = none := J.unal i hie hni _ (Nat.le_refl _) (by rw [h4']; simp)
          have hfro : ∀ ts g, ob ≠ .fro ts g := by
            rintro ts g rfl
            rcases hob with ⟨_, _, h⟩ | ⟨_, h⟩ <;> cases h
          refine op_sound (st := { (f i).only ns with σ := (f e).σ }) (quietCall_ok hgd hcall n0 w0 hG) J.inv hs h6 ?_
          rintro x w' ⟨ρ1, g1, g2, g3⟩
          have hnew : (∃ cs g, ob = .row cs g ∧ ∀ j ∈ dirs.dirsL cs, j < (f e).σ.length ∧ j ≠ (f i).σ.length) ∨ (∃ c, ob = .map [] c) := by
            rcases hob with ⟨cs, g, rfl⟩ | h
            · refine .inl ⟨cs, g, rfl, fun j hj => ?_⟩
              have hf := h3 rfl
              unfold freshOk at hf
              rw [h4'] at hf
              have : obVs ((f i).σ ++ [Ob.row cs g]) (f i).σ.length = cs := by
                unfold obVs
                rw [List.getElem?_append_right (Nat.le_refl _), Nat.sub_self]
                rfl
              rw [this] at hf
              have := List.all_eq_true.1 hf j hj
              simp only [Nat.blt_eq] at this
              omega
            · exact .inr h
          have hunal : ∀ j, j < e → j ≠ i → ¬ Li D j → ∀ id, (f j).σ.length ≤ id → id < (f (j + 1)).σ.length → id ≠ (f i).σ.length := by
            intro j hj hji hnj id k1 k2
            have hj0 := hfree j hj id k1 k2
            have hjs := (J.after T hcl hj hnj hj0).2
            rcases Nat.lt_or_ge j i with h7 | h7
            · have := T.σ_len (i := j + 1) (j := i) (by omega) (by omega) (fun x h8 h9 => hjs x (by omega) (by omega))
              omega
            · have := T.σ_len (i := i + 1) (j := j) (by omega) (by have := J.en; omega) (fun x h8 h9 => hseg x (by omega) (by omega))
              rw [h4'] at this
              simp at this
              omega
          refine fin (move_inv hn hobn hfro hρn J.inv g1 g2 hnew) (move_evo hn hobn hfro hρn J.inv g1 g2) (fun id hid hnn => ?_) (fun j hj hji hnj id k1 k2 hnn => ?_) ?_
          · have h8 := T.σ_len (i := s) (j := i) hsi (by omega) (fun x h8 h9 => J.seg x h8 (by omega))
            have := J.len
            exact move_out hn hobn hfro hρn J.inv g1 g2 (Nat.lt_of_lt_of_le hid (J.len_e T)) (by omega) hnn
          · exact move_out hn hobn hfro hρn J.inv g1 g2 (hlt j hj hnj id k1 k2) (hunal j hj hji hnj id k1 k2) hnn
          · rw [hv]
            exact move_mk hn hobn hfro hρn J.inv g1 g2 hmk g3
      | 2, si, hone, hci, hc2, h2, h3 => exact absurd rfl hc2
    · refine wpOp_of ho (hg _ h1) (by simp) (fun _ => ?_)
      refine fin' J.inv Evo.refl ?_
      rw [h2]
      exact RV_undef

end
end Go.Proofs.YtbdebcmklaooaaaDoor.AM
end
section
set_option linter.unusedSimpArgs false
set_option linter.unusedVariables false
/- Regions; with them, all that the abstract machine says is so. -/
set_option linter.unusedVariables false
set_option linter.unusedSimpArgs false
open Go.RowKit
namespace Go.Proofs.YtbdebcmklaooaaaDoor.AM

section
variable {P : Program} {H : Hints} {K : List Nat} {N : Nat} {ops : Array Oper} {call : CallA} {is : List (Nat × List Nat)}
variable {n0 : Nat} {w0 : World} {I0 : Nat → Prop} {f : Nat → St} {vals : Nat → V} {ρ0 : Rho} {hp0 : Array Go.Obj}
variable {D : Array Bool} {a : Act} {w : World}

def unl : List Bool → Nat
  | [] => 0
  | b :: r => (if b then 0 else 1) + unl r
theorem unl_set : ∀ (l : List Bool) (i : Nat), l[i]? = some false → unl (l.set i true) + 1 = unl l
  | [], i, h => by simp at h
  | b :: r, 0, h => by
    simp only [List.getElem?_cons_zero, Option.some.injEq] at h
    subst h
    simp [unl]
    omega
  | b :: r, i + 1, h => by
    have := unl_set r i (by simpa using h)
    simp only [List.set_cons_succ, unl]
    omega
theorem unl_zero : ∀ (l : List Bool), unl l = 0 → ∀ (i : Nat), l[i]? ≠ some false
  | [], _, i => by simp
  | b :: r, h, i => by
    simp only [unl] at h
    cases i with
    | zero =>
      intro hb
      simp only [List.getElem?_cons_zero, Option.some.injEq] at hb
      subst hb
      simp at h
    | succ i => simpa using unl_zero r (by omega) i

theorem JJ.all (T : Text P H K N ops call is f vals) (hJ : JJ ops is K N f vals n0 w0 I0 ρ0 hp0 D a w) (hr : Region.ready .any ops D = []) : ∀ i, i < ops.size → Li D i := by
  obtain ⟨hD, _⟩ := hJ
  intro i
  induction i using Nat.strongRecOn with
  | _ i ih =>
    intro hi
    refine Classical.byContradiction fun hni => ?_
    have ho : ops[i]? = some ops[i] := Array.getElem?_eq_getElem hi
    have hm : i ∈ Region.ready .any ops D := by
      refine mem_ready.2 ⟨?_, _, ho, fun e he hb => ?_⟩
      · unfold Li at hni
        simp only [Array.getD_eq_getD_getElem?, Array.getElem?_eq_getElem (show i < D.size by omega), Option.getD_some] at hni ⊢
        simpa using hni
      · have h1 := T.one ho
        unfold drawOne at h1
        obtain ⟨c, ns, si, _⟩ := T.tr i _ ho
        rw [ho, si] at h1
        simp only [Bool.and_eq_true, List.all_eq_true] at h1
        have := h1.1 e (by simpa using he)
        simp only [hb, Bool.not_true, Bool.false_or, Nat.blt_eq] at this
        exact ih e.on this (by omega)
    rw [hr] at hm
    cases hm

theorem JJ.last (T : Text P H K N ops call is f vals) (hJ : JJ ops is K N f vals n0 w0 I0 ρ0 hp0 D a w) (hall : ∀ i, i < ops.size → Li D i) :
    ∃ ρ, Inv n0 w0 I0 (f ops.size).σ ρ w ∧ StR K N n0 I0 ρ w (f ops.size) a ∧ Evo n0 I0 (f 0).σ ρ0 hp0 (f ops.size).σ ρ w.heap := by
  obtain ⟨hD, hcl, s, e, ρ, J⟩ := hJ
  have he : e = ops.size := by
    rcases Nat.lt_or_ge e ops.size with h | h
    · exact absurd (hall e h) J.ne
    · have := J.en; omega
  subst he
  refine ⟨ρ, J.inv, ?_, J.evo⟩
  have key : ∀ b t v, has (f ops.size) b t v → mem t K = b ∧ ∃ x, a.tmps[t]? = some x ∧ RV w.heap (Icur n0 I0 (f ops.size).σ ρ w.heap) (f ops.size).σ ρ v x := by
    intro b t v h
    rcases has_f T.stepf T.h0 ops.size (Nat.le_refl _) b t v h with ⟨k, hk, hd, rfl, hb⟩ | ⟨h, hno⟩
    · exact ⟨hb.symm, J.slots.new k t (hall k hk) hd⟩
    · refine ⟨(T.h0 b t v h).symm, J.slots.old b t v h fun k hk hd => ?_⟩
      rcases Nat.lt_or_ge k ops.size with h1 | h1
      · exact hno k h1 hd
      · simp [dstA, Array.getElem?_eq_none h1] at hd
  exact ⟨J.slots.defers, J.slots.size, fun k v h => key true k v h, fun k v h => key false k v h⟩

theorem JJ.any (T : Text P H K N ops call is f vals) {Gd : Ground} (hgd : GroundOk Gd) (hG : Gd n0 w0) (hcall : CallOk Gd P call) {Q : Exit → Act → World → Prop}
    (hQ : ∀ a' ρ' w', Inv n0 w0 I0 (f ops.size).σ ρ' w' → StR K N n0 I0 ρ' w' (f ops.size) a' → Evo n0 I0 (f 0).σ ρ0 hp0 (f ops.size).σ ρ' w'.heap → Q .normal a' w') :
    ∀ (fuel : Nat) (D : Array Bool) (a : Act) (w : World), unl D.toList ≤ fuel → JJ ops is K N f vals n0 w0 I0 ρ0 hp0 D a w → wpAny P .any ops Q fuel D a w := by
  intro fuel
  induction fuel with
  | zero =>
    intro D a w hf hJ
    have hr : Region.ready .any ops D = [] := by
      cases hr : Region.ready .any ops D with
      | nil => rfl
      | cons i r =>
        have hi := List.mem_cons_self (a := i) (l := r)
        rw [← hr] at hi
        obtain ⟨h1, o, ho, _⟩ := mem_ready.1 hi
        have hsz : i < D.size := by rw [hJ.1]; exact (Array.getElem?_eq_some_iff.1 ho).1
        have := unl_zero D.toList (by omega) i
        rw [Array.getElem?_toList, Array.getElem?_eq_getElem hsz] at this
        rw [Array.getD_eq_getD_getElem?, Array.getElem?_eq_getElem hsz] at h1
        simp only [Option.getD_some] at h1
        exact absurd (by rw [h1]) this
    obtain ⟨ρ, h1, h2, h3⟩ := hJ.last T (hJ.all T hr)
    exact ⟨hr, hQ a ρ w h1 h2 h3⟩
  | succ fuel ih =>
    intro D a w hf hJ
    refine ⟨fun hr => ?_, fun i hi => ?_⟩
    · obtain ⟨ρ, h1, h2, h3⟩ := hJ.last T (hJ.all T hr)
      exact hQ a ρ w h1 h2 h3
    · refine wpOp_mono (fun a' w' hJ' => ih _ a' w' ?_ hJ') (hJ.step T hgd hG hcall hi)
      obtain ⟨h1, o, ho, _⟩ := mem_ready.1 hi
      have hsz : i < D.size := by rw [hJ.1]; exact (Array.getElem?_eq_some_iff.1 ho).1
      have hl : D.toList[i]? = some false := by
        rw [Array.getElem?_toList, Array.getElem?_eq_getElem hsz]
        rw [Array.getD_eq_getD_getElem?, Array.getElem?_eq_getElem hsz] at h1
        simp only [Option.getD_some] at h1
        rw [h1]
      have := unl_set D.toList i hl
      rw [Array.toList_setIfInBounds]
      omega

theorem region_ok {Gd : Ground} (hgd : GroundOk Gd) (hm : P.follows .mixedOrders = true) (hcall : CallOk Gd P call) : RegionOk Gd P call := by
  intro H K N id ops dr is st st' hdr e n0 w0 I0 ρ w a hG hI hs Q hQ
  rcases hdr with ⟨rfl, rfl⟩ | ⟨rfl, his, hd⟩
  · simp only [regionRun] at e
    refine wp_region ?_
    rw [← range_ops ops] at e
    exact opsRun_wp (hcall n0 w0 hG) (List.range ops.size) { st with loc := [] } a ρ w e hI hs.noLoc hQ
  · obtain ⟨is, rfl⟩ := Option.isSome_iff_exists.1 his
    simp only [regionRun] at e
    have hok : drawOk P H K N ops (anOf ops) is = true := by
      unfold cDraw at hd
      simp only at hd
      split at hd
      · rename_i h
        simp only [Option.some.injEq] at hd
        rw [← hd]
        exact h
      · cases hd
    obtain ⟨f, vals, h0, hn, hstep, _, hfl⟩ := opsRunD_of _ _ _ _ _ _ e
    have hs0 : StR K N n0 I0 ρ w (f 0) a := by rw [h0]; exact hs.noLoc
    have hI0 : Inv n0 w0 I0 (f 0).σ ρ w := by rw [h0]; exact hI
    have T : Text P H K N ops call is f vals := by
      refine ⟨hok, fun i o ho => ?_, fun b t v hv => ?_, fun i o h ns ho hi hg e h1 h2 h3 h4 => ?_⟩
      · refine hstep i (cOper P H K N ops o) ?_
        rw [List.getElem?_map, Array.getElem?_toList, ho]
        rfl
      · cases b with
        | true => exact (hs0.env t v hv).1.symm
        | false => exact (hs0.loc t v hv).1.symm
      · refine hfl i (cOper P H K N ops o) h ns ?_ hi hg e h1 (by simpa using h2) (by simpa using h3) (by omega)
        rw [List.getElem?_map, Array.getElem?_toList, ho]
        rfl
    refine wp_region_any hm ?_
    have hfin : (f ops.size) = st' := by rw [← hn]; simp
    refine JJ.any T hgd hG hcall (ρ0 := ρ) (hp0 := w.heap) (n0 := n0) (w0 := w0) (I0 := I0) (fun a' ρ' w' h1 h2 h3 => ?_) ops.size (Array.replicate ops.size false) a { w with drawn := w.drawn + 1 } ?_ ?_
    · rw [hfin] at h1 h2 h3
      rw [h0] at h3
      exact hQ a' ρ' w' h1 h2 h3
    · have : ∀ n, unl (List.replicate n false) = n := by
        intro n
        induction n with
        | zero => rfl
        | succ n ih =>
          simp only [List.replicate_succ, unl, ih, Bool.false_eq_true, if_false]
          omega
      rw [Array.toList_replicate, this]
      exact Nat.le_refl _
    · have hnl : ∀ k, ¬ Li (Array.replicate ops.size false) k := by
        intro k hk
        unfold Li at hk
        rw [Array.getD_eq_getD_getElem?, Array.getElem?_replicate] at hk
        split at hk <;> simp at hk
      obtain ⟨e', he1, he2, he3, he4⟩ := nextBar is ops.size ops.size 0 (by omega)
      obtain ⟨τ, hτ⟩ := T.σ_ext he1 he2 (fun x h1 h2 => he4 x h1 h2)
      have hI1 : Inv n0 w0 I0 (f 0).σ ρ w.drew := hI0.drew
      obtain ⟨hI2, E2⟩ := hI1.pad τ
      rw [← hτ] at hI2 E2
      refine ⟨by simp, fun j o ho hj => absurd hj (hnl j), 0, e', ρ, he1, he2, hnl e', he3, fun x hx h2 => absurd h2 (he4 x (Nat.zero_le _) hx), he4, .inl rfl, Nat.le_refl _, hI2, E2, fun j hj _ id h1 h2 => ?_, ?_⟩
      · cases hq : ρ id with
        | none => rfl
        | some p =>
          have h3 := (hI1.new id p.1 p.2 hq).2.2
          have := T.σ_len (i := 0) (j := j) (Nat.zero_le _) (by omega) (fun x h4 h5 => he4 x h4 (by omega))
          omega
      · refine ⟨hs0.defers, hs0.size, fun b t v hv _ => ?_, fun k t hk => absurd hk (hnl k)⟩
        cases b with
        | true =>
          obtain ⟨_, x, h1, h2⟩ := hs0.env t v hv
          exact ⟨x, h1, RV_mono E2 _ _ h2⟩
        | false =>
          obtain ⟨_, x, h1, h2⟩ := hs0.loc t v hv
          exact ⟨x, h1, RV_mono E2 _ _ h2⟩

/-- All that the abstract machine says is so. -/
theorem am_ok {Gd : Ground} {T : FTab} (hm : P.follows .mixedOrders = true) (hT : TabOk Gd P T) (n : Nat) : (∀ m, m ≤ n → ExecOk Gd P T m) ∧ CallOk Gd P (callA T n) :=
  all_ok hT (fun _ hc => region_ok hT.1 hm hc) n

end
end Go.Proofs.YtbdebcmklaooaaaDoor.AM
end
section
set_option linter.unusedSimpArgs false
set_option linter.unusedVariables false
/- What a call says, a call that says more says. -/
set_option linter.unusedVariables false
set_option linter.unusedSimpArgs false
namespace Go.Proofs.YtbdebcmklaooaaaDoor.AM

def CallLe (c c' : CallA) : Prop := ∀ f vs σ r, c f vs σ = some r → c' f vs σ = some r

section
variable {c c' : CallA} (hc : CallLe c c')
include hc

theorem opA_le {k : HK} {st : St} {r : V × Store} (e : opA c k st = some r) : opA c' k st = some r := by
  cases k with
  | callf f args =>
    simp only [opA, o_callf] at e ⊢
    split at e
    · exact hc _ _ _ _ e
    · cases e
  | callv f args =>
    simp only [opA, o_callv] at e ⊢
    unfold bind1 at e ⊢
    split at e
    · split at e
      · unfold callV at e ⊢
        simp only at e ⊢
        split at e
        · exact hc _ _ _ _ e
        · exact hc _ _ _ _ e
        · cases e
      · cases e
    · cases e
  | _ => exact e

theorem opStep_le {o : HOp} {st st' : St} (e : opStep c o st = some st') : opStep c' o st = some st' := by
  unfold opStep at e ⊢
  split at e
  · split at e
    · rename_i v σ h
      rw [opA_le hc h]
      exact e
    · cases e
  · exact e
  · cases e

theorem opsRun_le : ∀ {ops : List HOp} {st st' : St}, opsRun c ops st = some st' → opsRun c' ops st = some st'
  | [], st, st', e => e
  | o :: r, st, st', e => by
    simp only [opsRun] at e ⊢
    split at e
    · rename_i s h
      rw [opStep_le hc h]
      exact opsRun_le e
    · cases e

theorem quiet_le : CallLe (quietCall c) (quietCall c') := by
  intro f vs σ r e
  unfold quietCall at e ⊢
  split at e
  · cases e
  · split at e
    · cases e
    · rename_i h
      rw [hc _ _ _ _ h]
      exact e

theorem opStepD_le {k : Nat} {ns : List Nat} {o : HOp} {st st' : St} (e : opStepD c k ns o st = some st') : opStepD c' k ns o st = some st' := by
  unfold opStepD at e ⊢
  split at e
  · split at e
    · rename_i v σ h
      have : opA (if Nat.beq k 1 = true then quietCall c' else c') o.k (st.only ns) = some (v, σ) := by
        split at h
        · rename_i hk
          rw [if_pos hk]
          exact opA_le (quiet_le hc) h
        · rename_i hk
          rw [if_neg hk]
          exact opA_le hc h
      rw [this]
      exact e
    · cases e
  · exact e
  · cases e

theorem pendOk_le {σ : Store} {p : Pend} (e : pendOk c σ p = true) : pendOk c' σ p = true := by
  unfold pendOk at e ⊢
  split at e
  · rename_i v s h
    rw [opA_le hc h]
    exact e
  · cases e
theorem pendAll_le {i : Nat} {σ : Store} {ps : List Pend} (e : pendAll c i σ ps = true) : pendAll c' i σ ps = true := by
  unfold pendAll at e ⊢
  rw [List.all_eq_true] at e ⊢
  intro p hp
  have := e p hp
  simp only [Bool.or_eq_true] at this ⊢
  rcases this with h | h
  · exact .inl h
  · exact .inr (pendOk_le hc h)
theorem pendAdd_le {k : Nat} {ns : List Nat} {o : HOp} {st st' : St} {ps : List Pend} (e : opStepD c k ns o st = some st') : pendAdd c' k ns o st ps = pendAdd c k ns o st ps := by
  unfold pendAdd
  split
  · rename_i h
    unfold opStepD at e
    have hb : ¬ Nat.beq (h + 3) 1 = true := by simp
    simp only [if_neg hb] at e
    split at e
    · rename_i hg
      rw [hg]
      split at e
      · rename_i v s hop
        simp only [opA_le hc hop, hop]
      · cases e
    · rename_i hg
      rw [hg]
    · cases e
  · rfl
theorem opsRunD_le : ∀ {is : List (Nat × List Nat)} {ops : List HOp} {i : Nat} {ps : List Pend} {st st' : St}, opsRunD c i ps is ops st = some st' → opsRunD c' i ps is ops st = some st'
  | [], [], i, ps, st, st', e => by
    simp only [opsRunD] at e ⊢
    split at e
    · rename_i h
      rw [if_pos (pendAll_le hc h)]
      exact e
    · cases e
  | (k, ns) :: is, o :: r, i, ps, st, st', e => by
    simp only [opsRunD] at e ⊢
    split at e
    · cases e
    · rename_i h
      have h' : ¬ (Nat.beq k 2 && !pendAll c' i st.σ ps) = true := by
        intro hh
        simp only [Bool.and_eq_true, Bool.not_eq_true', not_and] at h hh
        have h1 := h hh.1
        rw [Bool.not_eq_false] at h1
        rw [pendAll_le hc h1] at hh
        cases hh.2
      rw [if_neg h']
      split at e
      · rename_i s hs
        rw [opStepD_le hc hs]
        simp only
        rw [pendAdd_le hc hs]
        exact opsRunD_le e
      · cases e
  | [], _ :: _, i, ps, st, st', e => by simp [opsRunD] at e
  | _ :: _, [], i, ps, st, st', e => by simp [opsRunD] at e
end

end Go.Proofs.YtbdebcmklaooaaaDoor.AM
end
section
set_option linter.unusedSimpArgs false
set_option linter.unusedVariables false
/- More fuel says no less. -/
set_option linter.unusedVariables false
set_option linter.unusedSimpArgs false
namespace Go.Proofs.YtbdebcmklaooaaaDoor.AM

noncomputable def bif2 {β : Type} (b : Bool) (x y : β) : β := Bool.rec (motive := fun _ => β) y x b
theorem bif2_some {α : Type} {b : Bool} {x : Option α} {r : α} (h : bif2 b x none = some r) : b = true ∧ x = some r := by
  cases b with
  | false => cases h
  | true => exact ⟨rfl, h⟩
theorem bif2_or {α : Type} {b : Bool} {x y : Option α} {r : α} (h : bif2 b x y = some r) : (b = true ∧ x = some r) ∨ (b = false ∧ y = some r) := by
  cases b with
  | false => exact .inr ⟨rfl, h⟩
  | true => exact .inl ⟨rfl, h⟩

def MonoC (cas : Nat → CallA) : Prop := ∀ m m', m ≤ m' → CallLe (cas m) (cas m')
/-- More fuel says no less. -/
theorem mono1 (T : FTab) : ∀ n,
    (∀ c st r, exec T n c st = some r → exec T (n + 1) c st = some r) ∧ (∀ fn args σ r, runA T n fn args σ = some r → runA T (n + 1) fn args σ = some r) ∧ CallLe (callA T n) (callA T (n + 1))
  | 0 => ⟨fun _ _ _ e => by simp [exec] at e, fun _ _ _ _ e => by simp [runA] at e, fun _ _ _ _ e => by simp [callA] at e⟩
  | n + 1 => by
    obtain ⟨h1, h2, h3⟩ := mono1 T n
    refine ⟨fun c st r e => ?_, fun fn args σ r e => ?_, fun f args σ r e => ?_⟩
    · cases c with
      | skip => simpa only [exec] using e
      | region ops dr =>
        rw [exec] at e ⊢
        split at e
        · rename_i s hs
          have : regionRun (callA T (n + 1)) ops dr st = some s := by
            unfold regionRun at hs ⊢
            cases dr with
            | none => exact opsRun_le h3 hs
            | some is => exact opsRunD_le h3 hs
          rw [this]
          exact e
        · cases e
      | seq a b =>
        rw [exec] at e ⊢
        split at e
        · rename_i s hs
          rw [h1 _ _ _ hs]
          exact h1 _ _ _ e
        · rename_i hno
          rw [h1 _ _ _ e]
          split
          · rename_i s hs
            rw [Option.some.inj hs] at e
            exact absurd e (hno s)
          · rfl
      | cond x a b =>
        rw [exec] at e ⊢
        cases hv : st.get x with
        | none => simp only [hv] at e; cases e
        | some v =>
          simp only [hv] at e ⊢
          cases hb : asBool? v with
          | none => simp only [hb] at e; cases e
          | some u =>
            simp only [hb] at e ⊢
            cases u with
            | true => exact h1 _ _ _ e
            | false => exact h1 _ _ _ e
      | block id b =>
        rw [exec] at e ⊢
        split at e
        · rename_i id' s hs
          rw [h1 _ _ _ hs]
          exact e
        · rename_i hno
          rw [h1 _ _ _ e]
          split
          · rename_i id' s hs
            rw [Option.some.inj hs] at e
            exact absurd e (hno id' s)
          · rfl
      | loop b =>
        rw [exec] at e ⊢
        split at e
        · rename_i s hs
          rw [h1 _ _ _ hs]
          exact h1 (.loop b) _ _ e
        · rename_i hno
          rw [h1 _ _ _ e]
          split
          · rename_i s hs
            rw [Option.some.inj hs] at e
            exact absurd e (hno s)
          · rfl
      | exit id => simpa only [exec] using e
      | ret => simpa only [exec] using e
      | bad => simp [exec] at e
    · rw [runA] at e ⊢
      split at e
      · rename_i s hs
        rw [h1 _ _ _ hs]
        exact e
      · rename_i s hs
        rw [h1 _ _ _ hs]
        exact e
      · cases e
    · rw [callA] at e ⊢
      split at e
      · cases e
      · rename_i fn hf
        split at e
        · rename_i hlen
          rw [if_pos hlen]
          split at e
          · exact e
          · exact h2 _ _ _ _ e
          · split at e
            · cases e
            · rename_i ts hts
              split at e
              · cases e
              · rename_i v σ1 hr
                rw [h2 _ _ _ _ hr]
                exact e
        · cases e
theorem exec_mono (T : FTab) {c : HCode} {st : St} {r : Out × St} {n m : Nat} (h : n ≤ m) (e : exec T n c st = some r) : exec T m c st = some r := by
  induction h with
  | refl => exact e
  | step _ ih => exact (mono1 T _).1 _ _ _ ih
theorem callA_mono (T : FTab) : MonoC (callA T) := by
  intro n m h
  induction h with
  | refl => exact fun _ _ _ _ e => e
  | step _ ih => exact fun f vs σ r e => (mono1 T _).2.2 _ _ _ _ (ih f vs σ r e)

end Go.Proofs.YtbdebcmklaooaaaDoor.AM
end
section
set_option linter.unusedSimpArgs false
set_option linter.unusedVariables false
/- How code runs, fuel left out: for proofs by hand. -/
set_option linter.unusedVariables false
set_option linter.unusedSimpArgs false
namespace Go.Proofs.YtbdebcmklaooaaaDoor.AM

def Ex (T : FTab) (c : HCode) (st : St) (out : Out) (st' : St) : Prop := ∃ m, exec T m c st = some (out, st')
def Cl (T : FTab) (f : FuncId) (vs : List V) (σ : Store) (v : V) (σ' : Store) : Prop := ∃ m, callA T m f vs σ = some (v, σ')
variable {T : FTab} {st st1 st2 : St} {out : Out} {a b : HCode}

theorem ex_skip : Ex T .skip st .normal st := ⟨1, by simp only [exec]⟩
theorem ex_ret : Ex T .ret st .ret st := ⟨1, by simp only [exec]⟩
theorem ex_exit (i : Nat) : Ex T (.exit i) st (.exit i) st := ⟨1, by simp only [exec]⟩
theorem ex_seq (h1 : Ex T a st .normal st1) (h2 : Ex T b st1 out st2) : Ex T (.seq a b) st out st2 := by
  obtain ⟨m1, h1⟩ := h1
  obtain ⟨m2, h2⟩ := h2
  refine ⟨max m1 m2 + 1, ?_⟩
  rw [exec]
  simp only [exec_mono T (Nat.le_max_left m1 m2) h1]
  exact exec_mono T (Nat.le_max_right m1 m2) h2
theorem ex_stop (h1 : Ex T a st out st1) (hn : out ≠ .normal) : Ex T (.seq a b) st out st1 := by
  obtain ⟨m, h1⟩ := h1
  refine ⟨m + 1, ?_⟩
  rw [exec]
  simp only [h1]
  cases out with
  | normal => exact absurd rfl hn
  | _ => rfl
theorem ex_region {ops : List HOp} (h : ∃ m, opsRun (callA T m) ops { st with loc := [] } = some st1) : Ex T (.region ops none) st .normal st1 := by
  obtain ⟨m, h⟩ := h
  exact ⟨m + 1, by simp only [exec, regionRun, h]⟩
theorem ex_true {x : HO} (hx : st.get x = some (.tr (.sc (.bool true)))) (h : Ex T a st out st1) : Ex T (.cond x a b) st out st1 := by
  obtain ⟨m, h⟩ := h
  exact ⟨m + 1, by rw [exec]; simp only [hx, asBool?, h]⟩
theorem ex_false {x : HO} (hx : st.get x = some (.tr (.sc (.bool false)))) (h : Ex T b st out st1) : Ex T (.cond x a b) st out st1 := by
  obtain ⟨m, h⟩ := h
  exact ⟨m + 1, by rw [exec]; simp only [hx, asBool?, h]⟩
theorem ex_block {i : Nat} (h : Ex T b st .normal st1) : Ex T (.block i b) st .normal st1 := by
  obtain ⟨m, h⟩ := h
  exact ⟨m + 1, by rw [exec]; simp only [h]⟩
theorem ex_block_exit {i : Nat} (h : Ex T b st (.exit i) st1) : Ex T (.block i b) st .normal st1 := by
  obtain ⟨m, h⟩ := h
  exact ⟨m + 1, by rw [exec]; simp only [h, if_true]⟩
theorem ex_block_ret {i : Nat} (h : Ex T b st .ret st1) : Ex T (.block i b) st .ret st1 := by
  obtain ⟨m, h⟩ := h
  exact ⟨m + 1, by rw [exec]; simp only [h]⟩
theorem ex_loop (h1 : Ex T b st .normal st1) (h2 : Ex T (.loop b) st1 out st2) : Ex T (.loop b) st out st2 := by
  obtain ⟨m1, h1⟩ := h1
  obtain ⟨m2, h2⟩ := h2
  refine ⟨max m1 m2 + 1, ?_⟩
  rw [exec]
  simp only [exec_mono T (Nat.le_max_left m1 m2) h1]
  exact exec_mono T (Nat.le_max_right m1 m2) h2
theorem ex_loop_out (h1 : Ex T b st out st1) (hn : out ≠ .normal) : Ex T (.loop b) st out st1 := by
  obtain ⟨m, h1⟩ := h1
  refine ⟨m + 1, ?_⟩
  rw [exec]
  simp only [h1]
  cases out with
  | normal => exact absurd rfl hn
  | _ => rfl
theorem cl_of {f : FuncId} {fn : HFn} {vs : List V} {σ : Store} {v : V} {st : St} (hf : T f = some fn) (hm : fn.mode = .shared) (hl : fn.nargs = vs.length)
    (h : Ex T fn.code ⟨argsEnv vs 0, [], σ⟩ out st) (ho : out = .normal ∨ out = .ret) (hr : resultA st fn.results = some v) : Cl T f vs σ v st.σ := by
  obtain ⟨m, h⟩ := h
  refine ⟨m + 2, ?_⟩
  rw [callA, hf]
  simp only [hl, if_true, hm]
  rw [runA, h]
  rcases ho with rfl | rfl <;> simp only [hr]
/-- Whole numbers and truths held against each other. -/
theorem bin_lss (k : IntKind) (x y : Int) : opBin .other .lss (.tr (.sc (.int k x))) (.tr (.sc (.int k y))) = some (.tr (.sc (.bool (decide (x < y))))) := by simp [opBin, isNil, notNil, binSc, binInt]
theorem bin_gtr (k : IntKind) (x y : Int) : opBin .other .gtr (.tr (.sc (.int k x))) (.tr (.sc (.int k y))) = some (.tr (.sc (.bool (decide (x > y))))) := by simp [opBin, isNil, notNil, binSc, binInt]
theorem bin_leq (k : IntKind) (x y : Int) : opBin .other .leq (.tr (.sc (.int k x))) (.tr (.sc (.int k y))) = some (.tr (.sc (.bool (decide (x ≤ y))))) := by simp [opBin, isNil, notNil, binSc, binInt]
theorem bin_geq (k : IntKind) (x y : Int) : opBin .other .geq (.tr (.sc (.int k x))) (.tr (.sc (.int k y))) = some (.tr (.sc (.bool (decide (x ≥ y))))) := by simp [opBin, isNil, notNil, binSc, binInt]
theorem bin_eql (k : IntKind) (x y : Int) : opBin .other .eql (.tr (.sc (.int k x))) (.tr (.sc (.int k y))) = some (.tr (.sc (.bool (x == y)))) := by simp [opBin, isNil, notNil, binSc, binInt]
theorem bin_add (k : IntKind) (x y : Int) : opBin .other .add (.tr (.sc (.int k x))) (.tr (.sc (.int k y))) = some (.tr (.sc (.int k (k.wrap (x + y))))) := by simp [opBin, isNil, notNil, binSc, binInt]
theorem bin_sub (k : IntKind) (x y : Int) : opBin .other .sub (.tr (.sc (.int k x))) (.tr (.sc (.int k y))) = some (.tr (.sc (.int k (k.wrap (x - y))))) := by simp [opBin, isNil, notNil, binSc, binInt]
theorem bin_bool (x y : Bool) : opBin .bool .eql (.tr (.sc (.bool x))) (.tr (.sc (.bool y))) = some (.tr (.sc (.bool (x == y)))) := by simp [opBin, isNil, notNil, binSc]
theorem bin_str (s t : ByteArray) : opBin .other .eql (.tr (.sc (.string s))) (.tr (.sc (.string t))) = some (.tr (.sc (.bool (bytesEq s.data.toList t.data.toList)))) := by simp [opBin, isNil, notNil, binSc, binStr]
theorem un_not (b : Bool) : opUn .not (.tr (.sc (.bool b))) = some (.tr (.sc (.bool (!b)))) := rfl
end Go.Proofs.YtbdebcmklaooaaaDoor.AM
end
section
set_option linter.unusedSimpArgs false
set_option linter.unusedVariables false
/- What reads as data at a call's start stands for trees: arguments opened by their types. -/
set_option linter.unusedVariables false
set_option linter.unusedSimpArgs false
open Go.RowKit Go.WideShapes
namespace Go.Proofs.YtbdebcmklaooaaaDoor.AM

section
variable {h : Array Go.Obj} {I : Nat → Prop}

theorem RTC_append : ∀ (ts us : List Tree) (b o : Nat), RTC h I ts b o → RTC h I us b (o + ts.length) → RTC h I (ts ++ us) b o
  | [], us, b, o, h1, h2 => by simpa using h2
  | t :: ts, us, b, o, h1, h2 => by
    simp only [RTC] at h1
    simp only [List.cons_append, RTC]
    refine ⟨h1.1, RTC_append ts us b (o + 1) h1.2 ?_⟩
    rw [List.length_cons] at h2
    rw [show o + 1 + ts.length = o + (ts.length + 1) by omega]; exact h2

theorem RTC_of_RTL (ts : List Tree) (xs : List Value) (b o : Nat) (r : RTL h I ts xs) (hc : ∀ j, j < xs.length → cellAt h b (o + j) = xs[j]?) : RTC h I ts b o := by
  rw [RTC_iff]
  intro k t hk
  obtain ⟨e, s⟩ := (RTL_iff _ _).1 r
  obtain ⟨x, hx, rx⟩ := s k t hk
  have hlt : k < xs.length := by
    have := (List.getElem?_eq_some_iff.1 hx).1
    exact this
  exact ⟨x, by rw [hc k hlt, hx], rx⟩

theorem RTC_flat {α : Type} (E : α → List Tree) (c : Nat) (hE : ∀ a, (E a).length = c) : ∀ (l : List α) (b o : Nat), (∀ (i : Nat) a, l[i]? = some a → RTC h I (E a) b (o + i * c)) → RTC h I (l.flatMap E) b o
  | [], b, o, _ => by simp [RTC]
  | a :: l, b, o, H => by
    rw [List.flatMap_cons]
    refine RTC_append _ _ _ _ (by simpa using H 0 a rfl) (RTC_flat E c hE l b _ fun i a' hi => ?_)
    have := H (i + 1) a' (by simpa using hi)
    rw [hE, show o + c + i * c = o + (i + 1) * c by rw [Nat.add_mul]; omega]
    exact this
end

theorem cellAt_cell? {w : World} {a : Addr} {v : Value} (hv : w.cell? a = some v) : a.spot = none ∧ a.block < w.heap.size ∧ cellAt w.heap a.block a.off = some v := by
  unfold World.cell? at hv
  unfold cellAt
  split at hv
  · rename_i c x y hb
    split at hv
    · cases hv
    · rename_i hs
      refine ⟨by simpa using hs, ?_, ?_⟩
      · exact (Array.getElem?_eq_some_iff.1 hb).1
      · rw [hb]; exact hv
  · cases hv

theorem choose_list {α : Type} (R : Nat → α → Prop) : ∀ (n : Nat), (∀ i, i < n → ∃ a, R i a) → ∃ l : List α, l.length = n ∧ ∀ (i : Nat) a, l[i]? = some a → R i a
  | 0, _ => ⟨[], rfl, fun i a hi => by simp at hi⟩
  | n + 1, H => by
    obtain ⟨l, hl, hr⟩ := choose_list R n fun i hi => H i (by omega)
    obtain ⟨a, ha⟩ := H n (by omega)
    refine ⟨l ++ [a], by simp [hl], fun i b hi => ?_⟩
    by_cases hlt : i < n
    · rw [List.getElem?_append_left (by omega)] at hi
      exact hr i b hi
    · rw [List.getElem?_append_right (by omega)] at hi
      have : i - l.length = 0 := by
        have := (List.getElem?_eq_some_iff.1 hi).1
        simp at this; omega
      rw [this] at hi
      simp at hi; subst hi
      rw [show i = n by omega]; exact ha

section
variable {H : Type} {enc : TypeId × Value → H} {P : Program} {w : World}

/-- Whatever reads as data of type t stands for the trees of some a. -/
def Opens (enc : TypeId × Value → H) (P : Program) (w : World) (n : Nat) (t : TypeId) {α : Type} (E : α → List Tree) (ok : α → Prop) : Prop :=
  ∀ cs x, DataW.trod enc P w 0 (fun _ => true) true n t cs = some x → ∃ a, ok a ∧ RTL w.heap (fun b => b < w.heap.size) (E a) cs

theorem opens_int {n : Nat} {t : TypeId} {k : IntKind} (ht : P.underlying t = some (.int k)) : Opens enc P w n t (fun z : Int => [.sc (.int k z)]) (fun z => (Lit.int k z).wf = true) := by
  intro cs x hx
  obtain ⟨z, rfl, _, hz⟩ := DataW.trod_int ht hx
  exact ⟨z, hz, by simp [RTL, RT]⟩
/-- A slice: none, or its elements and its capacity. -/
def slE {α : Type} (E : α → List Tree) : Option (List α × Nat) → List Tree
  | none => [.sc (.slice none 0 0)]
  | some (l, c) => [.row (l.flatMap E) l.length (some c)]
def slOk {α : Type} (ok : α → Prop) : Option (List α × Nat) → Prop
  | none => True
  | some (l, c) => l.length ≤ c ∧ c ≤ maxLen ∧ ∀ a ∈ l, ok a

theorem opens_slice {n : Nat} {t e : TypeId} {c : Nat} {α : Type} {E : α → List Tree} {ok : α → Prop} (ht : P.underlying t = some (.slice e)) (hc : P.cellsOf e = c) (hE : ∀ a, (E a).length = c)
    (he : ∀ m, n = m + 1 → Opens enc P w m e E ok) : Opens enc P w n t (slE E) (slOk ok) := by
  intro cs x hx
  rcases DataW.trod_slice ht hx with ⟨rfl, _⟩ | ⟨a, len, cap, elems, rest, m, rfl, rfl, _, _, hl, hm, hlen, hel, _, _⟩
  · exact ⟨none, trivial, by simp [slE, RTL, RT]⟩
  obtain ⟨l, hll, hR⟩ := choose_list (fun i b => ok b ∧ ∃ cs', w.cells? 0 (a.add (i * P.cellsOf e)) (P.cellsOf e) = some cs' ∧ RTL w.heap (fun b => b < w.heap.size) (E b) cs') len fun i hi => by
    have h1 := hel i hi
    have h2 : elems[i]? = some elems[i] := List.getElem?_eq_getElem _
    rw [h2, Option.bind_eq_some_iff] at h1
    obtain ⟨cs', h3, h4⟩ := h1
    obtain ⟨b, hb, hr⟩ := he m rfl cs' _ h4
    exact ⟨b, hb, cs', h3, hr⟩
  refine ⟨some (l, cap), ⟨by omega, hm, fun b hb => ?_⟩, ?_⟩
  · obtain ⟨i, hi⟩ := List.getElem?_of_mem hb
    exact (hR i b hi).1
  · simp only [slE, RTL, RT]
    refine ⟨_, [], rfl, ⟨a, cap, by rw [hll], by omega, fun k hk => by simpa using hk, ?_⟩, rfl⟩
    by_cases h0 : l.flatMap E = []
    · exact .inl h0
    right
    -- a first cell
    have hpos : 0 < c ∧ 0 < len := by
      constructor
      · rcases Nat.eq_zero_or_pos c with h | h
        · exfalso; apply h0
          rw [List.flatMap_eq_nil_iff]
          intro b _
          exact List.length_eq_zero_iff.1 ((hE b).trans h)
        · exact h
      · rcases Nat.eq_zero_or_pos len with h | h
        · exfalso; apply h0
          rw [List.length_eq_zero_iff.1 (hll.trans h)]; rfl
        · exact h
    have hcell : ∀ i, i < len → ∀ b, l[i]? = some b → ∃ cs', cs'.length = c ∧ RTL w.heap (fun b => b < w.heap.size) (E b) cs' ∧ ∀ j, j < c → w.cell? ((a.add (i * c)).add j) = cs'[j]? := by
      intro i hi b hb
      obtain ⟨_, cs', h3, hr⟩ := hR i b hb
      rw [hc] at h3
      obtain ⟨_, h4, h5⟩ := World.cells?_some h3
      exact ⟨cs', h4, hr, h5⟩
    have ha : a.spot = none ∧ a.block < w.heap.size := by
      have hb0 : l[0]? = some l[0] := List.getElem?_eq_getElem _
      obtain ⟨cs', h4, hr, h5⟩ := hcell 0 hpos.2 _ hb0
      have h6 := h5 0 hpos.1
      have h7 : cs'[0]? = some cs'[0] := List.getElem?_eq_getElem _
      rw [h7] at h6
      simp [Addr.add] at h6
      exact ⟨(cellAt_cell? h6).1, (cellAt_cell? h6).2.1⟩
    obtain ⟨b, o, sp⟩ := a
    simp only at ha
    obtain ⟨rfl, hb⟩ := ha
    refine ⟨b, o, rfl, hb, RTC_flat E c hE l b o fun i e' hi => ?_⟩
    have hilt : i < len := by
      have := (List.getElem?_eq_some_iff.1 hi).1
      omega
    obtain ⟨cs', h4, hr, h5⟩ := hcell i hilt e' hi
    refine RTC_of_RTL _ cs' _ _ hr fun j hj => ?_
    have h6 := h5 j (by omega)
    have h7 : cs'[j]? = some cs'[j] := List.getElem?_eq_getElem _
    rw [h7] at h6 ⊢
    have h8 := (cellAt_cell? h6).2.2
    rw [← h8]
    have h9 : ∀ (x y : Nat), ((⟨b, x, none⟩ : Addr).add y).block = b ∧ ((⟨b, x, none⟩ : Addr).add y) = ⟨b, x + y, none⟩ := by
      intro x y
      unfold Addr.add
      by_cases hy : y = 0
      · simp [hy]
      · simp [hy]
    rw [(h9 _ _).2, (h9 _ _).2]

theorem Opens.map {n : Nat} {t : TypeId} {α β : Type} {E : α → List Tree} {ok : α → Prop} {F : β → List Tree} {ok' : β → Prop} (h : Opens enc P w n t E ok) (g : α → β) (hg : ∀ a, ok a → F (g a) = E a) (hk : ∀ a, ok a → ok' (g a)) :
    Opens enc P w n t F ok' := by
  intro cs x hx
  obtain ⟨a, ha, ra⟩ := h cs x hx
  exact ⟨g a, hk a ha, by rw [hg a ha]; exact ra⟩

/-- An argument of one cell. -/
theorem Opens.slice {t e : TypeId} {r : Reach} {b0 : Nat} {v : Value} {d : DataW H} {ps : List MemPlace} {α : Type} {E : α → Tree} {ok : α → Prop} (ht : P.underlying t = some (.slice e))
    (hval : Value.okWide P w r b0 t v) (hd : DataW.Trod enc P w 0 (fun _ => true) true t v d ps) (h : ∀ n, Opens enc P w n t (fun a => [E a]) ok) :
    ∃ a, ok a ∧ RT w.heap (fun b => b < w.heap.size) (E a) v := by
  obtain ⟨a, len, cap, rfl⟩ := okWide_slice ht hval
  obtain ⟨n, hn⟩ := hd
  obtain ⟨x, hx, rx⟩ := h n _ _ hn
  refine ⟨x, hx, ?_⟩
  simp only [Value.cells, RTL] at rx
  obtain ⟨y, ys, e1, r, rfl⟩ := rx
  simp at e1
  rw [e1]; exact r
theorem Opens.one {t e : TypeId} {r : Reach} {b0 : Nat} {v : Value} {d : DataW H} {ps : List MemPlace} {α : Type} {E : α → List Tree} {ok : α → Prop} (ht : P.underlying t = some (.slice e))
    (hval : Value.okWide P w r b0 t v) (hd : DataW.Trod enc P w 0 (fun _ => true) true t v d ps) (h : ∀ n, Opens enc P w n t E ok) :
    ∃ a, ok a ∧ RTL w.heap (fun b => b < w.heap.size) (E a) [v] := by
  obtain ⟨a, len, cap, rfl⟩ := okWide_slice ht hval
  obtain ⟨n, hn⟩ := hd
  obtain ⟨x, hx, rx⟩ := h n _ _ hn
  exact ⟨x, hx, by simpa [Value.cells] using rx⟩
/-- An argument that is a struct. -/
theorem Opens.struct {t : TypeId} {fs : Array Field} {r : Reach} {b0 : Nat} {v : Value} {d : DataW H} {ps : List MemPlace} {α : Type} {E : α → List Tree} {ok : α → Prop} (ht : P.underlying t = some (.struct fs))
    (hval : Value.okWide P w r b0 t v) (hd : DataW.Trod enc P w 0 (fun _ => true) true t v d ps) (h : ∀ n, Opens enc P w n t E ok) :
    ∃ a, ok a ∧ RT w.heap (fun b => b < w.heap.size) (.agg (E a)) v := by
  obtain ⟨cs, rfl, hs⟩ := okWide_struct ht hval
  obtain ⟨n, hn⟩ := hd
  obtain ⟨x, hx, rx⟩ := h n _ _ hn
  refine ⟨x, hx, ?_⟩
  simp only [RT]
  exact ⟨cs.toList, by simp, by simpa [Value.cells] using rx⟩
end
end Go.Proofs.YtbdebcmklaooaaaDoor.AM
end
section
set_option linter.unusedSimpArgs false
set_option linter.unusedVariables false
/- Slices that came in, and what is done with them. -/
set_option linter.unusedVariables false
set_option linter.unusedSimpArgs false
namespace Go.Proofs.YtbdebcmklaooaaaDoor.AM

/-- A slice without a place, whose elements are those of l. -/
def IsSl {α : Type} (E : α → List Tree) (l : List α) (v : V) : Prop := (l = [] ∧ v = nilSl) ∨ ∃ cap, v = .tr (.row (l.flatMap E) l.length cap)

section
variable {α : Type} {E : α → List Tree} {c : Nat} {l : List α} {v : V} {σ : Store}

theorem flat_len (hE : ∀ a, (E a).length = c) : ∀ (l : List α), (l.flatMap E).length = l.length * c
  | [] => by simp
  | a :: l => by
    rw [List.flatMap_cons, List.length_append, hE, flat_len hE l, List.length_cons, Nat.add_mul]
    omega
theorem flat_drop (hE : ∀ a, (E a).length = c) : ∀ (l : List α) (n : Nat), (l.flatMap E).drop (n * c) = (l.drop n).flatMap E
  | l, 0 => by simp
  | [], n + 1 => by simp
  | a :: l, n + 1 => by
    rw [List.flatMap_cons, List.drop_succ_cons, ← flat_drop hE l n, show (n + 1) * c = (E a).length + n * c by rw [hE, Nat.add_mul]; omega, ← List.drop_drop, List.drop_left]
theorem flat_take (hE : ∀ a, (E a).length = c) : ∀ (l : List α) (n : Nat), (l.flatMap E).take (n * c) = (l.take n).flatMap E
  | l, 0 => by simp
  | [], n + 1 => by simp
  | a :: l, n + 1 => by
    rw [List.flatMap_cons, List.take_succ_cons, List.flatMap_cons, ← flat_take hE l n, show (n + 1) * c = (E a).length + n * c by rw [hE, Nat.add_mul]; omega, List.take_append]
    rw [List.take_of_length_le (by omega)]
    congr 2
    omega
theorem flat_at (hE : ∀ a, (E a).length = c) {i : Nat} {a : α} (h : l[i]? = some a) : ((l.flatMap E).drop (i * c)).take c = E a := by
  have hi := (List.getElem?_eq_some_iff.1 h).1
  rw [flat_drop hE, List.drop_eq_getElem_cons hi, List.flatMap_cons]
  have : l[i] = a := (List.getElem?_eq_some_iff.1 h).2
  rw [this, ← hE a, List.take_left]
theorem slice_flat (hE : ∀ a, (E a).length = c) {i o s : Nat} {a : α} (h : l[i]? = some a) (hs : o + s ≤ c) : slice? (l.flatMap E) (i * c + o) s = some (((E a).drop o).take s) := by
  have e : ((l.flatMap E).drop (i * c + o)).take s = ((E a).drop o).take s := by
    rw [← flat_at hE h, List.drop_take, List.take_take, List.drop_drop]
    congr 1
    omega
  unfold slice?
  simp only [e]
  rw [if_pos]
  rw [List.length_take, List.length_drop, hE]
  omega

theorem isSl_len (h : IsSl E l v) : opLen 1 v σ = some (.tr (.sc (.int .i64 l.length))) := by
  rcases h with ⟨rfl, rfl⟩ | ⟨cap, rfl⟩ <;> rfl
theorem asIdx_nat (k : IntKind) (n : Nat) : asIdx? (.tr (.sc (.int k (n : Int)))) = some n := by
  show (if 0 ≤ (n : Int) then some (n : Int).toNat else none) = some n
  rw [if_pos (by omega)]
  congr 1
theorem isSl_iaddr (h : IsSl E l v) (hE : ∀ a, (E a).length = c) (hc : 0 < c) {k : IntKind} {i : Nat} {a : α} (hi : l[i]? = some a) :
    opIaddr c v (.tr (.sc (.int k (i : Int)))) σ = some (.tr (.rptr (l.flatMap E) (i * c))) := by
  have hlt := (List.getElem?_eq_some_iff.1 hi).1
  rcases h with ⟨rfl, rfl⟩ | ⟨cap, rfl⟩
  · simp at hi
  · unfold opIaddr
    rw [asIdx_nat]
    simp only
    have hne : (l.flatMap E).isEmpty = false := by
      have := flat_len hE l
      cases hf : l.flatMap E with
      | nil =>
        rw [hf, List.length_nil] at this
        have h1 : 0 < l.length * c := Nat.mul_pos (by omega) hc
        omega
      | cons x y => rfl
    rw [if_pos ⟨hlt, hne⟩]
theorem rptr_load (hE : ∀ a, (E a).length = c) {i o s : Nat} {agg : Bool} {a : α} (hi : l[i]? = some a) (hs : o + s ≤ c) : opLoad s agg (.tr (.rptr (l.flatMap E) (i * c + o))) σ = ofCells agg ((((E a).drop o).take s).map .tr) := by
  simp only [opLoad, slice_flat hE hi hs]
theorem rptr_load0 (hE : ∀ a, (E a).length = c) {i s : Nat} {agg : Bool} {a : α} (hi : l[i]? = some a) (hs : s ≤ c) : opLoad s agg (.tr (.rptr (l.flatMap E) (i * c))) σ = ofCells agg (((E a).take s).map .tr) := by
  have := rptr_load (σ := σ) (agg := agg) hE (o := 0) (s := s) hi (by omega)
  simpa using this
theorem isSl_cut (h : IsSl E l v) (hE : ∀ a, (E a).length = c) {k k' : IntKind} {lo hi : Nat} (h1 : lo ≤ hi) (h2 : hi ≤ l.length) :
    ∃ v', opSlice c v (some (.tr (.sc (.int k (lo : Int))))) (some (.tr (.sc (.int k' (hi : Int))))) none σ = some v' ∧ IsSl E ((l.take hi).drop lo) v' := by
  rcases h with ⟨rfl, rfl⟩ | ⟨cap, rfl⟩
  · have h3 : hi = 0 := by simpa using h2
    subst h3
    have h4 : lo = 0 := by omega
    subst h4
    exact ⟨nilSl, by rfl, .inl ⟨by simp, rfl⟩⟩
  · refine ⟨_, ?_, .inr ⟨cutCap cap none lo, rfl⟩⟩
    unfold opSlice
    simp only [optIdx, asIdx_nat, Option.isSome_none, Bool.false_and, Bool.false_eq_true, if_false, Option.getD_some, Option.getD_none]
    rw [if_pos ⟨h1, h2, Nat.le_refl _, .inl h2, flat_len hE l⟩]
    congr 3
    · rw [flat_drop hE, flat_take hE, List.drop_take]
    · rw [List.length_drop, List.length_take]; omega
theorem isSl_cut_hi (h : IsSl E l v) (hE : ∀ a, (E a).length = c) {k' : IntKind} {hi : Nat} (h2 : hi ≤ l.length) :
    ∃ v', opSlice c v none (some (.tr (.sc (.int k' (hi : Int))))) none σ = some v' ∧ IsSl E (l.take hi) v' := by
  obtain ⟨v', h3, h4⟩ := isSl_cut (σ := σ) h hE (k := .i64) (k' := k') (lo := 0) (Nat.zero_le _) h2
  refine ⟨v', ?_, by simpa using h4⟩
  rw [← h3]
  unfold opSlice
  simp only [optIdx, asIdx_nat, Option.getD_some, Option.getD_none]
theorem isSl_cut_lo (h : IsSl E l v) (hE : ∀ a, (E a).length = c) {k : IntKind} {lo : Nat} (h1 : lo ≤ l.length) :
    ∃ v', opSlice c v (some (.tr (.sc (.int k (lo : Int))))) none none σ = some v' ∧ IsSl E (l.drop lo) v' := by
  rcases h with ⟨rfl, rfl⟩ | ⟨cap, rfl⟩
  · have h3 : lo = 0 := by simpa using h1
    subst h3
    exact ⟨nilSl, by rfl, .inl ⟨by simp, rfl⟩⟩
  · refine ⟨_, ?_, .inr ⟨cutCap cap none lo, rfl⟩⟩
    unfold opSlice
    simp only [optIdx, asIdx_nat, Option.isSome_none, Bool.false_and, Bool.false_eq_true, if_false, Option.getD_some, Option.getD_none]
    rw [if_pos ⟨h1, Nat.le_refl _, Nat.le_refl _, .inl (Nat.le_refl _), flat_len hE l⟩]
    congr 3
    · rw [flat_drop hE]
      rw [List.take_of_length_le]
      rw [flat_len hE, List.length_drop]
      exact Nat.le_refl _
    · rw [List.length_drop]
end

/-- A byte's one cell. -/
def byE (b : UInt8) : List Tree := [.sc (.int .u8 (b.toNat : Int))]
theorem byE_len (b : UInt8) : (byE b).length = 1 := rfl
theorem byE_bytes : ∀ (l : List UInt8), bytesOf? ((l.flatMap byE).map .tr) = some l
  | [] => rfl
  | b :: l => by
    have hb := b.toNat_lt
    simp only [List.flatMap_cons, byE, List.cons_append, List.nil_append, List.map_cons, bytesOf?]
    rw [if_pos ⟨by omega, by omega⟩]
    have h := byE_bytes l
    rw [h]
    simp
section
variable {H : Type} {enc : TypeId × Value → H} {P : Program} {w : World}
/-- Any slice of bytes. -/
theorem opens_bytes {n : Nat} {t e : TypeId} (ht : P.underlying t = some (.slice e)) (he : P.underlying e = some (.int .u8)) (hc : P.cellsOf e = 1) : Opens enc P w n t (slE byE) (slOk fun _ => True) := by
  exact opens_slice ht hc byE_len fun m _ => (opens_int he).map (fun z => UInt8.ofNat z.toNat) (fun z hz => by
    simp only [Lit.wf, Bool.and_eq_true, decide_eq_true_eq] at hz
    have h0 : (0 : Int) ≤ z := hz.1
    have h1 : z ≤ 255 := hz.2
    simp only [byE, UInt8.toNat_ofNat']
    congr 3
    omega) (fun _ _ => trivial)
end
end Go.Proofs.YtbdebcmklaooaaaDoor.AM
end
section
set_option linter.unusedSimpArgs false
set_option linter.unusedVariables false
/- What must hold so that code runs and ends well: for proofs by hand. -/
set_option linter.unusedVariables false
set_option linter.unusedSimpArgs false
namespace Go.Proofs.YtbdebcmklaooaaaDoor.AM

/-- The code ends, and so. -/
def Wp (T : FTab) (c : HCode) (st : St) (Q : Out → St → Prop) : Prop := ∃ o s, Ex T c st o s ∧ Q o s
def okP (o : Option St) (K : St → Prop) : Prop := ∃ s, o = some s ∧ K s
theorem okP_some {s : St} {K : St → Prop} : okP (some s) K ↔ K s := by
  constructor
  · rintro ⟨_, h, k⟩; cases h; exact k
  · exact fun k => ⟨s, rfl, k⟩
theorem okP_mono {o : Option St} {K K' : St → Prop} (h : okP o K) (hk : ∀ s, K s → K' s) : okP o K' := by
  obtain ⟨s, e, k⟩ := h
  exact ⟨s, e, hk s k⟩
def thenN (K : St → Prop) (Q : Out → St → Prop) : Out → St → Prop
  | .normal, s => K s
  | .exit i, s => Q (.exit i) s
  | .ret, s => Q .ret s
def blk (i : Nat) (Q : Out → St → Prop) : Out → St → Prop
  | .normal, s => Q .normal s
  | .exit j, s => if j = i then Q .normal s else Q (.exit j) s
  | .ret, s => Q .ret s
theorem thenN_n {K : St → Prop} {Q : Out → St → Prop} {s : St} : thenN K Q .normal s = K s := rfl
theorem thenN_e {K : St → Prop} {Q : Out → St → Prop} {s : St} {i : Nat} : thenN K Q (.exit i) s = Q (.exit i) s := rfl
theorem thenN_r {K : St → Prop} {Q : Out → St → Prop} {s : St} : thenN K Q .ret s = Q .ret s := rfl
theorem blk_n {Q : Out → St → Prop} {s : St} {i : Nat} : blk i Q .normal s = Q .normal s := rfl
theorem blk_r {Q : Out → St → Prop} {s : St} {i : Nat} : blk i Q .ret s = Q .ret s := rfl
theorem blk_e {Q : Out → St → Prop} {s : St} {i : Nat} : blk i Q (.exit i) s = Q .normal s := if_pos rfl
theorem blk_o {Q : Out → St → Prop} {s : St} {i j : Nat} (h : j ≠ i) : blk i Q (.exit j) s = Q (.exit j) s := if_neg h

variable {T : FTab} {st : St} {Q Q' : Out → St → Prop} {a b : HCode}
theorem Wp.mono (h : Wp T a st Q) (hq : ∀ o s, Q o s → Q' o s) : Wp T a st Q' := by
  obtain ⟨o, s, e, q⟩ := h
  exact ⟨o, s, e, hq o s q⟩
theorem wp_skip (h : Q .normal st) : Wp T .skip st Q := ⟨_, _, ex_skip, h⟩
theorem wp_ret (h : Q .ret st) : Wp T .ret st Q := ⟨_, _, ex_ret, h⟩
theorem wp_exit {i : Nat} (h : Q (.exit i) st) : Wp T (.exit i) st Q := ⟨_, _, ex_exit i, h⟩
theorem wp_seq (h : Wp T a st (thenN (fun s => Wp T b s Q) Q)) : Wp T (.seq a b) st Q := by
  obtain ⟨o, s, e, q⟩ := h
  cases o with
  | normal =>
    obtain ⟨o', s', e', q'⟩ := q
    exact ⟨o', s', ex_seq e e', q'⟩
  | exit i => exact ⟨_, _, ex_stop e (by simp), q⟩
  | ret => exact ⟨_, _, ex_stop e (by simp), q⟩
theorem wp_region {ops : List HOp} (m : Nat) (h : okP (opsRun (callA T m) ops { st with loc := [] }) (Q .normal)) : Wp T (.region ops none) st Q := by
  obtain ⟨s, e, q⟩ := h
  exact ⟨_, _, ex_region ⟨m, e⟩, q⟩
theorem wp_cond {x : HO} (v : Bool) (hx : st.get x = some (.tr (.sc (.bool v)))) (ht : v = true → Wp T a st Q) (hf : v = false → Wp T b st Q) : Wp T (.cond x a b) st Q := by
  cases v with
  | true => obtain ⟨o, s, e, q⟩ := ht rfl; exact ⟨o, s, ex_true hx e, q⟩
  | false => obtain ⟨o, s, e, q⟩ := hf rfl; exact ⟨o, s, ex_false hx e, q⟩
theorem wp_block {i : Nat} (h : Wp T a st (blk i Q)) : Wp T (.block i a) st Q := by
  obtain ⟨o, s, e, q⟩ := h
  cases o with
  | normal => exact ⟨_, _, ex_block e, q⟩
  | ret => exact ⟨_, _, ex_block_ret e, q⟩
  | exit j =>
    by_cases hj : j = i
    · subst hj
      rw [blk_e] at q
      exact ⟨_, _, ex_block_exit e, q⟩
    · rw [blk_o hj] at q
      obtain ⟨m, e⟩ := e
      exact ⟨.exit j, s, ⟨m + 1, by rw [exec]; simp only [e, if_neg hj]⟩, q⟩
/-- A loop whose rounds come to an end. -/
theorem wp_loop (I : Nat → St → Prop) (hr : ∀ n s, I n s → Wp T a s (thenN (fun s' => ∃ k, k < n ∧ I k s') Q)) : ∀ n s, I n s → Wp T (.loop a) s Q := by
  intro n
  induction n using Nat.strongRecOn with
  | ind n ih =>
    intro s hs
    obtain ⟨o, s', e, q⟩ := hr n s hs
    cases o with
    | normal =>
      obtain ⟨k, hk, hI⟩ := q
      obtain ⟨o', s2, e', q'⟩ := ih k hk s' hI
      exact ⟨o', s2, ex_loop e e', q'⟩
    | exit i => exact ⟨_, _, ex_loop_out e (by simp), q⟩
    | ret => exact ⟨_, _, ex_loop_out e (by simp), q⟩
end Go.Proofs.YtbdebcmklaooaaaDoor.AM
end
section
set_option linter.unusedSimpArgs false
set_option linter.unusedVariables false
/- Calls and code without fuel: what must hold, worked out by simp. -/
set_option linter.unusedVariables false
set_option linter.unusedSimpArgs false
namespace Go.Proofs.YtbdebcmklaooaaaDoor.AM

open Classical in
/-- What a call says, however much fuel it takes. -/
noncomputable def callL (T : FTab) : CallA := fun f vs σ => if h : ∃ r, ∃ m, callA T m f vs σ = some r then some (Classical.choose h) else none

variable {T : FTab}
theorem callL_some {f : FuncId} {vs : List V} {σ : Store} {r : V × Store} : callL T f vs σ = some r ↔ ∃ m, callA T m f vs σ = some r := by
  unfold callL
  constructor
  · intro h
    split at h
    · rename_i hx
      cases h
      exact Classical.choose_spec hx
    · cases h
  · rintro ⟨m, h⟩
    have hx : ∃ r, ∃ m, callA T m f vs σ = some r := ⟨r, m, h⟩
    rw [dif_pos hx]
    obtain ⟨m', h'⟩ := Classical.choose_spec hx
    have h1 := callA_mono T m (max m m') (Nat.le_max_left ..) _ _ _ _ h
    have h2 := callA_mono T m' (max m m') (Nat.le_max_right ..) _ _ _ _ h'
    rw [h1] at h2
    exact h2.symm
theorem cl_iff {f : FuncId} {vs : List V} {σ σ' : Store} {v : V} : Cl T f vs σ v σ' ↔ callL T f vs σ = some (v, σ') := callL_some.symm
theorem callA_le_L (m : Nat) : CallLe (callA T m) (callL T) := fun f vs σ r h => callL_some.2 ⟨m, h⟩

theorem opA_fin {k : HK} {st : St} {r : V × Store} (e : opA (callL T) k st = some r) : ∃ m, opA (callA T m) k st = some r := by
  cases k with
  | callf f args =>
    simp only [opA, o_callf] at e ⊢
    split at e
    · rename_i h
      obtain ⟨m, hm⟩ := callL_some.1 e
      exact ⟨m, by simp only [h, hm]⟩
    · cases e
  | callv f args =>
    simp only [opA, o_callv] at e ⊢
    unfold bind1 at e ⊢
    split at e
    · rename_i hf
      split at e
      · rename_i ha
        unfold callV at e ⊢
        simp only at e ⊢
        split at e
        · obtain ⟨m, hm⟩ := callL_some.1 e
          exact ⟨m, by simp only [hf, ha, hm]⟩
        · obtain ⟨m, hm⟩ := callL_some.1 e
          exact ⟨m, by simp only [hf, ha, hm]⟩
        · cases e
      · cases e
    · cases e
  | _ => exact ⟨0, e⟩
theorem opStep_fin {o : HOp} {st st' : St} (e : opStep (callL T) o st = some st') : ∃ m, opStep (callA T m) o st = some st' := by
  unfold opStep at e ⊢
  cases hg : guardA st o.guard with
  | none => rw [hg] at e; cases e
  | some b =>
    simp only [hg] at e ⊢
    cases b with
    | true =>
      simp only at e ⊢
      split at e
      · rename_i v σ h
        obtain ⟨m, hm⟩ := opA_fin h
        exact ⟨m, by simp only [hm]; exact e⟩
      · cases e
    | false => exact ⟨0, e⟩
theorem opsRun_fin : ∀ {ops : List HOp} {st st' : St}, opsRun (callL T) ops st = some st' → ∃ m, opsRun (callA T m) ops st = some st'
  | [], st, st', e => ⟨0, e⟩
  | o :: r, st, st', e => by
    simp only [opsRun] at e
    split at e
    · rename_i s h
      obtain ⟨m, hm⟩ := opStep_fin h
      obtain ⟨m', hm'⟩ := opsRun_fin e
      refine ⟨max m m', ?_⟩
      simp only [opsRun, opStep_le (callA_mono T _ _ (Nat.le_max_left m m')) hm]
      exact opsRun_le (callA_mono T _ _ (Nat.le_max_right m m')) hm'
    · cases e
theorem quiet_fin {f : FuncId} {vs : List V} {σ : Store} {r : V × Store} (e : quietCall (callL T) f vs σ = some r) : ∃ m, quietCall (callA T m) f vs σ = some r := by
  unfold quietCall at e ⊢
  split at e
  · cases e
  · rename_i hs
    split at e
    · cases e
    · rename_i h
      obtain ⟨m, hm⟩ := callL_some.1 h
      exact ⟨m, by simp only [hs, hm]; exact e⟩
theorem opAq_fin {k : HK} {st : St} {r : V × Store} (e : opA (quietCall (callL T)) k st = some r) : ∃ m, opA (quietCall (callA T m)) k st = some r := by
  cases k with
  | callf f args =>
    simp only [opA, o_callf] at e ⊢
    split at e
    · rename_i h
      obtain ⟨m, hm⟩ := quiet_fin e
      exact ⟨m, by simp only [h, hm]⟩
    · cases e
  | callv f args =>
    simp only [opA, o_callv] at e ⊢
    unfold bind1 at e ⊢
    split at e
    · rename_i hf
      split at e
      · rename_i ha
        unfold callV at e ⊢
        simp only at e ⊢
        split at e
        · obtain ⟨m, hm⟩ := quiet_fin e
          exact ⟨m, by simp only [hf, ha, hm]⟩
        · obtain ⟨m, hm⟩ := quiet_fin e
          exact ⟨m, by simp only [hf, ha, hm]⟩
        · cases e
      · cases e
    · cases e
  | _ => exact ⟨0, e⟩
theorem opStepD_fin {k : Nat} {ns : List Nat} {o : HOp} {st st' : St} (e : opStepD (callL T) k ns o st = some st') : ∃ m, opStepD (callA T m) k ns o st = some st' := by
  unfold opStepD at e ⊢
  cases hg : guardA (st.only ns) o.guard with
  | none => rw [hg] at e; cases e
  | some b =>
    simp only [hg] at e ⊢
    cases b with
    | true =>
      simp only at e ⊢
      split at e
      · rename_i v σ h
        have : ∃ m, opA (if Nat.beq k 1 = true then quietCall (callA T m) else callA T m) o.k (st.only ns) = some (v, σ) := by
          cases hk : Nat.beq k 1 with
          | true =>
            rw [hk, if_pos rfl] at h
            simp only [if_true]
            exact opAq_fin h
          | false =>
            rw [hk, if_neg (by simp)] at h
            simp only [Bool.false_eq_true, if_false]
            exact opA_fin h
        obtain ⟨m, hm⟩ := this
        exact ⟨m, by simp only [hm]; exact e⟩
      · cases e
    | false => exact ⟨0, e⟩
theorem pendOk_fin {σ : Store} {p : Pend} (e : pendOk (callL T) σ p = true) : ∃ m, pendOk (callA T m) σ p = true := by
  unfold pendOk at e ⊢
  split at e
  · rename_i v s h
    obtain ⟨m, hm⟩ := opA_fin h
    exact ⟨m, by simp only [hm]; exact e⟩
  · cases e
theorem pendAll_fin {i : Nat} {σ : Store} : ∀ {ps : List Pend}, pendAll (callL T) i σ ps = true → ∃ m, pendAll (callA T m) i σ ps = true
  | [], e => ⟨0, e⟩
  | p :: ps, e => by
    have e' : ((Nat.blt p.h i || pendOk (callL T) σ p) && pendAll (callL T) i σ ps) = true := e
    simp only [Bool.and_eq_true] at e'
    obtain ⟨m, hm⟩ := pendAll_fin e'.2
    have : ∃ m', (Nat.blt p.h i || pendOk (callA T m') σ p) = true := by
      cases hb : Nat.blt p.h i with
      | true => exact ⟨0, rfl⟩
      | false =>
        rw [hb, Bool.false_or] at e'
        obtain ⟨m', hm'⟩ := pendOk_fin e'.1
        exact ⟨m', by simpa using hm'⟩
    obtain ⟨m', hm'⟩ := this
    refine ⟨max m m', ?_⟩
    show ((Nat.blt p.h i || pendOk (callA T (max m m')) σ p) && pendAll (callA T (max m m')) i σ ps) = true
    rw [Bool.and_eq_true]
    refine ⟨?_, pendAll_le (callA_mono T _ _ (Nat.le_max_left m m')) hm⟩
    cases hb : Nat.blt p.h i with
    | true => rfl
    | false =>
      rw [hb, Bool.false_or] at hm'
      rw [Bool.false_or]
      exact pendOk_le (callA_mono T _ _ (Nat.le_max_right m m')) hm'
theorem opsRunD_fin : ∀ {is : List (Nat × List Nat)} {ops : List HOp} {i : Nat} {ps : List Pend} {st st' : St}, opsRunD (callL T) i ps is ops st = some st' → ∃ m, opsRunD (callA T m) i ps is ops st = some st'
  | [], [], i, ps, st, st', e => by
    simp only [opsRunD] at e ⊢
    split at e
    · rename_i h
      obtain ⟨m, hm⟩ := pendAll_fin h
      exact ⟨m, by rw [if_pos hm]; exact e⟩
    · cases e
  | (k, ns) :: is, o :: r, i, ps, st, st', e => by
    simp only [opsRunD] at e
    split at e
    · cases e
    · rename_i h
      have hp : ∃ m, ¬ (Nat.beq k 2 && !pendAll (callA T m) i st.σ ps) = true := by
        cases hk : Nat.beq k 2 with
        | false => exact ⟨0, by simp⟩
        | true =>
          rw [hk, Bool.true_and] at h
          have h1 : pendAll (callL T) i st.σ ps = true := by simpa using h
          obtain ⟨m, hm⟩ := pendAll_fin h1
          exact ⟨m, by simp [hm]⟩
      obtain ⟨m0, h0⟩ := hp
      split at e
      · rename_i s hs
        obtain ⟨m1, h1⟩ := opStepD_fin hs
        rw [pendAdd_le (callA_le_L m1) h1] at e
        obtain ⟨m2, h2⟩ := opsRunD_fin e
        refine ⟨max (max m0 m1) m2, ?_⟩
        have l0 : m0 ≤ max (max m0 m1) m2 := by omega
        have l1 : m1 ≤ max (max m0 m1) m2 := by omega
        have l2 : m2 ≤ max (max m0 m1) m2 := by omega
        simp only [opsRunD]
        have h0' : ¬ (Nat.beq k 2 && !pendAll (callA T (max (max m0 m1) m2)) i st.σ ps) = true := by
          cases hk : Nat.beq k 2 with
          | false => simp
          | true =>
            rw [hk, Bool.true_and] at h0
            have h1 : pendAll (callA T m0) i st.σ ps = true := by simpa using h0
            rw [pendAll_le (callA_mono T _ _ l0) h1]
            simp
        rw [if_neg h0', opStepD_le (callA_mono T _ _ l1) h1]
        simp only
        rw [pendAdd_le (callA_mono T _ _ l1) h1]
        exact opsRunD_le (callA_mono T _ _ l2) h2
      · cases e
  | [], _ :: _, _, _, _, _, e => by simp [opsRunD] at e
  | _ :: _, [], _, _, _, _, e => by simp [opsRunD] at e

theorem regionRun_fin {ops : List HOp} {dr : Option (List (Nat × List Nat))} {st st' : St} (e : regionRun (callL T) ops dr st = some st') : ∃ m, regionRun (callA T m) ops dr st = some st' := by
  unfold regionRun at e ⊢
  cases dr with
  | none => exact opsRun_fin e
  | some is => exact opsRunD_fin e

/-- What must hold, worked out by the code's form; loops are left. -/
def wpc (T : FTab) : HCode → St → (Out → St → Prop) → Prop
  | .skip, st, Q => Q .normal st
  | .region ops dr, st, Q => okP (regionRun (callL T) ops dr st) (Q .normal)
  | .seq a b, st, Q => wpc T a st (thenN (fun s => wpc T b s Q) Q)
  | .cond x a b, st, Q => ∃ v, st.get x = some (.tr (.sc (.bool v))) ∧ (v = true → wpc T a st Q) ∧ (v = false → wpc T b st Q)
  | .block i b, st, Q => wpc T b st (blk i Q)
  | .loop b, st, Q => Wp T (.loop b) st Q
  | .exit i, st, Q => Q (.exit i) st
  | .ret, st, Q => Q .ret st
  | .bad, _, _ => False
theorem wpc_ok : ∀ (c : HCode) (st : St) (Q : Out → St → Prop), wpc T c st Q → Wp T c st Q
  | .skip, st, Q, h => wp_skip h
  | .region ops dr, st, Q, h => by
    obtain ⟨s, e, q⟩ := h
    obtain ⟨m, e⟩ := regionRun_fin e
    exact ⟨.normal, s, ⟨m + 1, by rw [exec]; simp only [e]⟩, q⟩
  | .seq a b, st, Q, h => by
    refine wp_seq ((wpc_ok a st _ h).mono fun o s hq => ?_)
    cases o with
    | normal => exact wpc_ok b s Q hq
    | exit i => exact hq
    | ret => exact hq
  | .cond x a b, st, Q, ⟨v, hx, ht, hf⟩ => wp_cond v hx (fun e => wpc_ok a st Q (ht e)) (fun e => wpc_ok b st Q (hf e))
  | .block i b, st, Q, h => wp_block (wpc_ok b st _ h)
  | .loop b, st, Q, h => h
  | .exit i, st, Q, h => wp_exit h
  | .ret, st, Q, h => wp_ret h
  | .bad, st, Q, h => h.elim
/-- A loop whose rounds come to an end. -/
theorem wpc_loop {a : HCode} {Q : Out → St → Prop} (I : Nat → St → Prop) (n : Nat) (s : St) (h0 : I n s) (hr : ∀ n s, I n s → wpc T a s (thenN (fun s' => ∃ k, k < n ∧ I k s') Q)) : Wp T (.loop a) s Q :=
  wp_loop I (fun n s hI => wpc_ok _ _ _ (hr n s hI)) n s h0

/-- What a function gives. -/
def giv (rs : List HRes) (R : V → Store → Prop) : Out → St → Prop
  | .normal, s => ∃ v, resultA s rs = some v ∧ R v s.σ
  | .ret, s => ∃ v, resultA s rs = some v ∧ R v s.σ
  | .exit _, _ => False
theorem call_shared {f : FuncId} {fn : HFn} {vs : List V} {σ : Store} {R : V → Store → Prop} (hf : T f = some fn) (hm : fn.mode = .shared) (hl : fn.nargs = vs.length)
    (h : wpc T fn.code ⟨argsEnv vs 0, [], σ⟩ (giv fn.results R)) : ∃ v σ', callL T f vs σ = some (v, σ') ∧ R v σ' := by
  obtain ⟨o, s, e, q⟩ := wpc_ok _ _ _ h
  have key : ∃ v, resultA s fn.results = some v ∧ R v s.σ ∧ (o = .normal ∨ o = .ret) := by
    cases o with
    | normal => obtain ⟨v, h1, h2⟩ := q; exact ⟨v, h1, h2, .inl rfl⟩
    | ret => obtain ⟨v, h1, h2⟩ := q; exact ⟨v, h1, h2, .inr rfl⟩
    | exit i => exact q.elim
  obtain ⟨v, h1, h2, h3⟩ := key
  exact ⟨v, s.σ, cl_iff.1 (cl_of hf hm hl e h3 h1), h2⟩

theorem snapL_tr {n : Nat} {σ : Store} : ∀ (ts : List Tree), snapL (snap σ n) (ts.map .tr) = some ts
  | [] => rfl
  | t :: ts => by
    have h : snap σ n (.tr t) = some t := by cases n <;> simp only [snap]
    simp only [List.map_cons, snapL, h, snapL_tr ts]
theorem dirs_tr : ∀ (ts : List Tree), dirs.dirsL (ts.map .tr) = []
  | [] => rfl
  | t :: ts => by simp only [List.map_cons, dirs.dirsL, dirs, dirs_tr ts, List.nil_append]
/-- A call that sees trees alone, at trees. -/
theorem call_iso {f : FuncId} {fn : HFn} {ts : List Tree} {R : Tree → Prop} (hf : T f = some fn) (hm : fn.mode = .iso) (hl : fn.nargs = ts.length)
    (h : wpc T fn.code ⟨argsEnv (ts.map .tr) 0, [], []⟩ (giv fn.results fun v σ => ∃ t, snap σ deepN v = some t ∧ R t)) : ∃ t, (∀ σ, callL T f (ts.map .tr) σ = some (.tr t, σ)) ∧ R t := by
  obtain ⟨o, s, e, q⟩ := wpc_ok _ _ _ h
  have key : ∃ v t, resultA s fn.results = some v ∧ snap s.σ deepN v = some t ∧ R t ∧ (o = .normal ∨ o = .ret) := by
    cases o with
    | normal => obtain ⟨v, h1, t, h2, h3⟩ := q; exact ⟨v, t, h1, h2, h3, .inl rfl⟩
    | ret => obtain ⟨v, h1, t, h2, h3⟩ := q; exact ⟨v, t, h1, h2, h3, .inr rfl⟩
    | exit i => exact q.elim
  obtain ⟨v, t, h1, h2, h3, h4⟩ := key
  refine ⟨t, fun σ => ?_, h3⟩
  obtain ⟨m, e⟩ := e
  refine callL_some.2 ⟨m + 2, ?_⟩
  have hr : runA T (m + 1) fn (ts.map .tr) [] = some (v, s.σ) := by
    rw [runA, e]
    rcases h4 with rfl | rfl <;> simp only [h1]
  have hz : freezeAll σ (ts.map .tr) = some σ := by
    unfold freezeAll
    rw [dirs_tr]
    have hn : ∀ (n : Nat) (S : List Nat), reachN σ n [] S = S := by
      intro n S
      cases n <;> simp [reachN]
    simp only [hn]
    rfl
  rw [callA, hf]
  simp only [hl, List.length_map, if_true, hm, snapL_tr, hr, h2, hz]
  split <;> rfl
end Go.Proofs.YtbdebcmklaooaaaDoor.AM
end
