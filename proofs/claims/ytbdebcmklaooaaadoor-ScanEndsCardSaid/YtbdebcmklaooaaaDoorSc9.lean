/- ScanEnds: part 9. -/
import Derived.Test.YtbdebcmklaooaaaDoorSc8
import Derived.Test.YtbdebcmklaooaaaDoorShelf
import Derived.Lib.IndexMore
import Derived.Lib.SlFresh
import Derived.Laws.Externs
import Derived.Lib.LaidU8
set_option maxRecDepth 1000000
set_option linter.unusedVariables false
set_option linter.unusedSimpArgs false
namespace Go.Proofs.YtbdebcmklaooaaaDoor.AM.Sc
open Go.Proofs Go.RowKit Go.Lib
/-- What is known of the world at the start: internal/bytealg.MaxLen holds some whole number; strings.asciiSpace is its table. -/
def Gd : Ground := fun n0 w0 => 1 < n0 ∧ (∃ m, w0.cell? ⟨0, 0, none⟩ = some (.int .i64 m)) ∧ Lib.TabIs Tryd.prog w0 "strings.asciiSpace" .u8 Lib.asciiSpaceTab
theorem gSp : Tryd.prog.globalNamed "strings.asciiSpace" = some 1 := by kernel_rfl
theorem cell_below {n0 : Nat} {w0 w : World} (hn : 1 < n0) (hb : Below n0 w0 w) : w.cell? ⟨0, 0, none⟩ = w0.cell? ⟨0, 0, none⟩ := by
  rw [cell?_eq, cell?_eq]
  exact cellAt_congr (hb.block 0 (by omega)) 0
theorem tab_below {n0 : Nat} {w0 w : World} (hn : 1 < n0) (hb : Below n0 w0 w) (h : Lib.TabIs Tryd.prog w0 "strings.asciiSpace" .u8 Lib.asciiSpaceTab) : Lib.TabIs Tryd.prog w "strings.asciiSpace" .u8 Lib.asciiSpaceTab := by
  unfold Lib.TabIs World.var? at h ⊢
  rw [gSp] at h ⊢
  simp only [Option.bind_some] at h ⊢
  rw [hb.block 1 hn]
  exact h
theorem gdOk : GroundOk Gd := by
  rintro n0 w0 w ⟨hn, ⟨m, hm⟩, ht⟩ hb hle
  exact ⟨by omega, ⟨m, by rw [cell_below hn hb]; exact hm⟩, tab_below hn hb ht⟩
theorem fnOk {f : FuncId} {fn : Func} (h : Tryd.prog.funcs[f]? = some fn) (h1 : (fn.name == "runtime.NumGoroutine") = false) (h2 : fn.body.isNone = false) : FnOk Tryd.prog f := ⟨fn, h, h1, h2⟩
theorem hasPre_eq : ∀ (a b : List UInt8), hasPre a b = a.isPrefixOf b
  | [], b => by simp [hasPre]
  | a :: x, [] => by simp [hasPre]
  | a :: x, b :: y => by
    simp only [hasPre, List.isPrefixOf_cons_cons, hasPre_eq x y]
    congr 1
    rw [Bool.eq_iff_iff, Nat.beq_eq, beq_iff_eq, UInt8.toNat_inj]
theorem hasL_eq (sub : List UInt8) : ∀ l, hasL sub l = Lib.contains l sub
  | [] => by
    unfold hasL Lib.contains Lib.index
    cases sub <;> simp
  | b :: l => by
    unfold hasL
    rw [hasPre_eq, hasL_eq sub l]
    unfold Lib.contains
    rw [show Lib.index (b :: l) sub = if sub.isPrefixOf (b :: l) then 0 else if Lib.index l sub == -1 then -1 else Lib.index l sub + 1 from rfl]
    cases h : sub.isPrefixOf (b :: l) with
    | true => simp
    | false =>
      simp only [Bool.false_or, Bool.false_eq_true, if_false]
      have := Lib.index_ge l sub
      by_cases h1 : Lib.index l sub = -1
      · simp [h1]
      · have h2 : (Lib.index l sub == -1) = false := by simpa using h1
        rw [h2]
        simp only [Bool.false_eq_true, if_false]
        rw [Bool.eq_iff_iff, decide_eq_true_eq, decide_eq_true_eq]
        omega
theorem ext31 : ExtOk Gd Tryd.prog 31 0 := .pure (by
  rintro n0 w0 w xs ys r ⟨hn, ⟨m, hm⟩, _⟩ hb hle ha he
  have ha : xs = ys := ha
  subst ha
  simp only [extS] at he
  split at he
  · rename_i s t
    split at he
    · rename_i hlen
      cases he
      refine .inl ⟨fnOk Tryd.func31 (by kernel_rfl) (by kernel_rfl), ?_⟩
      refine (Tryd.strings_Contains s t m w (by rw [Nat.blt_eq] at hlen; simpa using hlen) (by rw [cell_below hn hb]; exact hm)).mono ?_
      rintro e w' ⟨rfl, rfl⟩
      exact ⟨_, rfl, by rw [hasL_eq], Below.refl _ _⟩
    · cases he
  · cases he) (by omega)
theorem fld56 : ExtOk Gd Tryd.prog 56 10 := .fields (fun _ => ⟨fnOk Tryd.func56 (by kernel_rfl) (by kernel_rfl), by
  rintro n0 w0 w s ⟨hn, _, ht⟩ hb hle hs ha
  exact ⟨_, Tryd.strings_Fields s w (by rw [Lib.size_eq]; omega) ha (tab_below hn hb ht)⟩⟩)
theorem idxL_eq (t : List UInt8) : ∀ (l : List UInt8) (i : Nat), idxL t l i = if Lib.index l t = -1 then -1 else Lib.index l t + i
  | [], i => by
    unfold idxL Lib.index
    cases t <;> simp
  | b :: l, i => by
    unfold idxL
    rw [show Lib.index (b :: l) t = if t.isPrefixOf (b :: l) then 0 else if Lib.index l t == -1 then -1 else Lib.index l t + 1 from rfl, idxL_eq t l (i + 1)]
    have := Lib.index_ge l t
    cases h : t.isPrefixOf (b :: l) with
    | true => simp
    | false =>
      simp only [Bool.false_eq_true, if_false]
      by_cases h1 : Lib.index l t = -1
      · simp [h1]
      · have h2 : (Lib.index l t == -1) = false := by simpa using h1
        rw [h2]
        simp only [h1, Bool.false_eq_true, if_false]
        rw [if_neg (by omega)]
        push_cast
        omega
theorem idxL0 (t l : List UInt8) : idxL t l 0 = Lib.index l t := by
  rw [idxL_eq]
  split
  · rename_i h; exact h.symm
  · simp
theorem byteL_eq (c : UInt8) : ∀ (l : List UInt8) (i : Nat), byteL c l i = if Lib.indexByte l c = -1 then -1 else Lib.indexByte l c + i
  | [], i => by simp [byteL, Lib.indexByte]
  | b :: l, i => by
    unfold byteL
    rw [show Lib.indexByte (b :: l) c = if b == c then 0 else if Lib.indexByte l c == -1 then -1 else Lib.indexByte l c + 1 from rfl, byteL_eq c l (i + 1)]
    have hge : ∀ l : List UInt8, -1 ≤ Lib.indexByte l c := by
      intro l
      induction l with
      | nil => simp [Lib.indexByte]
      | cons b l ih =>
        rw [show Lib.indexByte (b :: l) c = if b == c then 0 else if Lib.indexByte l c == -1 then -1 else Lib.indexByte l c + 1 from rfl]
        split
        · omega
        · split <;> omega
    have := hge l
    cases h : b == c with
    | true => simp
    | false =>
      simp only [Bool.false_eq_true, if_false]
      by_cases h1 : Lib.indexByte l c = -1
      · simp [h1]
      · have h2 : (Lib.indexByte l c == -1) = false := by simpa using h1
        rw [h2]
        simp only [h1, Bool.false_eq_true, if_false]
        rw [if_neg (by omega)]
        push_cast
        omega
theorem byteL0 (c : UInt8) (l : List UInt8) : byteL c l 0 = Lib.indexByte l c := by
  rw [byteL_eq]
  split
  · rename_i h; exact h.symm
  · simp
theorem nums_of (l : List UInt8) : Lib.bytesOf (l.map fun b => (b.toNat : Int)) = l := by
  unfold Lib.bytesOf
  rw [List.map_map]
  conv => rhs; rw [← List.map_id l]
  apply List.map_congr_left
  intro u _
  simp
theorem nums_cell {w : World} {a : Addr} {l : List UInt8} (h : ∀ (i : Nat) u, l[i]? = some u → w.cell? (a.add i) = some (.int .u8 u.toNat)) : ∀ i, i < l.length → w.cell? (a.add i) = some (.int .u8 ((l.map fun b => (b.toNat : Int)).getD i 0)) := by
  intro i hi
  rw [h i l[i] (by rw [List.getElem?_eq_getElem hi])]
  simp [List.getD_eq_getElem?_getD, hi]
theorem nums_in (l : List UInt8) : ∀ x ∈ l.map (fun b => (b.toNat : Int)), 0 ≤ x ∧ x < 256 := by
  intro x hx
  obtain ⟨b, _, rfl⟩ := List.mem_map.1 hx
  have := b.toNat_lt
  omega
theorem below_drewN (w : World) (q : Nat) : Below w.heap.size w (w.drewN q) := ⟨rfl, rfl, rfl, Nat.le_refl _, fun _ _ => rfl⟩
theorem argB_str {w : World} {x : Value} {s : ByteArray} (h : (x = .string s ∧ ∃ k n, Value.string s = .int k n) ∨ ArgB w x (.string s)) :
    (x = .slice none 0 0 ∧ s.data.toList = []) ∨ ∃ a c, x = .slice (some a) s.data.toList.length c ∧ s.data.toList.length ≤ c ∧ ∀ (i : Nat) u, s.data.toList[i]? = some u → w.cell? (a.add i) = some (.int .u8 u.toNat) := by
  rcases h with ⟨_, k, n, e⟩ | ⟨l, e, h⟩
  · cases e
  · cases e
    exact h
theorem ext50 : ExtOk Gd Tryd.prog 50 11 := .pure2 (by
  rintro n0 w0 w xs ys r ⟨hn, ⟨m, hm⟩, _⟩ hb hle ha he
  simp only [extS] at he
  split at he
  · rename_i s t
    split at he
    · rename_i hlen
      cases he
      match xs, ha with
      | [x, y], ha =>
        obtain ⟨hx, hy, _⟩ := ha
        have hx := argB_str hx
        have hy := argB_str hy
        rw [Bool.and_eq_true, Nat.blt_eq, Nat.blt_eq] at hlen
        obtain ⟨hlen', hlt⟩ := hlen
        rw [idxL0]
        refine .inl ⟨fnOk Tryd.func50 (by kernel_rfl) (by kernel_rfl), ?_⟩
        have done : ∀ {v : Int}, v = Lib.index s.data.toList t.data.toList → (Calls Tryd.prog 50 #[x, y] w fun e w' => e = .returned (.int .i64 v) ∧ ∃ q, w' = w.drewN q) → Calls Tryd.prog 50 #[x, y] w fun e w' => ∃ x, e = .returned x ∧ x = .int .i64 (Lib.index s.data.toList t.data.toList) ∧ Below w.heap.size w w' := by
          rintro v rfl h
          refine h.mono ?_
          rintro e w' ⟨rfl, q, rfl⟩
          exact ⟨_, rfl, rfl, below_drewN w q⟩
        have same : ∀ {v : Int}, v = Lib.index s.data.toList t.data.toList → (Calls Tryd.prog 50 #[x, y] w fun e w' => e = .returned (.int .i64 v) ∧ w' = w) → Calls Tryd.prog 50 #[x, y] w fun e w' => ∃ x, e = .returned x ∧ x = .int .i64 (Lib.index s.data.toList t.data.toList) ∧ Below w.heap.size w w' := by
          rintro v rfl h
          refine h.mono ?_
          rintro e w' ⟨rfl, rfl⟩
          exact ⟨_, rfl, rfl, Below.refl _ _⟩
        rcases hy with ⟨rfl, ht⟩ | ⟨a2, c2, rfl, hc2, hcell2⟩
        · rw [show t.data.toList = [] from ht] at *
          have e0 : (0 : Int) = Lib.index s.data.toList [] := (Lib.index_empty _).symm
          rcases hx with ⟨rfl, hs⟩ | ⟨a1, c1, rfl, hc1, hcell1⟩
          · exact same e0 (Tryd.bytes_Index_none none none 0 0 0 w)
          · exact same e0 (Tryd.bytes_Index_none (some a1) none _ c1 0 w)
        · rcases hx with ⟨rfl, hs⟩ | ⟨a1, c1, rfl, hc1, hcell1⟩
          · rw [hs] at *
            refine same ?_ (Tryd.bytes_Index_nil (some a2) t.data.toList.length c2 w ?_ ?_)
            · cases t.data.toList <;> simp [Lib.index]
            · omega
            · intro h1
              obtain ⟨u, hu⟩ : ∃ u, t.data.toList[0]? = some u := ⟨_, List.getElem?_eq_getElem (by omega)⟩
              have := hcell2 0 u hu
              have e2 : a2 = ⟨a2.block, a2.off, none⟩ := Lib.plain_of_cell (by simpa [Addr.add] using this)
              refine ⟨a2.block, a2.off, (u.toNat : Int), by rw [← e2], ?_⟩
              rw [← e2]
              simpa [Addr.add] using this
          · have := Tryd.bytes_Index_at a1 a2 s.data.toList.length c1 t.data.toList.length c2 (s.data.toList.map fun b => (b.toNat : Int)) (t.data.toList.map fun b => (b.toNat : Int)) m w (by simp) (by simp) (nums_in _) (nums_in _) (nums_cell hcell1) (nums_cell hcell2) hc1 hlen' (by omega) (by rw [cell_below hn hb]; exact hm)
            rw [nums_of, nums_of] at this
            exact done rfl this
      | [], ha => exact ha.elim
      | [_], ha => exact ha.2.elim
      | _ :: _ :: _ :: _, ha => exact ha.2.2.elim
    · cases he
  · cases he) ⟨by omega, by omega, by omega⟩
theorem ext51 : ExtOk Gd Tryd.prog 51 12 := .pure2 (by
  rintro n0 w0 w xs ys r ⟨hn, ⟨m, hm⟩, _⟩ hb hle ha he
  simp only [extS] at he
  split at he
  · rename_i s c
    split at he
    case isFalse => cases he
    rename_i hc
    cases he
    match xs, ha with
    | [x, y], ha =>
      obtain ⟨hx, hy, _⟩ := ha
      have hx := argB_str hx
      have hy : y = .int .u8 (.ofNat c) := by
        rcases hy with ⟨h, _⟩ | ⟨l, hl, _⟩
        · exact h
        · cases hl
      subst hy
      rw [byteL0]
      refine .inl ⟨fnOk Tryd.func51 (by kernel_rfl) (by kernel_rfl), ?_⟩
      rcases hx with ⟨rfl, hs⟩ | ⟨a, c1, rfl, hc1, hcell⟩
      · refine (Tryd.bytes_IndexByte_nil _ w).mono ?_
        rintro e w' ⟨rfl, rfl⟩
        rw [hs]
        exact ⟨_, rfl, rfl, Below.refl _ _⟩
      · have := Tryd.bytes_IndexByte_at a s.data.toList.length c1 (s.data.toList.map fun b => (b.toNat : Int)) (.ofNat c) w (by simp) (nums_cell hcell)
        rw [nums_of] at this
        refine this.mono ?_
        rintro e w' ⟨rfl, rfl⟩
        exact ⟨_, rfl, rfl, Below.refl _ _⟩
    | [], ha => exact ha.elim
    | [_], ha => exact ha.2.elim
    | _ :: _ :: _ :: _, ha => exact ha.2.2.elim
  · cases he) ⟨by omega, by omega, by omega⟩
end Go.Proofs.YtbdebcmklaooaaaDoor.AM.Sc
