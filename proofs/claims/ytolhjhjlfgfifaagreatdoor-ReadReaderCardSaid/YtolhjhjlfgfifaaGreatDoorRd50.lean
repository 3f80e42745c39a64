/- the reader: parts 50, 51, 52. -/
import Derived.Test.YtolhjhjlfgfifaaGreatDoorRd38
import Derived.Test.YtolhjhjlfgfifaaGreatDoorShelf
import Derived.Test.YtolhjhjlfgfifaaGreatDoorRdD
import Derived.Lib.Replace
import Derived.Lib.CountLaws
import Derived.Lib.IndexMore
import Derived.Lib.SlFresh
import Derived.Laws.Externs
import Derived.Lib.LaidU8
import Derived.Test.YtolhjhjlfgfifaaGreatDoorRows
import Derived.LaidLaws
import Derived.LaidHandle
import Derived.MakeChecks
import Derived.Lib.LaidIn
import Derived.Lib.LaidRTab
import Derived.WalkKit
set_option linter.unusedSectionVars false
section
set_option maxRecDepth 1000000
set_option linter.unusedVariables false
set_option linter.unusedSimpArgs false
namespace Go.Proofs.YtolhjhjlfgfifaaGreatDoor.AM.Rd
open Go.Proofs Go.RowKit Go.Lib
def Gd : Ground := fun n0 w0 => 3 < n0 ∧ (∃ m, w0.cell? ⟨0, 0, none⟩ = some (.int .i64 m)) ∧ Lib.TabIs Tryz.prog w0 "strings.asciiSpace" .u8 Lib.asciiSpaceTab ∧ Lib.Utf8Tabs 2 3 w0
theorem gSp : Tryz.prog.globalNamed "strings.asciiSpace" = some 1 := by kernel_rfl
theorem cell_belowK {n0 k i : Nat} {w0 w : World} (hn : k < n0) (hb : Below n0 w0 w) : w.cell? ⟨k, i, none⟩ = w0.cell? ⟨k, i, none⟩ := by
  rw [cell?_eq, cell?_eq]
  exact cellAt_congr (hb.block k hn) i
theorem cell_below {n0 : Nat} {w0 w : World} (hn : 3 < n0) (hb : Below n0 w0 w) : w.cell? ⟨0, 0, none⟩ = w0.cell? ⟨0, 0, none⟩ := cell_belowK (by omega) hb
theorem tab_below {n0 : Nat} {w0 w : World} (hn : 3 < n0) (hb : Below n0 w0 w) (h : Lib.TabIs Tryz.prog w0 "strings.asciiSpace" .u8 Lib.asciiSpaceTab) : Lib.TabIs Tryz.prog w "strings.asciiSpace" .u8 Lib.asciiSpaceTab := by
  unfold Lib.TabIs World.var? at h ⊢
  rw [gSp] at h ⊢
  simp only [Option.bind_some] at h ⊢
  rw [hb.block 1 (by omega)]
  exact h
theorem u8_below {n0 : Nat} {w0 w : World} (hn : 3 < n0) (hb : Below n0 w0 w) (h : Lib.Utf8Tabs 2 3 w0) : Lib.Utf8Tabs 2 3 w := by
  refine ⟨fun c hc => ?_, fun i hi => ?_⟩
  · rw [cell_belowK (by omega) hb]; exact h.1 c hc
  · rw [cell_belowK (by omega) hb, cell_belowK (by omega) hb]; exact h.2 i hi
theorem gdOk : GroundOk Gd := by
  rintro n0 w0 w ⟨hn, ⟨m, hm⟩, ht, hu⟩ hb hle
  exact ⟨by omega, ⟨m, by rw [cell_below hn hb]; exact hm⟩, tab_below hn hb ht, u8_below hn hb hu⟩
theorem fnOk {f : FuncId} {fn : Func} (h : Tryz.prog.funcs[f]? = some fn) (h1 : (fn.name == "runtime.NumGoroutine") = false) (h2 : fn.body.isNone = false) : FnOk Tryz.prog f := ⟨fn, h, h1, h2⟩
theorem hasL_eq (sub : List UInt8) : ∀ l, hasL sub l = Lib.contains l sub
  | [] => by
    unfold hasL Lib.contains Lib.index
    cases sub <;> simp
  | b :: l => by
    unfold hasL
    rw [hasPre_eq, hasL_eq sub l]
    unfold Lib.contains
    rw [show Lib.index (b :: l) sub = if sub.isPrefixOf (b :: l) then 0 else if Lib.index l sub == -1 then -1 else Lib.index l sub + 1 from rfl]
    cases h : sub.isPrefixOf (b :: l) with
    | true => simp
    | false =>
      simp only [Bool.false_or, Bool.false_eq_true, if_false]
      have := Lib.index_ge l sub
      by_cases h1 : Lib.index l sub = -1
      · simp [h1]
      · have h2 : (Lib.index l sub == -1) = false := by simpa using h1
        rw [h2]
        simp only [Bool.false_eq_true, if_false]
        rw [Bool.eq_iff_iff, decide_eq_true_eq, decide_eq_true_eq]
        omega
theorem ext115 : ExtOk Gd Tryz.prog 115 0 := .pure (by
  rintro n0 w0 w xs ys r ⟨hn, ⟨m, hm⟩, _, _⟩ hb hle ha he
  have ha : xs = ys := ha
  subst ha
  simp only [extS] at he
  split at he
  · rename_i s t
    split at he
    · rename_i hlen
      cases he
      refine .inl ⟨fnOk Tryz.func115 (by kernel_rfl) (by kernel_rfl), ?_⟩
      refine (Tryz.strings_Contains s t m w (by rw [Nat.blt_eq] at hlen; simpa using hlen) (by rw [cell_below hn hb]; exact hm)).mono ?_
      rintro e w' ⟨rfl, rfl⟩
      exact ⟨_, rfl, by rw [hasL_eq], Below.refl _ _⟩
    · cases he
  · cases he) (by omega)
theorem fld114 : ExtOk Gd Tryz.prog 114 10 := .fields (fun _ => ⟨fnOk Tryz.func114 (by kernel_rfl) (by kernel_rfl), by
  rintro n0 w0 w s ⟨hn, _, ht, _⟩ hb hle hs ha
  exact ⟨_, Tryz.strings_Fields s w (by rw [Lib.size_eq]; omega) ha (tab_below hn hb ht)⟩⟩)
theorem idxL_eq (t : List UInt8) : ∀ (l : List UInt8) (i : Nat), idxL t l i = if Lib.index l t = -1 then -1 else Lib.index l t + i
  | [], i => by
    unfold idxL Lib.index
    cases t <;> simp
  | b :: l, i => by
    unfold idxL
    rw [show Lib.index (b :: l) t = if t.isPrefixOf (b :: l) then 0 else if Lib.index l t == -1 then -1 else Lib.index l t + 1 from rfl, idxL_eq t l (i + 1)]
    have := Lib.index_ge l t
    cases h : t.isPrefixOf (b :: l) with
    | true => simp
    | false =>
      simp only [Bool.false_eq_true, if_false]
      by_cases h1 : Lib.index l t = -1
      · simp [h1]
      · have h2 : (Lib.index l t == -1) = false := by simpa using h1
        rw [h2]
        simp only [h1, Bool.false_eq_true, if_false]
        rw [if_neg (by omega)]
        push_cast
        omega
theorem idxL0 (t l : List UInt8) : idxL t l 0 = Lib.index l t := by
  rw [idxL_eq]
  split
  · rename_i h; exact h.symm
  · simp
theorem byteL_eq (c : UInt8) : ∀ (l : List UInt8) (i : Nat), byteL c l i = if Lib.indexByte l c = -1 then -1 else Lib.indexByte l c + i
  | [], i => by simp [byteL, Lib.indexByte]
  | b :: l, i => by
    unfold byteL
    rw [show Lib.indexByte (b :: l) c = if b == c then 0 else if Lib.indexByte l c == -1 then -1 else Lib.indexByte l c + 1 from rfl, byteL_eq c l (i + 1)]
    have hge : ∀ l : List UInt8, -1 ≤ Lib.indexByte l c := by
      intro l
      induction l with
      | nil => simp [Lib.indexByte]
      | cons b l ih =>
        rw [show Lib.indexByte (b :: l) c = if b == c then 0 else if Lib.indexByte l c == -1 then -1 else Lib.indexByte l c + 1 from rfl]
        split
        · omega
        · split <;> omega
    have := hge l
    cases h : b == c with
    | true => simp
    | false =>
      simp only [Bool.false_eq_true, if_false]
      by_cases h1 : Lib.indexByte l c = -1
      · simp [h1]
      · have h2 : (Lib.indexByte l c == -1) = false := by simpa using h1
        rw [h2]
        simp only [h1, Bool.false_eq_true, if_false]
        rw [if_neg (by omega)]
        push_cast
        omega
theorem byteL0 (c : UInt8) (l : List UInt8) : byteL c l 0 = Lib.indexByte l c := by
  rw [byteL_eq]
  split
  · rename_i h; exact h.symm
  · simp
theorem nums_of (l : List UInt8) : Lib.bytesOf (l.map fun b => (b.toNat : Int)) = l := by
  unfold Lib.bytesOf
  rw [List.map_map]
  conv => rhs; rw [← List.map_id l]
  apply List.map_congr_left
  intro u _
  simp
theorem nums_cell {w : World} {a : Addr} {l : List UInt8} (h : ∀ (i : Nat) u, l[i]? = some u → w.cell? (a.add i) = some (.int .u8 u.toNat)) : ∀ i, i < l.length → w.cell? (a.add i) = some (.int .u8 ((l.map fun b => (b.toNat : Int)).getD i 0)) := by
  intro i hi
  rw [h i l[i] (by rw [List.getElem?_eq_getElem hi])]
  simp [List.getD_eq_getElem?_getD, hi]
theorem nums_in (l : List UInt8) : ∀ x ∈ l.map (fun b => (b.toNat : Int)), 0 ≤ x ∧ x < 256 := by
  intro x hx
  obtain ⟨b, _, rfl⟩ := List.mem_map.1 hx
  have := b.toNat_lt
  omega
theorem below_drewN (w : World) (q : Nat) : Below w.heap.size w (w.drewN q) := ⟨rfl, rfl, rfl, Nat.le_refl _, fun _ _ => rfl⟩
theorem argB_str {w : World} {x : Value} {s : ByteArray} (h : (x = .string s ∧ ∃ k n, Value.string s = .int k n) ∨ ArgB w x (.string s)) :
    (x = .slice none 0 0 ∧ s.data.toList = []) ∨ ∃ a c, x = .slice (some a) s.data.toList.length c ∧ s.data.toList.length ≤ c ∧ ∀ (i : Nat) u, s.data.toList[i]? = some u → w.cell? (a.add i) = some (.int .u8 u.toNat) := by
  rcases h with ⟨_, k, n, e⟩ | ⟨l, e, h⟩
  · cases e
  · cases e
    exact h
theorem ext105 : ExtOk Gd Tryz.prog 105 11 := .pure2 (by
  rintro n0 w0 w xs ys r ⟨hn, ⟨m, hm⟩, _, _⟩ hb hle ha he
  simp only [extS] at he
  split at he
  · rename_i s t
    split at he
    · rename_i hlen
      cases he
      match xs, ha with
      | [x, y], ha =>
        obtain ⟨hx, hy, _⟩ := ha
        have hx := argB_str hx
        have hy := argB_str hy
        rw [Bool.and_eq_true, Nat.blt_eq, Nat.blt_eq] at hlen
        obtain ⟨hlen', hlt⟩ := hlen
        rw [idxL0]
        refine .inl ⟨fnOk Tryz.func105 (by kernel_rfl) (by kernel_rfl), ?_⟩
        have done : ∀ {v : Int}, v = Lib.index s.data.toList t.data.toList → (Calls Tryz.prog 105 #[x, y] w fun e w' => e = .returned (.int .i64 v) ∧ ∃ q, w' = w.drewN q) → Calls Tryz.prog 105 #[x, y] w fun e w' => ∃ x, e = .returned x ∧ x = .int .i64 (Lib.index s.data.toList t.data.toList) ∧ Below w.heap.size w w' := by
          rintro v rfl h
          refine h.mono ?_
          rintro e w' ⟨rfl, q, rfl⟩
          exact ⟨_, rfl, rfl, below_drewN w q⟩
        have same : ∀ {v : Int}, v = Lib.index s.data.toList t.data.toList → (Calls Tryz.prog 105 #[x, y] w fun e w' => e = .returned (.int .i64 v) ∧ w' = w) → Calls Tryz.prog 105 #[x, y] w fun e w' => ∃ x, e = .returned x ∧ x = .int .i64 (Lib.index s.data.toList t.data.toList) ∧ Below w.heap.size w w' := by
          rintro v rfl h
          refine h.mono ?_
          rintro e w' ⟨rfl, rfl⟩
          exact ⟨_, rfl, rfl, Below.refl _ _⟩
        rcases hy with ⟨rfl, ht⟩ | ⟨a2, c2, rfl, hc2, hcell2⟩
        · rw [show t.data.toList = [] from ht] at *
          have e0 : (0 : Int) = Lib.index s.data.toList [] := (Lib.index_empty _).symm
          rcases hx with ⟨rfl, hs⟩ | ⟨a1, c1, rfl, hc1, hcell1⟩
          · exact same e0 (Tryz.bytes_Index_none none none 0 0 0 w)
          · exact same e0 (Tryz.bytes_Index_none (some a1) none _ c1 0 w)
        · rcases hx with ⟨rfl, hs⟩ | ⟨a1, c1, rfl, hc1, hcell1⟩
          · rw [hs] at *
            refine same ?_ (Tryz.bytes_Index_nil (some a2) t.data.toList.length c2 w ?_ ?_)
            · cases t.data.toList <;> simp [Lib.index]
            · omega
            · intro h1
              obtain ⟨u, hu⟩ : ∃ u, t.data.toList[0]? = some u := ⟨_, List.getElem?_eq_getElem (by omega)⟩
              have := hcell2 0 u hu
              have e2 : a2 = ⟨a2.block, a2.off, none⟩ := Lib.plain_of_cell (by simpa [Addr.add] using this)
              refine ⟨a2.block, a2.off, (u.toNat : Int), by rw [← e2], ?_⟩
              rw [← e2]
              simpa [Addr.add] using this
          · have := Tryz.bytes_Index_at a1 a2 s.data.toList.length c1 t.data.toList.length c2 (s.data.toList.map fun b => (b.toNat : Int)) (t.data.toList.map fun b => (b.toNat : Int)) m w (by simp) (by simp) (nums_in _) (nums_in _) (nums_cell hcell1) (nums_cell hcell2) hc1 hlen' (by omega) (by rw [cell_below hn hb]; exact hm)
            rw [nums_of, nums_of] at this
            exact done rfl this
      | [], ha => exact ha.elim
      | [_], ha => exact ha.2.elim
      | _ :: _ :: _ :: _, ha => exact ha.2.2.elim
    · cases he
  · cases he) ⟨by omega, by omega, by omega⟩
theorem ext106 : ExtOk Gd Tryz.prog 106 12 := .pure2 (by
  rintro n0 w0 w xs ys r ⟨hn, ⟨m, hm⟩, _, _⟩ hb hle ha he
  simp only [extS] at he
  split at he
  · rename_i s c
    split at he
    case isFalse => cases he
    rename_i hc
    cases he
    match xs, ha with
    | [x, y], ha =>
      obtain ⟨hx, hy, _⟩ := ha
      have hx := argB_str hx
      have hy : y = .int .u8 (.ofNat c) := by
        rcases hy with ⟨h, _⟩ | ⟨l, hl, _⟩
        · exact h
        · cases hl
      subst hy
      rw [byteL0]
      refine .inl ⟨fnOk Tryz.func106 (by kernel_rfl) (by kernel_rfl), ?_⟩
      rcases hx with ⟨rfl, hs⟩ | ⟨a, c1, rfl, hc1, hcell⟩
      · refine (Tryz.bytes_IndexByte_nil _ w).mono ?_
        rintro e w' ⟨rfl, rfl⟩
        rw [hs]
        exact ⟨_, rfl, rfl, Below.refl _ _⟩
      · have := Tryz.bytes_IndexByte_at a s.data.toList.length c1 (s.data.toList.map fun b => (b.toNat : Int)) (.ofNat c) w (by simp) (nums_cell hcell)
        rw [nums_of] at this
        refine this.mono ?_
        rintro e w' ⟨rfl, rfl⟩
        exact ⟨_, rfl, rfl, Below.refl _ _⟩
    | [], ha => exact ha.elim
    | [_], ha => exact ha.2.elim
    | _ :: _ :: _ :: _, ha => exact ha.2.2.elim
  · cases he) ⟨by omega, by omega, by omega⟩
theorem getB (l : List UInt8) (i : Nat) : (ByteArray.get! ⟨⟨l⟩⟩ i).toNat = (l.getD i 0).toNat := by
  show ((⟨l⟩ : Array UInt8)[i]!).toNat = _
  simp [List.getD_eq_getElem?_getD]
  rfl
theorem decL_go (l : List UInt8) (h : l ≠ []) : Lib.decodeGo ⟨⟨l⟩⟩ = decL l := by
  obtain ⟨b, l, rfl⟩ := List.exists_cons_of_ne_nil h
  have h0 : ¬ (ByteArray.size ⟨⟨b :: l⟩⟩) = 0 := by rw [Lib.size_eq]; simp
  unfold Lib.decodeGo
  rw [if_neg h0, Lib.decode_at]
  have hs : ByteArray.size ⟨⟨b :: l⟩⟩ = l.length + 1 := by rw [Lib.size_eq]; rfl
  rw [hs, getB, getB, getB, getB]
  rfl
theorem ext113 : ExtOk Gd Tryz.prog 113 15 := .pure2 (by
  rintro n0 w0 w xs ys r ⟨hn, _, _, hu⟩ hb hle ha he
  simp only [extS] at he
  split at he
  · rename_i s
    split at he
    case isFalse => cases he
    rename_i hc
    rw [Bool.and_eq_true, Nat.blt_eq, Nat.blt_eq] at hc
    cases he
    match xs, ha with
    | [x], ha =>
      obtain ⟨hx, _⟩ := ha
      have hx := argB_str hx
      refine .inl ⟨fnOk Tryz.func113 (by kernel_rfl) (by kernel_rfl), ?_⟩
      rcases hx with ⟨rfl, hs⟩ | ⟨a, c1, rfl, hc1, hcell⟩
      · rw [hs] at hc
        simp at hc
      · obtain ⟨u, hu0⟩ : ∃ u, s.data.toList[0]? = some u := ⟨_, List.getElem?_eq_getElem (by omega)⟩
        have := hcell 0 u hu0
        have e2 : a = ⟨a.block, a.off, none⟩ := Lib.plain_of_cell (by simpa [Addr.add] using this)
        have hne : s.data.toList ≠ [] := by intro h; rw [h] at hc; simp at hc
        have hsz : s.size = s.data.toList.length := Lib.size_eq s
        have := Tryz.utf8_DecodeRune s a.block a.off c1 w (u8_below hn hb hu) (by
          intro j hj
          rw [hsz] at hj
          have h1 := hcell j s.data.toList[j] (by rw [List.getElem?_eq_getElem hj])
          rw [e2] at h1
          have h2 : (s.get! j).toNat = (s.data.toList[j]).toNat := by
            have := getB s.data.toList j
            have es : (⟨⟨s.data.toList⟩⟩ : ByteArray) = s := rfl
            rw [es] at this
            rw [this, List.getD_eq_getElem?_getD, List.getElem?_eq_getElem hj]
            rfl
          rw [h2]
          have ea : (⟨a.block, a.off, none⟩ : Addr).add j = ⟨a.block, a.off + j, none⟩ := by
            cases j with
            | zero => rfl
            | succ k => rfl
          rw [ea] at h1
          exact h1)
        rw [← e2, hsz] at this
        have hd := decL_go s.data.toList hne
        have es : (⟨⟨s.data.toList⟩⟩ : ByteArray) = s := rfl
        rw [es] at hd
        rw [hd] at this
        refine this.mono ?_
        rintro e w' ⟨rfl, hbel⟩
        exact ⟨_, rfl, rfl, hbel⟩
    | [], ha => exact ha.elim
    | _ :: _ :: _, ha => exact ha.2.elim
  · cases he) ⟨by omega, by omega, by omega, by omega⟩
theorem ext157 : ExtOk Gd Tryz.prog 157 16 := .pure2 (by
  rintro n0 w0 w xs ys r _ hb hle ha he
  have ha : xs = ys := ha
  subst ha
  simp only [extS] at he
  split at he
  · rename_i s c
    split at he
    · rename_i x hx
      split at he
      case isFalse => cases he
      rename_i hlt
      cases he
      have hc : c = ⟨#[x]⟩ := by
        obtain ⟨⟨l⟩⟩ := c
        have : l = [x] := hx
        rw [this]
      subst hc
      refine .inl ⟨fnOk Tryz.func157 (by kernel_rfl) (by kernel_rfl), ?_⟩
      refine (Tryz.strings_TrimLeft_one s x (by rw [Nat.blt_eq] at hlt; exact hlt) w).mono ?_
      rintro e w' ⟨rfl, rfl⟩
      exact ⟨_, rfl, rfl, Below.refl _ _⟩
    · cases he
  · cases he) ⟨by omega, by omega, by omega, by omega⟩
theorem mixed : Tryz.prog.follows .mixedOrders = true := by kernel_rfl
theorem tab0 : TabOk Gd Tryz.prog Rd0.T := Rd0.tabOk gdOk fun f n k h => by
  unfold Rd0.Te at h
  split at h
  · rename_i hb
    cases h
    rw [Nat.eq_of_beq_eq_true hb]
    exact ext105
  split at h
  · rename_i hb
    cases h
    rw [Nat.eq_of_beq_eq_true hb]
    exact ext106
  split at h
  · rename_i hb
    cases h
    rw [Nat.eq_of_beq_eq_true hb]
    exact ext115
  split at h
  · rename_i hb
    cases h
    rw [Nat.eq_of_beq_eq_true hb]
    exact ext157
  split at h
  · rename_i hb
    cases h
    rw [Nat.eq_of_beq_eq_true hb]
    exact ext113
  split at h
  · rename_i hb
    cases h
    rw [Nat.eq_of_beq_eq_true hb]
    exact fld114
  split at h
  · rename_i hb
    cases h
    rw [Nat.eq_of_beq_eq_true hb]
    exact ExtOk.dfr 4 (fun _ => rfl) (Rd0.dfr53 _)
  · cases h
theorem ext6 : ExtOk Gd Tryz.prog 6 18 := by
  obtain ⟨m, h⟩ := Rd0.begun
  exact ext_true mixed tab0 h
end Go.Proofs.YtolhjhjlfgfifaaGreatDoor.AM.Rd
end
section
set_option maxRecDepth 100000
set_option linter.unusedVariables false
set_option linter.unusedSimpArgs false
namespace Go.Proofs.YtolhjhjlfgfifaaGreatDoor.AM.Rd
open Go.Proofs Go.Proofs.YtolhjhjlfgfifaaGreatDoor Go.RowKit Go.Lib
theorem own : ownKnob Tryz.prog.godebug = none := by kernel_rfl
def wsCells : Array Value := #[.int .u16 9, .int .u16 13, .int .u16 1, .int .u16 32, .int .u16 133, .int .u16 101, .int .u16 160, .int .u16 5760, .int .u16 5600, .int .u16 8192, .int .u16 8202, .int .u16 1, .int .u16 8232, .int .u16 8233, .int .u16 1, .int .u16 8239, .int .u16 8287, .int .u16 48, .int .u16 12288, .int .u16 12288, .int .u16 1]
noncomputable def laidWorld (os : Os) : World :=
  let N := (World.settled Tryz.prog os).heap.size
  let w0 := World.holding Tryz.prog os ⟨#[.cells wsCells 163, .cells #[.slice (some ⟨N, 0, none⟩) 7 7, .slice none 0 0, .int .i64 2] 160], #[], []⟩
  let put (h : Array Obj) (g : Nat) (cs : Array Value) : Array Obj := h.modify g fun
    | .cells _ t frozen => .cells cs t frozen
    | o => o
  let h1 := put w0.heap 1 (Lib.asciiSpaceTab.map fun z => Value.int .u8 z).toArray
  let h2 := put h1 2 (Lib.firstTab.map fun z => Value.int .u8 z).toArray
  let h3 := put h2 3 ((List.range 16).flatMap fun i => [Value.int .u8 (Lib.accLo i), Value.int .u8 (Lib.accHi i)]).toArray
  let h4 := put h3 4 #[.pointer (some ⟨N + 1, 0, none⟩)]
  { w0 with heap := h4 }
noncomputable abbrev N0 : Nat := (World.settled Tryz.prog default).heap.size
theorem piece (os : Os) (args : Array Value) : LaidIn Tryz.prog ((laidWorld os).forCall (fun _ _ => 0) ⟨#[], args, []⟩).memory Rows.readReaderRow.laid [1, 2, 3, 4, N0, N0 + 1] :=
  LaidIn.of_run [1, 2, 3, 4, N0, N0 + 1] 8 (by kernel_rfl) (by kernel_rfl) (by kernel_rfl) (by kernel_rfl)
theorem laid_met (os : Os) (args : Array Value) : laidMetH Tryz.prog Rows.readReaderRow.laid ((laidWorld os).forCall (fun _ _ => 0) ⟨#[], args, []⟩).memory :=
  laidMetH_of_parts (piece os args).met (by kernel_rfl)
theorem gSpType : (Tryz.prog.globals[1]?).map (·.type) = some 125 := by kernel_rfl
theorem ground_of {W : World} (hL : laidMetH Tryz.prog Rows.readReaderRow.laid W) (hsh : W.ShapedOpen Tryz.prog) : Gd W.heap.size W := by
  rw [Go.MakeChecks.laidMetH_plain _ _ _ (by kernel_rfl)] at hL
  have hm : ∃ m, W.cell? ⟨0, 0, none⟩ = some (.int .i64 m) := Tryz.laysM144.s1_3 W hsh
  have hv := Lib.laidMet.reads hL (n := "strings.asciiSpace") (d := Rows.laid_strings_asciiSpace) (.tail _ (.tail _ (.head _)))
  obtain ⟨g', t', cs, fuel, p, hg', ht', hvar, hd⟩ := hv
  obtain rfl := Option.some.inj (gSp.symm.trans hg')
  obtain rfl := Option.some.inj (gSpType.symm.trans ht')
  have hd' : DataW.trod (fun _ => ()) Tryz.prog W 0 (fun _ => true) false fuel 125 cs.toList = some (tabData .u8 Lib.asciiSpaceTab, p) := by
    rw [hd]
    exact congrArg some (Prod.ext (by kernel_rfl) rfl)
  have htab : Lib.TabIs Tryz.prog W "strings.asciiSpace" .u8 Lib.asciiSpaceTab := by
    unfold TabIs
    rw [hvar, ← cells_of_tab (n := 256) (e := 5) Tryz.underlying125 Tryz.underlying5 (by kernel_rfl) (by kernel_rfl) hd']
  have h3 : Lib.VarReads Tryz.prog W "unicode/utf8.first" Lib.firstData := by
    have := Lib.laidMet.reads hL (n := "unicode/utf8.first") (d := Rows.laid_unicode_utf8_first) (.tail _ (.tail _ (.tail _ (.head _))))
    exact (show Rows.laid_unicode_utf8_first = Lib.firstData by kernel_rfl) ▸ this
  have h4 : Lib.VarReads Tryz.prog W "unicode/utf8.acceptRanges" Lib.acceptData := by
    have := Lib.laidMet.reads hL (n := "unicode/utf8.acceptRanges") (d := Rows.laid_unicode_utf8_acceptRanges) (.head _)
    exact (show Rows.laid_unicode_utf8_acceptRanges = Lib.acceptData by kernel_rfl) ▸ this
  have hu : Lib.Utf8Tabs 2 3 W := utf8Tabs_of_reads (ρ := Tryz.lays260_ren) Tryz.lays260 ⟨by kernel_rfl, by kernel_rfl, by kernel_rfl, by kernel_rfl, by kernel_rfl, by kernel_rfl, by kernel_rfl⟩ h3 h4
  refine ⟨?_, hm, htab, hu⟩
  have h1 := (hu.2 0 (by omega)).1
  rw [cell?_eq] at h1
  rcases Nat.lt_or_ge 3 W.heap.size with h | h
  · exact h
  · unfold cellAt at h1
    rw [Array.getElem?_eq_none h] at h1
    cases h1
theorem tab : TabOk Gd Tryz.prog T := tabOk gdOk fun f n k h => by
  unfold Te at h
  split at h
  · rename_i hb
    cases h
    rw [Nat.eq_of_beq_eq_true hb]
    exact ext6
  split at h
  · rename_i hb
    cases h
    rw [Nat.eq_of_beq_eq_true hb]
    exact ext105
  split at h
  · rename_i hb
    cases h
    rw [Nat.eq_of_beq_eq_true hb]
    exact ext106
  split at h
  · rename_i hb
    cases h
    rw [Nat.eq_of_beq_eq_true hb]
    exact ext115
  split at h
  · rename_i hb
    cases h
    rw [Nat.eq_of_beq_eq_true hb]
    exact ext157
  split at h
  · rename_i hb
    cases h
    rw [Nat.eq_of_beq_eq_true hb]
    exact ext113
  split at h
  · rename_i hb
    cases h
    rw [Nat.eq_of_beq_eq_true hb]
    exact fld114
  · cases h
theorem rvl_of {h : Array Go.Obj} {I J : Nat → Prop} {σ : Store} {ρ : Rho} (hm : ∀ b, I b → J b) : ∀ (ts : List Tree) (vs : List Value), RTL h I ts vs → RVL h J σ ρ (ts.map .tr) vs
  | [], vs, r => by simpa [RTL, RVL] using r
  | t :: ts, vs, r => by
    simp only [RTL] at r
    obtain ⟨x, xs, rfl, r1, r2⟩ := r
    simp only [List.map_cons, RVL, RV]
    exact ⟨x, xs, rfl, RT_mono (fun b hb => ⟨hm b hb, rfl⟩) _ _ r1, rvl_of hm ts xs r2⟩
theorem law_calls {f : FuncId} {ts : List Tree} {vs : List Value} {w : World} (hg : Gd w.heap.size w) (hfn : FnOk Tryz.prog f) (h : ∃ v σ', callL T f (ts.map .tr) [] = some (v, σ') ∧ v = .tr (.sc (.bool true))) (hr : RTL w.heap (fun b => b < w.heap.size) ts vs) :
    Calls Tryz.prog f vs.toArray w fun e w' => e = .returned (.bool true) ∧ Below w.heap.size w w' := by
  obtain ⟨v, σ', h, rfl⟩ := h
  obtain ⟨m, h⟩ := callL_some.1 h
  rcases (am_ok mixed tab m).2 w.heap.size w hg _ _ _ _ _ h (fun b => b < w.heap.size) (fun _ => none) w vs (Inv.empty _ (fun b hb => hb)) (rvl_of (fun b hb => .inl hb) ts vs hr) with ⟨_, hc⟩ | ⟨x, w', hc, _⟩
  · refine hc.mono ?_
    rintro e w' ⟨x, rfl, ρ, hI, _, hr⟩
    simp only [RV, RT] at hr
    subst hr
    exact ⟨rfl, hI.below⟩
  · rw [run_callFunc hfn] at hc
    cases hc
end Go.Proofs.YtolhjhjlfgfifaaGreatDoor.AM.Rd
end
section
set_option maxRecDepth 1000000
set_option linter.unusedVariables false
set_option linter.unusedSimpArgs false
namespace Go.Proofs.YtolhjhjlfgfifaaGreatDoor.AM.Rd
open Go.Proofs Go.RowKit
section
variable {H : Type} {enc : TypeId × Value → H} {w : World}
theorem rtl_one {h : Array Go.Obj} {I : Nat → Prop} {t : Tree} {v : Value} (r : RTL h I [t] [v]) : RT h I t v := by
  simp only [RTL] at r
  obtain ⟨y, ys, h, r, _⟩ := r
  cases h
  exact r
theorem arg_bytes {r : Reach} {b0 : Nat} {v : Value} {d : DataW H} {ps : List MemPlace} (hval : Value.okWide Tryz.prog w r b0 24 v) (hd : DataW.Trod enc Tryz.prog w 0 (fun _ => true) true 24 v d ps) :
    ∃ (l : List UInt8) (t : Tree), IsSl byE l (.tr t) ∧ RT w.heap (fun b => b < w.heap.size) t v := by
  obtain ⟨x, hx, hr⟩ := Opens.one Tryz.underlying24 hval hd (fun n => opens_bytes Tryz.underlying24 Tryz.underlying5 (by kernel_rfl))
  rcases x with _ | ⟨l, c⟩
  · exact ⟨[], _, .inl ⟨rfl, rfl⟩, rtl_one hr⟩
  · simp only [slE] at hr
    exact ⟨l, _, .inr ⟨some c, rfl⟩, rtl_one hr⟩
theorem laidOut : laidOutB Tryz.prog = true := by kernel_rfl
theorem law_reader {b : List UInt8} {tb : Tree} (hb : IsSl byE b (.tr tb)) (k : Int) : ∃ v σ', callL T 4 ([tb, Tree.sc (.int .i64 k)].map .tr) [] = some (v, σ') ∧ v = .tr (.sc (.bool true)) := law_readReader hb k
end
end Go.Proofs.YtolhjhjlfgfifaaGreatDoor.AM.Rd
end
