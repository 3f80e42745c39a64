/- the scanner: parts 38, 39, 40, 41, 42, 43, 44, 45, 46. -/
import Derived.Test.YtbdebcmklaooaaaDoorSa26
section
set_option maxRecDepth 1000000
set_option linter.unusedVariables false
set_option linter.unusedSimpArgs false
namespace Go.Proofs.YtbdebcmklaooaaaDoor.AM.Sa
open Go.Proofs
theorem contains_ok (s t : List UInt8) (hs : s.length ≤ 4294967000) (σ : Store) : callL T 31 [sv s, sv t] σ = some (bv (hasL t s), σ) := by
  refine call_ext (k := 0) T31 rfl rfl ?_
  have b4 : Nat.blt s.length 4294967281 = true := Nat.ble_eq_true_of_le (by omega)
  have : argsOf 0 [sv s, sv t] σ = some [.string ⟨⟨s⟩⟩, .string ⟨⟨t⟩⟩] := rfl
  unfold extV
  rw [this]
  simp only [extS, b4, if_true, extR]
theorem hasPre_eq : ∀ (x y : List UInt8), hasPre x y = x.isPrefixOf y
  | [], _ => by simp [hasPre]
  | _ :: _, [] => by simp [hasPre]
  | a :: x, b :: y => by
    simp only [hasPre, List.isPrefixOf, hasPre_eq x y]
    congr 1
    rw [Bool.eq_iff_iff]
    simp [UInt8.toNat_inj]
theorem has_nil {c : UInt8} {t : List UInt8} : hasL (c :: t) [] = false := rfl
theorem has_skip {c : UInt8} {t : List UInt8} : ∀ (w r : List UInt8), c ∉ w → hasL (c :: t) (w ++ r) = hasL (c :: t) r
  | [], r, _ => rfl
  | a :: w, r, h => by
    simp only [List.mem_cons, not_or] at h
    show (hasPre (c :: t) (a :: (w ++ r)) || hasL (c :: t) (w ++ r)) = _
    rw [has_skip w r h.2, hasPre_eq]
    have : (c :: t).isPrefixOf (a :: (w ++ r)) = false := by
      simp [List.isPrefixOf]
      intro h'
      exact absurd h' h.1
    rw [this, Bool.false_or]
theorem pre_sp {c : UInt8} : ∀ (s w r : List UInt8), c ∉ s → c ∉ w → (s ++ [c]).isPrefixOf (w ++ c :: r) = decide (w = s)
  | [], [], r, _, _ => by simp [List.isPrefixOf]
  | [], a :: w, r, _, h => by
    simp only [List.mem_cons, not_or] at h
    simp [List.isPrefixOf]
    exact fun h' => absurd h' h.1
  | a :: s, [], r, h, _ => by
    simp only [List.mem_cons, not_or] at h
    simp [List.isPrefixOf]
    exact fun h' => absurd h'.symm h.1
  | a :: s, b :: w, r, h1, h2 => by
    simp only [List.mem_cons, not_or] at h1 h2
    have := pre_sp s w r h1.2 h2.2
    simp only [List.cons_append, List.isPrefixOf, this]
    rw [Bool.eq_iff_iff]
    simp
    exact fun _ => eq_comm
theorem has_words {c : UInt8} {s : List UInt8} (hs : c ∉ s) : ∀ (ws : List (List UInt8)), (∀ w ∈ ws, c ∉ w) → hasL (c :: s ++ [c]) (c :: ws.flatMap (fun w => w ++ [c])) = isWord ws s
  | [], _ => by
    show (hasPre _ _ || hasL (c :: (s ++ [c])) []) = _
    rw [has_nil, hasPre_eq]
    cases s <;> simp [isWord, List.isPrefixOf]
  | w :: ws, h => by
    have hw := h w (by simp)
    have ih := has_words hs ws (fun x hx => h x (by simp [hx]))
    have e : (w :: ws).flatMap (fun w => w ++ [c]) = w ++ (c :: ws.flatMap (fun w => w ++ [c])) := by simp
    rw [e]
    show (hasPre (c :: (s ++ [c])) (c :: (w ++ (c :: ws.flatMap (fun w => w ++ [c])))) || hasL (c :: (s ++ [c])) (w ++ (c :: ws.flatMap (fun w => w ++ [c])))) = _
    rw [has_skip _ _ hw]
    have ih' : hasL (c :: (s ++ [c])) (c :: ws.flatMap (fun w => w ++ [c])) = isWord ws s := ih
    rw [ih', hasPre_eq]
    simp only [List.isPrefixOf, beq_self_eq_true, Bool.true_and, pre_sp _ _ _ hs hw]
    simp [isWord]
theorem has_one (c : UInt8) : ∀ (s : List UInt8), hasL [c] s = s.any (fun x => x == c)
  | [] => rfl
  | a :: s => by
    show (hasPre [c] (a :: s) || hasL [c] s) = _
    rw [has_one c s, hasPre_eq, List.any_cons]
    congr 1
    rw [Bool.eq_iff_iff]
    simp [List.isPrefixOf]
    exact eq_comm
def wordsT : List UInt8 := 32 :: wordsR.flatMap (fun w => w ++ [32])
theorem words_sp : ∀ w ∈ wordsR, (32 : UInt8) ∉ w ∧ w ≠ [] := by decide
/-- Is it a word? -/
theorem word_ok (s : List UInt8) (hs : s.length ≤ 1000000) (σ : Store) : callL T 14 [sv s] σ = some (bv (isWord wordsR s), σ) := by
  suffices hh : ∃ v σ', callL T 14 [sv s] σ = some (v, σ') ∧ (v = bv (isWord wordsR s) ∧ σ' = σ) by
    obtain ⟨v, σ', h, rfl, rfl⟩ := hh
    exact h
  refine call_shared T14 rfl rfl ?_
  by_cases h0 : s = []
  · subst h0
    have : isWord wordsR [] = false := by decide
    rw [this]
    simp [bytesEq_iff']
  · have hc1 := fun σ => contains_ok s [32] (by omega) σ
    rw [has_one] at hc1
    cases h1 : s.any (fun x => x == 32) with
    | true =>
      rw [h1] at hc1
      have hw : isWord wordsR s = false := by
        unfold isWord
        rw [List.any_eq_false]
        intro w hw
        simp only [decide_eq_true_eq]
        rintro rfl
        obtain ⟨x, hx, hx2⟩ := List.any_eq_true.1 h1
        rw [beq_iff_eq] at hx2
        subst hx2
        exact (words_sp _ hw).1 hx
      rw [hw]
      simp [bytesEq_iff', h0, hc1]
    | false =>
      rw [h1] at hc1
      have hns : (32 : UInt8) ∉ s := by
        intro h
        have := List.any_eq_false.1 h1 32 h
        simp at this
      have hc2 := fun σ => contains_ok wordsT (32 :: (s ++ [32])) (by decide) σ
      have hw := has_words hns wordsR (fun w hw => (words_sp w hw).1)
      have hw' : hasL (32 :: (s ++ [32])) wordsT = isWord wordsR s := hw
      rw [hw'] at hc2
      have hlen1 : ([32] : List UInt8).length + s.length ≤ 2 ^ 62 := by simp; omega
      have ha1 : opBin .other .add (sv [32]) (sv s) = some (sv (32 :: s)) := by
        show (match binStr .add ⟨⟨[32]⟩⟩ ⟨⟨s⟩⟩ with | some v => some (V.tr (.sc v)) | none => none) = _
        simp only [binStr]
        rw [if_pos hlen1]
        rfl
      have ha2 : opBin .other .add (sv (32 :: s)) (sv [32]) = some (sv (32 :: (s ++ [32]))) := by
        show (match binStr .add ⟨⟨32 :: s⟩⟩ ⟨⟨[32]⟩⟩ with | some v => some (V.tr (.sc v)) | none => none) = _
        simp only [binStr]
        rw [if_pos (by simp; omega)]
        rfl
      have hT : wordsT = [32, 98, 114, 101, 97, 107, 32, 99, 97, 115, 101, 32, 99, 104, 97, 110, 32, 99, 111, 110, 115, 116, 32, 99, 111, 110, 116, 105, 110, 117, 101, 32, 100, 101, 102, 97, 117, 108, 116, 32, 100, 101, 102, 101, 114, 32, 101, 108, 115, 101, 32, 102, 97, 108, 108, 116, 104, 114, 111, 117, 103, 104, 32, 102, 111, 114, 32, 102, 117, 110, 99, 32, 103, 111, 32, 103, 111, 116, 111, 32, 105, 102, 32, 105, 109, 112, 111, 114, 116, 32, 105, 110, 116, 101, 114, 102, 97, 99, 101, 32, 109, 97, 112, 32, 112, 97, 99, 107, 97, 103, 101, 32, 114, 97, 110, 103, 101, 32, 114, 101, 116, 117, 114, 110, 32, 115, 101, 108, 101, 99, 116, 32, 115, 116, 114, 117, 99, 116, 32, 115, 119, 105, 116, 99, 104, 32, 116, 121, 112, 101, 32, 118, 97, 114, 32] := by decide
      rw [hT] at hc2
      simp [bytesEq_iff', h0, hc1, ha1, ha2, hc2]
end Go.Proofs.YtbdebcmklaooaaaDoor.AM.Sa
end
section
set_option maxRecDepth 1000000
set_option linter.unusedVariables false
set_option linter.unusedSimpArgs false
namespace Go.Proofs.YtbdebcmklaooaaaDoor.AM.Sa
open Go.Proofs
section
variable {σ : Store} {id : Nat} {b : List UInt8} {a : Nat} {need : Bool} {l : List Tk} {bt lv : V}
end
end Go.Proofs.YtbdebcmklaooaaaDoor.AM.Sa
end
section
set_option maxRecDepth 1000000
set_option linter.unusedVariables false
set_option linter.unusedSimpArgs false
namespace Go.Proofs.YtbdebcmklaooaaaDoor.AM.Sa
open Go.Proofs
section
variable {σ : Store} {id : Nat} {b : List UInt8} {a : Nat} {l : List Tk} {bt lv : V}
end
end Go.Proofs.YtbdebcmklaooaaaDoor.AM.Sa
end
section
set_option maxRecDepth 1000000
set_option linter.unusedVariables false
set_option linter.unusedSimpArgs false
namespace Go.Proofs.YtbdebcmklaooaaaDoor.AM.Sa
open Go.Proofs
section
variable {b : List UInt8} {tb : Tree} (hb : IsSl byE b (.tr tb)) (hl : b.length ≤ 1000000)
include hb hl
end
end Go.Proofs.YtbdebcmklaooaaaDoor.AM.Sa
end
section
set_option maxRecDepth 1000000
set_option linter.unusedVariables false
set_option linter.unusedSimpArgs false
namespace Go.Proofs.YtbdebcmklaooaaaDoor.AM.Sa
open Go.Proofs
def isT : Option (V × Store) → Bool | some (.tr (.sc (.bool true)), _) => true | _ => false
theorem begun_run : isT (callA T 2000 7 [] []) = true := by decide +kernel
theorem begun_ok (σ : Store) : callL T 7 [] σ = some (bv true, σ) := by
  have h := begun_run
  unfold isT at h
  split at h
  · rename_i σ1 e
    obtain ⟨t, ht, hr⟩ := iso_of_run (ts := []) T7 rfl e
    cases ht
    exact hr σ
  · cases h
end Go.Proofs.YtbdebcmklaooaaaDoor.AM.Sa
end
section
set_option maxRecDepth 1000000
set_option linter.unusedVariables false
set_option linter.unusedSimpArgs false
namespace Go.Proofs.YtbdebcmklaooaaaDoor.AM.Sa
open Go.Proofs
/-- Bytes that are gathered, wherever they lie. -/
def OutQ (o : List UInt8) (v : V) (σ : Store) : Prop := (o = [] ∧ v = nilSl) ∨ (0 < o.length ∧ ∃ m g, v = .own m g 0 o.length 1 none ∧ σ[m]? = some (.row (cK .u8 (o.map (·.toNat))) g))
theorem outq_app {o m : List UInt8} {v x : V} {σ : Store} (h : OutQ o v σ) (hx : IsSl byE m x) (hm : 0 < m.length) (hl : o.length ≤ 1000000) (hl2 : m.length ≤ 1000000) : ∃ v' σ', opAppend 1 1 v x σ = some (v', σ') ∧ OutQ (o ++ m) v' σ' := by
  have hx' := by_isSl hx
  have hml : (m.map (·.toNat)).length = m.length := List.length_map ..
  rcases h with ⟨rfl, rfl⟩ | ⟨h0, k, g, rfl, hs⟩
  · have := app_nil (σ := σ) (b := 1) hx' (by rw [hml]; exact hm) (room_ok (by omega) (by omega))
    refine ⟨_, _, this, .inr ⟨by simpa using hm, σ.length, 0, ?_, ?_⟩⟩
    · simp
    · simp
  · have := app_own (id := k) (n := o.length) (b := 1) (l := o.map (·.toNat)) hs (by simp) hx' (by rw [hml]; exact hm) (room_ok (by omega) (by omega)) (room_ok (by simpa using hl) (by omega))
    refine ⟨_, _, this, .inr ⟨by rw [List.length_append]; omega, k, g + 1, ?_, ?_⟩⟩
    · simp
    · rw [List.getElem?_set_self (List.getElem?_eq_some_iff.1 hs).1]
      simp
theorem cK_bC (o : List UInt8) : cK .u8 (o.map (·.toNat)) = bC o := by
  unfold bC
  rw [cK_trees, by_nE]
theorem outq_str {o : List UInt8} {v : V} {σ : Store} (h : OutQ o v σ) : opConv .bytesStr v σ = some (sv o, σ) := by
  rcases h with ⟨rfl, rfl⟩ | ⟨h0, k, g, rfl, hs⟩
  · rfl
  · rw [cK_bC] at hs
    have e := own_el (cap := none) (lo := 0) (n := o.length) hs (by omega)
    rw [List.drop_zero, List.take_length] at e
    exact (bs_own e).1
def okU8 (op : BinOp) (x y z : Nat) : Bool := match opBin .other op (.tr (.sc (.int .u8 (x : Int)))) (.tr (.sc (.int .u8 (y : Int)))) with | some (.tr (.sc (.int .u8 r))) => r == (z : Int) | _ => false
theorem u8_of {op : BinOp} {x y z : Nat} (h : okU8 op x y z = true) : opBin .other op (.tr (.sc (.int .u8 (x : Int)))) (.tr (.sc (.int .u8 (y : Int)))) = some (.tr (.sc (.int .u8 (z : Int)))) := by
  unfold okU8 at h
  split at h
  · rename_i r hr
    rw [beq_iff_eq] at h
    rw [hr, h]
  · cases h
theorem or192 {x : Nat} (h : x < 32) : opBin .other .or (.tr (.sc (.int .u8 192))) (.tr (.sc (.int .u8 (x : Int)))) = some (.tr (.sc (.int .u8 ((192 + x : Nat) : Int)))) := by
  have : (List.range 32).all (fun x => okU8 .or 192 x (192 + x)) = true := by decide +kernel
  exact u8_of (List.all_eq_true.1 this x (by simpa using h))
theorem or224 {x : Nat} (h : x < 16) : opBin .other .or (.tr (.sc (.int .u8 224))) (.tr (.sc (.int .u8 (x : Int)))) = some (.tr (.sc (.int .u8 ((224 + x : Nat) : Int)))) := by
  have : (List.range 16).all (fun x => okU8 .or 224 x (224 + x)) = true := by decide +kernel
  exact u8_of (List.all_eq_true.1 this x (by simpa using h))
theorem or128 {x : Nat} (h : x < 64) : opBin .other .or (.tr (.sc (.int .u8 128))) (.tr (.sc (.int .u8 (x : Int)))) = some (.tr (.sc (.int .u8 ((128 + x : Nat) : Int)))) := by
  have : (List.range 64).all (fun x => okU8 .or 128 x (128 + x)) = true := by decide +kernel
  exact u8_of (List.all_eq_true.1 this x (by simpa using h))
theorem and63 {x : Nat} (h : x < 256) : opBin .other .and (.tr (.sc (.int .u8 (x : Int)))) (.tr (.sc (.int .u8 63))) = some (.tr (.sc (.int .u8 ((x % 64 : Nat) : Int)))) := by
  have : (List.range 256).all (fun x => okU8 .and x 63 (x % 64)) = true := by decide +kernel
  exact u8_of (List.all_eq_true.1 this x (by simpa using h))
theorem shr6 (c : Nat) : opBin .other .shr (.tr (.sc (.int .i32 (c : Int)))) (.tr (.sc (.int .u64 6))) = some (.tr (.sc (.int .i32 ((c / 64 : Nat) : Int)))) := by
  rw [bin_shr _ _ _ (by omega)]
  congr 4
  exact Int.fdiv_eq_ediv_of_nonneg _ (by decide)
theorem shr12 (c : Nat) : opBin .other .shr (.tr (.sc (.int .i32 (c : Int)))) (.tr (.sc (.int .u64 12))) = some (.tr (.sc (.int .i32 ((c / 4096 : Nat) : Int)))) := by
  rw [bin_shr _ _ _ (by omega)]
  congr 4
  exact Int.fdiv_eq_ediv_of_nonneg _ (by decide)
theorem u8w (c : Nat) : IntKind.u8.wrap (c : Int) = ((c % 256 : Nat) : Int) := by rw [IntKind.wrap_u8]; simp
theorem u8wL {c : Nat} (h : c < 256) : IntKind.u8.wrap (c : Int) = (c : Int) := by rw [u8w, Nat.mod_eq_of_lt h]
theorem u32w {c : Nat} (h : c < 4294967296) : IntKind.u32.wrap (c : Int) = (c : Int) := by rw [wu32 (by omega) (by omega)]
theorem hofn (n : Nat) (h : n < 256) : ((UInt8.ofNat n).toNat : Int) = (n : Int) := by rw [UInt8.toNat_ofNat', Nat.mod_eq_of_lt h]
theorem nonascii_ok {o : List UInt8} {v : V} {σ : Store} (h : OutQ o v σ) (hl : o.length ≤ 1000000) {c : Nat} (h0 : 128 ≤ c) (hc : c < 65536) (hs : ¬ (55296 ≤ c ∧ c < 57344)) : ∃ v' σ', callL T 48 [v, .tr (.sc (.int .i32 (c : Int)))] σ = some (v', σ') ∧ OutQ (o ++ rune8R c) v' σ' := by
  refine call_shared T48 rfl rfl ?_
  have wu := u32w (c := c) (by omega)
  have w8 := u8w c
  have a6 := and63 (x := c % 256) (by omega)
  rw [show c % 256 % 64 = c % 64 by omega] at a6
  have o6 := or128 (x := c % 64) (by omega)
  obtain ⟨M, hM⟩ : ∃ M, rune8R c = M := ⟨_, rfl⟩
  rw [hM]
  unfold rune8R at hM
  rw [if_neg (by omega)] at hM
  by_cases h1 : c < 2048
  · have h1z : (c : Int) ≤ 2047 := by omega
    have h1n : c ≤ 2047 := by omega
    rw [if_pos h1] at hM
    have w6 := u8wL (c := c / 64) (by omega)
    have o1 := or192 (x := c / 64) (by omega)
    obtain ⟨v', σ', hap, hout⟩ := outq_app h (byT_sl [.ofNat (192 + c / 64), .ofNat (128 + c % 64)]) (by simp) hl (by simp)
    rw [hM] at hout hap
    have bs := fun σ => bs2 (x := ((192 + c / 64 : Nat) : Int)) (y := ((128 + c % 64 : Nat) : Int)) (c := .ofNat (192 + c / 64)) (d := .ofNat (128 + c % 64)) (hofn _ (by omega)).symm (hofn _ (by omega)).symm σ
    simp only [hM] at bs
    simp [-Int.natCast_add, -Int.natCast_emod, -Int.natCast_ediv, wu, h1z, h1n, shr6, w6, w8, o1, a6, o6, bs, hap]
    exact hout
  · have h1z : ¬ (c : Int) ≤ 2047 := by omega
    have h1n : ¬ c ≤ 2047 := by omega
    rw [if_neg h1] at hM
    have w6 := u8w (c / 64)
    have w12 := u8wL (c := c / 4096) (by omega)
    have o1 := or224 (x := c / 4096) (by omega)
    have a7 := and63 (x := c / 64 % 256) (by omega)
    rw [show c / 64 % 256 % 64 = c / 64 % 64 by omega] at a7
    have o7 := or128 (x := c / 64 % 64) (by omega)
    obtain ⟨v', σ', hap, hout⟩ := outq_app h (byT_sl [.ofNat (224 + c / 4096), .ofNat (128 + c / 64 % 64), .ofNat (128 + c % 64)]) (by simp) hl (by simp)
    rw [hM] at hout hap
    have bs := fun σ => bs3 (x := ((224 + c / 4096 : Nat) : Int)) (y := ((128 + c / 64 % 64 : Nat) : Int)) (z := ((128 + c % 64 : Nat) : Int)) (c := .ofNat (224 + c / 4096)) (d := .ofNat (128 + c / 64 % 64)) (e := .ofNat (128 + c % 64)) (hofn _ (by omega)).symm (hofn _ (by omega)).symm (hofn _ (by omega)).symm σ
    simp only [hM] at bs
    by_cases h2 : c < 55296
    · have h2z : (c : Int) < 55296 := by omega
      simp [-Int.natCast_add, -Int.natCast_emod, -Int.natCast_ediv, k48_6, wu, h1z, h1n, h2, h2z, shr6, shr12, w6, w8, w12, o1, a6, o6, a7, o7, bs, hap]
      exact hout
    · have h2z : ¬ (c : Int) < 55296 := by omega
      have h3z : (57343 : Int) < c := by omega
      have h3n : 57343 < c := by omega
      have h4z : (c : Int) ≤ 65535 := by omega
      have h4n : c ≤ 65535 := by omega
      simp [-Int.natCast_add, -Int.natCast_emod, -Int.natCast_ediv, k48_6, wu, h1z, h1n, h2, h2z, h3z, h3n, h4z, h4n, shr6, shr12, w6, w8, w12, o1, a6, o6, a7, o7, bs, hap]
      exact hout
theorem appendRune_ok {o : List UInt8} {v : V} {σ : Store} (h : OutQ o v σ) (hl : o.length ≤ 1000000) {c : Nat} (hc : c < 65536) (hs : ¬ (55296 ≤ c ∧ c < 57344)) : ∃ v' σ', callL T 30 [v, .tr (.sc (.int .i32 (c : Int)))] σ = some (v', σ') ∧ OutQ (o ++ rune8R c) v' σ' := by
  refine call_shared T30 rfl rfl ?_
  have wu := u32w (c := c) (by omega)
  by_cases h1 : c < 128
  · have h1z : (c : Int) ≤ 127 := by omega
    have h1n : c ≤ 127 := by omega
    have w8 := u8wL (c := c) (by omega)
    obtain ⟨M, hM⟩ : ∃ M, rune8R c = M := ⟨_, rfl⟩
    rw [hM]
    have hM : [.ofNat c] = M := by rw [← hM]; unfold rune8R; rw [if_pos h1]
    obtain ⟨v', σ', hap, hout⟩ := outq_app h (byT_sl [.ofNat c]) (by simp) hl (by simp)
    rw [hM] at hout hap
    have bs := fun σ => bs1 (x := (c : Int)) (c := .ofNat c) (hofn _ (by omega)).symm σ
    simp only [hM] at bs
    simp [wu, h1z, h1n, w8, bs, hap]
    exact hout
  · have h1z : ¬ (c : Int) ≤ 127 := by omega
    have h1n : ¬ c ≤ 127 := by omega
    obtain ⟨v', σ', hap, hout⟩ := nonascii_ok h hl (by omega) hc hs
    simp [k30_3, wu, h1z, h1n, hap]
    exact hout
/-- A hexadecimal digit, as the program tells it. -/
def okHexD (n : Nat) : Bool := !(inB 16 (UInt8.ofNat n)) || (if isD (UInt8.ofNat n) then IntKind.i32.wrap (IntKind.u8.wrap ((n : Int) - 48)) == dv (UInt8.ofNat n) else IntKind.i32.wrap (IntKind.i32.wrap (IntKind.u8.wrap (((UInt8.ofNat n ||| 32).toNat : Int) - 97)) + 10) == dv (UInt8.ofNat n))
theorem hexD_all : (List.range 256).all okHexD = true := by decide +kernel
theorem hexD (c : UInt8) (h : inB 16 c = true) : (isD c = true → IntKind.i32.wrap (IntKind.u8.wrap ((c.toNat : Int) - 48)) = dv c) ∧ (isD c = false → IntKind.i32.wrap (IntKind.i32.wrap (IntKind.u8.wrap (((c ||| 32).toNat : Int) - 97)) + 10) = dv c) := by
  have h1 := List.all_eq_true.1 hexD_all c.toNat (by simpa using c.toNat_lt)
  unfold okHexD at h1
  rw [UInt8.ofNat_toNat, h] at h1
  constructor
  · intro h2
    rw [h2] at h1
    simpa using h1
  · intro h2
    rw [h2] at h1
    simpa using h1
theorem value_ok (s : List UInt8) (hs : s.length ≤ 4) (hx : ∀ c ∈ s, inB 16 c = true) (σ : Store) : callL T 29 [sv s] σ = some (.tr (.sc (.int .i32 (hexN s : Int))), σ) := by
  suffices hh : ∃ t, (∀ σ, callL T 29 ([Tree.sc (.string ⟨⟨s⟩⟩)].map .tr) σ = some (.tr t, σ)) ∧ t = .sc (.int .i32 (hexN s : Int)) by
    obtain ⟨t, h, rfl⟩ := hh
    exact h σ
  refine call_iso T29 rfl rfl ?_
  have ls : ∀ σ, opLen 0 (sv s) σ = some (nv .i64 s.length) := fun _ => rfl
  have hbd : ∀ j, j ≤ s.length → hexN (s.take j) < 65536 := by
    intro j hj
    have h := hexN_lt j (s.take j) (by rw [List.length_take]; omega) (fun c hc => hx c (List.mem_of_mem_take hc))
    have : 16 ^ j ≤ 16 ^ 4 := Nat.pow_le_pow_right (by omega) (by omega)
    omega
  obtain ⟨I, hI⟩ : ∃ I : Nat → St → Prop, I = fun j st => j ≤ s.length ∧ ∃ e L, st = ⟨e, L, []⟩ ∧ look e 0 = some (sv s) ∧ look e 3 = some (.tr (.sc (.int .i32 (hexN (s.take j) : Int)))) ∧ look e 8 = some (nv .i64 s.length) ∧ look e 9 = some (nv .i64 j) := ⟨_, rfl⟩
  simp [ls]
  refine wpc_up s.length I (by rw [hI]; exact ⟨by omega, _, _, rfl, by simp, by simp [hexN], by simp, by simp⟩) ?_
  intro j st hst
  rw [hI] at hst
  obtain ⟨hj, e, L, rfl, h0, h3, h8, h9⟩ := hst
  by_cases hlt : j < s.length
  · have hltz : (j : Int) < s.length := by omega
    obtain ⟨c, hc⟩ := some_of hlt
    have hcx := hx c (List.mem_of_getElem? hc)
    have hist : opIndexStr (sv s) (nv .i64 j) = some (u8v c) := by
      simp only [opIndexStr, asIdx_nat, hc]
      rfl
    have hd1 := hexD c hcx
    have hdv := inB_dv hcx
    have hsn : hexN (s.take (j + 1)) = 16 * hexN (s.take j) + (dv c).toNat := by rw [take_snoc hc, hexN_snoc]
    have hb1 := hbd j hj
    obtain ⟨V0, hV0⟩ : ∃ V0, hexN (s.take j) = V0 := ⟨_, rfl⟩
    rw [hV0] at h3 hsn hb1
    have wm : IntKind.i32.wrap (16 * (V0 : Int)) = 16 * (V0 : Int) := by rw [IntWalk.i32_in _ ⟨by omega, by omega⟩]
    have wa : IntKind.i32.wrap (16 * (V0 : Int) + dv c) = 16 * (V0 : Int) + dv c := by rw [IntWalk.i32_in _ ⟨by omega, by omega⟩]
    have w6 : IntKind.i64.wrap ((j : Int) + 1) = (j : Int) + 1 := w64z (by omega) (by omega)
    have hdec := fun σ => decimal_ok c σ
    have fin : ∀ e' L', look e' 0 = some (sv s) → look e' 3 = some (.tr (.sc (.int .i32 (16 * (V0 : Int) + dv c)))) → look e' 8 = some (nv .i64 s.length) → look e' 9 = some (iv ((j : Int) + 1)) → j < s.length ∧ I (j + 1) ⟨e', L', []⟩ := by
      intro e' L' g0 g3 g8 g9
      refine ⟨hlt, ?_⟩
      rw [hI]
      refine ⟨by omega, _, _, rfl, g0, ?_, g8, by rw [g9]; simp⟩
      rw [g3, hsn]
      congr 4
      omega
    cases hD : isD c with
    | true =>
      rw [hD] at hdec
      have e1 := hd1.1 hD
      simp [k29_3, k29_5, k29_10, k29_11, h0, h3, h8, h9, hltz, hlt, hist, hdec, e1, wm, wa, w6]
      refine (fin _ _ ?_ ?_ ?_ ?_).2 <;> simp [h0, h3, h8, h9]
    | false =>
      rw [hD] at hdec
      have e1 := hd1.2 hD
      have o1 := or32 c
      simp [-UInt8.toNat_or, k29_3, k29_5, k29_10, k29_11, h0, h3, h8, h9, hltz, hlt, hist, hdec, o1, e1, wm, wa, w6]
      refine (fin _ _ ?_ ?_ ?_ ?_).2 <;> simp [h0, h3, h8, h9]
  · have hltz : ¬ (j : Int) < s.length := by omega
    have e : s.take j = s := List.take_of_length_le (by omega)
    rw [e] at h3
    simp [k29_3, k29_12, h0, h3, h8, h9, hltz, hlt]
end Go.Proofs.YtbdebcmklaooaaaDoor.AM.Sa
end
section
set_option maxRecDepth 1000000
set_option linter.unusedVariables false
set_option linter.unusedSimpArgs false
namespace Go.Proofs.YtbdebcmklaooaaaDoor.AM.Sa
open Go.Proofs
theorem utfN_tail {s : List UInt8} {n v l : Nat} (h : utfN s n v l ≠ 0) : ∀ j c, 1 ≤ j → j < n → s[j]? = some c → c.toNat / 64 = 2 := by
  intro j c h1 h2 hc
  unfold utfN at h
  split at h
  · exact absurd rfl h
  · split at h
    · exact absurd rfl h
    · rename_i hall
      have hall' : ((s.drop 1).take (n - 1)).all contB = true := by simpa using hall
      have hm : ((s.drop 1).take (n - 1))[j - 1]? = some c := by
        rw [List.getElem?_take, if_pos (by omega), List.getElem?_drop, show 1 + (j - 1) = j by omega]
        exact hc
      have := List.all_eq_true.1 hall' c (List.mem_of_getElem? hm)
      rw [cont_iff', decide_eq_true_eq] at this
      exact this
theorem utfN_is {s : List UInt8} {n v l : Nat} (h : utfN s n v l ≠ 0) (hn : 0 < n) : utfN s n v l = n := by
  rcases (utfN_le (s := s) (n := n) (v := v) (l := l) hn).2 with h1 | h1
  · exact absurd h1 h
  · exact h1
theorem utfR_tail {s : List UInt8} (h : utfR s ≠ 0) : ∀ j c, 1 ≤ j → j < utfR s → s[j]? = some c → c.toNat / 64 = 2 := by
  intro j c h1 h2 hc
  unfold utfR at h h2
  split at h
  · rename_i h0
    rw [if_pos h0] at h2
    omega
  · rename_i h0
    rw [if_neg h0] at h2
    split at h
    · rename_i h0
      rw [if_pos h0, utfN_is h (by omega)] at h2
      exact utfN_tail h j c h1 h2 hc
    · rename_i h0
      rw [if_neg h0] at h2
      split at h
      · rename_i h0
        rw [if_pos h0, utfN_is h (by omega)] at h2
        exact utfN_tail h j c h1 h2 hc
      · rename_i h0
        rw [if_neg h0] at h2
        split at h
        · rename_i h0
          rw [if_pos h0, utfN_is h (by omega)] at h2
          exact utfN_tail h j c h1 h2 hc
        · exact absurd rfl h
theorem textG_pos {q : UInt8} {s : List UInt8} {n : Nat} {o : List UInt8} (h : textG q s = some (n, o)) : 1 ≤ n := by
  by_cases hs : s = []
  · subst hs; rw [textG_nil] at h; cases h
  · by_cases hq : hd s 0 = q
    · rw [textG_end hs hq] at h
      cases h
      omega
    · cases hst : stepR q s with
      | none => rw [textG_bad hs hq hst] at h; cases h
      | some x =>
        obtain ⟨n', o'⟩ := x
        have := stepR_le hs hst
        rw [textG_step hs hq hst] at h
        cases hg : textG q (s.drop n') with
        | none => rw [hg] at h; cases h
        | some y =>
          rw [hg] at h
          simp only [comb, Option.map_some, Option.some.injEq, Prod.mk.injEq] at h
          omega
/-- One step of a text. -/
theorem textG_one {q : UInt8} {s : List UInt8} {n : Nat} {o : List UInt8} (h : textG q s = some (n, o)) (hq : hd s 0 ≠ q) : s ≠ [] ∧ ∃ n1 o1 n2 o2, stepR q s = some (n1, o1) ∧ textG q (s.drop n1) = some (n2, o2) ∧ n = n1 + n2 ∧ o = o1 ++ o2 := by
  have hs : s ≠ [] := by rintro rfl; rw [textG_nil] at h; cases h
  refine ⟨hs, ?_⟩
  cases hst : stepR q s with
  | none => rw [textG_bad hs hq hst] at h; cases h
  | some x =>
    obtain ⟨n', o'⟩ := x
    rw [textG_step hs hq hst] at h
    cases hg : textG q (s.drop n') with
    | none => rw [hg] at h; cases h
    | some y =>
      rw [hg] at h
      simp only [comb, Option.map_some, Option.some.injEq, Prod.mk.injEq] at h
      exact ⟨n', o', y.1, y.2, by first | rfl | exact hst, by first | rfl | exact hg, h.1.symm, h.2.symm⟩
/-- A raw text says its bytes less the carriage returns. -/
theorem raw_text : ∀ (m : Nat) (s : List UInt8) {n : Nat} {o : List UInt8}, s.length ≤ m → textG 96 s = some (n, o) → o = (s.take (n - 1)).filter (fun b => !(b == 13))
  | 0, s, n, o, hm, h => by
    obtain rfl := List.length_eq_zero_iff.1 (show s.length = 0 by omega)
    rw [textG_nil] at h
    cases h
  | m + 1, s, n, o, hm, h => by
    by_cases hq : hd s 0 = 96
    · have hs : s ≠ [] := by rintro rfl; rw [textG_nil] at h; cases h
      rw [textG_end hs hq] at h
      cases h
      simp
    · obtain ⟨hs, n1, o1, n2, o2, hst, hg, rfl, rfl⟩ := textG_one h hq
      have hle := stepR_le hs hst
      have hp := textG_pos hg
      have ih := raw_text m (s.drop n1) (by rw [List.length_drop]; omega) hg
      have e : s.take (n1 + n2 - 1) = s.take n1 ++ (s.drop n1).take (n2 - 1) := by
        rw [show n1 + n2 - 1 = n1 + (n2 - 1) by omega, List.take_add]
      rw [e, List.filter_append, ← ih]
      congr 1
      unfold stepR at hst
      rw [if_neg (by intro h; exact absurd h.1 (by decide)), if_neg (by intro h; exact absurd h.1 (by decide))] at hst
      split at hst
      · cases hst
      · rename_i hu
        simp only [Option.some.injEq, Prod.mk.injEq] at hst
        obtain ⟨rfl, rfl⟩ := hst
        have hmem : ∀ c ∈ (s.take (utfR s)).drop 1, c ≠ 13 := by
          intro c hc
          obtain ⟨j, hj⟩ := List.mem_iff_getElem?.1 hc
          rw [List.getElem?_drop, List.getElem?_take] at hj
          split at hj
          · rename_i hlt
            have := utfR_tail hu (1 + j) c (by omega) hlt hj
            rintro rfl
            exact absurd this (by decide)
          · cases hj
        obtain ⟨a, r, hr⟩ : ∃ a r, s.take (utfR s) = a :: r := List.exists_cons_of_ne_nil (by
          intro h
          have := congrArg List.length h
          rw [List.length_take] at this
          simp at this
          rcases this with h | h
          · exact hu h
          · exact hs h)
        have ha : hd s 0 = a := by
          obtain ⟨b, s', rfl⟩ := List.exists_cons_of_ne_nil hs
          cases hu' : utfR (b :: s') with
          | zero => exact absurd hu' hu
          | succ k => rw [hu', List.take_succ_cons] at hr; cases hr; rfl
        rw [hr, List.drop_succ_cons, List.drop_zero] at hmem
        rw [ha, hr, List.filter_cons]
        have hf : r.filter (fun b => !(b == 13)) = r := List.filter_eq_self.2 (fun c hc => by simpa using hmem c hc)
        rw [hf]
        by_cases h13 : a = 13
        · rw [if_neg (by simp [h13])]
          have hu1 : utfR s = 1 := by unfold utfR; rw [ha, h13]; rfl
          have hrl := congrArg List.length hr
          rw [hu1, List.length_take] at hrl
          simp only [List.length_cons] at hrl
          have : r = [] := List.length_eq_zero_iff.1 (by omega)
          simp [h13, this]
        · rw [if_pos (.inr h13)]
          simp [h13]
/-- What a literal says. -/
def valueR (s : List UInt8) : Option (List UInt8) :=
  if s = [] ∨ (hd s 0 ≠ 34 ∧ hd s 0 ≠ 96) then none else match textR s with | some (n, o) => if n = s.length then some o else none | none => none
def valT : Option (List UInt8) → Tree
  | none => .tup [strT [], .sc (.bool false)]
  | some o => .tup [strT o, .sc (.bool true)]
theorem istr_ok {s : List UInt8} {i : Nat} {c : UInt8} (h : s[i]? = some c) {z : Int} (hz : z = i) : opIndexStr (sv s) (iv z) = some (u8v c) := by
  subst hz
  simp only [opIndexStr, asIdx_nat, h]
  rfl
theorem strB (s : List UInt8) (σ : Store) : opConv .strBytes (sv s) σ = some (.own σ.length 0 0 s.length 1 none, σ ++ [.row (bC s) 0]) := by
  show some (V.own σ.length 0 0 s.length 1 none, σ ++ [.row (s.map fun b => .tr (.sc (.int .u8 (b.toNat : Int)))) 0]) = _
  congr 4
  unfold bC
  rw [by_map, List.map_map]
  rfl
theorem frz (s : List UInt8) (t : Tree) (n : Nat) : ∃ z, freezeAll [.row (bC s) 0] [.own 0 0 0 n 1 none, .tr t] = some z := by
  have hs : ([Ob.row (bC s) 0])[0]? = some (Ob.row (cK .u8 (s.map (·.toNat))) 0) := by rw [cK_bC]; rfl
  have := freeze_own (n := n) (cap := none) hs t
  have e : freezeAll [.row (bC s) 0] [.own 0 0 0 n 1 none, .tr t] = freezeAll [.row (bC s) 0] [.tr t, .own 0 0 0 n 1 none] := by
    unfold freezeAll
    have h1 : dirs.dirsL [V.own 0 0 0 n 1 none, V.tr t] = [0] := by simp [dirs.dirsL, dirs]
    have h2 : dirs.dirsL [V.tr t, V.own 0 0 0 n 1 none] = [0] := by simp [dirs.dirsL, dirs]
    rw [h1, h2]
  exact ⟨_, by rw [e]; exact this⟩
theorem rvalue_ok (s : List UInt8) (hl : s.length ≤ 1000000) (σ : Store) : callL T 13 [sv s] σ = some (.tr (valT (valueR s)), σ) := by
  suffices hh : ∃ t, (∀ σ, callL T 13 ([strT s].map .tr) σ = some (.tr t, σ)) ∧ t = valT (valueR s) by
    obtain ⟨t, h, rfl⟩ := hh
    exact h σ
  refine call_iso T13 rfl rfl ?_
  have e0 : strT s = .sc (.string ⟨⟨s⟩⟩) := rfl
  rw [e0]
  by_cases h0 : s = []
  · subst h0
    simp [bytesEq_iff', valueR, valT, strT]
  · have hp := List.length_pos_iff.2 h0
    obtain ⟨c, hc⟩ := some_of hp
    have ec : hd s 0 = c := hd_of hc
    have hi := istr_ok hc (z := 0) rfl
    have c34 : ((c.toNat : Int) = 34 ↔ c = 34) := u8_eq (c := 34)
    have c96 : ((c.toNat : Int) = 96 ↔ c = 96) := u8_eq (c := 96)
    by_cases hcq : c = 34 ∨ c = 96
    · have hv : valueR s = match textR s with | some (n, o) => if n = s.length then some o else none | none => none := by
        unfold valueR
        rw [if_neg]
        rintro (h | h)
        · exact h0 h
        · rw [ec] at h
          rcases hcq with g | g
          · exact h.1 g
          · exact h.2 g
      obtain ⟨RS, hRS⟩ : ∃ RS, valueR s = RS := ⟨_, rfl⟩
      rw [hRS]
      have hsl := strB s []
      obtain ⟨z, hz⟩ := frz s (.sc (.int .i64 0)) s.length
      have hsn : snap [Ob.row (bC s) 0] deepN (.own 0 0 0 s.length 1 none) = some (.row (s.flatMap byE) s.length none) := by
        have := snap_own (σ := [Ob.row (bC s) 0]) (id := 0) (g := 0) (d := deepN - 1) (n := s.length) (cap := none) (l := s.map (·.toNat)) (k := .u8) (by rw [cK_bC]; rfl) (by simp)
        rw [by_nE, List.length_map] at this
        exact this
      have hbt : IsSl byE s (.tr (.row (s.flatMap byE) s.length none)) := .inr ⟨none, rfl⟩
      have htx := fun σ => text_ok hbt hl hp (z := 0) rfl σ
      rw [List.drop_zero] at htx
      obtain ⟨t, σ', hcall, ht, hσ'⟩ := T_iso (T := T) (vs := [.own 0 0 0 s.length 1 none, iv 0]) (ts := [.row (s.flatMap byE) s.length none, .sc (.int .i64 0)]) (σ := [Ob.row (bC s) 0]) (R := fun t => t = textT (textR s)) T24 rfl rfl (by simp only [snapL, hsn]; rfl) hz ⟨_, htx, rfl⟩
      subst ht
      have hcond : ∀ (P Q : Prop) [Decidable P] [Decidable Q], True := fun _ _ _ _ => trivial
      have hf : ((c.toNat : Int) = 34 ∧ c.toNat = 34) ∨ (¬ (c.toNat : Int) = 34 ∧ ¬ c.toNat = 34 ∧ (c.toNat : Int) = 96 ∧ c.toNat = 96) := by
        rcases hcq with h | h <;> rw [h] <;> decide
      have ls : ∀ σ, opLen 0 (sv s) σ = some (nv .i64 s.length) := fun _ => rfl
      cases htR : textR s with
      | none =>
        rw [htR] at hv hcall
        have hr : RS = none := by rw [← hRS, hv]
        subst hr
        have hne : ¬ (0 : Int) = s.length := by omega
        have hne2 : ¬ s.length = 0 := by omega
        have hne3 : ¬ 0 = s.length := by omega
        rcases hf with hf | hf
        · simp [bytesEq_iff', h0, hi, hf, k13_3, hsl, hcall, textT, opExtract, ls, hne, hne2, hne3, valT, strT]
        · simp [bytesEq_iff', h0, hi, hf, k13_3, hsl, hcall, textT, opExtract, ls, hne, hne2, hne3, valT, strT]
      | some x =>
        obtain ⟨n, o⟩ := x
        rw [htR] at hv hcall
        have hr : RS = if n = s.length then some o else none := by rw [← hRS, hv]
        have hos := by_str (out_sl o)
        by_cases hn : n = s.length
        · rw [if_pos hn] at hr
          subst hr
          have hnz : (n : Int) = s.length := by omega
          rcases hf with hf | hf
          · simp [bytesEq_iff', h0, hi, hf, k13_3, k13_7, hsl, hcall, textT, opExtract, ls, hn, hos, valT, strT]
          · simp [bytesEq_iff', h0, hi, hf, k13_3, k13_7, hsl, hcall, textT, opExtract, ls, hn, hos, valT, strT]
        · rw [if_neg hn] at hr
          subst hr
          have hnz : ¬ (n : Int) = s.length := by omega
          rcases hf with hf | hf
          · simp [bytesEq_iff', h0, hi, hf, k13_3, k13_7, hsl, hcall, textT, opExtract, ls, hn, hnz, hos, valT, strT]
          · simp [bytesEq_iff', h0, hi, hf, k13_3, k13_7, hsl, hcall, textT, opExtract, ls, hn, hnz, hos, valT, strT]
    · have hv : valueR s = none := by
        unfold valueR
        rw [if_pos]
        right
        rw [ec]
        simp only [not_or] at hcq
        exact hcq
      rw [hv]
      simp only [not_or] at hcq
      have z1 : ¬ (c.toNat : Int) = 34 := fun h => hcq.1 (c34.1 h)
      have z2 : ¬ (c.toNat : Int) = 96 := fun h => hcq.2 (c96.1 h)
      have n1 : ¬ c.toNat = 34 := by omega
      have n2 : ¬ c.toNat = 96 := by omega
      simp [bytesEq_iff', h0, hi, z1, z2, n1, n2, valT, strT]
end Go.Proofs.YtbdebcmklaooaaaDoor.AM.Sa
end
section
set_option maxRecDepth 1000000
set_option linter.unusedVariables false
set_option linter.unusedSimpArgs false
namespace Go.Proofs.YtbdebcmklaooaaaDoor.AM.Sa
open Go.Proofs
theorem slstr {s : List UInt8} {lo hi : Nat} {y z : Int} (h1 : lo ≤ hi) (h2 : hi ≤ s.length) (hy : y = lo) (hz : z = hi) : opSliceStr (sv s) (some (iv y)) (some (iv z)) = some (sv ((s.take hi).drop lo)) := by
  subst hy hz
  unfold opSliceStr
  simp only [optIdx, asIdx_nat, Option.getD_some]
  rw [if_pos ⟨h2, h1⟩]
theorem replace_ok (s : List UInt8) (hl : s.length ≤ 900000) (σ : Store) : callL T 28 [sv s, sv [13], sv []] σ = some (sv (s.filter (fun b => !(b == 13))), σ) := by
  refine call_ext (k := 17) T28 rfl rfl ?_
  have b4 : Nat.blt s.length 1000000 = true := Nat.ble_eq_true_of_le (by omega)
  have : argsOf 17 [sv s, sv [13], sv []] σ = some [.string ⟨⟨s⟩⟩, .string ⟨⟨[13]⟩⟩, .string ⟨⟨[]⟩⟩] := rfl
  unfold extV
  rw [this]
  simp only [extS, b4, if_true, extR]
section
variable {lit : List UInt8} (hl : lit.length ≤ 900000) {inn : List UInt8} (hin : inn = (lit.take (lit.length - 1)).drop 1) (hL : 2 ≤ lit.length)
include hin hL
theorem inn_len : inn.length = lit.length - 2 := by rw [hin, List.length_drop, List.length_take]; omega
theorem inn_at {i : Nat} (h : i < inn.length) : inn[i]? = lit[1 + i]? := by
  have := inn_len hin hL
  rw [hin, List.getElem?_drop, List.getElem?_take, if_pos (by omega)]
theorem inn_cut {i n : Nat} (h : i + n ≤ inn.length) : (inn.drop i).take n = (lit.drop (1 + i)).take n := by
  have := inn_len hin hL
  rw [hin, List.drop_drop, List.drop_take, List.take_take]
  congr 1
  omega
include hl
/-- The loop of Value, over what stands between the quotes. -/
theorem val_loop {RES : List UInt8} {nn0 : Nat} (hG : textG 34 (lit.drop 1) = some (nn0, RES)) (hnn : 1 + nn0 = lit.length) (e L : List (Nat × V)) (σ : Store) (h5 : look e 5 = some (sv inn)) (h6 : look e 6 = some nilSl) (h7 : look e 7 = some (iv 0))
    {P : Out → St → Prop} (hP : ∀ e' L' σ', look e' 2 = some (sv RES) → look e' 3 = some (bv true) → P .ret ⟨e', L', σ'⟩) : Wp T (.loop k12_11) ⟨e, L, σ⟩ (blk 0 (sq T k12_29 P)) := by
  have hil := inn_len hin hL
  obtain ⟨I, hI⟩ : ∃ I : Nat → St → Prop, I = fun m st => ∃ i p o v nn oo e L σ, st = ⟨e, L, σ⟩ ∧ m ≤ i ∧ i + p ≤ inn.length ∧ o.length ≤ i ∧ OutQ o v σ ∧ (∀ j c, j < p → inn[i + j]? = some c → c ≠ 92) ∧ textG 34 (lit.drop (1 + (i + p))) = some (nn, oo) ∧ 1 + (i + p) + nn = lit.length ∧ RES = o ++ (inn.drop i).take p ++ oo ∧ look e 5 = some (sv inn) ∧ look e 6 = some v ∧ look e 7 = some (nv .i64 i) := ⟨_, rfl⟩
  refine wpc_up inn.length I (by rw [hI]; exact ⟨0, 0, [], nilSl, nn0, RES, e, L, σ, rfl, by omega, by omega, by simp, .inl ⟨rfl, rfl⟩, by intro j c h; omega, hG, by omega, by simp, h5, h6, h7⟩) ?_
  clear h5 h6 h7 hG hnn
  intro m st hst
  rw [hI] at hst
  obtain ⟨i, p, o, v, nn, oo, e, L, σ, rfl, hm, hip, ho, hout, hpend, hG, hnn, hRES, h5, h6, h7⟩ := hst
  have ls : ∀ σ, opLen 0 (sv inn) σ = some (nv .i64 inn.length) := fun _ => rfl
  by_cases hlt : i < inn.length
  · have hltz : (i : Int) < inn.length := by omega
    obtain ⟨c, hc⟩ := some_of hlt
    have hcl : lit[1 + i]? = some c := by rw [← inn_at hin hL hlt]; exact hc
    have hist := istr_ok hc (z := (i : Int)) rfl
    have w1 : IntKind.i64.wrap ((i : Int) + 1) = (i : Int) + 1 := w64z (by omega) (by omega)
    have c92 : ((c.toNat : Int) = 92 ↔ c = 92) := u8_eq (c := 92)
    have bs := fun σ => bs1 (x := (c.toNat : Int)) (c := c) rfl σ
    -- a plain byte
    have plain : c ≠ 92 → (∃ p' nn' oo', i + 1 + p' ≤ inn.length ∧ (∀ j c, j < p' → inn[i + 1 + j]? = some c → c ≠ 92) ∧ textG 34 (lit.drop (1 + (i + 1 + p'))) = some (nn', oo') ∧ 1 + (i + 1 + p') + nn' = lit.length ∧ RES = o ++ [c] ++ (inn.drop (i + 1)).take p' ++ oo') → wpc T k12_11 ⟨e, L, σ⟩ (thenN (fun s' => m < inn.length ∧ I (m + 1) s') (blk 0 (sq T k12_29 P))) := by
      rintro hne ⟨p', nn', oo', g1, g2, g3, g4, g5⟩
      have z : ¬ (c.toNat : Int) = 92 := fun h => hne (c92.1 h)
      have zn : ¬ c.toNat = 92 := by omega
      obtain ⟨v', σ', hap, hout'⟩ := outq_app hout (byT_sl [c]) (by simp) (by omega) (by simp)
      simp [k12_11, k12_13, k12_28, h5, h6, h7, ls, hltz, hlt, hist, z, zn, bs, hap, w1]
      refine ⟨by omega, ?_⟩
      rw [hI]
      refine ⟨i + 1, p', o ++ [c], v', nn', oo', _, _, σ', rfl, by omega, g1, by simp; omega, hout', g2, g3, g4, g5, ?_, ?_, ?_⟩ <;> simp [h5, h6, h7]
    rcases Nat.eq_zero_or_pos p with hp | hp
    · subst hp
      rw [Nat.add_zero] at hG hnn
      rw [List.take_zero, List.append_nil] at hRES
      have hs' : hd (lit.drop (1 + i)) 0 = c := by rw [hd_drop]; exact hd_of hcl
      have hpos := textG_pos hG
      have hc34 : c ≠ 34 := by
        intro h
        have hne : lit.drop (1 + i) ≠ [] := dropne (by omega)
        rw [textG_end hne (by rw [hs', h])] at hG
        cases hG
        omega
      obtain ⟨hne, n1, o1, n2, o2, hst, hG2, rfl, rfl⟩ := textG_one hG (by rw [hs']; exact hc34)
      have hp2 := textG_pos hG2
      rw [List.drop_drop] at hG2
      have hle := stepR_le hne hst
      have hc10 : c ≠ 10 := by
        intro h
        unfold stepR at hst
        rw [hs', if_pos ⟨rfl, h⟩] at hst
        cases hst
      by_cases hc92 : c = 92
      · have z : (c.toNat : Int) = 92 := by rw [hc92]; rfl
        have zn : c.toNat = 92 := by omega
        unfold stepR at hst
        rw [hs', if_neg (fun h => hc10 h.2), if_pos ⟨rfl, hc92⟩] at hst
        have hesc := escR_le hst
        obtain ⟨d, hd0⟩ := some_of (l := lit) (i := 1 + (i + 1)) (by omega)
        have hdl : hd (lit.drop (1 + i)) 1 = d := by rw [hd_drop]; exact hd_of hd0
        have hdi : inn[i + 1]? = some d := by rw [inn_at hin hL (by omega)]; exact hd0
        have hist2 := istr_ok hdi (z := (i : Int) + 1) (by omega)
        have fin : ∀ v' σ' e' L', OutQ (o ++ o1) v' σ' → look e' 5 = some (sv inn) → look e' 6 = some v' → look e' 7 = some (iv ((i : Int) + n1)) → m < inn.length ∧ I (m + 1) ⟨e', L', σ'⟩ := by
          intro v' σ' e' L' g1 g5 g6 g7
          refine ⟨by omega, ?_⟩
          rw [hI]
          refine ⟨i + n1, 0, o ++ o1, v', n2, o2, e', L', σ', rfl, by omega, by omega, by rw [List.length_append]; omega, g1, by intro j c h; omega, ?_, by omega, by rw [hRES]; simp, g5, g6, by rw [g7]; simp⟩
          rw [← hG2]; congr 2; omega
        unfold escR at hst
        rw [hdl, List.drop_drop] at hst
        have d92 : ((d.toNat : Int) = 92 ↔ d = 92) := u8_eq (c := 92)
        have d34 : ((d.toNat : Int) = 34 ↔ d = 34) := u8_eq (c := 34)
        have d110 : ((d.toNat : Int) = 110 ↔ d = 110) := u8_eq (c := 110)
        have d116 : ((d.toNat : Int) = 116 ↔ d = 116) := u8_eq (c := 116)
        have d120 : ((d.toNat : Int) = 120 ↔ d = 120) := u8_eq (c := 120)
        have d117 : ((d.toNat : Int) = 117 ↔ d = 117) := u8_eq (c := 117)
        by_cases hd1 : d = 92 ∨ d = 34
        · rw [if_pos hd1] at hst
          simp only [Option.some.injEq, Prod.mk.injEq] at hst
          obtain ⟨hn1, ho1⟩ := hst
          subst hn1
          rw [← ho1] at fin
          obtain ⟨v', σ', hap, hout'⟩ := outq_app hout (byT_sl [d]) (by simp) (by omega) (by simp)
          have bs := fun σ => bs1 (x := (d.toNat : Int)) (c := d) rfl σ
          have w2 : IntKind.i64.wrap ((i : Int) + 1 + 1) = (i : Int) + 1 + 1 := w64z (by omega) (by omega)
          have q : ¬ (d.toNat : Int) = 110 ∧ ¬ d.toNat = 110 ∧ ¬ (d.toNat : Int) = 116 ∧ ¬ d.toNat = 116 ∧ ¬ (d.toNat : Int) = 120 ∧ ¬ d.toNat = 120 ∧ ¬ (d.toNat : Int) = 117 ∧ ¬ d.toNat = 117 := by
            rcases hd1 with h | h <;> rw [h] <;> decide
          simp [k12_11, k12_13, k12_16, k12_28, h5, h6, h7, ls, hltz, hlt, hist, z, zn, w1, hist2, q, bs, hap, w2]
          refine fin v' σ' _ _ hout' ?_ ?_ ?_ <;> simp [h5, h6, h7]
          omega
        rw [if_neg hd1] at hst
        by_cases hd2 : d = 110
        · rw [if_pos hd2] at hst
          simp only [Option.some.injEq, Prod.mk.injEq] at hst
          obtain ⟨hn1, ho1⟩ := hst
          subst hn1
          rw [← ho1] at fin
          obtain ⟨v', σ', hap, hout'⟩ := outq_app hout (byT_sl [10]) (by simp) (by omega) (by simp)
          have bs := fun σ => bs1 (x := 10) (c := 10) rfl σ
          have w2 : IntKind.i64.wrap ((i : Int) + 1 + 1) = (i : Int) + 1 + 1 := w64z (by omega) (by omega)
          have q : (d.toNat : Int) = 110 ∧ d.toNat = 110 := by rw [hd2]; decide
          simp [k12_11, k12_13, k12_16, k12_28, h5, h6, h7, ls, hltz, hlt, hist, z, zn, w1, hist2, q, bs, hap, w2]
          refine fin v' σ' _ _ hout' ?_ ?_ ?_ <;> simp [h5, h6, h7]
          omega
        rw [if_neg hd2] at hst
        by_cases hd3 : d = 116
        · rw [if_pos hd3] at hst
          simp only [Option.some.injEq, Prod.mk.injEq] at hst
          obtain ⟨hn1, ho1⟩ := hst
          subst hn1
          rw [← ho1] at fin
          obtain ⟨v', σ', hap, hout'⟩ := outq_app hout (byT_sl [9]) (by simp) (by omega) (by simp)
          have bs := fun σ => bs1 (x := 9) (c := 9) rfl σ
          have w2 : IntKind.i64.wrap ((i : Int) + 1 + 1) = (i : Int) + 1 + 1 := w64z (by omega) (by omega)
          have q : (d.toNat : Int) = 116 ∧ d.toNat = 116 := by rw [hd3]; decide
          simp [k12_11, k12_13, k12_16, k12_28, h5, h6, h7, ls, hltz, hlt, hist, z, zn, w1, hist2, q, bs, hap, w2]
          refine fin v' σ' _ _ hout' ?_ ?_ ?_ <;> simp [h5, h6, h7]
          omega
        rw [if_neg hd3] at hst
        have hhex : ∀ n, n ≤ nrun (inB 16) (lit.drop (1 + i + 2)) → ∀ c ∈ (lit.drop (1 + i + 2)).take n, inB 16 c = true := by
          intro n hn c hc
          obtain ⟨j, hj⟩ := List.mem_iff_getElem?.1 hc
          rw [List.getElem?_take] at hj
          split at hj
          · obtain ⟨c2, h5, h6⟩ := nrun_lt (p := inB 16) (s := lit.drop (1 + i + 2)) (n := j) (by omega)
            rw [hj] at h5
            cases h5
            exact h6
          · cases hj
        by_cases hd4 : d = 120
        · rw [if_pos hd4] at hst
          split at hst
          · cases hst
          rename_i hnr
          simp only [Option.some.injEq, Prod.mk.injEq] at hst
          obtain ⟨hn1, ho1⟩ := hst
          subst hn1
          rw [← ho1] at fin
          have hcut := inn_cut hin hL (i := i + 2) (n := 2) (by omega)
          rw [show 1 + (i + 2) = 1 + i + 2 by omega] at hcut
          obtain ⟨X, hX⟩ : ∃ X, (lit.drop (1 + i + 2)).take 2 = X := ⟨_, rfl⟩
          have hXl : X.length = 2 := by rw [← hX, List.length_take, List.length_drop]; omega
          have hXx : ∀ c ∈ X, inB 16 c = true := by rw [← hX]; exact hhex 2 (by omega)
          rw [hX] at hcut fin
          have hvl := fun σ => value_ok X (by omega) hXx σ
          have hlt := hexN_lt 2 X hXl hXx
          obtain ⟨N, hN⟩ : ∃ N, hexN X = N := ⟨_, rfl⟩
          rw [hN] at hvl fin hlt
          have hsl := slstr (s := inn) (lo := i + 2) (hi := i + 4) (y := (i : Int) + 1 + 1) (z := (i : Int) + 1 + 3) (by omega) (by omega) (by omega) (by omega)
          have e2 : (inn.take (i + 4)).drop (i + 2) = X := by rw [List.drop_take, ← hcut]; congr 1; omega
          rw [e2] at hsl
          obtain ⟨v', σ', hap, hout'⟩ := outq_app hout (byT_sl [.ofNat N]) (by simp) (by omega) (by simp)
          have bs := fun σ => bs1 (x := (N : Int)) (c := .ofNat N) (hofn _ (by omega)).symm σ
          have w8 := u8wL (c := N) (by omega)
          have w2 : IntKind.i64.wrap ((i : Int) + 1 + 1) = (i : Int) + 1 + 1 := w64z (by omega) (by omega)
          have w3 : IntKind.i64.wrap ((i : Int) + 1 + 3) = (i : Int) + 1 + 3 := w64z (by omega) (by omega)
          have w4 : IntKind.i64.wrap ((i : Int) + 1 + 2) = (i : Int) + 1 + 2 := w64z (by omega) (by omega)
          have w5 : IntKind.i64.wrap ((i : Int) + 1 + 2 + 1) = (i : Int) + 1 + 2 + 1 := w64z (by omega) (by omega)
          have q : (d.toNat : Int) = 120 ∧ d.toNat = 120 := by rw [hd4]; decide
          simp [k12_11, k12_13, k12_16, k12_28, h5, h6, h7, ls, hltz, hlt, hist, z, zn, w1, hist2, q, hsl, hvl, w8, bs, hap, w2, w3, w4, w5]
          refine fin v' σ' _ _ hout' ?_ ?_ ?_ <;> simp [h5, h6, h7]
          omega
        rw [if_neg hd4] at hst
        by_cases hd5 : d = 117
        · rw [if_pos hd5] at hst
          split at hst
          · cases hst
          rename_i hnr
          split at hst
          · cases hst
          rename_i hsur
          simp only [Option.some.injEq, Prod.mk.injEq] at hst
          obtain ⟨hn1, ho1⟩ := hst
          subst hn1
          rw [← ho1] at fin
          have hcut := inn_cut hin hL (i := i + 2) (n := 4) (by omega)
          rw [show 1 + (i + 2) = 1 + i + 2 by omega] at hcut
          obtain ⟨X, hX⟩ : ∃ X, (lit.drop (1 + i + 2)).take 4 = X := ⟨_, rfl⟩
          have hXl : X.length = 4 := by rw [← hX, List.length_take, List.length_drop]; omega
          have hXx : ∀ c ∈ X, inB 16 c = true := by rw [← hX]; exact hhex 4 (by omega)
          rw [hX] at hcut fin hsur
          have hvl := fun σ => value_ok X (by omega) hXx σ
          have hlt := hexN_lt 4 X hXl hXx
          obtain ⟨N, hN⟩ : ∃ N, hexN X = N := ⟨_, rfl⟩
          rw [hN] at hvl fin hlt hsur
          have hsl := slstr (s := inn) (lo := i + 2) (hi := i + 6) (y := (i : Int) + 1 + 1) (z := (i : Int) + 1 + 5) (by omega) (by omega) (by omega) (by omega)
          have e2 : (inn.take (i + 6)).drop (i + 2) = X := by rw [List.drop_take, ← hcut]; congr 1; omega
          rw [e2] at hsl
          obtain ⟨v', σ', hap, hout'⟩ := appendRune_ok hout (by omega) (c := N) (by omega) hsur
          have w2 : IntKind.i64.wrap ((i : Int) + 1 + 1) = (i : Int) + 1 + 1 := w64z (by omega) (by omega)
          have w3 : IntKind.i64.wrap ((i : Int) + 1 + 5) = (i : Int) + 1 + 5 := w64z (by omega) (by omega)
          have w4 : IntKind.i64.wrap ((i : Int) + 1 + 4) = (i : Int) + 1 + 4 := w64z (by omega) (by omega)
          have w5 : IntKind.i64.wrap ((i : Int) + 1 + 4 + 1) = (i : Int) + 1 + 4 + 1 := w64z (by omega) (by omega)
          have q : (d.toNat : Int) = 117 ∧ d.toNat = 117 := by rw [hd5]; decide
          simp [k12_11, k12_13, k12_16, k12_28, h5, h6, h7, ls, hltz, hlt, hist, z, zn, w1, hist2, q, hsl, hvl, hap, w2, w3, w4, w5]
          refine fin v' σ' _ _ hout' ?_ ?_ ?_ <;> simp [h5, h6, h7]
          omega
        rw [if_neg hd5] at hst
        cases hst
      · unfold stepR at hst
        rw [hs', if_neg (fun h => hc10 h.2), if_neg (fun h => hc92 h.2)] at hst
        split at hst
        · cases hst
        · rename_i hu
          simp only [Option.some.injEq, Prod.mk.injEq] at hst
          obtain ⟨rfl, ho1⟩ := hst
          rw [if_pos (.inl (by decide))] at ho1
          refine plain hc92 ⟨utfR (lit.drop (1 + i)) - 1, n2, o2, by omega, ?_, ?_, by omega, ?_⟩
          · intro j d hj hd
            have := utfR_tail hu (1 + j) d (by omega) (by omega) (by rw [List.getElem?_drop, ← hd, show i + 1 + j = i + (1 + j) by omega, inn_at hin hL (by omega)]; congr 1; omega)
            rintro rfl
            exact absurd this (by decide)
          · rw [← hG2]; congr 2; omega
          · rw [hRES, ← ho1]
            have : (lit.drop (1 + i)).take (utfR (lit.drop (1 + i))) = [c] ++ (inn.drop (i + 1)).take (utfR (lit.drop (1 + i)) - 1) := by
              rw [inn_cut hin hL (by omega)]
              have hd : lit.drop (1 + i) = c :: lit.drop (1 + (i + 1)) := by
                obtain ⟨g1, g2⟩ := List.getElem?_eq_some_iff.1 hcl
                rw [List.drop_eq_getElem_cons g1, g2]
                rfl
              obtain ⟨N, hN⟩ : ∃ N, utfR (lit.drop (1 + i)) = N := ⟨_, rfl⟩
              rw [hN, hd]
              obtain ⟨k, rfl⟩ : ∃ k, N = k + 1 := ⟨N - 1, by omega⟩
              rw [List.take_succ_cons]
              rfl
            rw [this]
            simp
    · have hne := hpend 0 c hp (by simpa using hc)
      refine plain hne ⟨p - 1, nn, oo, by omega, ?_, by rw [show i + 1 + (p - 1) = i + p by omega]; exact hG, by omega, ?_⟩
      · intro j d hj hd
        exact hpend (1 + j) d (by omega) (by rw [← hd]; congr 1; omega)
      · rw [hRES]
        have : (inn.drop i).take p = [c] ++ (inn.drop (i + 1)).take (p - 1) := by
          have hd : inn.drop i = c :: inn.drop (i + 1) := by
            obtain ⟨g1, g2⟩ := List.getElem?_eq_some_iff.1 hc
            rw [List.drop_eq_getElem_cons g1, g2]
          obtain ⟨k, rfl⟩ : ∃ k, p = k + 1 := ⟨p - 1, by omega⟩
          rw [hd, List.take_succ_cons]
          rfl
        rw [this]
        simp
  · have hltz : ¬ (i : Int) < inn.length := by omega
    have hp0 : p = 0 := by omega
    subst hp0
    have hie : i = inn.length := by omega
    have hn1 : nn = 1 := by omega
    have hoo : oo = [] := by
      by_cases hq : hd (lit.drop (1 + (i + 0))) 0 = 34
      · rw [textG_end (dropne (by omega)) hq] at hG
        cases hG
        rfl
      · obtain ⟨hne, n1, o1, n2, o2, hst, hG2, g, rfl⟩ := textG_one hG hq
        have := textG_pos hG2
        have := stepR_le hne hst
        omega
    have hstr := outq_str hout
    have hR : RES = o := by rw [hRES, hoo]; simp
    simp [k12_11, k12_29, h5, h6, h7, ls, hltz, hlt, hstr]
    refine hP _ _ _ ?_ ?_
    · rw [hR]; simp
    · simp
end
end Go.Proofs.YtbdebcmklaooaaaDoor.AM.Sa
end
section
set_option maxRecDepth 1000000
set_option linter.unusedVariables false
set_option linter.unusedSimpArgs false
namespace Go.Proofs.YtbdebcmklaooaaaDoor.AM.Sa
open Go.Proofs
theorem textR_sub {s : List UInt8} (hs : s ≠ []) {n : Nat} {o : List UInt8} (h : textR s = some (n, o)) : textG (hd s 0) (s.drop 1) = some (n - 1, o) ∧ 2 ≤ n := by
  have h2 := textR_le hs h
  rw [textR_G hs] at h
  cases hg : textG (hd s 0) (s.drop 1) with
  | none => rw [hg] at h; cases h
  | some y =>
    obtain ⟨m, p⟩ := y
    rw [hg] at h
    simp only [comb, Option.map_some, Option.some.injEq, Prod.mk.injEq, List.nil_append] at h
    obtain ⟨rfl, rfl⟩ := h
    exact ⟨by rw [show 1 + m - 1 = m by omega], h2.2⟩
theorem svalue_ok (s : List UInt8) (hl : s.length ≤ 900000) (σ : Store) : callL T 12 [sv s] σ = some (.tr (valT (valueR s)), σ) := by
  suffices hh : ∃ t, (∀ σ, callL T 12 ([Tree.sc (.string ⟨⟨s⟩⟩)].map .tr) σ = some (.tr t, σ)) ∧ t = valT (valueR s) by
    obtain ⟨t, h, rfl⟩ := hh
    exact h σ
  refine call_iso T12 rfl rfl ?_
  have hsl := strB s []
  obtain ⟨bt, hbt⟩ : ∃ bt : V, bt = .own 0 0 0 s.length 1 none := ⟨_, rfl⟩
  have hcell : cellsOf bt = [bt] := by rw [hbt]; rfl
  rw [List.length_nil, ← hbt, List.nil_append] at hsl
  obtain ⟨σ1, hσ1⟩ : ∃ σ1 : Store, σ1 = [.row (bC s) 0, .row [bt, iv 0, bv false, nilSl] 0] := ⟨_, rfl⟩
  have hbox : opBoxB false (.agg [bt, .tr (.sc (.int .i64 0)), .tr (.sc (.bool false)), .tr (.sc (.slice none 0 0))]) [.row (bC s) 0] = some (.ptr 1 0 0, σ1) := by rw [hσ1]; rfl
  have hall : allTr [bt, .tr (.sc (.int .i64 0)), .tr (.sc (.bool false)), .tr (.sc (.slice none 0 0))] = none := by rw [hbt]; rfl
  have hspl : splice [.tr (.sc (.slice none 0 0)), .tr (.sc (.int .i64 0)), .tr (.sc (.bool false)), .tr (.sc (.slice none 0 0))] 0 [bt] = [bt, .tr (.sc (.int .i64 0)), .tr (.sc (.bool false)), .tr (.sc (.slice none 0 0))] := rfl
  have hsc : SC σ1 1 s 0 false [] bt nilSl := by
    refine ⟨by rw [hσ1]; rfl, .inr ⟨0, 0, none, by omega, hbt, by rw [hσ1]; rfl⟩, .inl ⟨rfl, rfl⟩⟩
  have hbld : opBuild [.sc (.slice none 0 0), .sc (.int .i64 0), .sc (.bool false), .sc (.slice none 0 0)] [(0, 1, bt)] = some (.agg [bt, .tr (.sc (.int .i64 0)), .tr (.sc (.bool false)), .tr (.sc (.slice none 0 0))]) := by
    rw [hbt]; rfl
  have hnone : (∃ t, snap σ1 deepN (mkTup [sv [], bv false]) = some t ∧ t = valT none) := ⟨_, rfl, rfl⟩
  have ls : ∀ σ, opLen 0 (sv s) σ = some (nv .i64 s.length) := fun _ => rfl
  obtain ⟨RS, hRS⟩ : ∃ RS, valueR s = RS := ⟨_, rfl⟩
  rw [hRS]
  by_cases h0 : s = []
  · have hr : RS = none := by rw [← hRS]; unfold valueR; rw [if_pos (.inl h0)]
    subst hr
    subst h0
    simp [-opBuild, -fillV, hsl, hbld, hbox, bytesEq_iff', valT, strT]
  have hp := List.length_pos_iff.2 h0
  obtain ⟨c, hc⟩ := some_of hp
  have ec : hd s 0 = c := hd_of hc
  have hi := istr_ok hc (z := 0) rfl
  have c34 : ((c.toNat : Int) = 34 ↔ c = 34) := u8_eq (c := 34)
  have c96 : ((c.toNat : Int) = 96 ↔ c = 96) := u8_eq (c := 96)
  by_cases hcq : c = 34 ∨ c = 96
  · have hv : valueR s = match textR s with | some (n, o) => if n = s.length then some o else none | none => none := by
      have hno : ¬ (s = [] ∨ (hd s 0 ≠ 34 ∧ hd s 0 ≠ 96)) := by
        rintro (h | h)
        · exact h0 h
        · rw [ec] at h
          rcases hcq with g | g
          · exact h.1 g
          · exact h.2 g
      unfold valueR
      refine (if_neg hno).trans ?_
      rcases textR s with _ | ⟨n, o⟩ <;> rfl
    have hf : ((c.toNat : Int) = 34 ∧ c.toNat = 34) ∨ (¬ (c.toNat : Int) = 34 ∧ ¬ c.toNat = 34 ∧ (c.toNat : Int) = 96 ∧ c.toNat = 96) := by
      rcases hcq with h | h <;> rw [h] <;> decide
    obtain ⟨r, σ2, hquo, hres⟩ := quoted_ok hsc (by omega) hp
    rw [List.drop_zero] at hres
    cases htR : textR s with
    | none =>
      rw [htR] at hv hres
      have hr : RS = none := by rw [← hRS, hv]
      subst hr hres
      rcases hf with hf | hf
      · simp [-opBuild, -fillV, hsl, hbld, hbox, bytesEq_iff', h0, hi, hf, hquo, valT, strT]
      · simp [-opBuild, -fillV, hsl, hbld, hbox, bytesEq_iff', h0, hi, hf, hquo, valT, strT]
    | some x =>
      obtain ⟨n, o⟩ := x
      rw [htR] at hv hres
      obtain ⟨rfl, hs2⟩ := hres
      rw [Nat.zero_add] at hs2
      have l1 := sc_l1 hs2
      have hr : RS = if n = s.length then some o else none := by rw [← hRS, hv]
      obtain ⟨hG, hn2⟩ := textR_sub h0 htR
      by_cases hn : n = s.length
      · rw [if_pos hn] at hr
        subst hr
        subst hn
        have w1 : IntKind.i64.wrap ((s.length : Int) - 1) = (s.length : Int) - 1 := w64z (by omega) (by omega)
        obtain ⟨inn, hin⟩ : ∃ inn, inn = (s.take (s.length - 1)).drop 1 := ⟨_, rfl⟩
        have hcut := slstr (s := s) (lo := 1) (hi := s.length - 1) (y := 1) (z := (s.length : Int) - 1) (by omega) (by omega) rfl (by omega)
        rw [← hin] at hcut
        have hil := inn_len hin hn2
        rw [ec] at hG
        rcases hf with hf | hf
        · have hc34 := c34.1 hf.1
          rw [hc34] at hG
          have hz : ¬ (34 : Int) = 96 := by omega
          simp [-opBuild, -fillV, hsl, hbld, hbox, bytesEq_iff', h0, hi, hf, hquo, sc_nc, sc_f, l1, ls, k12_4, k12_8, w1, hcut]
          refine val_loop (lit := s) hl hin hn2 hG (by omega) _ _ _ ?_ ?_ ?_ ?_
          · simp
          · simp [nilSl]
          · simp
          · intro e' L' σ' g2 g3
            simp [g2, g3, valT, strT]
        · have hc96 := c96.1 hf.2.2.1
          rw [hc96] at hG
          have hraw := raw_text _ _ (Nat.le_refl _) hG
          have e : (s.drop 1).take (s.length - 1 - 1) = inn := by rw [hin, List.drop_take]
          rw [e] at hraw
          have hrep := fun σ => replace_ok inn (by omega) σ
          rw [← hraw] at hrep
          simp [-opBuild, -fillV, hsl, hbld, hbox, bytesEq_iff', h0, hi, hf, hquo, sc_nc, sc_f, l1, ls, k12_4, k12_8, w1, hcut, hrep, valT, strT]
      · rw [if_neg hn] at hr
        subst hr
        have hnz : ¬ (n : Int) = s.length := by omega
        rcases hf with hf | hf
        · simp [-opBuild, -fillV, hsl, hbld, hbox, bytesEq_iff', h0, hi, hf, hquo, sc_nc, sc_f, l1, ls, hn, hnz, valT, strT]
        · simp [-opBuild, -fillV, hsl, hbld, hbox, bytesEq_iff', h0, hi, hf, hquo, sc_nc, sc_f, l1, ls, hn, hnz, valT, strT]
  · have hv : valueR s = none := by
      unfold valueR
      rw [if_pos]
      right
      rw [ec]
      simp only [not_or] at hcq
      exact hcq
    have hr : RS = none := by rw [← hRS, hv]
    subst hr
    simp only [not_or] at hcq
    have z1 : ¬ (c.toNat : Int) = 34 := fun h => hcq.1 (c34.1 h)
    have z2 : ¬ (c.toNat : Int) = 96 := fun h => hcq.2 (c96.1 h)
    have n1 : ¬ c.toNat = 34 := by omega
    have n2 : ¬ c.toNat = 96 := by omega
    simp [-opBuild, -fillV, hsl, hbld, hbox, bytesEq_iff', h0, hi, z1, z2, n1, n2, valT, strT]
/-- ScanValue answers true whatever the text. -/
theorem law_scanValue (s : List UInt8) : ∃ v σ', callL T 5 [sv s] [] = some (v, σ') ∧ v = bv true := by
  refine call_shared T5 rfl rfl ?_
  have hbg := begun_ok
  have ls : ∀ σ, opLen 0 (sv s) σ = some (nv .i64 s.length) := fun _ => rfl
  have key : ∀ (c : List UInt8), c.length ≤ 200 → ∀ e L, look e 0 = some (sv c) → look e 3 = some (bv true) → wpc T k5_3 ⟨e, L, []⟩ (giv [.tmp 2] fun v σ => v = bv true) := by
    intro c hc e L h0 h3
    have h1 := fun σ => svalue_ok c (by omega) σ
    have h2 := fun σ => rvalue_ok c (by omega) σ
    have w1 := fun σ => word_ok c (by omega) σ
    have w2 := fun σ => rword_ok c σ
    cases hv : valueR c with
    | none =>
      rw [hv] at h1 h2
      simp [k5_3, h0, h3, h1, h2, w1, w2, valT, strT, opExtract, bytesEq_iff']
    | some o =>
      rw [hv] at h1 h2
      simp [k5_3, h0, h3, h1, h2, w1, w2, valT, strT, opExtract, bytesEq_iff']
  by_cases h : 200 < s.length
  · have hz : (200 : Int) < s.length := by omega
    have hcut : opSliceStr (sv s) none (some (iv 200)) = some (sv (s.take 200)) := by
      unfold opSliceStr
      have : asIdx? (iv 200) = some 200 := rfl
      simp only [optIdx, this, Option.getD_some, Option.getD_none]
      rw [if_pos ⟨by omega, by omega⟩, List.drop_zero]
    simp [hbg, ls, h, hz, hcut]
    refine key (s.take 200) (by rw [List.length_take]; omega) _ _ ?_ ?_ <;> simp
  · have hz : ¬ (200 : Int) < s.length := by omega
    simp [hbg, ls, h, hz]
    refine key s (by omega) _ _ ?_ ?_ <;> simp
end Go.Proofs.YtbdebcmklaooaaaDoor.AM.Sa
end
