/- the scanner: parts 38, 39, 40, 41, 42, 43, 44, 45, 46. -/
import Derived.Test.YtbdebcmklaooaaaDoorSa26
set_option linter.unusedSectionVars false
section
set_option maxRecDepth 1000000
set_option linter.unusedVariables false
set_option linter.unusedSimpArgs false
namespace Go.Proofs.YtbdebcmklaooaaaDoor.AM.Sa
open Go.Proofs
theorem contains_ok (s t : List UInt8) (hs : s.length ≤ 4294967000) (σ : Store) : callL T 31 [sv s, sv t] σ = some (bv (hasL t s), σ) := by
  refine call_ext (k := 0) T31 rfl rfl ?_
  have b4 : Nat.blt s.length 4294967281 = true := Nat.ble_eq_true_of_le (by omega)
  have : argsOf 0 [sv s, sv t] σ = some [.string ⟨⟨s⟩⟩, .string ⟨⟨t⟩⟩] := rfl
  unfold extV
  rw [this]
  simp only [extS, b4, if_true, extR]
theorem hasPre_eq : ∀ (x y : List UInt8), hasPre x y = x.isPrefixOf y
  | [], _ => by simp [hasPre]
  | _ :: _, [] => by simp [hasPre]
  | a :: x, b :: y => by
    simp only [hasPre, List.isPrefixOf, hasPre_eq x y]
    congr 1
    rw [Bool.eq_iff_iff]
    simp [UInt8.toNat_inj]
theorem has_nil {c : UInt8} {t : List UInt8} : hasL (c :: t) [] = false := rfl
theorem has_skip {c : UInt8} {t : List UInt8} : ∀ (w r : List UInt8), c ∉ w → hasL (c :: t) (w ++ r) = hasL (c :: t) r
  | [], r, _ => rfl
  | a :: w, r, h => by
    simp only [List.mem_cons, not_or] at h
    show (hasPre (c :: t) (a :: (w ++ r)) || hasL (c :: t) (w ++ r)) = _
    rw [has_skip w r h.2, hasPre_eq]
    have : (c :: t).isPrefixOf (a :: (w ++ r)) = false := by
      simp [List.isPrefixOf]
      intro h'
      exact absurd h' h.1
    rw [this, Bool.false_or]
theorem pre_sp {c : UInt8} : ∀ (s w r : List UInt8), c ∉ s → c ∉ w → (s ++ [c]).isPrefixOf (w ++ c :: r) = decide (w = s)
  | [], [], r, _, _ => by simp [List.isPrefixOf]
  | [], a :: w, r, _, h => by
    simp only [List.mem_cons, not_or] at h
    simp [List.isPrefixOf]
    exact fun h' => absurd h' h.1
  | a :: s, [], r, h, _ => by
    simp only [List.mem_cons, not_or] at h
    simp [List.isPrefixOf]
    exact fun h' => absurd h'.symm h.1
  | a :: s, b :: w, r, h1, h2 => by
    simp only [List.mem_cons, not_or] at h1 h2
    have := pre_sp s w r h1.2 h2.2
    simp only [List.cons_append, List.isPrefixOf, this]
    rw [Bool.eq_iff_iff]
    simp
    exact fun _ => eq_comm
theorem has_words {c : UInt8} {s : List UInt8} (hs : c ∉ s) : ∀ (ws : List (List UInt8)), (∀ w ∈ ws, c ∉ w) → hasL (c :: s ++ [c]) (c :: ws.flatMap (fun w => w ++ [c])) = isWord ws s
  | [], _ => by
    show (hasPre _ _ || hasL (c :: (s ++ [c])) []) = _
    rw [has_nil, hasPre_eq]
    cases s <;> simp [isWord, List.isPrefixOf]
  | w :: ws, h => by
    have hw := h w (by simp)
    have ih := has_words hs ws (fun x hx => h x (by simp [hx]))
    have e : (w :: ws).flatMap (fun w => w ++ [c]) = w ++ (c :: ws.flatMap (fun w => w ++ [c])) := by simp
    rw [e]
    show (hasPre (c :: (s ++ [c])) (c :: (w ++ (c :: ws.flatMap (fun w => w ++ [c])))) || hasL (c :: (s ++ [c])) (w ++ (c :: ws.flatMap (fun w => w ++ [c])))) = _
    rw [has_skip _ _ hw]
    have ih' : hasL (c :: (s ++ [c])) (c :: ws.flatMap (fun w => w ++ [c])) = isWord ws s := ih
    rw [ih', hasPre_eq]
    simp only [List.isPrefixOf, beq_self_eq_true, Bool.true_and, pre_sp _ _ _ hs hw]
    simp [isWord]
theorem has_one (c : UInt8) : ∀ (s : List UInt8), hasL [c] s = s.any (fun x => x == c)
  | [] => rfl
  | a :: s => by
    show (hasPre [c] (a :: s) || hasL [c] s) = _
    rw [has_one c s, hasPre_eq, List.any_cons]
    congr 1
    rw [Bool.eq_iff_iff]
    simp [List.isPrefixOf]
    exact eq_comm
def wordsT : List UInt8 := 32 :: wordsR.flatMap (fun w => w ++ [32])
theorem words_sp : ∀ w ∈ wordsR, (32 : UInt8) ∉ w ∧ w ≠ [] := by decide
/-- Is it a word? -/
theorem word_ok (s : List UInt8) (hs : s.length ≤ 1000000) (σ : Store) : callL T 14 [sv s] σ = some (bv (isWord wordsR s), σ) := by
  suffices hh : ∃ v σ', callL T 14 [sv s] σ = some (v, σ') ∧ (v = bv (isWord wordsR s) ∧ σ' = σ) by
    obtain ⟨v, σ', h, rfl, rfl⟩ := hh
    exact h
  refine call_shared T14 rfl rfl ?_
  by_cases h0 : s = []
  · subst h0
    have : isWord wordsR [] = false := by decide
    rw [this]
    simp [bytesEq_iff']
  · have hc1 := fun σ => contains_ok s [32] (by omega) σ
    rw [has_one] at hc1
    cases h1 : s.any (fun x => x == 32) with
    | true =>
      rw [h1] at hc1
      have hw : isWord wordsR s = false := by
        unfold isWord
        rw [List.any_eq_false]
        intro w hw
        simp only [decide_eq_true_eq]
        rintro rfl
        obtain ⟨x, hx, hx2⟩ := List.any_eq_true.1 h1
        rw [beq_iff_eq] at hx2
        subst hx2
        exact (words_sp _ hw).1 hx
      rw [hw]
      simp [bytesEq_iff', h0, hc1]
    | false =>
      rw [h1] at hc1
      have hns : (32 : UInt8) ∉ s := by
        intro h
        have := List.any_eq_false.1 h1 32 h
        simp at this
      have hc2 := fun σ => contains_ok wordsT (32 :: (s ++ [32])) (by decide) σ
      have hw := has_words hns wordsR (fun w hw => (words_sp w hw).1)
      have hw' : hasL (32 :: (s ++ [32])) wordsT = isWord wordsR s := hw
      rw [hw'] at hc2
      have hlen1 : ([32] : List UInt8).length + s.length ≤ 2 ^ 62 := by simp; omega
      have ha1 : opBin .other .add (sv [32]) (sv s) = some (sv (32 :: s)) := by
        show (match binStr .add ⟨⟨[32]⟩⟩ ⟨⟨s⟩⟩ with | some v => some (V.tr (.sc v)) | none => none) = _
        simp only [binStr]
        rw [if_pos hlen1]
        rfl
      have ha2 : opBin .other .add (sv (32 :: s)) (sv [32]) = some (sv (32 :: (s ++ [32]))) := by
        show (match binStr .add ⟨⟨32 :: s⟩⟩ ⟨⟨[32]⟩⟩ with | some v => some (V.tr (.sc v)) | none => none) = _
        simp only [binStr]
        rw [if_pos (by simp; omega)]
        rfl
      have hT : wordsT = [32, 98, 114, 101, 97, 107, 32, 99, 97, 115, 101, 32, 99, 104, 97, 110, 32, 99, 111, 110, 115, 116, 32, 99, 111, 110, 116, 105, 110, 117, 101, 32, 100, 101, 102, 97, 117, 108, 116, 32, 100, 101, 102, 101, 114, 32, 101, 108, 115, 101, 32, 102, 97, 108, 108, 116, 104, 114, 111, 117, 103, 104, 32, 102, 111, 114, 32, 102, 117, 110, 99, 32, 103, 111, 32, 103, 111, 116, 111, 32, 105, 102, 32, 105, 109, 112, 111, 114, 116, 32, 105, 110, 116, 101, 114, 102, 97, 99, 101, 32, 109, 97, 112, 32, 112, 97, 99, 107, 97, 103, 101, 32, 114, 97, 110, 103, 101, 32, 114, 101, 116, 117, 114, 110, 32, 115, 101, 108, 101, 99, 116, 32, 115, 116, 114, 117, 99, 116, 32, 115, 119, 105, 116, 99, 104, 32, 116, 121, 112, 101, 32, 118, 97, 114, 32] := by decide
      rw [hT] at hc2
      simp [bytesEq_iff', h0, hc1, ha1, ha2, hc2]
/-- The program's operators, of the longest first. -/
def opsP : List (List UInt8) := [[38, 94, 61], [38, 38], [38, 94], [38, 61], [124, 124], [124, 61], [61, 61], [33, 61], [60, 61], [62, 61], [43, 61], [45, 61], [42, 61], [47, 61], [37, 61], [94, 61], [58, 61], [43, 43], [45, 45], [43], [45], [42], [47], [37], [38], [124], [94], [60], [62], [33], [40], [41], [91], [93], [123], [125], [44], [46], [61], [126], [58]]
theorem find_max : ∀ {ops : List (List UInt8)} (_ : ops.Pairwise (fun x y => x.isPrefixOf y = false)) {s o : List UInt8}, o ∈ ops → o.isPrefixOf s = true → o.length ≤ opFind ops s
  | [], _, s, o, h, _ => by simp at h
  | x :: ops, hp, s, o, ho, hs => by
    rw [List.pairwise_cons] at hp
    unfold opFind
    by_cases hx : x.isPrefixOf s = true
    · rw [List.find?_cons_of_pos (by simpa using hx)]
      rcases List.mem_cons.1 ho with rfl | ho
      · exact Nat.le_refl _
      · rcases Nat.lt_or_ge x.length o.length with h | h
        · exfalso
          have h1 := hp.1 o ho
          rw [List.isPrefixOf_iff_prefix] at hx hs
          have := List.prefix_of_prefix_length_le hx hs (by omega)
          rw [← List.isPrefixOf_iff_prefix, h1] at this
          cases this
        · exact h
    · rw [List.find?_cons_of_neg (by simpa using hx)]
      rcases List.mem_cons.1 ho with rfl | ho
      · exact absurd hs hx
      · exact find_max hp.2 ho hs
theorem find_same {p q : List (List UInt8)} (hp : p.Pairwise (fun x y => x.isPrefixOf y = false)) (hq : q.Pairwise (fun x y => x.isPrefixOf y = false)) (h1 : ∀ o ∈ p, o ∈ q) (h2 : ∀ o ∈ q, o ∈ p) (s : List UInt8) : opFind p s = opFind q s := by
  have half : ∀ {p q : List (List UInt8)}, q.Pairwise (fun x y => x.isPrefixOf y = false) → (∀ o ∈ p, o ∈ q) → opFind p s ≤ opFind q s := by
    intro p q hq h
    cases hf : p.find? (fun o => o.isPrefixOf s) with
    | none => simp [opFind, hf]
    | some o =>
      have e : opFind p s = o.length := by simp [opFind, hf]
      rw [e]
      exact find_max hq (h o (List.mem_of_find?_eq_some hf)) (by simpa using List.find?_some hf)
  exact Nat.le_antisymm (half hq h1) (half hp h2)
theorem ops_same (s : List UInt8) : opFind opsP s = opFind opsR s := find_same (by decide) (by decide) (by decide) (by decide) s
theorem ops_need : ∀ o ∈ opsP, hasL (32 :: (o ++ [32])) [32, 43, 43, 32, 45, 45, 32, 41, 32, 93, 32, 125, 32] = isWord endO o := by decide
end Go.Proofs.YtbdebcmklaooaaaDoor.AM.Sa
end
section
set_option maxRecDepth 1000000
set_option linter.unusedVariables false
set_option linter.unusedSimpArgs false
namespace Go.Proofs.YtbdebcmklaooaaaDoor.AM.Sa
open Go.Proofs
theorem call_extW {f k : Nat} {fn : HFn} {vs : List V} {σ σ' : Store} {v : V} (hf : T f = some fn) (hm : fn.mode = .ext k) (hl : fn.nargs = vs.length) (h0 : extV k vs σ = none) (h : extW k vs σ = some (v, σ')) : callL T f vs σ = some (v, σ') := by
  refine callL_some.2 ⟨1, ?_⟩
  rw [callA, hf]
  simp only [hl, if_true, hm, h0, h]
def opsT : List UInt8 := [38, 94, 61, 32, 38, 38, 32, 38, 94, 32, 38, 61, 32, 124, 124, 32, 124, 61, 32, 61, 61, 32, 33, 61, 32, 60, 61, 32, 62, 61, 32, 43, 61, 32, 45, 61, 32, 42, 61, 32, 47, 61, 32, 37, 61, 32, 94, 61, 32, 58, 61, 32, 43, 43, 32, 45, 45, 32, 43, 32, 45, 32, 42, 32, 47, 32, 37, 32, 38, 32, 124, 32, 94, 32, 60, 32, 62, 32, 33, 32, 40, 32, 41, 32, 91, 32, 93, 32, 123, 32, 125, 32, 44, 32, 46, 32, 61, 32, 126, 32, 58]
theorem fields_ops : Lib.fields opsT = opsP := by decide +kernel
theorem fields_ok (σ : Store) : callL T 56 [sv opsT] σ = some (.tr (.row (opsP.map strT) 41 (some 41)), σ) := by
  refine call_extW (k := 10) T56 rfl rfl rfl ?_
  have h1 : (opsT.all (fun b => Nat.blt b.toNat 128) && Nat.ble opsT.length 100000) = true := by decide +kernel
  show (match Nat.beq 10 10 && (opsT.all (fun b => Nat.blt b.toNat 128) && Nat.ble opsT.length 100000) with | true => some (V.tr (.row ((Lib.fields opsT).map fun l : List UInt8 => Tree.sc (.string ⟨l.toArray⟩)) (Lib.fields opsT).length (some (Lib.fields opsT).length)), σ) | false => none) = _
  rw [h1, fields_ops]
  rfl
section
variable {σ : Store} {id : Nat} {b : List UInt8} {a : Nat} {need : Bool} {l : List Tk} {bt lv : V}
theorem operator_ok (h : SC σ id b a need l bt lv) (hl : b.length ≤ 1000000) (ha : a ≤ b.length) (hll : l.length ≤ 3000000) :
    ∃ r σ', callL T 39 [.ptr id 0 0] σ = some (bv r, σ') ∧ (if opFind opsR (b.drop a) = 0 then r = false else r = true ∧ ∃ lv', SC σ' id b (a + opFind opsR (b.drop a)) (isWord endO ((b.drop a).take (opFind opsR (b.drop a)))) (l ++ [⟨5, (b.drop a).take (opFind opsR (b.drop a)), a⟩]) bt lv') := by
  rw [← ops_same]
  obtain ⟨s, hs⟩ : ∃ s, b.drop a = s := ⟨_, rfl⟩
  have hsl : s.length = b.length - a := by rw [← hs, List.length_drop]
  rw [hs]
  obtain ⟨N, hN⟩ : ∃ r, opFind opsP s = r := ⟨_, rfl⟩
  rw [hN]
  obtain ⟨R, hR⟩ : ∃ R : V → Store → Prop, R = fun v σ' => ∃ r, v = bv r ∧ (if N = 0 then r = false else r = true ∧ ∃ lv', SC σ' id b (a + N) (isWord endO (s.take N)) (l ++ [⟨5, s.take N, a⟩]) bt lv') := ⟨_, rfl⟩
  suffices hh : ∃ v σ', callL T 39 [.ptr id 0 0] σ = some (v, σ') ∧ R v σ' by
    obtain ⟨v, σ', h1, h2⟩ := hh
    rw [hR] at h2
    obtain ⟨r, rfl, h3⟩ := h2
    exact ⟨r, σ', h1, h3⟩
  refine call_shared T39 rfl rfl ?_
  have hfl := fields_ok σ
  obtain ⟨W, hW⟩ : ∃ W : V, W = .tr (.row (opsP.map strT) 41 (some 41)) := ⟨_, rfl⟩
  have hrw : Rw (opsP.map strT) W := by rw [hW]; exact .inr ⟨some 41, rfl⟩
  have hWl : ∀ σ, opLen 1 W σ = some (nv .i64 41) := fun σ => rw_len hrw
  rw [← hW] at hfl
  unfold opsT at hfl
  obtain ⟨I, hI⟩ : ∃ I : Nat → St → Prop, I = fun m st => m ≤ 41 ∧ N = opFind (opsP.drop m) s ∧ ∃ e L, st = ⟨e, L, σ⟩ ∧ look e 0 = some (.ptr id 0 0) ∧ look e 6 = some W ∧ look e 7 = some (nv .i64 41) ∧ look e 8 = some (nv .i64 m) := ⟨_, rfl⟩
  simp [hfl, hWl]
  refine wpc_up 41 I (by rw [hI]; exact ⟨by omega, hN.symm, _, _, rfl, by simp, by simp, by simp, by simp⟩) ?_
  intro m st hst
  rw [hI] at hst
  obtain ⟨hm, hf, e, L, rfl, h0, h6, h7, h8⟩ := hst
  by_cases hlt : m < 41
  · have hlt' : (m : Int) < 41 := by omega
    obtain ⟨o, ho⟩ : ∃ o, opsP[m]? = some o := ⟨_, List.getElem?_eq_getElem (show m < opsP.length from hlt)⟩
    have hto : (opsP.map strT)[m]? = some (strT o) := by rw [List.getElem?_map, ho]; rfl
    have hmem := List.mem_of_getElem? ho
    have ho3 : 1 ≤ o.length ∧ o.length ≤ 3 := by
      have : ∀ o ∈ opsP, 1 ≤ o.length ∧ o.length ≤ 3 := by decide
      exact this o hmem
    have hdrop : opsP.drop m = o :: opsP.drop (m + 1) := by
      obtain ⟨h, rfl⟩ := List.getElem?_eq_some_iff.1 ho
      exact List.drop_eq_getElem_cons h
    have ia := fun σ => rw_iaddr (σ := σ) hrw hto .i64
    have ld : ∀ σ, opLoad 1 false (.tr (.rptr (opsP.map strT) m)) σ = some (sv o) := fun σ => rw_load (σ := σ) hto
    have ldt : opLdt 1 false (.tr (.rptr (opsP.map strT) m)) = some (sv o) := rw_ldt hto
    have ls : ∀ σ, opLen 0 (sv o) σ = some (nv .i64 o.length) := fun _ => rfl
    have w6 : IntKind.i64.wrap ((m : Int) + 1) = (m : Int) + 1 := w64z (by omega) (by omega)
    have hbg := begins_ok h hl (t := o) (by omega) ha
    rw [hs] at hbg
    cases hp : o.isPrefixOf s with
    | true =>
      rw [hp] at hbg
      have hres : N = o.length := by
        rw [hf, hdrop]
        unfold opFind
        rw [List.find?_cons_of_pos (by simpa using hp)]
      have hpt := pre_take.1 hp
      have hN0 : ¬ o.length = 0 := by omega
      have l1 := sc_l1 h
      have wo : IntKind.i64.wrap ((a : Int) + o.length) = (a : Int) + o.length := w64z (by omega) (by omega)
      obtain ⟨σ1, s1, hs1⟩ := sc_s1 h (a' := a + o.length) (z := (a : Int) + o.length) (by omega)
      obtain ⟨σ2, lv2, hput, hs2⟩ := put_ok hs1 (kind := 5) (i := a) (by omega) (by omega) hll (z := (a : Int)) rfl
      rw [show a + o.length - a = o.length by omega, hs, hpt.2] at hs2
      have ha1 : opBin .other .add (sv [32]) (sv o) = some (sv (32 :: o)) := by
        show (match binStr .add ⟨⟨[32]⟩⟩ ⟨⟨o⟩⟩ with | some v => some (V.tr (.sc v)) | none => none) = _
        simp only [binStr]
        rw [if_pos (by simp; omega)]
        rfl
      have ha2 : opBin .other .add (sv (32 :: o)) (sv [32]) = some (sv (32 :: (o ++ [32]))) := by
        show (match binStr .add ⟨⟨32 :: o⟩⟩ ⟨⟨[32]⟩⟩ with | some v => some (V.tr (.sc v)) | none => none) = _
        simp only [binStr]
        rw [if_pos (by simp; omega)]
        rfl
      have hcon := fun σ => contains_ok [32, 43, 43, 32, 45, 45, 32, 41, 32, 93, 32, 125, 32] (32 :: (o ++ [32])) (by simp) σ
      rw [ops_need o hmem] at hcon
      obtain ⟨σ3, s3, hs3⟩ := sc_s2 hs2 (isWord endO o)
      have hput' : callL T 18 [V.ptr id 0 0, .tr (.sc (.int .i64 5)), nv .i64 a] σ1 = some (undefV, σ2) := hput
      simp [k39_2, k39_4, h0, h6, h7, h8, hlt', ia, ld, ldt, ls, hbg, sc_nc, sc_f, l1, wo, s1, hput', ha1, ha2, hcon, s3]
      rw [hR]
      subst hres
      refine ⟨true, rfl, ?_⟩
      rw [if_neg hN0, hpt.2]
      exact ⟨rfl, _, hs3⟩
    | false =>
      rw [hp] at hbg
      have hres : N = opFind (opsP.drop (m + 1)) s := by
        rw [hf, hdrop]
        unfold opFind
        rw [List.find?_cons_of_neg (by simp [hp])]
      simp [k39_2, k39_4, k39_12, h0, h6, h7, h8, hlt', ia, ld, ldt, ls, hbg, w6]
      refine ⟨hlt, ?_⟩
      rw [hI]
      refine ⟨by omega, hres, _, _, rfl, ?_, ?_, ?_, ?_⟩ <;> simp [h0, h6, h7]
  · have hlt' : ¬ (m : Int) < 41 := by omega
    have hd0 : opsP.drop m = [] := List.drop_eq_nil_of_le (by show 41 ≤ m; omega)
    have hres : N = 0 := by rw [hf, hd0]; rfl
    simp [k39_2, k39_13, h0, h6, h7, h8, hlt']
    rw [hR]
    exact ⟨false, rfl, by rw [if_pos hres]⟩
theorem cv53 (c : UInt8) (σ : Store) : callV (callL T) (.tr (.fn (.func 53) [] [])) [u8v c] σ = some (bv (isLD c), σ) := by
  obtain ⟨σ', h, rfl⟩ := name1_ok c σ
  exact h
theorem name_ok (h : SC σ id b a need l bt lv) (hl : b.length ≤ 1000000) (ha : a ≤ b.length) (hll : l.length ≤ 3000000) :
    ∃ σ' lv', callL T 35 [.ptr id 0 0] σ = some (undefV, σ') ∧ SC σ' id b (a + nrun isLD (b.drop a)) (endK (if isWord wordsR ((b.drop a).take (nrun isLD (b.drop a))) then 6 else 1) ((b.drop a).take (nrun isLD (b.drop a)))) (l ++ [⟨if isWord wordsR ((b.drop a).take (nrun isLD (b.drop a))) then 6 else 1, (b.drop a).take (nrun isLD (b.drop a)), a⟩]) bt lv' := by
  obtain ⟨N, hN⟩ : ∃ r, nrun isLD (b.drop a) = r := ⟨_, rfl⟩
  have hNl : N ≤ b.length - a := by rw [← hN, ← List.length_drop]; exact nrun_le
  rw [hN]
  obtain ⟨x, hx⟩ : ∃ r, (b.drop a).take N = r := ⟨_, rfl⟩
  rw [hx]
  obtain ⟨R, hR⟩ : ∃ R : V → Store → Prop, R = fun v σ' => v = undefV ∧ ∃ lv', SC σ' id b (a + N) (endK (if isWord wordsR x then 6 else 1) x) (l ++ [⟨if isWord wordsR x then 6 else 1, x, a⟩]) bt lv' := ⟨_, rfl⟩
  suffices hh : ∃ v σ', callL T 35 [.ptr id 0 0] σ = some (v, σ') ∧ R v σ' by
    obtain ⟨v, σ', h1, h2⟩ := hh
    rw [hR] at h2
    obtain ⟨rfl, lv', h3⟩ := h2
    exact ⟨σ', lv', h1, h3⟩
  refine call_shared T35 rfl rfl ?_
  have l1 := sc_l1 h
  obtain ⟨σ1, r1, hs1⟩ := run_ok h hl isLD _ cv53 (by omega)
  rw [hN] at r1 hs1
  have m0 := sc_l0 hs1
  have m1 := sc_l1 hs1
  obtain ⟨v', hv1, hv2⟩ := bv_cut hs1.2.1 (lo := a) (hi := a + N) (by omega) (by omega) (y := (a : Int)) (z := ((a + N : Nat) : Int)) rfl rfl
  rw [show a + N - a = N by omega, hx] at hv2
  have hstr := hv2.1
  obtain ⟨σ2, s2, hs2⟩ := sc_s2 hs1 true
  have hxl : x.length ≤ 1000000 := by rw [← hx, List.length_take, List.length_drop]; omega
  have hword := fun σ => word_ok x hxl σ
  have hut : mkTup [] = undefV := rfl
  have hx2 : (b.drop a).take (a + N - a) = x := by rw [show a + N - a = N by omega]; exact hx
  cases hw : isWord wordsR x with
  | false =>
    rw [hw] at hword
    obtain ⟨σ3, lv3, hput, hs3⟩ := put_ok hs2 (kind := 1) (i := a) (by omega) (by omega) hll (z := (a : Int)) rfl
    have hput' : callL T 18 [V.ptr id 0 0, .tr (.sc (.int .i64 1)), nv .i64 a] σ2 = some (undefV, σ3) := hput
    rw [hx2] at hs3
    simp [sc_nc, sc_f, l1, r1, m0, m1, hv1, hstr, s2, hword, k35_7, hput', hut]
    rw [hR, hw]
    exact ⟨rfl, lv3, hs3⟩
  | true =>
    rw [hw] at hword
    obtain ⟨σ3, s3, hs3⟩ := sc_s2 hs2 (isWord endW x)
    obtain ⟨σ4, lv4, hput, hs4⟩ := put_ok hs3 (kind := 6) (i := a) (by omega) (by omega) hll (z := (a : Int)) rfl
    have hput' : callL T 18 [V.ptr id 0 0, .tr (.sc (.int .i64 6)), nv .i64 a] σ3 = some (undefV, σ4) := hput
    rw [hx2] at hs4
    have fin : R undefV σ4 := by
      rw [hR, hw]
      refine ⟨rfl, lv4, ?_⟩
      have : endK 6 x = isWord endW x := by simp [endK]
      simp only [if_true, this]
      exact hs4
    by_cases e1 : x = [98, 114, 101, 97, 107]
    · have hE : isWord endW x = true := by rw [e1]; rfl
      rw [hE] at s3
      subst e1
      simp [sc_nc, sc_f, l1, r1, m0, m1, hv1, hstr, s2, hword, k35_7, hput', hut, bytesEq_iff', s3]
      exact fin
    · by_cases e2 : x = [99, 111, 110, 116, 105, 110, 117, 101]
      · have hE : isWord endW x = true := by rw [e2]; rfl
        rw [hE] at s3
        subst e2
        simp [sc_nc, sc_f, l1, r1, m0, m1, hv1, hstr, s2, hword, k35_7, hput', hut, bytesEq_iff', s3]
        exact fin
      · by_cases e3 : x = [114, 101, 116, 117, 114, 110]
        · have hE : isWord endW x = true := by rw [e3]; rfl
          rw [hE] at s3
          subst e3
          simp [sc_nc, sc_f, l1, r1, m0, m1, hv1, hstr, s2, hword, k35_7, hput', hut, bytesEq_iff', s3]
          exact fin
        · have hE : isWord endW x = false := by
            unfold isWord endW
            simp
            exact ⟨fun h => e1 h.symm, fun h => e2 h.symm, fun h => e3 h.symm⟩
          rw [hE] at s3
          simp [sc_nc, sc_f, l1, r1, m0, m1, hv1, hstr, s2, hword, k35_7, hput', hut, bytesEq_iff', e1, e2, e3, s3]
          exact fin
end
end Go.Proofs.YtbdebcmklaooaaaDoor.AM.Sa
end
section
set_option maxRecDepth 1000000
set_option linter.unusedVariables false
set_option linter.unusedSimpArgs false
namespace Go.Proofs.YtbdebcmklaooaaaDoor.AM.Sa
open Go.Proofs
theorem ends_snoc (l : List Tk) (t : Tk) : endsR (l ++ [t]) = endK t.kind t.text := by simp [endsR]
theorem ends_nl (l : List Tk) (i : Nat) : endsR (l ++ [nlT i]) = false := by
  rw [ends_snoc]
  rfl
theorem pre_hd {d : UInt8} (hd0 : d ≠ 0) : ∀ (s : List UInt8), [47, d].isPrefixOf s = (decide (hd s 0 = 47) && decide (hd s 1 = d))
  | [] => by simp [List.isPrefixOf, hd]
  | [x] => by
    have : ¬ (0 : UInt8) = d := fun h => hd0 h.symm
    simp [List.isPrefixOf, hd, this]
  | x :: y :: r => by
    rw [Bool.eq_iff_iff]
    simp [List.isPrefixOf, hd]
    constructor
    · rintro ⟨rfl, rfl⟩; exact ⟨rfl, rfl⟩
    · rintro ⟨rfl, rfl⟩; exact ⟨rfl, rfl⟩
theorem nrun_pos {p : UInt8 → Bool} {s : List UInt8} {c : UInt8} (h : s[0]? = some c) (hp : p c = true) : 0 < nrun p s := by
  rcases Nat.eq_zero_or_pos (nrun p s) with h0 | h0
  · have := nrun_at (p := p) (s := s) (c := c) (by rw [h0]; exact h)
    rw [this] at hp
    cases hp
  · exact h0
theorem commentR_pos {s : List UInt8} {n : Nat} {ln : Bool} (h0 : hd s 0 = 47) (h : commentR s = some (n, ln)) : n ≠ 0 := by
  have hp := hd_pos (s := s) (n := 0) (by rw [h0]; decide)
  obtain ⟨c, hc⟩ := some_of hp
  unfold commentR at h
  split at h
  · obtain ⟨rfl, _⟩ := Prod.mk.inj (Option.some.inj h)
    have hc' : c = 47 := by rw [← hd_of hc]; exact h0
    have := nrun_pos (p := fun c => !isNl c) hc (by rw [hc']; rfl)
    omega
  · cases hs : star (s.drop 2) with
    | none => rw [hs] at h; cases h
    | some k =>
      rw [hs] at h
      simp only [Option.map_some] at h
      obtain ⟨rfl, _⟩ := Prod.mk.inj (Option.some.inj h)
      omega
theorem numX_pos {s : List UInt8} {n k k' n' : Nat} {pt : Bool} (hk : 0 < k) (h : numX s n k pt = some (k', n')) : n' ≠ 0 := by
  unfold numX at h
  split at h
  · cases h
  · obtain ⟨rfl, rfl⟩ := numFin_le h
    omega
theorem numP_pos {s : List UInt8} {n k k' n' : Nat} {pt : Bool} (hk : 0 < k) (h : numP s n k pt = some (k', n')) : n' ≠ 0 := by
  unfold numP at h
  split at h
  · cases h
  · split at h
    · cases h
    · obtain ⟨rfl, rfl⟩ := numFin_le h
      omega
theorem numberR_pos {s : List UInt8} {k n : Nat} (hf : isD (hd s 0) = true ∨ hd s 0 = 46) (h : numberR s = some (k, n)) : n ≠ 0 := by
  have hp := hd_pos (s := s) (n := 0) (by rcases hf with h | h; intro h0; rw [h0] at h; cases h; rw [h]; decide)
  obtain ⟨c, hc⟩ := some_of hp
  unfold numberR at h
  generalize (if hd s 1 = 98 ∨ hd s 1 = 66 then 2 else 8) = bs at h
  split at h
  · split at h
    · exact numX_pos (by omega) h
    · exact numX_pos (by omega) h
  · split at h
    · split at h
      · cases h
      · obtain ⟨rfl, rfl⟩ := numFin_le h
        omega
    · split at h
      · exact numP_pos (by omega) h
      · rename_i h46
        refine numP_pos ?_ h
        rcases hf with hf | hf
        · exact nrun_pos hc (by rw [← isD_inB, ← hd_of hc]; exact hf)
        · rcases Nat.eq_zero_or_pos (nrun (inB 10) s) with h0 | h0
          · rw [h0] at h46
            exact absurd hf h46
          · exact h0
section
variable {σ : Store} {id : Nat} {b : List UInt8} {a : Nat} {l : List Tk} {bt lv : V}
theorem token_ok (h : SC σ id b a (endsR l) l bt lv) (hl : b.length ≤ 1000000) (ha : a < b.length) (hll : l.length ≤ 2999000) :
    ∃ r σ', callL T 16 [.ptr id 0 0] σ = some (bv r, σ') ∧ (if (elR (b.drop a)).2.1 = 0 then r = false else r = true ∧ ∃ lv', SC σ' id b (a + (elR (b.drop a)).2.1) (endsR (addR l a (b.drop a))) (addR l a (b.drop a)) bt lv') := by
  obtain ⟨s, hs⟩ : ∃ s, b.drop a = s := ⟨_, rfl⟩
  have hsl : s.length = b.length - a := by rw [← hs, List.length_drop]
  rw [hs]
  obtain ⟨R, hR⟩ : ∃ R : V → Store → Prop, R = fun v σ' => ∃ r, v = bv r ∧ (if (elR s).2.1 = 0 then r = false else r = true ∧ ∃ lv', SC σ' id b (a + (elR s).2.1) (endsR (addR l a s)) (addR l a s) bt lv') := ⟨_, rfl⟩
  suffices hh : ∃ v σ', callL T 16 [.ptr id 0 0] σ = some (v, σ') ∧ R v σ' by
    obtain ⟨v, σ', h1, h2⟩ := hh
    rw [hR] at h2
    obtain ⟨r, rfl, h3⟩ := h2
    exact ⟨r, σ', h1, h3⟩
  have bad : (elR s).2.1 = 0 → ∀ σ', R (bv false) σ' := by
    intro h σ'
    rw [hR]
    exact ⟨false, rfl, by rw [if_pos h]⟩
  have fin : ∀ k n line, elR s = (k, n, line) → n ≠ 0 → ∀ σ' lv' need' l', l' = (if line = true ∧ endsR l = true then l ++ [nlT a] else l) ++ (if k = 0 then [] else [⟨k, s.take n, a⟩]) → need' = endsR l' → SC σ' id b (a + n) need' l' bt lv' → R (bv true) σ' := by
    intro k n line he hn σ' lv' need' l' hl' hnd hsc
    have e : addR l a s = l' := by rw [hl']; unfold addR; rw [he]
    rw [hR]
    refine ⟨true, rfl, ?_⟩
    rw [he, e, if_neg hn]
    exact ⟨rfl, lv', by rw [← hnd]; exact hsc⟩
  clear hR
  refine call_shared T16 rfl rfl ?_
  obtain ⟨c, hc⟩ := some_of ha
  have ec : hd s 0 = c := by rw [← hs, hd_drop]; exact hd_of hc
  have ec' : hd b a = c := hd_of hc
  have e1 : hd s 1 = hd b (a + 1) := by rw [← hs]; exact hd_drop 1
  have hc0 : s[0]? = some c := by rw [← hs]; simpa using hc
  have l0 := sc_l0 h
  have l1 := sc_l1 h
  obtain ⟨p, hp1, hp2⟩ := bv_at h.2.1 hc (z := (a : Int)) rfl
  have w1 : IntKind.i64.wrap ((a : Int) + 1) = (a : Int) + 1 := w64z (by omega) (by omega)
  have hut : mkTup [] = undefV := rfl
  have u := fun d : UInt8 => u8_eq (a := c) (c := d)
  by_cases c10 : c = 10
  · have z : (c.toNat : Int) = 10 := by rw [c10]; rfl
    have zn : c.toNat = 10 := by omega
    obtain ⟨σ1, lv1, hnl, hs1⟩ := newline_ok h (by omega) (i := a) (z := (a : Int)) rfl
    have m1 := sc_l1 hs1
    obtain ⟨σ2, s2, hs2⟩ := sc_s1 hs1 (a' := a + 1) (z := (a : Int) + 1) (by omega)
    simp [k16_28, sc_nc, sc_f, l0, l1, hp1, hp2, z, zn, hnl, m1, w1, s2]
    refine fin 0 1 true ?_ (by omega) _ lv1 _ _ ?_ ?_ hs2
    · unfold elR; rw [ec, if_pos (by simp [c10])]; simp [c10]
    · cases endsR l <;> simp
    · cases he : endsR l <;> simp [he, ends_nl]
  have z10 : ¬ (c.toNat : Int) = 10 := fun h => c10 (u8_eq (c := 10) |>.1 h)
  have n10 : ¬ c.toNat = 10 := by omega
  by_cases csp : c = 32 ∨ c = 9 ∨ c = 13
  · obtain ⟨σ2, s2, hs2⟩ := sc_s1 h (a' := a + 1) (z := (a : Int) + 1) (by omega)
    have hel : elR s = (0, 1, false) := by
      unfold elR
      rw [ec, if_pos (by rcases csp with h | h | h <;> simp [h])]
      simp [c10]
    have goal : R (bv true) σ2 := by
      refine fin 0 1 false hel (by omega) _ lv _ _ ?_ ?_ hs2
      · simp
      · rfl
    rcases csp with csp | csp | csp
    · have z : (c.toNat : Int) = 32 := by rw [csp]; rfl
      have zn : c.toNat = 32 := by omega
      simp [k16_28, sc_nc, sc_f, l0, l1, hp1, hp2, z, zn, w1, s2]
      exact goal
    · have z : (c.toNat : Int) = 9 := by rw [csp]; rfl
      have zn : c.toNat = 9 := by omega
      simp [k16_28, sc_nc, sc_f, l0, l1, hp1, hp2, z, zn, w1, s2]
      exact goal
    · have z : (c.toNat : Int) = 13 := by rw [csp]; rfl
      have zn : c.toNat = 13 := by omega
      simp [k16_28, sc_nc, sc_f, l0, l1, hp1, hp2, z, zn, w1, s2]
      exact goal
  simp only [not_or] at csp
  obtain ⟨c32, c9, c13⟩ := csp
  have z32 : ¬ (c.toNat : Int) = 32 := fun h => c32 (u8_eq (c := 32) |>.1 h)
  have n32 : ¬ c.toNat = 32 := by omega
  have z9 : ¬ (c.toNat : Int) = 9 := fun h => c9 (u8_eq (c := 9) |>.1 h)
  have n9 : ¬ c.toNat = 9 := by omega
  have z13 : ¬ (c.toNat : Int) = 13 := fun h => c13 (u8_eq (c := 13) |>.1 h)
  have n13 : ¬ c.toNat = 13 := by omega
  have hel1 : ¬ (hd s 0 = 32 ∨ hd s 0 = 9 ∨ hd s 0 = 13 ∨ hd s 0 = 10) := by rw [ec]; simp [c32, c9, c13, c10]
  have hb1 := begins_ok h hl (t := [47, 47]) (by simp) (by omega)
  have hb2 := begins_ok h hl (t := [47, 42]) (by simp) (by omega)
  rw [hs, pre_hd (by decide), ec] at hb1 hb2
  by_cases ccom : c = 47 ∧ (hd s 1 = 47 ∨ hd s 1 = 42)
  · obtain ⟨σ1, r, hcom, hres⟩ := scom_ok h hl (by rw [ec']; exact ccom.1) (by rw [← e1]; exact ccom.2) (by omega)
    rw [hs] at hres
    have hel : elR s = (match commentR s with | none => (0, 0, false) | some (n, l) => (0, n, l)) := by
      unfold elR
      rw [if_neg hel1, if_pos (by rw [ec]; exact ccom)]
      rcases commentR s with _ | ⟨n, l⟩ <;> rfl
    have goal : R (bv r) σ1 := by
      cases hcm : commentR s with
      | none =>
        rw [hcm] at hres hel
        subst hres
        exact bad (by rw [hel]) _
      | some x =>
        obtain ⟨n, ln⟩ := x
        rw [hcm] at hres hel
        obtain ⟨rfl, lv', hs1⟩ := hres
        refine fin 0 n ln hel (commentR_pos (by rw [ec]; exact ccom.1) hcm) _ lv' _ _ ?_ ?_ hs1
        · cases ln <;> cases endsR l <;> simp
        · cases ln <;> cases he : endsR l <;> simp [he, ends_nl]
    rcases ccom with ⟨g0, g1 | g1⟩
    · rw [g0, g1] at hb1
      simp at hb1
      simp [k16_28, sc_nc, sc_f, l0, l1, hp1, hp2, z10, n10, z32, n32, z9, n9, z13, n13, hb1, hcom]
      exact goal
    · rw [g0, g1] at hb1 hb2
      simp at hb1 hb2
      simp [k16_28, sc_nc, sc_f, l0, l1, hp1, hp2, z10, n10, z32, n32, z9, n9, z13, n13, hb1, hb2, hcom]
      exact goal
  have hel2 : ¬ (hd s 0 = 47 ∧ (hd s 1 = 47 ∨ hd s 1 = 42)) := by rw [ec]; exact ccom
  have hbf : (decide (c = 47) && decide (hd s 1 = 47)) = false ∧ (decide (c = 47) && decide (hd s 1 = 42)) = false := by
    simp
    constructor
    · intro g0 g1; exact ccom ⟨g0, .inl g1⟩
    · intro g0 g1; exact ccom ⟨g0, .inr g1⟩
  rw [hbf.1] at hb1
  rw [hbf.2] at hb2
  have hlet := letter_ok c σ
  by_cases clet : isL c = true
  · rw [clet] at hlet
    obtain ⟨σ1, lv1, hnm, hs1⟩ := name_ok h hl (by omega) (by omega)
    rw [hs] at hs1
    simp [k16_28, sc_nc, sc_f, l0, l1, hp1, hp2, z10, n10, z32, n32, z9, n9, z13, n13, hb1, hb2, hlet, hnm]
    have hn0 : nrun isLD s ≠ 0 := by have := nrun_pos (p := isLD) hc0 (by simp [isLD, clet]); omega
    refine fin (if isWord wordsR (s.take (nrun isLD s)) then 6 else 1) (nrun isLD s) false ?_ hn0 _ lv1 _ _ ?_ ?_ hs1
    · unfold elR; rw [if_neg hel1, if_neg hel2, ec, if_pos clet]
    · have : ¬ (if isWord wordsR (s.take (nrun isLD s)) then 6 else 1) = 0 := by split <;> omega
      simp [this]
    · rw [ends_snoc]
  have clet' : isL c = false := by simpa using clet
  rw [clet'] at hlet
  have hdig := decimal_ok c σ
  have hdig1 := decimal_ok (hd b (a + 1)) σ
  have hah := ahead_ok h hl (by omega) (k := 1) (by omega) (z := 1) rfl
  by_cases cnum : isD c = true ∨ (c = 46 ∧ isD (hd s 1) = true)
  · obtain ⟨σ1, s1, hs1⟩ := sc_s2 h true
    obtain ⟨r, σ2, hnum, hres⟩ := snum_ok hs1 hl (by omega) ha (by rw [ec', ← isD_inB, ← isD_inB, ← e1]; exact cnum)
    rw [hs] at hres
    have hel : elR s = (match numberR s with | none => (0, 0, false) | some (k, n) => (k, n, false)) := by
      unfold elR
      rw [if_neg hel1, if_neg hel2, ec, if_neg clet, if_pos cnum]
      rcases numberR s with _ | ⟨n, l⟩ <;> rfl
    have goal : R (bv r) σ2 := by
      cases hcm : numberR s with
      | none =>
        rw [hcm] at hres hel
        subst hres
        exact bad (by rw [hel]) _
      | some x =>
        obtain ⟨k, n⟩ := x
        rw [hcm] at hres hel
        obtain ⟨rfl, lv', hs2⟩ := hres
        have hk := numberR_le hcm
        have hf : isD (hd s 0) = true ∨ hd s 0 = 46 := by
          rw [ec]
          rcases cnum with h | h
          · exact .inl h
          · exact .inr h.1
        refine fin k n false hel (numberR_pos hf hcm) _ lv' _ _ ?_ ?_ hs2
        · have : ¬ k = 0 := by omega
          simp [this]
        · rw [ends_snoc]
          have : k = 2 ∨ k = 3 := by omega
          rcases this with h | h <;> simp [endK, h]
    rcases cnum with g | ⟨g0, g1⟩
    · rw [g] at hdig
      simp [k16_28, sc_nc, sc_f, l0, l1, hp1, hp2, z10, n10, z32, n32, z9, n9, z13, n13, hb1, hb2, hlet, hdig, s1, hnum]
      exact goal
    · have z : (c.toNat : Int) = 46 := by rw [g0]; rfl
      have zn : c.toNat = 46 := by omega
      have hdf : isD c = false := by rw [g0]; decide
      rw [hdf] at hdig
      rw [← e1, g1] at hdig1
      rw [← e1] at hah
      have hdig' : callL T 36 [.tr (.sc (.int .u8 46))] σ = some (bv false, σ) := by rw [← z]; exact hdig
      have hlet' : callL T 34 [.tr (.sc (.int .u8 46))] σ = some (bv false, σ) := by rw [← z]; exact hlet
      simp [k16_28, sc_nc, sc_f, l0, l1, hp1, hp2, z, zn, hb1, hb2, hlet, hdig, hlet', hdig', hah, hdig1, s1, hnum]
      exact goal
  have cnum' : isD c = false := by
    cases h : isD c with
    | false => rfl
    | true => exact absurd (.inl h) cnum
  rw [cnum'] at hdig
  have hel3 : ¬ (isD c = true ∨ (c = 46 ∧ isD (hd s 1) = true)) := cnum
  have numfacts : ((c.toNat : Int) = 46 ∧ c.toNat = 46 ∧ isD (hd b (a + 1)) = false) ∨ (¬ (c.toNat : Int) = 46 ∧ ¬ c.toNat = 46) := by
    by_cases g0 : c = 46
    · have z : (c.toNat : Int) = 46 := by rw [g0]; rfl
      refine .inl ⟨z, by omega, ?_⟩
      rw [← e1]
      cases h : isD (hd s 1) with
      | false => rfl
      | true => exact absurd (.inr ⟨g0, h⟩) cnum
    · have z : ¬ (c.toNat : Int) = 46 := fun h => g0 (u8_eq (c := 46) |>.1 h)
      exact .inr ⟨z, by omega⟩
  have hdigN : callL T 36 [.tr (.sc (.int .u8 46))] σ = some (bv false, σ) := decimal_ok 46 σ
  by_cases cq : c = 34 ∨ c = 96
  · have g46 : ¬ (c.toNat : Int) = 46 ∧ ¬ c.toNat = 46 := by
      rcases cq with h | h <;> rw [h] <;> decide
    obtain ⟨σ1, s1, hs1⟩ := sc_s2 h true
    obtain ⟨r, σ2, hquo, hres⟩ := quoted_ok hs1 hl ha
    rw [hs] at hres
    have hel : elR s = (4, match textR s with | none => 0 | some (n, _) => n, false) := by
      unfold elR
      rw [if_neg hel1, if_neg hel2, ec, if_neg clet, if_neg cnum, if_pos cq]
      rcases textR s with _ | ⟨n, l⟩ <;> rfl
    have hqf : ((c.toNat : Int) = 34 ∧ c.toNat = 34) ∨ (¬ (c.toNat : Int) = 34 ∧ ¬ c.toNat = 34 ∧ (c.toNat : Int) = 96 ∧ c.toNat = 96) := by
      rcases cq with h | h <;> rw [h] <;> decide
    cases hcm : textR s with
    | none =>
      rw [hcm] at hres hel
      subst hres
      have goal := bad (by rw [hel]) σ2
      rcases hqf with hq | hq
      · simp [k16_22, k16_28, sc_nc, sc_f, l0, l1, hp1, hp2, z10, n10, z32, n32, z9, n9, z13, n13, hb1, hb2, hlet, hdig, g46, hq, s1, hquo]
        exact goal
      · simp [k16_22, k16_28, sc_nc, sc_f, l0, l1, hp1, hp2, z10, n10, z32, n32, z9, n9, z13, n13, hb1, hb2, hlet, hdig, g46, hq, s1, hquo]
        exact goal
    | some x =>
      obtain ⟨n, o⟩ := x
      rw [hcm] at hres hel
      obtain ⟨rfl, hs2⟩ := hres
      have hle := textR_le (by rw [← hs]; exact dropne ha) hcm
      obtain ⟨σ3, lv3, hput, hs3⟩ := put_ok hs2 (kind := 4) (i := a) (by omega) (by omega) (by omega) (z := (a : Int)) rfl
      rw [hs, show a + n - a = n by omega] at hs3
      have hput' : callL T 18 [V.ptr id 0 0, .tr (.sc (.int .i64 4)), nv .i64 a] σ2 = some (undefV, σ3) := hput
      have goal := fin 4 n false hel (by omega) _ lv3 _ _ (by simp) (by rw [ends_snoc]; rfl) hs3
      rcases hqf with hq | hq
      · simp [k16_22, k16_28, sc_nc, sc_f, l0, l1, hp1, hp2, z10, n10, z32, n32, z9, n9, z13, n13, hb1, hb2, hlet, hdig, g46, hq, s1, hquo, hput']
        exact goal
      · simp [k16_22, k16_28, sc_nc, sc_f, l0, l1, hp1, hp2, z10, n10, z32, n32, z9, n9, z13, n13, hb1, hb2, hlet, hdig, g46, hq, s1, hquo, hput']
        exact goal
  simp only [not_or] at cq
  have z34 : ¬ (c.toNat : Int) = 34 := fun h => cq.1 (u8_eq (c := 34) |>.1 h)
  have n34 : ¬ c.toNat = 34 := by omega
  have z96 : ¬ (c.toNat : Int) = 96 := fun h => cq.2 (u8_eq (c := 96) |>.1 h)
  have n96 : ¬ c.toNat = 96 := by omega
  have hel4 : ¬ (c = 34 ∨ c = 96) := by simp only [not_or]; exact cq
  by_cases csc : c = 59
  · have z : (c.toNat : Int) = 59 := by rw [csc]; rfl
    have zn : c.toNat = 59 := by omega
    have hel : elR s = (7, 1, false) := by
      unfold elR
      rw [if_neg hel1, if_neg hel2, ec, if_neg clet, if_neg cnum, if_neg hel4, if_pos csc]
    obtain ⟨σ1, s1, hs1⟩ := sc_s1 h (a' := a + 1) (z := (a : Int) + 1) (by omega)
    obtain ⟨σ2, lv2, hput, hs2⟩ := put_ok hs1 (kind := 7) (i := a) (by omega) (by omega) (by omega) (z := (a : Int)) rfl
    obtain ⟨σ3, s3, hs3⟩ := sc_s2 hs2 false
    rw [hs, show a + 1 - a = 1 by omega] at hs3
    have hput' : callL T 18 [V.ptr id 0 0, .tr (.sc (.int .i64 7)), nv .i64 a] σ1 = some (undefV, σ2) := hput
    have goal := fin 7 1 false hel (by omega) _ lv2 _ _ (by simp) (by rw [ends_snoc]; rfl) hs3
    have hlet' : callL T 34 [.tr (.sc (.int .u8 59))] σ = some (bv false, σ) := by rw [← z]; exact hlet
    have hdig' : callL T 36 [.tr (.sc (.int .u8 59))] σ = some (bv false, σ) := by rw [← z]; exact hdig
    simp [k16_28, sc_nc, sc_f, l0, l1, hp1, hp2, z, zn, hb1, hb2, hlet, hdig, hlet', hdig', w1, s1, hput', s3]
    exact goal
  have z59 : ¬ (c.toNat : Int) = 59 := fun h => csc (u8_eq (c := 59) |>.1 h)
  have n59 : ¬ c.toNat = 59 := by omega
  have hel : elR s = (5, opFind opsR s, false) := by
    unfold elR
    rw [if_neg hel1, if_neg hel2, ec, if_neg clet, if_neg cnum, if_neg hel4, if_neg csc]
  obtain ⟨r, σ1, hop, hres⟩ := operator_ok h hl (by omega) (by omega)
  rw [hs] at hres
  have goal : R (bv r) σ1 := by
    by_cases h0 : opFind opsR s = 0
    · rw [if_pos h0] at hres
      subst hres
      exact bad (by rw [hel]; exact h0) _
    · rw [if_neg h0] at hres
      obtain ⟨rfl, lv', hs1⟩ := hres
      refine fin 5 _ false hel h0 _ lv' _ _ (by simp) ?_ hs1
      rw [ends_snoc]
      simp [endK]
  have hlet' := letter_ok 46 σ
  rcases numfacts with hq | hq
  · have hd1 := decimal_ok (hd b (a + 1)) σ
    rw [hq.2.2] at hd1
    have c46 : c = 46 := u8_eq (c := 46) |>.1 hq.1
    subst c46
    simp [k16_28, sc_nc, sc_f, l0, l1, hp1, hp2, hb1, hb2, hlet, hdig, hdigN, hah, hd1, hop]
    exact goal
  · simp [k16_28, sc_nc, sc_f, l0, l1, hp1, hp2, z10, n10, z32, n32, z9, n9, z13, n13, hb1, hb2, hlet, hdig, hq, z34, n34, z96, n96, z59, n59, hop]
    exact goal
end
end Go.Proofs.YtbdebcmklaooaaaDoor.AM.Sa
end
section
set_option maxRecDepth 1000000
set_option linter.unusedVariables false
set_option linter.unusedSimpArgs false
namespace Go.Proofs.YtbdebcmklaooaaaDoor.AM.Sa
open Go.Proofs
theorem tl_end {σ : Store} {id : Nat} {bt lv : V} {l : List Tk} (h : TL σ id bt l lv) : snap σ deepN (mkTup [lv, iv 0, bv true]) = some (scanT (.inr l)) := by
  rcases h with ⟨rfl, rfl⟩ | ⟨h0, m, g, h1, h2, rfl, h3⟩
  · rfl
  · have hold : slice? ((l.flatMap tkE).map V.tr) 0 (l.length * 3) = some ((l.flatMap tkE).map .tr) := by
      unfold slice?
      have ht : (((l.flatMap tkE).map V.tr).drop 0).take (l.length * 3) = (l.flatMap tkE).map .tr := by
        rw [List.drop_zero, List.take_of_length_le (by rw [List.length_map, flat3]; exact Nat.le_refl _)]
      simp only [ht, List.length_map, flat3, if_true]
    have hob : obCells σ m g = some ((l.flatMap tkE).map .tr) := by simp [obCells, h3]
    have hs : snap σ (deepN - 1) (.own m g 0 l.length 3 none) = some (tksT l) := by
      rw [show deepN - 1 = deepN - 2 + 1 from rfl]
      unfold snap
      simp only [hob, hold]
      rw [snapL_tr]
      unfold tksT
      rw [if_neg (by rintro rfl; simp at h0)]
    show snap σ deepN (.tup [.own m g 0 l.length 3 none, iv 0, bv true]) = _
    rw [show deepN = deepN - 1 + 1 from rfl]
    unfold snap
    simp only [snapL]
    rw [hs]
    rfl
section
variable {b : List UInt8} {tb : Tree} (hb : IsSl byE b (.tr tb)) (hl : b.length ≤ 1000000)
include hb hl
theorem scan_ok (σ : Store) : callL T 9 [.tr tb] σ = some (.tr (scanT (scanR b)), σ) := by
  suffices hh : ∃ t, (∀ σ, callL T 9 ([tb].map .tr) σ = some (.tr t, σ)) ∧ t = scanT (scanR b) by
    obtain ⟨t, h, rfl⟩ := hh
    exact h σ
  refine call_iso T9 rfl rfl ?_
  obtain ⟨RES, hRES⟩ : ∃ r, scanR b = r := ⟨_, rfl⟩
  rw [hRES]
  have hlen : ∀ σ, opLen 1 (.tr tb) σ = some (nv .i64 b.length) := fun σ => by_len hb
  obtain ⟨I, hI⟩ : ∃ I : Nat → St → Prop, I = fun m st => ∃ k l e L σ lv, st = ⟨e, L, σ⟩ ∧ m ≤ k ∧ k ≤ b.length ∧ l.length ≤ 2 * k ∧ SC σ 0 b k (endsR l) l (.tr tb) lv ∧ RES = scanG k l (b.drop k) ∧ look e 0 = some (.tr tb) ∧ look e 5 = some (.ptr 0 0 0) := ⟨_, rfl⟩
  have hbox : opBoxB false (.tr (.agg [tb, .sc (.int .i64 0), .sc (.bool false), .sc (.slice none 0 0)])) [] = some (.ptr 0 0 0, [.row [.tr tb, iv 0, bv false, nilSl] 0]) := rfl
  have hini : SC [.row [.tr tb, iv 0, bv false, nilSl] 0] 0 b 0 (endsR []) [] (.tr tb) nilSl := ⟨rfl, .inl ⟨tb, rfl, hb⟩, .inl ⟨rfl, rfl⟩⟩
  have hcell : cellsOf (V.tr tb) = [V.tr tb] := by rcases hb with ⟨_, h⟩ | ⟨_, h⟩ <;> cases h <;> rfl
  simp [hcell, hbox]
  refine wpc_up b.length I (by rw [hI]; exact ⟨0, [], _, _, _, _, rfl, by omega, by omega, by simp, hini, by rw [← hRES]; rfl, by simp, by simp⟩) ?_
  clear hini
  intro m st hst
  rw [hI] at hst
  obtain ⟨k, l, e, L, σ', lv, rfl, hk1, hk2, hlk, hs, hR, h0, h5⟩ := hst
  have l1 := sc_l1 hs
  by_cases hlt : k < b.length
  · have hltz : (k : Int) < b.length := by omega
    obtain ⟨r, σ1, htok, hres⟩ := token_ok hs hl hlt (by omega)
    by_cases hn : (elR (b.drop k)).2.1 = 0
    · rw [if_pos hn] at hres
      subst hres
      rw [scanG_bad (dropne hlt) hn] at hR
      simp [k9_2, k9_4, h0, h5, sc_nc, sc_f, l1, hlen, hltz, htok]
      rw [hR]
      rfl
    · rw [if_neg hn] at hres
      obtain ⟨rfl, lv', hs1⟩ := hres
      have hle := (elR_le (dropne hlt)).1
      rw [List.length_drop] at hle
      rw [scanG_step (dropne hlt) hn, List.drop_drop] at hR
      have hal := addR_len l k (b.drop k)
      simp [k9_2, k9_4, h0, h5, sc_nc, sc_f, l1, hlen, hltz, htok]
      refine ⟨by omega, ?_⟩
      rw [hI]
      exact ⟨k + (elR (b.drop k)).2.1, addR l k (b.drop k), _, _, _, lv', rfl, by omega, by omega, by omega, hs1, hR, by simp [h0], by simp [h5]⟩
  · have hltz : ¬ (k : Int) < b.length := by omega
    have hkb : k = b.length := by omega
    subst hkb
    rw [List.drop_eq_nil_of_le (Nat.le_refl _), scanG_nil] at hR
    obtain ⟨σ1, lv1, hnl, hs1⟩ := newline_ok hs (by omega) (i := b.length) (z := (b.length : Int)) rfl
    obtain ⟨σ2, lv2, hput, hs2⟩ := put_ok hs1 (kind := 0) (i := b.length) (by omega) (by omega) (by split <;> (try simp) <;> omega) (z := (b.length : Int)) rfl
    rw [List.drop_eq_nil_of_le (Nat.le_refl _), List.take_nil] at hs2
    have m3 := sc_l3 hs2
    have hput' : callL T 18 [V.ptr 0 0 0, .tr (.sc (.int .i64 0)), nv .i64 b.length] σ1 = some (undefV, σ2) := hput
    have hsn := tl_end hs2.2.2
    simp [k9_2, k9_8, h0, h5, sc_nc, sc_f, l1, hlen, hltz, hnl, hput', m3]
    rw [hR]
    exact hsn
end
end Go.Proofs.YtbdebcmklaooaaaDoor.AM.Sa
end
section
set_option maxRecDepth 1000000
set_option linter.unusedVariables false
set_option linter.unusedSimpArgs false
namespace Go.Proofs.YtbdebcmklaooaaaDoor.AM.Sa
open Go.Proofs
def isT : Option (V × Store) → Bool | some (.tr (.sc (.bool true)), _) => true | _ => false
theorem begun_run : isT (callA T 2000 7 [] []) = true := by decide +kernel
theorem begun_ok (σ : Store) : callL T 7 [] σ = some (bv true, σ) := by
  have h := begun_run
  unfold isT at h
  split at h
  · rename_i σ1 e
    obtain ⟨t, ht, hr⟩ := iso_of_run (ts := []) T7 rfl e
    cases ht
    exact hr σ
  · cases h
theorem short_ok {b : List UInt8} {tb : Tree} (hb : IsSl byE b (.tr tb)) (n : Nat) : ∃ t', (∀ σ, callL T 8 [.tr tb, nv .i64 n] σ = some (.tr t', σ)) ∧ IsSl byE (b.take n) (.tr t') := by
  suffices hh : ∃ t, (∀ σ, callL T 8 ([tb, .sc (.int .i64 (n : Int))].map .tr) σ = some (.tr t, σ)) ∧ IsSl byE (b.take n) (.tr t) from hh
  refine call_iso T8 rfl rfl ?_
  have hlen : ∀ σ, opLen 1 (.tr tb) σ = some (nv .i64 b.length) := fun σ => by_len hb
  by_cases h : n < b.length
  · have hz : (n : Int) < b.length := by omega
    obtain ⟨v', h3, h4⟩ := isSl_cut_hi (σ := []) hb byE_len (k' := .i64) (hi := n) (by omega)
    obtain ⟨t', rfl⟩ : ∃ t', v' = .tr t' := by
      rcases h4 with ⟨_, rfl⟩ | ⟨_, rfl⟩
      · exact ⟨_, rfl⟩
      · exact ⟨_, rfl⟩
    simp [hlen, h, hz, h3]
    exact h4
  · have hz : ¬ (n : Int) < b.length := by omega
    simp [hlen, h, hz, k8_3]
    rw [List.take_of_length_le (by omega)]
    exact hb
theorem scanG_len : ∀ (m i : Nat) (l : List Tk) (s : List UInt8) {k : List Tk}, s.length ≤ m → scanG i l s = .inr k → k.length ≤ l.length + 2 * s.length + 2
  | 0, i, l, s, k, hm, h => by
    obtain rfl := List.length_eq_zero_iff.1 (show s.length = 0 by omega)
    rw [scanG_nil] at h
    cases h
    split <;> simp
  | m + 1, i, l, s, k, hm, h => by
    by_cases hs : s = []
    · subst hs
      rw [scanG_nil] at h
      cases h
      split <;> simp
    · by_cases hn : (elR s).2.1 = 0
      · rw [scanG_bad hs hn] at h
        cases h
      · rw [scanG_step hs hn] at h
        have hle := (elR_le hs).1
        have := scanG_len m _ _ _ (by rw [List.length_drop]; omega) h
        rw [List.length_drop] at this
        have h2 := addR_len l i s
        omega
end Go.Proofs.YtbdebcmklaooaaaDoor.AM.Sa
end
section
set_option maxRecDepth 1000000
set_option linter.unusedVariables false
set_option linter.unusedSimpArgs false
namespace Go.Proofs.YtbdebcmklaooaaaDoor.AM.Sa
open Go.Proofs
/-- Bytes that are gathered, wherever they lie. -/
def OutQ (o : List UInt8) (v : V) (σ : Store) : Prop := (o = [] ∧ v = nilSl) ∨ (0 < o.length ∧ ∃ m g, v = .own m g 0 o.length 1 none ∧ σ[m]? = some (.row (cK .u8 (o.map (·.toNat))) g))
theorem outq_app {o m : List UInt8} {v x : V} {σ : Store} (h : OutQ o v σ) (hx : IsSl byE m x) (hm : 0 < m.length) (hl : o.length ≤ 1000000) (hl2 : m.length ≤ 1000000) : ∃ v' σ', opAppend 1 1 v x σ = some (v', σ') ∧ OutQ (o ++ m) v' σ' := by
  have hx' := by_isSl hx
  have hml : (m.map (·.toNat)).length = m.length := List.length_map ..
  rcases h with ⟨rfl, rfl⟩ | ⟨h0, k, g, rfl, hs⟩
  · have := app_nil (σ := σ) (b := 1) hx' (by rw [hml]; exact hm) (room_ok (by omega) (by omega))
    refine ⟨_, _, this, .inr ⟨by simpa using hm, σ.length, 0, ?_, ?_⟩⟩
    · simp
    · simp
  · have := app_own (id := k) (n := o.length) (b := 1) (l := o.map (·.toNat)) hs (by simp) hx' (by rw [hml]; exact hm) (room_ok (by omega) (by omega)) (room_ok (by simpa using hl) (by omega))
    refine ⟨_, _, this, .inr ⟨by rw [List.length_append]; omega, k, g + 1, ?_, ?_⟩⟩
    · simp
    · rw [List.getElem?_set_self (List.getElem?_eq_some_iff.1 hs).1]
      simp
end Go.Proofs.YtbdebcmklaooaaaDoor.AM.Sa
end
section
set_option maxRecDepth 1000000
set_option linter.unusedVariables false
set_option linter.unusedSimpArgs false
namespace Go.Proofs.YtbdebcmklaooaaaDoor.AM.Sa
open Go.Proofs
theorem utfN_is {s : List UInt8} {n v l : Nat} (h : utfN s n v l ≠ 0) (hn : 0 < n) : utfN s n v l = n := by
  rcases (utfN_le (s := s) (n := n) (v := v) (l := l) hn).2 with h1 | h1
  · exact absurd h1 h
  · exact h1
theorem textG_pos {q : UInt8} {s : List UInt8} {n : Nat} {o : List UInt8} (h : textG q s = some (n, o)) : 1 ≤ n := by
  by_cases hs : s = []
  · subst hs; rw [textG_nil] at h; cases h
  · by_cases hq : hd s 0 = q
    · rw [textG_end hs hq] at h
      cases h
      omega
    · cases hst : stepR q s with
      | none => rw [textG_bad hs hq hst] at h; cases h
      | some x =>
        obtain ⟨n', o'⟩ := x
        have := stepR_le hs hst
        rw [textG_step hs hq hst] at h
        cases hg : textG q (s.drop n') with
        | none => rw [hg] at h; cases h
        | some y =>
          rw [hg] at h
          simp only [comb, Option.map_some, Option.some.injEq, Prod.mk.injEq] at h
          omega
/-- One step of a text. -/
theorem textG_one {q : UInt8} {s : List UInt8} {n : Nat} {o : List UInt8} (h : textG q s = some (n, o)) (hq : hd s 0 ≠ q) : s ≠ [] ∧ ∃ n1 o1 n2 o2, stepR q s = some (n1, o1) ∧ textG q (s.drop n1) = some (n2, o2) ∧ n = n1 + n2 ∧ o = o1 ++ o2 := by
  have hs : s ≠ [] := by rintro rfl; rw [textG_nil] at h; cases h
  refine ⟨hs, ?_⟩
  cases hst : stepR q s with
  | none => rw [textG_bad hs hq hst] at h; cases h
  | some x =>
    obtain ⟨n', o'⟩ := x
    rw [textG_step hs hq hst] at h
    cases hg : textG q (s.drop n') with
    | none => rw [hg] at h; cases h
    | some y =>
      rw [hg] at h
      simp only [comb, Option.map_some, Option.some.injEq, Prod.mk.injEq] at h
      exact ⟨n', o', y.1, y.2, by first | rfl | exact hst, by first | rfl | exact hg, h.1.symm, h.2.symm⟩
end Go.Proofs.YtbdebcmklaooaaaDoor.AM.Sa
end
section
set_option maxRecDepth 1000000
set_option linter.unusedVariables false
set_option linter.unusedSimpArgs false
namespace Go.Proofs.YtbdebcmklaooaaaDoor.AM.Sa
open Go.Proofs
section
variable {lit : List UInt8} (hl : lit.length ≤ 900000) {inn : List UInt8} (hin : inn = (lit.take (lit.length - 1)).drop 1) (hL : 2 ≤ lit.length)
include hin hL
include hl
end
end Go.Proofs.YtbdebcmklaooaaaDoor.AM.Sa
end
section
set_option maxRecDepth 1000000
set_option linter.unusedVariables false
set_option linter.unusedSimpArgs false
namespace Go.Proofs.YtbdebcmklaooaaaDoor.AM.Sa
open Go.Proofs
theorem textR_sub {s : List UInt8} (hs : s ≠ []) {n : Nat} {o : List UInt8} (h : textR s = some (n, o)) : textG (hd s 0) (s.drop 1) = some (n - 1, o) ∧ 2 ≤ n := by
  have h2 := textR_le hs h
  rw [textR_G hs] at h
  cases hg : textG (hd s 0) (s.drop 1) with
  | none => rw [hg] at h; cases h
  | some y =>
    obtain ⟨m, p⟩ := y
    rw [hg] at h
    simp only [comb, Option.map_some, Option.some.injEq, Prod.mk.injEq, List.nil_append] at h
    obtain ⟨rfl, rfl⟩ := h
    exact ⟨by rw [show 1 + m - 1 = m by omega], h2.2⟩
end Go.Proofs.YtbdebcmklaooaaaDoor.AM.Sa
end
