/- the reader: parts 38, 39, 40, 41, 42, 43, 44, 45. -/
import Derived.Test.YtolhjhjlfgfifaaGreatDoorRd26
set_option linter.unusedSectionVars false
section
set_option maxRecDepth 1000000
set_option linter.unusedVariables false
set_option linter.unusedSimpArgs false
namespace Go.Proofs.YtolhjhjlfgfifaaGreatDoor.AM.Rd
open Go.Proofs
theorem contains_ok (s t : List UInt8) (hs : s.length ≤ 4294967000) (σ : Store) : callL T 115 [sv s, sv t] σ = some (bv (hasL t s), σ) := by
  refine call_ext (k := 0) T115 rfl rfl ?_
  have b4 : Nat.blt s.length 4294967281 = true := Nat.ble_eq_true_of_le (by omega)
  have : argsOf 0 [sv s, sv t] σ = some [.string ⟨⟨s⟩⟩, .string ⟨⟨t⟩⟩] := rfl
  unfold extV
  rw [this]
  simp only [extS, b4, if_true, extR]
theorem hasPre_eq : ∀ (x y : List UInt8), hasPre x y = x.isPrefixOf y
  | [], _ => by simp [hasPre]
  | _ :: _, [] => by simp [hasPre]
  | a :: x, b :: y => by
    simp only [hasPre, List.isPrefixOf, hasPre_eq x y]
    congr 1
    rw [Bool.eq_iff_iff]
    simp [UInt8.toNat_inj]
theorem has_nil {c : UInt8} {t : List UInt8} : hasL (c :: t) [] = false := rfl
theorem has_skip {c : UInt8} {t : List UInt8} : ∀ (w r : List UInt8), c ∉ w → hasL (c :: t) (w ++ r) = hasL (c :: t) r
  | [], r, _ => rfl
  | a :: w, r, h => by
    simp only [List.mem_cons, not_or] at h
    show (hasPre (c :: t) (a :: (w ++ r)) || hasL (c :: t) (w ++ r)) = _
    rw [has_skip w r h.2, hasPre_eq]
    have : (c :: t).isPrefixOf (a :: (w ++ r)) = false := by
      simp [List.isPrefixOf]
      intro h'
      exact absurd h' h.1
    rw [this, Bool.false_or]
theorem pre_sp {c : UInt8} : ∀ (s w r : List UInt8), c ∉ s → c ∉ w → (s ++ [c]).isPrefixOf (w ++ c :: r) = decide (w = s)
  | [], [], r, _, _ => by simp [List.isPrefixOf]
  | [], a :: w, r, _, h => by
    simp only [List.mem_cons, not_or] at h
    simp [List.isPrefixOf]
    exact fun h' => absurd h' h.1
  | a :: s, [], r, h, _ => by
    simp only [List.mem_cons, not_or] at h
    simp [List.isPrefixOf]
    exact fun h' => absurd h'.symm h.1
  | a :: s, b :: w, r, h1, h2 => by
    simp only [List.mem_cons, not_or] at h1 h2
    have := pre_sp s w r h1.2 h2.2
    simp only [List.cons_append, List.isPrefixOf, this]
    rw [Bool.eq_iff_iff]
    simp
    exact fun _ => eq_comm
theorem has_words {c : UInt8} {s : List UInt8} (hs : c ∉ s) : ∀ (ws : List (List UInt8)), (∀ w ∈ ws, c ∉ w) → hasL (c :: s ++ [c]) (c :: ws.flatMap (fun w => w ++ [c])) = isWord ws s
  | [], _ => by
    show (hasPre _ _ || hasL (c :: (s ++ [c])) []) = _
    rw [has_nil, hasPre_eq]
    cases s <;> simp [isWord, List.isPrefixOf]
  | w :: ws, h => by
    have hw := h w (by simp)
    have ih := has_words hs ws (fun x hx => h x (by simp [hx]))
    have e : (w :: ws).flatMap (fun w => w ++ [c]) = w ++ (c :: ws.flatMap (fun w => w ++ [c])) := by simp
    rw [e]
    show (hasPre (c :: (s ++ [c])) (c :: (w ++ (c :: ws.flatMap (fun w => w ++ [c])))) || hasL (c :: (s ++ [c])) (w ++ (c :: ws.flatMap (fun w => w ++ [c])))) = _
    rw [has_skip _ _ hw]
    have ih' : hasL (c :: (s ++ [c])) (c :: ws.flatMap (fun w => w ++ [c])) = isWord ws s := ih
    rw [ih', hasPre_eq]
    simp only [List.isPrefixOf, beq_self_eq_true, Bool.true_and, pre_sp _ _ _ hs hw]
    simp [isWord]
theorem has_one (c : UInt8) : ∀ (s : List UInt8), hasL [c] s = s.any (fun x => x == c)
  | [] => rfl
  | a :: s => by
    show (hasPre [c] (a :: s) || hasL [c] s) = _
    rw [has_one c s, hasPre_eq, List.any_cons]
    congr 1
    rw [Bool.eq_iff_iff]
    simp [List.isPrefixOf]
    exact eq_comm
def wordsT : List UInt8 := 32 :: wordsR.flatMap (fun w => w ++ [32])
theorem words_sp : ∀ w ∈ wordsR, (32 : UInt8) ∉ w ∧ w ≠ [] := by decide
theorem word_ok (s : List UInt8) (hs : s.length ≤ 1000000) (σ : Store) : callL T 109 [sv s] σ = some (bv (isWord wordsR s), σ) := by
  suffices hh : ∃ v σ', callL T 109 [sv s] σ = some (v, σ') ∧ (v = bv (isWord wordsR s) ∧ σ' = σ) by
    obtain ⟨v, σ', h, rfl, rfl⟩ := hh
    exact h
  refine call_shared T109 rfl rfl ?_
  by_cases h0 : s = []
  · subst h0
    have : isWord wordsR [] = false := by decide
    rw [this]
    simp [bytesEq_iff']
  · have hc1 := fun σ => contains_ok s [32] (by omega) σ
    rw [has_one] at hc1
    cases h1 : s.any (fun x => x == 32) with
    | true =>
      rw [h1] at hc1
      have hw : isWord wordsR s = false := by
        unfold isWord
        rw [List.any_eq_false]
        intro w hw
        simp only [decide_eq_true_eq]
        rintro rfl
        obtain ⟨x, hx, hx2⟩ := List.any_eq_true.1 h1
        rw [beq_iff_eq] at hx2
        subst hx2
        exact (words_sp _ hw).1 hx
      rw [hw]
      simp [bytesEq_iff', h0, hc1]
    | false =>
      rw [h1] at hc1
      have hns : (32 : UInt8) ∉ s := by
        intro h
        have := List.any_eq_false.1 h1 32 h
        simp at this
      have hc2 := fun σ => contains_ok wordsT (32 :: (s ++ [32])) (by decide) σ
      have hw := has_words hns wordsR (fun w hw => (words_sp w hw).1)
      have hw' : hasL (32 :: (s ++ [32])) wordsT = isWord wordsR s := hw
      rw [hw'] at hc2
      have hlen1 : ([32] : List UInt8).length + s.length ≤ 2 ^ 62 := by simp; omega
      have ha1 : opBin .other .add (sv [32]) (sv s) = some (sv (32 :: s)) := by
        show (match binStr .add ⟨⟨[32]⟩⟩ ⟨⟨s⟩⟩ with | some v => some (V.tr (.sc v)) | none => none) = _
        simp only [binStr]
        rw [if_pos hlen1]
        rfl
      have ha2 : opBin .other .add (sv (32 :: s)) (sv [32]) = some (sv (32 :: (s ++ [32]))) := by
        show (match binStr .add ⟨⟨32 :: s⟩⟩ ⟨⟨[32]⟩⟩ with | some v => some (V.tr (.sc v)) | none => none) = _
        simp only [binStr]
        rw [if_pos (by simp; omega)]
        rfl
      have hT : wordsT = [32, 98, 114, 101, 97, 107, 32, 99, 97, 115, 101, 32, 99, 104, 97, 110, 32, 99, 111, 110, 115, 116, 32, 99, 111, 110, 116, 105, 110, 117, 101, 32, 100, 101, 102, 97, 117, 108, 116, 32, 100, 101, 102, 101, 114, 32, 101, 108, 115, 101, 32, 102, 97, 108, 108, 116, 104, 114, 111, 117, 103, 104, 32, 102, 111, 114, 32, 102, 117, 110, 99, 32, 103, 111, 32, 103, 111, 116, 111, 32, 105, 102, 32, 105, 109, 112, 111, 114, 116, 32, 105, 110, 116, 101, 114, 102, 97, 99, 101, 32, 109, 97, 112, 32, 112, 97, 99, 107, 97, 103, 101, 32, 114, 97, 110, 103, 101, 32, 114, 101, 116, 117, 114, 110, 32, 115, 101, 108, 101, 99, 116, 32, 115, 116, 114, 117, 99, 116, 32, 115, 119, 105, 116, 99, 104, 32, 116, 121, 112, 101, 32, 118, 97, 114, 32] := by decide
      rw [hT] at hc2
      simp [bytesEq_iff', h0, hc1, ha1, ha2, hc2]
def opsP : List (List UInt8) := [[38, 94, 61], [38, 38], [38, 94], [38, 61], [124, 124], [124, 61], [61, 61], [33, 61], [60, 61], [62, 61], [43, 61], [45, 61], [42, 61], [47, 61], [37, 61], [94, 61], [58, 61], [43, 43], [45, 45], [43], [45], [42], [47], [37], [38], [124], [94], [60], [62], [33], [40], [41], [91], [93], [123], [125], [44], [46], [61], [126], [58]]
theorem find_max : ∀ {ops : List (List UInt8)} (_ : ops.Pairwise (fun x y => x.isPrefixOf y = false)) {s o : List UInt8}, o ∈ ops → o.isPrefixOf s = true → o.length ≤ opFind ops s
  | [], _, s, o, h, _ => by simp at h
  | x :: ops, hp, s, o, ho, hs => by
    rw [List.pairwise_cons] at hp
    unfold opFind
    by_cases hx : x.isPrefixOf s = true
    · rw [List.find?_cons_of_pos (by simpa using hx)]
      rcases List.mem_cons.1 ho with rfl | ho
      · exact Nat.le_refl _
      · rcases Nat.lt_or_ge x.length o.length with h | h
        · exfalso
          have h1 := hp.1 o ho
          rw [List.isPrefixOf_iff_prefix] at hx hs
          have := List.prefix_of_prefix_length_le hx hs (by omega)
          rw [← List.isPrefixOf_iff_prefix, h1] at this
          cases this
        · exact h
    · rw [List.find?_cons_of_neg (by simpa using hx)]
      rcases List.mem_cons.1 ho with rfl | ho
      · exact absurd hs hx
      · exact find_max hp.2 ho hs
theorem find_same {p q : List (List UInt8)} (hp : p.Pairwise (fun x y => x.isPrefixOf y = false)) (hq : q.Pairwise (fun x y => x.isPrefixOf y = false)) (h1 : ∀ o ∈ p, o ∈ q) (h2 : ∀ o ∈ q, o ∈ p) (s : List UInt8) : opFind p s = opFind q s := by
  have half : ∀ {p q : List (List UInt8)}, q.Pairwise (fun x y => x.isPrefixOf y = false) → (∀ o ∈ p, o ∈ q) → opFind p s ≤ opFind q s := by
    intro p q hq h
    cases hf : p.find? (fun o => o.isPrefixOf s) with
    | none => simp [opFind, hf]
    | some o =>
      have e : opFind p s = o.length := by simp [opFind, hf]
      rw [e]
      exact find_max hq (h o (List.mem_of_find?_eq_some hf)) (by simpa using List.find?_some hf)
  exact Nat.le_antisymm (half hq h1) (half hp h2)
theorem ops_same (s : List UInt8) : opFind opsP s = opFind opsR s := find_same (by decide) (by decide) (by decide) (by decide) s
theorem ops_need : ∀ o ∈ opsP, hasL (32 :: (o ++ [32])) [32, 43, 43, 32, 45, 45, 32, 41, 32, 93, 32, 125, 32] = isWord endO o := by decide
end Go.Proofs.YtolhjhjlfgfifaaGreatDoor.AM.Rd
end
section
set_option maxRecDepth 1000000
set_option linter.unusedVariables false
set_option linter.unusedSimpArgs false
namespace Go.Proofs.YtolhjhjlfgfifaaGreatDoor.AM.Rd
open Go.Proofs
theorem call_extW {f k : Nat} {fn : HFn} {vs : List V} {σ σ' : Store} {v : V} (hf : T f = some fn) (hm : fn.mode = .ext k) (hl : fn.nargs = vs.length) (h0 : extV k vs σ = none) (h : extW k vs σ = some (v, σ')) : callL T f vs σ = some (v, σ') := by
  refine callL_some.2 ⟨1, ?_⟩
  rw [callA, hf]
  simp only [hl, if_true, hm, h0, h]
def opsT : List UInt8 := [38, 94, 61, 32, 38, 38, 32, 38, 94, 32, 38, 61, 32, 124, 124, 32, 124, 61, 32, 61, 61, 32, 33, 61, 32, 60, 61, 32, 62, 61, 32, 43, 61, 32, 45, 61, 32, 42, 61, 32, 47, 61, 32, 37, 61, 32, 94, 61, 32, 58, 61, 32, 43, 43, 32, 45, 45, 32, 43, 32, 45, 32, 42, 32, 47, 32, 37, 32, 38, 32, 124, 32, 94, 32, 60, 32, 62, 32, 33, 32, 40, 32, 41, 32, 91, 32, 93, 32, 123, 32, 125, 32, 44, 32, 46, 32, 61, 32, 126, 32, 58]
theorem fields_ops : Lib.fields opsT = opsP := by decide +kernel
theorem fields_ok (σ : Store) : callL T 114 [sv opsT] σ = some (.tr (.row (opsP.map strT) 41 (some 41)), σ) := by
  refine call_extW (k := 10) T114 rfl rfl rfl ?_
  have h1 : (opsT.all (fun b => Nat.blt b.toNat 128) && Nat.ble opsT.length 100000) = true := by decide +kernel
  show (match Nat.beq 10 10 && (opsT.all (fun b => Nat.blt b.toNat 128) && Nat.ble opsT.length 100000) with | true => some (V.tr (.row ((Lib.fields opsT).map fun l : List UInt8 => Tree.sc (.string ⟨l.toArray⟩)) (Lib.fields opsT).length (some (Lib.fields opsT).length)), σ) | false => none) = _
  rw [h1, fields_ops]
  rfl
section
variable {σ : Store} {id : Nat} {b : List UInt8} {a : Nat} {need : Bool} {l : List Tk} {bt lv : V}
theorem operator_ok (h : SC σ id b a need l bt lv) (hl : b.length ≤ 1000000) (ha : a ≤ b.length) (hll : l.length ≤ 3000000) :
    ∃ r σ', callL T 75 [.ptr id 0 0] σ = some (bv r, σ') ∧ (if opFind opsR (b.drop a) = 0 then r = false else r = true ∧ ∃ lv', SC σ' id b (a + opFind opsR (b.drop a)) (isWord endO ((b.drop a).take (opFind opsR (b.drop a)))) (l ++ [⟨5, (b.drop a).take (opFind opsR (b.drop a)), a⟩]) bt lv') := by
  rw [← ops_same]
  obtain ⟨s, hs⟩ : ∃ s, b.drop a = s := ⟨_, rfl⟩
  have hsl : s.length = b.length - a := by rw [← hs, List.length_drop]
  rw [hs]
  obtain ⟨N, hN⟩ : ∃ r, opFind opsP s = r := ⟨_, rfl⟩
  rw [hN]
  obtain ⟨R, hR⟩ : ∃ R : V → Store → Prop, R = fun v σ' => ∃ r, v = bv r ∧ (if N = 0 then r = false else r = true ∧ ∃ lv', SC σ' id b (a + N) (isWord endO (s.take N)) (l ++ [⟨5, s.take N, a⟩]) bt lv') := ⟨_, rfl⟩
  suffices hh : ∃ v σ', callL T 75 [.ptr id 0 0] σ = some (v, σ') ∧ R v σ' by
    obtain ⟨v, σ', h1, h2⟩ := hh
    rw [hR] at h2
    obtain ⟨r, rfl, h3⟩ := h2
    exact ⟨r, σ', h1, h3⟩
  refine call_shared T75 rfl rfl ?_
  have hfl := fields_ok σ
  obtain ⟨W, hW⟩ : ∃ W : V, W = .tr (.row (opsP.map strT) 41 (some 41)) := ⟨_, rfl⟩
  have hrw : Rw (opsP.map strT) W := by rw [hW]; exact .inr ⟨some 41, rfl⟩
  have hWl : ∀ σ, opLen 1 W σ = some (nv .i64 41) := fun σ => rw_len hrw
  rw [← hW] at hfl
  unfold opsT at hfl
  obtain ⟨I, hI⟩ : ∃ I : Nat → St → Prop, I = fun m st => m ≤ 41 ∧ N = opFind (opsP.drop m) s ∧ ∃ e L, st = ⟨e, L, σ⟩ ∧ look e 0 = some (.ptr id 0 0) ∧ look e 6 = some W ∧ look e 7 = some (nv .i64 41) ∧ look e 8 = some (nv .i64 m) := ⟨_, rfl⟩
  simp [hfl, hWl]
  refine wpc_up 41 I (by rw [hI]; exact ⟨by omega, hN.symm, _, _, rfl, by simp, by simp, by simp, by simp⟩) ?_
  intro m st hst
  rw [hI] at hst
  obtain ⟨hm, hf, e, L, rfl, h0, h6, h7, h8⟩ := hst
  by_cases hlt : m < 41
  · have hlt' : (m : Int) < 41 := by omega
    obtain ⟨o, ho⟩ : ∃ o, opsP[m]? = some o := ⟨_, List.getElem?_eq_getElem (show m < opsP.length from hlt)⟩
    have hto : (opsP.map strT)[m]? = some (strT o) := by rw [List.getElem?_map, ho]; rfl
    have hmem := List.mem_of_getElem? ho
    have ho3 : 1 ≤ o.length ∧ o.length ≤ 3 := by
      have : ∀ o ∈ opsP, 1 ≤ o.length ∧ o.length ≤ 3 := by decide
      exact this o hmem
    have hdrop : opsP.drop m = o :: opsP.drop (m + 1) := by
      obtain ⟨h, rfl⟩ := List.getElem?_eq_some_iff.1 ho
      exact List.drop_eq_getElem_cons h
    have ia := fun σ => rw_iaddr (σ := σ) hrw hto .i64
    have ld : ∀ σ, opLoad 1 false (.tr (.rptr (opsP.map strT) m)) σ = some (sv o) := fun σ => rw_load (σ := σ) hto
    have ldt : opLdt 1 false (.tr (.rptr (opsP.map strT) m)) = some (sv o) := rw_ldt hto
    have ls : ∀ σ, opLen 0 (sv o) σ = some (nv .i64 o.length) := fun _ => rfl
    have w6 : IntKind.i64.wrap ((m : Int) + 1) = (m : Int) + 1 := w64z (by omega) (by omega)
    have hbg := begins_ok h hl (t := o) (by omega) ha
    rw [hs] at hbg
    cases hp : o.isPrefixOf s with
    | true =>
      rw [hp] at hbg
      have hres : N = o.length := by
        rw [hf, hdrop]
        unfold opFind
        rw [List.find?_cons_of_pos (by simpa using hp)]
      have hpt := pre_take.1 hp
      have hN0 : ¬ o.length = 0 := by omega
      have l1 := sc_l1 h
      have wo : IntKind.i64.wrap ((a : Int) + o.length) = (a : Int) + o.length := w64z (by omega) (by omega)
      obtain ⟨σ1, s1, hs1⟩ := sc_s1 h (a' := a + o.length) (z := (a : Int) + o.length) (by omega)
      obtain ⟨σ2, lv2, hput, hs2⟩ := put_ok hs1 (kind := 5) (i := a) (by omega) (by omega) hll (z := (a : Int)) rfl
      rw [show a + o.length - a = o.length by omega, hs, hpt.2] at hs2
      have ha1 : opBin .other .add (sv [32]) (sv o) = some (sv (32 :: o)) := by
        show (match binStr .add ⟨⟨[32]⟩⟩ ⟨⟨o⟩⟩ with | some v => some (V.tr (.sc v)) | none => none) = _
        simp only [binStr]
        rw [if_pos (by simp; omega)]
        rfl
      have ha2 : opBin .other .add (sv (32 :: o)) (sv [32]) = some (sv (32 :: (o ++ [32]))) := by
        show (match binStr .add ⟨⟨32 :: o⟩⟩ ⟨⟨[32]⟩⟩ with | some v => some (V.tr (.sc v)) | none => none) = _
        simp only [binStr]
        rw [if_pos (by simp; omega)]
        rfl
      have hcon := fun σ => contains_ok [32, 43, 43, 32, 45, 45, 32, 41, 32, 93, 32, 125, 32] (32 :: (o ++ [32])) (by simp) σ
      rw [ops_need o hmem] at hcon
      obtain ⟨σ3, s3, hs3⟩ := sc_s2 hs2 (isWord endO o)
      have hput' : callL T 42 [V.ptr id 0 0, .tr (.sc (.int .i64 5)), nv .i64 a] σ1 = some (undefV, σ2) := hput
      simp [k75_2, k75_4, h0, h6, h7, h8, hlt', ia, ld, ls, hbg, sc_nc, sc_f, l1, wo, s1, hput', ha1, ha2, hcon, s3]
      rw [hR]
      subst hres
      refine ⟨true, rfl, ?_⟩
      rw [if_neg hN0, hpt.2]
      exact ⟨rfl, _, hs3⟩
    | false =>
      rw [hp] at hbg
      have hres : N = opFind (opsP.drop (m + 1)) s := by
        rw [hf, hdrop]
        unfold opFind
        rw [List.find?_cons_of_neg (by simp [hp])]
      simp [k75_2, k75_4, k75_12, h0, h6, h7, h8, hlt', ia, ld, hbg, w6]
      refine ⟨hlt, ?_⟩
      rw [hI]
      refine ⟨by omega, hres, _, _, rfl, ?_, ?_, ?_, ?_⟩ <;> simp [h0, h6, h7]
  · have hlt' : ¬ (m : Int) < 41 := by omega
    have hd0 : opsP.drop m = [] := List.drop_eq_nil_of_le (by show 41 ≤ m; omega)
    have hres : N = 0 := by rw [hf, hd0]; rfl
    simp [k75_2, k75_13, h7, h8, hlt']
    rw [hR]
    exact ⟨false, rfl, by rw [if_pos hres]⟩
theorem cv53 (c : UInt8) (σ : Store) : callV (callL T) (.tr (.fn (.func 108) [] [])) [u8v c] σ = some (bv (isLD c), σ) := by
  obtain ⟨σ', h, rfl⟩ := name1_ok c σ
  exact h
theorem name_ok (h : SC σ id b a need l bt lv) (hl : b.length ≤ 1000000) (ha : a ≤ b.length) (hll : l.length ≤ 3000000) :
    ∃ σ' lv', callL T 70 [.ptr id 0 0] σ = some (undefV, σ') ∧ SC σ' id b (a + nrun isLD (b.drop a)) (endK (if isWord wordsR ((b.drop a).take (nrun isLD (b.drop a))) then 6 else 1) ((b.drop a).take (nrun isLD (b.drop a)))) (l ++ [⟨if isWord wordsR ((b.drop a).take (nrun isLD (b.drop a))) then 6 else 1, (b.drop a).take (nrun isLD (b.drop a)), a⟩]) bt lv' := by
  obtain ⟨N, hN⟩ : ∃ r, nrun isLD (b.drop a) = r := ⟨_, rfl⟩
  have hNl : N ≤ b.length - a := by rw [← hN, ← List.length_drop]; exact nrun_le
  rw [hN]
  obtain ⟨x, hx⟩ : ∃ r, (b.drop a).take N = r := ⟨_, rfl⟩
  rw [hx]
  obtain ⟨R, hR⟩ : ∃ R : V → Store → Prop, R = fun v σ' => v = undefV ∧ ∃ lv', SC σ' id b (a + N) (endK (if isWord wordsR x then 6 else 1) x) (l ++ [⟨if isWord wordsR x then 6 else 1, x, a⟩]) bt lv' := ⟨_, rfl⟩
  suffices hh : ∃ v σ', callL T 70 [.ptr id 0 0] σ = some (v, σ') ∧ R v σ' by
    obtain ⟨v, σ', h1, h2⟩ := hh
    rw [hR] at h2
    obtain ⟨rfl, lv', h3⟩ := h2
    exact ⟨σ', lv', h1, h3⟩
  refine call_shared T70 rfl rfl ?_
  have l1 := sc_l1 h
  obtain ⟨σ1, r1, hs1⟩ := run_ok h hl isLD _ cv53 (by omega)
  rw [hN] at r1 hs1
  have m0 := sc_l0 hs1
  have m1 := sc_l1 hs1
  obtain ⟨v', hv1, hv2⟩ := bv_cut hs1.2.1 (lo := a) (hi := a + N) (by omega) (by omega) (y := (a : Int)) (z := ((a + N : Nat) : Int)) rfl rfl
  rw [show a + N - a = N by omega, hx] at hv2
  have hstr := hv2.1
  obtain ⟨σ2, s2, hs2⟩ := sc_s2 hs1 true
  have hxl : x.length ≤ 1000000 := by rw [← hx, List.length_take, List.length_drop]; omega
  have hword := fun σ => word_ok x hxl σ
  have hut : mkTup [] = undefV := rfl
  have hx2 : (b.drop a).take (a + N - a) = x := by rw [show a + N - a = N by omega]; exact hx
  cases hw : isWord wordsR x with
  | false =>
    rw [hw] at hword
    obtain ⟨σ3, lv3, hput, hs3⟩ := put_ok hs2 (kind := 1) (i := a) (by omega) (by omega) hll (z := (a : Int)) rfl
    have hput' : callL T 42 [V.ptr id 0 0, .tr (.sc (.int .i64 1)), nv .i64 a] σ2 = some (undefV, σ3) := hput
    rw [hx2] at hs3
    simp [sc_nc, sc_f, l1, r1, m0, m1, hv1, hstr, s2, hword, k70_7, hput', hut]
    rw [hR, hw]
    exact ⟨rfl, lv3, hs3⟩
  | true =>
    rw [hw] at hword
    obtain ⟨σ3, s3, hs3⟩ := sc_s2 hs2 (isWord endW x)
    obtain ⟨σ4, lv4, hput, hs4⟩ := put_ok hs3 (kind := 6) (i := a) (by omega) (by omega) hll (z := (a : Int)) rfl
    have hput' : callL T 42 [V.ptr id 0 0, .tr (.sc (.int .i64 6)), nv .i64 a] σ3 = some (undefV, σ4) := hput
    rw [hx2] at hs4
    have fin : R undefV σ4 := by
      rw [hR, hw]
      refine ⟨rfl, lv4, ?_⟩
      have : endK 6 x = isWord endW x := by simp [endK]
      simp only [if_true, this]
      exact hs4
    by_cases e1 : x = [98, 114, 101, 97, 107]
    · have hE : isWord endW x = true := by rw [e1]; rfl
      rw [hE] at s3
      subst e1
      simp [sc_nc, sc_f, l1, r1, m0, m1, hv1, hstr, s2, hword, k70_7, hput', hut, bytesEq_iff', s3]
      exact fin
    · by_cases e2 : x = [99, 111, 110, 116, 105, 110, 117, 101]
      · have hE : isWord endW x = true := by rw [e2]; rfl
        rw [hE] at s3
        subst e2
        simp [sc_nc, sc_f, l1, r1, m0, m1, hv1, hstr, s2, hword, k70_7, hput', hut, bytesEq_iff', s3]
        exact fin
      · by_cases e3 : x = [114, 101, 116, 117, 114, 110]
        · have hE : isWord endW x = true := by rw [e3]; rfl
          rw [hE] at s3
          subst e3
          simp [sc_nc, sc_f, l1, r1, m0, m1, hv1, hstr, s2, hword, k70_7, hput', hut, bytesEq_iff', s3]
          exact fin
        · have hE : isWord endW x = false := by
            unfold isWord endW
            simp
            exact ⟨fun h => e1 h.symm, fun h => e2 h.symm, fun h => e3 h.symm⟩
          rw [hE] at s3
          simp [sc_nc, sc_f, l1, r1, m0, m1, hv1, hstr, s2, hword, k70_7, hput', hut, bytesEq_iff', e1, e2, e3, s3]
          exact fin
end
end Go.Proofs.YtolhjhjlfgfifaaGreatDoor.AM.Rd
end
section
set_option maxRecDepth 1000000
set_option linter.unusedVariables false
set_option linter.unusedSimpArgs false
namespace Go.Proofs.YtolhjhjlfgfifaaGreatDoor.AM.Rd
open Go.Proofs
theorem ends_snoc (l : List Tk) (t : Tk) : endsR (l ++ [t]) = endK t.kind t.text := by simp [endsR]
theorem ends_nl (l : List Tk) (i : Nat) : endsR (l ++ [nlT i]) = false := by
  rw [ends_snoc]
  rfl
theorem pre_hd {d : UInt8} (hd0 : d ≠ 0) : ∀ (s : List UInt8), [47, d].isPrefixOf s = (decide (hd s 0 = 47) && decide (hd s 1 = d))
  | [] => by simp [List.isPrefixOf, hd]
  | [x] => by
    have : ¬ (0 : UInt8) = d := fun h => hd0 h.symm
    simp [List.isPrefixOf, hd, this]
  | x :: y :: r => by
    rw [Bool.eq_iff_iff]
    simp [List.isPrefixOf, hd]
    constructor
    · rintro ⟨rfl, rfl⟩; exact ⟨rfl, rfl⟩
    · rintro ⟨rfl, rfl⟩; exact ⟨rfl, rfl⟩
theorem nrun_pos {p : UInt8 → Bool} {s : List UInt8} {c : UInt8} (h : s[0]? = some c) (hp : p c = true) : 0 < nrun p s := by
  rcases Nat.eq_zero_or_pos (nrun p s) with h0 | h0
  · have := nrun_at (p := p) (s := s) (c := c) (by rw [h0]; exact h)
    rw [this] at hp
    cases hp
  · exact h0
theorem commentR_pos {s : List UInt8} {n : Nat} {ln : Bool} (h0 : hd s 0 = 47) (h : commentR s = some (n, ln)) : n ≠ 0 := by
  have hp := hd_pos (s := s) (n := 0) (by rw [h0]; decide)
  obtain ⟨c, hc⟩ := some_of hp
  unfold commentR at h
  split at h
  · obtain ⟨rfl, _⟩ := Prod.mk.inj (Option.some.inj h)
    have hc' : c = 47 := by rw [← hd_of hc]; exact h0
    have := nrun_pos (p := fun c => !isNl c) hc (by rw [hc']; rfl)
    omega
  · cases hs : star (s.drop 2) with
    | none => rw [hs] at h; cases h
    | some k =>
      rw [hs] at h
      simp only [Option.map_some] at h
      obtain ⟨rfl, _⟩ := Prod.mk.inj (Option.some.inj h)
      omega
theorem numX_pos {s : List UInt8} {n k k' n' : Nat} {pt : Bool} (hk : 0 < k) (h : numX s n k pt = some (k', n')) : n' ≠ 0 := by
  unfold numX at h
  split at h
  · cases h
  · obtain ⟨rfl, rfl⟩ := numFin_le h
    omega
theorem numP_pos {s : List UInt8} {n k k' n' : Nat} {pt : Bool} (hk : 0 < k) (h : numP s n k pt = some (k', n')) : n' ≠ 0 := by
  unfold numP at h
  split at h
  · cases h
  · split at h
    · cases h
    · obtain ⟨rfl, rfl⟩ := numFin_le h
      omega
theorem numberR_pos {s : List UInt8} {k n : Nat} (hf : isD (hd s 0) = true ∨ hd s 0 = 46) (h : numberR s = some (k, n)) : n ≠ 0 := by
  have hp := hd_pos (s := s) (n := 0) (by rcases hf with h | h; intro h0; rw [h0] at h; cases h; rw [h]; decide)
  obtain ⟨c, hc⟩ := some_of hp
  unfold numberR at h
  generalize (if hd s 1 = 98 ∨ hd s 1 = 66 then 2 else 8) = bs at h
  split at h
  · split at h
    · exact numX_pos (by omega) h
    · exact numX_pos (by omega) h
  · split at h
    · split at h
      · cases h
      · obtain ⟨rfl, rfl⟩ := numFin_le h
        omega
    · split at h
      · exact numP_pos (by omega) h
      · rename_i h46
        refine numP_pos ?_ h
        rcases hf with hf | hf
        · exact nrun_pos hc (by rw [← isD_inB, ← hd_of hc]; exact hf)
        · rcases Nat.eq_zero_or_pos (nrun (inB 10) s) with h0 | h0
          · rw [h0] at h46
            exact absurd hf h46
          · exact h0
section
variable {σ : Store} {id : Nat} {b : List UInt8} {a : Nat} {l : List Tk} {bt lv : V}
theorem token_ok (h : SC σ id b a (endsR l) l bt lv) (hl : b.length ≤ 1000000) (ha : a < b.length) (hll : l.length ≤ 2999000) :
    ∃ r σ', callL T 40 [.ptr id 0 0] σ = some (bv r, σ') ∧ (if (elR (b.drop a)).2.1 = 0 then r = false else r = true ∧ ∃ lv', SC σ' id b (a + (elR (b.drop a)).2.1) (endsR (addR l a (b.drop a))) (addR l a (b.drop a)) bt lv') := by
  obtain ⟨s, hs⟩ : ∃ s, b.drop a = s := ⟨_, rfl⟩
  have hsl : s.length = b.length - a := by rw [← hs, List.length_drop]
  rw [hs]
  obtain ⟨R, hR⟩ : ∃ R : V → Store → Prop, R = fun v σ' => ∃ r, v = bv r ∧ (if (elR s).2.1 = 0 then r = false else r = true ∧ ∃ lv', SC σ' id b (a + (elR s).2.1) (endsR (addR l a s)) (addR l a s) bt lv') := ⟨_, rfl⟩
  suffices hh : ∃ v σ', callL T 40 [.ptr id 0 0] σ = some (v, σ') ∧ R v σ' by
    obtain ⟨v, σ', h1, h2⟩ := hh
    rw [hR] at h2
    obtain ⟨r, rfl, h3⟩ := h2
    exact ⟨r, σ', h1, h3⟩
  have bad : (elR s).2.1 = 0 → ∀ σ', R (bv false) σ' := by
    intro h σ'
    rw [hR]
    exact ⟨false, rfl, by rw [if_pos h]⟩
  have fin : ∀ k n line, elR s = (k, n, line) → n ≠ 0 → ∀ σ' lv' need' l', l' = (if line = true ∧ endsR l = true then l ++ [nlT a] else l) ++ (if k = 0 then [] else [⟨k, s.take n, a⟩]) → need' = endsR l' → SC σ' id b (a + n) need' l' bt lv' → R (bv true) σ' := by
    intro k n line he hn σ' lv' need' l' hl' hnd hsc
    have e : addR l a s = l' := by rw [hl']; unfold addR; rw [he]
    rw [hR]
    refine ⟨true, rfl, ?_⟩
    rw [he, e, if_neg hn]
    exact ⟨rfl, lv', by rw [← hnd]; exact hsc⟩
  clear hR
  refine call_shared T40 rfl rfl ?_
  obtain ⟨c, hc⟩ := some_of ha
  have ec : hd s 0 = c := by rw [← hs, hd_drop]; exact hd_of hc
  have ec' : hd b a = c := hd_of hc
  have e1 : hd s 1 = hd b (a + 1) := by rw [← hs]; exact hd_drop 1
  have hc0 : s[0]? = some c := by rw [← hs]; simpa using hc
  have l0 := sc_l0 h
  have l1 := sc_l1 h
  obtain ⟨p, hp1, hp2⟩ := bv_at h.2.1 hc (z := (a : Int)) rfl
  have w1 : IntKind.i64.wrap ((a : Int) + 1) = (a : Int) + 1 := w64z (by omega) (by omega)
  have hut : mkTup [] = undefV := rfl
  have u := fun d : UInt8 => u8_eq (a := c) (c := d)
  by_cases c10 : c = 10
  · have z : (c.toNat : Int) = 10 := by rw [c10]; rfl
    have zn : c.toNat = 10 := by omega
    obtain ⟨σ1, lv1, hnl, hs1⟩ := newline_ok h (by omega) (i := a) (z := (a : Int)) rfl
    have m1 := sc_l1 hs1
    obtain ⟨σ2, s2, hs2⟩ := sc_s1 hs1 (a' := a + 1) (z := (a : Int) + 1) (by omega)
    simp [k40_28, sc_nc, sc_f, l0, l1, hp1, hp2, zn, hnl, m1, w1, s2]
    refine fin 0 1 true ?_ (by omega) _ lv1 _ _ ?_ ?_ hs2
    · unfold elR; rw [ec, if_pos (by simp [c10])]; simp [c10]
    · cases endsR l <;> simp
    · cases he : endsR l <;> simp [he, ends_nl]
  have z10 : ¬ (c.toNat : Int) = 10 := fun h => c10 (u8_eq (c := 10) |>.1 h)
  have n10 : ¬ c.toNat = 10 := by omega
  by_cases csp : c = 32 ∨ c = 9 ∨ c = 13
  · obtain ⟨σ2, s2, hs2⟩ := sc_s1 h (a' := a + 1) (z := (a : Int) + 1) (by omega)
    have hel : elR s = (0, 1, false) := by
      unfold elR
      rw [ec, if_pos (by rcases csp with h | h | h <;> simp [h])]
      simp [c10]
    have goal : R (bv true) σ2 := by
      refine fin 0 1 false hel (by omega) _ lv _ _ ?_ ?_ hs2
      · simp
      · rfl
    rcases csp with csp | csp | csp
    · have z : (c.toNat : Int) = 32 := by rw [csp]; rfl
      have zn : c.toNat = 32 := by omega
      simp [k40_28, sc_nc, sc_f, l0, l1, hp1, hp2, zn, w1, s2]
      exact goal
    · have z : (c.toNat : Int) = 9 := by rw [csp]; rfl
      have zn : c.toNat = 9 := by omega
      simp [k40_28, sc_nc, sc_f, l0, l1, hp1, hp2, zn, w1, s2]
      exact goal
    · have z : (c.toNat : Int) = 13 := by rw [csp]; rfl
      have zn : c.toNat = 13 := by omega
      simp [k40_28, sc_nc, sc_f, l0, l1, hp1, hp2, zn, w1, s2]
      exact goal
  simp only [not_or] at csp
  obtain ⟨c32, c9, c13⟩ := csp
  have z32 : ¬ (c.toNat : Int) = 32 := fun h => c32 (u8_eq (c := 32) |>.1 h)
  have n32 : ¬ c.toNat = 32 := by omega
  have z9 : ¬ (c.toNat : Int) = 9 := fun h => c9 (u8_eq (c := 9) |>.1 h)
  have n9 : ¬ c.toNat = 9 := by omega
  have z13 : ¬ (c.toNat : Int) = 13 := fun h => c13 (u8_eq (c := 13) |>.1 h)
  have n13 : ¬ c.toNat = 13 := by omega
  have hel1 : ¬ (hd s 0 = 32 ∨ hd s 0 = 9 ∨ hd s 0 = 13 ∨ hd s 0 = 10) := by rw [ec]; simp [c32, c9, c13, c10]
  have hb1 := begins_ok h hl (t := [47, 47]) (by simp) (by omega)
  have hb2 := begins_ok h hl (t := [47, 42]) (by simp) (by omega)
  rw [hs, pre_hd (by decide), ec] at hb1 hb2
  by_cases ccom : c = 47 ∧ (hd s 1 = 47 ∨ hd s 1 = 42)
  · obtain ⟨σ1, r, hcom, hres⟩ := scom_ok h hl (by rw [ec']; exact ccom.1) (by rw [← e1]; exact ccom.2) (by omega)
    rw [hs] at hres
    have hel : elR s = (match commentR s with | none => (0, 0, false) | some (n, l) => (0, n, l)) := by
      unfold elR
      rw [if_neg hel1, if_pos (by rw [ec]; exact ccom)]
      rcases commentR s with _ | ⟨n, l⟩ <;> rfl
    have goal : R (bv r) σ1 := by
      cases hcm : commentR s with
      | none =>
        rw [hcm] at hres hel
        subst hres
        exact bad (by rw [hel]) _
      | some x =>
        obtain ⟨n, ln⟩ := x
        rw [hcm] at hres hel
        obtain ⟨rfl, lv', hs1⟩ := hres
        refine fin 0 n ln hel (commentR_pos (by rw [ec]; exact ccom.1) hcm) _ lv' _ _ ?_ ?_ hs1
        · cases ln <;> cases endsR l <;> simp
        · cases ln <;> cases he : endsR l <;> simp [he, ends_nl]
    rcases ccom with ⟨g0, g1 | g1⟩
    · rw [g0, g1] at hb1
      simp at hb1
      simp [k40_28, sc_nc, sc_f, l0, l1, hp1, hp2, z10, z32, z9, z13, hb1, hcom]
      exact goal
    · rw [g0, g1] at hb1 hb2
      simp at hb1 hb2
      simp [k40_28, sc_nc, sc_f, l0, l1, hp1, hp2, z10, z32, z9, z13, hb1, hb2, hcom]
      exact goal
  have hel2 : ¬ (hd s 0 = 47 ∧ (hd s 1 = 47 ∨ hd s 1 = 42)) := by rw [ec]; exact ccom
  have hbf : (decide (c = 47) && decide (hd s 1 = 47)) = false ∧ (decide (c = 47) && decide (hd s 1 = 42)) = false := by
    simp
    constructor
    · intro g0 g1; exact ccom ⟨g0, .inl g1⟩
    · intro g0 g1; exact ccom ⟨g0, .inr g1⟩
  rw [hbf.1] at hb1
  rw [hbf.2] at hb2
  have hlet := letter_ok c σ
  by_cases clet : isL c = true
  · rw [clet] at hlet
    obtain ⟨σ1, lv1, hnm, hs1⟩ := name_ok h hl (by omega) (by omega)
    rw [hs] at hs1
    simp [k40_28, sc_nc, sc_f, l0, l1, hp1, hp2, z10, z32, z9, z13, hb1, hb2, hlet, hnm]
    have hn0 : nrun isLD s ≠ 0 := by have := nrun_pos (p := isLD) hc0 (by simp [isLD, clet]); omega
    refine fin (if isWord wordsR (s.take (nrun isLD s)) then 6 else 1) (nrun isLD s) false ?_ hn0 _ lv1 _ _ ?_ ?_ hs1
    · unfold elR; rw [if_neg hel1, if_neg hel2, ec, if_pos clet]
    · have : ¬ (if isWord wordsR (s.take (nrun isLD s)) then 6 else 1) = 0 := by split <;> omega
      simp [this]
    · rw [ends_snoc]
  have clet' : isL c = false := by simpa using clet
  rw [clet'] at hlet
  have hdig := decimal_ok c σ
  have hdig1 := decimal_ok (hd b (a + 1)) σ
  have hah := ahead_ok h hl (by omega) (k := 1) (by omega) (z := 1) rfl
  by_cases cnum : isD c = true ∨ (c = 46 ∧ isD (hd s 1) = true)
  · obtain ⟨σ1, s1, hs1⟩ := sc_s2 h true
    obtain ⟨r, σ2, hnum, hres⟩ := snum_ok hs1 hl (by omega) ha (by rw [ec', ← isD_inB, ← isD_inB, ← e1]; exact cnum)
    rw [hs] at hres
    have hel : elR s = (match numberR s with | none => (0, 0, false) | some (k, n) => (k, n, false)) := by
      unfold elR
      rw [if_neg hel1, if_neg hel2, ec, if_neg clet, if_pos cnum]
      rcases numberR s with _ | ⟨n, l⟩ <;> rfl
    have goal : R (bv r) σ2 := by
      cases hcm : numberR s with
      | none =>
        rw [hcm] at hres hel
        subst hres
        exact bad (by rw [hel]) _
      | some x =>
        obtain ⟨k, n⟩ := x
        rw [hcm] at hres hel
        obtain ⟨rfl, lv', hs2⟩ := hres
        have hk := numberR_le hcm
        have hf : isD (hd s 0) = true ∨ hd s 0 = 46 := by
          rw [ec]
          rcases cnum with h | h
          · exact .inl h
          · exact .inr h.1
        refine fin k n false hel (numberR_pos hf hcm) _ lv' _ _ ?_ ?_ hs2
        · have : ¬ k = 0 := by omega
          simp [this]
        · rw [ends_snoc]
          have : k = 2 ∨ k = 3 := by omega
          rcases this with h | h <;> simp [endK, h]
    rcases cnum with g | ⟨g0, g1⟩
    · rw [g] at hdig
      simp [k40_28, sc_nc, sc_f, l0, l1, hp1, hp2, z10, z32, z9, z13, hb1, hb2, hlet, hdig, s1, hnum]
      exact goal
    · have z : (c.toNat : Int) = 46 := by rw [g0]; rfl
      have zn : c.toNat = 46 := by omega
      have hdf : isD c = false := by rw [g0]; decide
      rw [hdf] at hdig
      rw [← e1, g1] at hdig1
      rw [← e1] at hah
      have hdig' : callL T 71 [.tr (.sc (.int .u8 46))] σ = some (bv false, σ) := by rw [← z]; exact hdig
      have hlet' : callL T 69 [.tr (.sc (.int .u8 46))] σ = some (bv false, σ) := by rw [← z]; exact hlet
      simp [k40_28, sc_nc, sc_f, l0, l1, hp1, hp2, zn, hb1, hb2, hlet, hdig, hah, hdig1, s1, hnum]
      exact goal
  have cnum' : isD c = false := by
    cases h : isD c with
    | false => rfl
    | true => exact absurd (.inl h) cnum
  rw [cnum'] at hdig
  have hel3 : ¬ (isD c = true ∨ (c = 46 ∧ isD (hd s 1) = true)) := cnum
  have numfacts : ((c.toNat : Int) = 46 ∧ c.toNat = 46 ∧ isD (hd b (a + 1)) = false) ∨ (¬ (c.toNat : Int) = 46 ∧ ¬ c.toNat = 46) := by
    by_cases g0 : c = 46
    · have z : (c.toNat : Int) = 46 := by rw [g0]; rfl
      refine .inl ⟨z, by omega, ?_⟩
      rw [← e1]
      cases h : isD (hd s 1) with
      | false => rfl
      | true => exact absurd (.inr ⟨g0, h⟩) cnum
    · have z : ¬ (c.toNat : Int) = 46 := fun h => g0 (u8_eq (c := 46) |>.1 h)
      exact .inr ⟨z, by omega⟩
  have hdigN : callL T 71 [.tr (.sc (.int .u8 46))] σ = some (bv false, σ) := decimal_ok 46 σ
  by_cases cq : c = 34 ∨ c = 96
  · have g46 : ¬ (c.toNat : Int) = 46 ∧ ¬ c.toNat = 46 := by
      rcases cq with h | h <;> rw [h] <;> decide
    obtain ⟨σ1, s1, hs1⟩ := sc_s2 h true
    obtain ⟨r, σ2, hquo, hres⟩ := quoted_ok hs1 hl ha
    rw [hs] at hres
    have hel : elR s = (4, match textR s with | none => 0 | some (n, _) => n, false) := by
      unfold elR
      rw [if_neg hel1, if_neg hel2, ec, if_neg clet, if_neg cnum, if_pos cq]
      rcases textR s with _ | ⟨n, l⟩ <;> rfl
    have hqf : ((c.toNat : Int) = 34 ∧ c.toNat = 34) ∨ (¬ (c.toNat : Int) = 34 ∧ ¬ c.toNat = 34 ∧ (c.toNat : Int) = 96 ∧ c.toNat = 96) := by
      rcases cq with h | h <;> rw [h] <;> decide
    cases hcm : textR s with
    | none =>
      rw [hcm] at hres hel
      subst hres
      have goal := bad (by rw [hel]) σ2
      rcases hqf with hq | hq
      · simp [k40_22, k40_28, sc_nc, sc_f, l0, l1, hp1, hp2, hb1, hb2, hlet, hdig, hq, s1, hquo]
        exact goal
      · simp [k40_22, k40_28, sc_nc, sc_f, l0, l1, hp1, hp2, hb1, hb2, hlet, hdig, hq, s1, hquo]
        exact goal
    | some x =>
      obtain ⟨n, o⟩ := x
      rw [hcm] at hres hel
      obtain ⟨rfl, hs2⟩ := hres
      have hle := textR_le (by rw [← hs]; exact dropne ha) hcm
      obtain ⟨σ3, lv3, hput, hs3⟩ := put_ok hs2 (kind := 4) (i := a) (by omega) (by omega) (by omega) (z := (a : Int)) rfl
      rw [hs, show a + n - a = n by omega] at hs3
      have hput' : callL T 42 [V.ptr id 0 0, .tr (.sc (.int .i64 4)), nv .i64 a] σ2 = some (undefV, σ3) := hput
      have goal := fin 4 n false hel (by omega) _ lv3 _ _ (by simp) (by rw [ends_snoc]; rfl) hs3
      rcases hqf with hq | hq
      · simp [k40_22, k40_28, sc_nc, sc_f, l0, l1, hp1, hp2, hb1, hb2, hlet, hdig, hq, s1, hquo, hput']
        exact goal
      · simp [k40_22, k40_28, sc_nc, sc_f, l0, l1, hp1, hp2, hb1, hb2, hlet, hdig, hq, s1, hquo, hput']
        exact goal
  simp only [not_or] at cq
  have z34 : ¬ (c.toNat : Int) = 34 := fun h => cq.1 (u8_eq (c := 34) |>.1 h)
  have n34 : ¬ c.toNat = 34 := by omega
  have z96 : ¬ (c.toNat : Int) = 96 := fun h => cq.2 (u8_eq (c := 96) |>.1 h)
  have n96 : ¬ c.toNat = 96 := by omega
  have hel4 : ¬ (c = 34 ∨ c = 96) := by simp only [not_or]; exact cq
  by_cases csc : c = 59
  · have z : (c.toNat : Int) = 59 := by rw [csc]; rfl
    have zn : c.toNat = 59 := by omega
    have hel : elR s = (7, 1, false) := by
      unfold elR
      rw [if_neg hel1, if_neg hel2, ec, if_neg clet, if_neg cnum, if_neg hel4, if_pos csc]
    obtain ⟨σ1, s1, hs1⟩ := sc_s1 h (a' := a + 1) (z := (a : Int) + 1) (by omega)
    obtain ⟨σ2, lv2, hput, hs2⟩ := put_ok hs1 (kind := 7) (i := a) (by omega) (by omega) (by omega) (z := (a : Int)) rfl
    obtain ⟨σ3, s3, hs3⟩ := sc_s2 hs2 false
    rw [hs, show a + 1 - a = 1 by omega] at hs3
    have hput' : callL T 42 [V.ptr id 0 0, .tr (.sc (.int .i64 7)), nv .i64 a] σ1 = some (undefV, σ2) := hput
    have goal := fin 7 1 false hel (by omega) _ lv2 _ _ (by simp) (by rw [ends_snoc]; rfl) hs3
    have hlet' : callL T 69 [.tr (.sc (.int .u8 59))] σ = some (bv false, σ) := by rw [← z]; exact hlet
    have hdig' : callL T 71 [.tr (.sc (.int .u8 59))] σ = some (bv false, σ) := by rw [← z]; exact hdig
    simp [k40_28, sc_nc, sc_f, l0, l1, hp1, hp2, zn, hb1, hb2, hlet, hdig, w1, s1, hput', s3]
    exact goal
  have z59 : ¬ (c.toNat : Int) = 59 := fun h => csc (u8_eq (c := 59) |>.1 h)
  have n59 : ¬ c.toNat = 59 := by omega
  have hel : elR s = (5, opFind opsR s, false) := by
    unfold elR
    rw [if_neg hel1, if_neg hel2, ec, if_neg clet, if_neg cnum, if_neg hel4, if_neg csc]
  obtain ⟨r, σ1, hop, hres⟩ := operator_ok h hl (by omega) (by omega)
  rw [hs] at hres
  have goal : R (bv r) σ1 := by
    by_cases h0 : opFind opsR s = 0
    · rw [if_pos h0] at hres
      subst hres
      exact bad (by rw [hel]; exact h0) _
    · rw [if_neg h0] at hres
      obtain ⟨rfl, lv', hs1⟩ := hres
      refine fin 5 _ false hel h0 _ lv' _ _ (by simp) ?_ hs1
      rw [ends_snoc]
      simp [endK]
  have hlet' := letter_ok 46 σ
  rcases numfacts with hq | hq
  · have hd1 := decimal_ok (hd b (a + 1)) σ
    rw [hq.2.2] at hd1
    have c46 : c = 46 := u8_eq (c := 46) |>.1 hq.1
    subst c46
    simp [k40_28, sc_nc, sc_f, l0, l1, hp1, hp2, hb1, hb2, hlet, hdig, hah, hd1, hop]
    exact goal
  · simp [k40_28, sc_nc, sc_f, l0, l1, hp1, hp2, z10, z32, z9, z13, hb1, hb2, hlet, hdig, hq, z34, z96, z59, hop]
    exact goal
end
end Go.Proofs.YtolhjhjlfgfifaaGreatDoor.AM.Rd
end
section
set_option maxRecDepth 1000000
set_option linter.unusedVariables false
set_option linter.unusedSimpArgs false
namespace Go.Proofs.YtolhjhjlfgfifaaGreatDoor.AM.Rd
open Go.Proofs
theorem tl_end {σ : Store} {id : Nat} {bt lv : V} {l : List Tk} (h : TL σ id bt l lv) : snap σ deepN (mkTup [lv, iv 0, bv true]) = some (scanT (.inr l)) := by
  rcases h with ⟨rfl, rfl⟩ | ⟨h0, m, g, h1, h2, rfl, h3⟩
  · rfl
  · have hold : slice? ((l.flatMap tkE).map V.tr) 0 (l.length * 3) = some ((l.flatMap tkE).map .tr) := by
      unfold slice?
      have ht : (((l.flatMap tkE).map V.tr).drop 0).take (l.length * 3) = (l.flatMap tkE).map .tr := by
        rw [List.drop_zero, List.take_of_length_le (by rw [List.length_map, flat3]; exact Nat.le_refl _)]
      simp only [ht, List.length_map, flat3, if_true]
    have hob : obCells σ m g = some ((l.flatMap tkE).map .tr) := by simp [obCells, h3]
    have hs : snap σ (deepN - 1) (.own m g 0 l.length 3 none) = some (tksT l) := by
      rw [show deepN - 1 = deepN - 2 + 1 from rfl]
      unfold snap
      simp only [hob, hold]
      rw [snapL_tr]
      unfold tksT
      rw [if_neg (by rintro rfl; simp at h0)]
    show snap σ deepN (.tup [.own m g 0 l.length 3 none, iv 0, bv true]) = _
    rw [show deepN = deepN - 1 + 1 from rfl]
    unfold snap
    simp only [snapL]
    rw [hs]
    rfl
section
variable {b : List UInt8} {tb : Tree} (hb : IsSl byE b (.tr tb)) (hl : b.length ≤ 1000000)
include hb hl
theorem scan_ok (σ : Store) : callL T 22 [.tr tb] σ = some (.tr (scanT (scanR b)), σ) := by
  suffices hh : ∃ t, (∀ σ, callL T 22 ([tb].map .tr) σ = some (.tr t, σ)) ∧ t = scanT (scanR b) by
    obtain ⟨t, h, rfl⟩ := hh
    exact h σ
  refine call_iso T22 rfl rfl ?_
  obtain ⟨RES, hRES⟩ : ∃ r, scanR b = r := ⟨_, rfl⟩
  rw [hRES]
  have hlen : ∀ σ, opLen 1 (.tr tb) σ = some (nv .i64 b.length) := fun σ => by_len hb
  obtain ⟨I, hI⟩ : ∃ I : Nat → St → Prop, I = fun m st => ∃ k l e L σ lv, st = ⟨e, L, σ⟩ ∧ m ≤ k ∧ k ≤ b.length ∧ l.length ≤ 2 * k ∧ SC σ 0 b k (endsR l) l (.tr tb) lv ∧ RES = scanG k l (b.drop k) ∧ look e 0 = some (.tr tb) ∧ look e 5 = some (.ptr 0 0 0) := ⟨_, rfl⟩
  have hbox : opBoxB false (.tr (.agg [tb, .sc (.int .i64 0), .sc (.bool false), .sc (.slice none 0 0)])) [] = some (.ptr 0 0 0, [.row [.tr tb, iv 0, bv false, nilSl] 0]) := rfl
  have hini : SC [.row [.tr tb, iv 0, bv false, nilSl] 0] 0 b 0 (endsR []) [] (.tr tb) nilSl := ⟨rfl, .inl ⟨tb, rfl, hb⟩, .inl ⟨rfl, rfl⟩⟩
  have hcell : cellsOf (V.tr tb) = [V.tr tb] := by rcases hb with ⟨_, h⟩ | ⟨_, h⟩ <;> cases h <;> rfl
  simp [hcell, hbox]
  refine wpc_up b.length I (by rw [hI]; exact ⟨0, [], _, _, _, _, rfl, by omega, by omega, by simp, hini, by rw [← hRES]; rfl, by simp, by simp⟩) ?_
  clear hini
  intro m st hst
  rw [hI] at hst
  obtain ⟨k, l, e, L, σ', lv, rfl, hk1, hk2, hlk, hs, hR, h0, h5⟩ := hst
  have l1 := sc_l1 hs
  by_cases hlt : k < b.length
  · have hltz : (k : Int) < b.length := by omega
    obtain ⟨r, σ1, htok, hres⟩ := token_ok hs hl hlt (by omega)
    by_cases hn : (elR (b.drop k)).2.1 = 0
    · rw [if_pos hn] at hres
      subst hres
      rw [scanG_bad (dropne hlt) hn] at hR
      simp [k22_2, k22_4, h0, h5, sc_nc, sc_f, l1, hlen, hltz, htok]
      rw [hR]
      rfl
    · rw [if_neg hn] at hres
      obtain ⟨rfl, lv', hs1⟩ := hres
      have hle := (elR_le (dropne hlt)).1
      rw [List.length_drop] at hle
      rw [scanG_step (dropne hlt) hn, List.drop_drop] at hR
      have hal := addR_len l k (b.drop k)
      simp [k22_2, k22_4, h0, h5, sc_nc, sc_f, l1, hlen, hltz, htok]
      refine ⟨by omega, ?_⟩
      rw [hI]
      exact ⟨k + (elR (b.drop k)).2.1, addR l k (b.drop k), _, _, _, lv', rfl, by omega, by omega, by omega, hs1, hR, by simp [h0], by simp [h5]⟩
  · have hltz : ¬ (k : Int) < b.length := by omega
    have hkb : k = b.length := by omega
    subst hkb
    rw [List.drop_eq_nil_of_le (Nat.le_refl _), scanG_nil] at hR
    obtain ⟨σ1, lv1, hnl, hs1⟩ := newline_ok hs (by omega) (i := b.length) (z := (b.length : Int)) rfl
    obtain ⟨σ2, lv2, hput, hs2⟩ := put_ok hs1 (kind := 0) (i := b.length) (by omega) (by omega) (by split <;> (try simp) <;> omega) (z := (b.length : Int)) rfl
    rw [List.drop_eq_nil_of_le (Nat.le_refl _), List.take_nil] at hs2
    have m3 := sc_l3 hs2
    have hput' : callL T 42 [V.ptr 0 0 0, .tr (.sc (.int .i64 0)), nv .i64 b.length] σ1 = some (undefV, σ2) := hput
    have hsn := tl_end hs2.2.2
    simp [k22_2, k22_8, h0, h5, sc_nc, sc_f, l1, hlen, hltz, hnl, hput', m3]
    rw [hR]
    exact hsn
end
end Go.Proofs.YtolhjhjlfgfifaaGreatDoor.AM.Rd
end
section
set_option maxRecDepth 1000000
set_option linter.unusedVariables false
set_option linter.unusedSimpArgs false
namespace Go.Proofs.YtolhjhjlfgfifaaGreatDoor.AM.Rd
open Go.Proofs
theorem short_ok {b : List UInt8} {tb : Tree} (hb : IsSl byE b (.tr tb)) (n : Nat) : ∃ t', (∀ σ, callL T 10 [.tr tb, nv .i64 n] σ = some (.tr t', σ)) ∧ IsSl byE (b.take n) (.tr t') := by
  suffices hh : ∃ t, (∀ σ, callL T 10 ([tb, .sc (.int .i64 (n : Int))].map .tr) σ = some (.tr t, σ)) ∧ IsSl byE (b.take n) (.tr t) from hh
  refine call_iso T10 rfl rfl ?_
  have hlen : ∀ σ, opLen 1 (.tr tb) σ = some (nv .i64 b.length) := fun σ => by_len hb
  by_cases h : n < b.length
  · have hz : (n : Int) < b.length := by omega
    obtain ⟨v', h3, h4⟩ := isSl_cut_hi (σ := []) hb byE_len (k' := .i64) (hi := n) (by omega)
    obtain ⟨t', rfl⟩ : ∃ t', v' = .tr t' := by
      rcases h4 with ⟨_, rfl⟩ | ⟨_, rfl⟩
      · exact ⟨_, rfl⟩
      · exact ⟨_, rfl⟩
    simp [hlen, hz, h3]
    exact h4
  · have hz : ¬ (n : Int) < b.length := by omega
    simp [hlen, hz, k10_3]
    rw [List.take_of_length_le (by omega)]
    exact hb
theorem scanG_len : ∀ (m i : Nat) (l : List Tk) (s : List UInt8) {k : List Tk}, s.length ≤ m → scanG i l s = .inr k → k.length ≤ l.length + 2 * s.length + 2
  | 0, i, l, s, k, hm, h => by
    obtain rfl := List.length_eq_zero_iff.1 (show s.length = 0 by omega)
    rw [scanG_nil] at h
    cases h
    split <;> simp
  | m + 1, i, l, s, k, hm, h => by
    by_cases hs : s = []
    · subst hs
      rw [scanG_nil] at h
      cases h
      split <;> simp
    · by_cases hn : (elR s).2.1 = 0
      · rw [scanG_bad hs hn] at h
        cases h
      · rw [scanG_step hs hn] at h
        have hle := (elR_le hs).1
        have := scanG_len m _ _ _ (by rw [List.length_drop]; omega) h
        rw [List.length_drop] at this
        have h2 := addR_len l i s
        omega
end Go.Proofs.YtolhjhjlfgfifaaGreatDoor.AM.Rd
end
section
set_option maxRecDepth 1000000
set_option linter.unusedVariables false
set_option linter.unusedSimpArgs false
namespace Go.Proofs.YtolhjhjlfgfifaaGreatDoor.AM.Rd
open Go.Proofs
theorem fad_p {i g k o : Nat} : opFaddr o (.ptr i g k) = some (.ptr i g (k + o)) := rfl
def tkA (t : Tk) : V := .tr (.agg (tkE t))
def RD (σ : Store) (id : Nat) (l : List Tk) (a : Nat) : Prop := ∃ m, σ[id]? = some (.row [.tr (tksT l), nv .i64 a, iv 0, .tr (.sc .nilFunc), .mp m] 0)
section
variable {σ : Store} {id : Nat} {l : List Tk} {a : Nat}
theorem rd_l0 (h : RD σ id l a) : opLoad 1 false (.ptr id 0 0) σ = some (.tr (tksT l)) := by
  obtain ⟨m, h⟩ := h
  have h1 : obCells σ id 0 = some [.tr (tksT l), nv .i64 a, iv 0, .tr (.sc .nilFunc), .mp m] := by simp [obCells, h]
  simp only [opLoad, h1]; rfl
theorem rd_l1 (h : RD σ id l a) : opLoad 1 false (.ptr id 0 1) σ = some (nv .i64 a) := by
  obtain ⟨m, h⟩ := h
  have h1 : obCells σ id 0 = some [.tr (tksT l), nv .i64 a, iv 0, .tr (.sc .nilFunc), .mp m] := by simp [obCells, h]
  simp only [opLoad, h1]; rfl
theorem rd_s1 (h : RD σ id l a) {a' : Nat} {z : Int} (hz : z = a') : ∃ σ', opStore 1 (.ptr id 0 1) (iv z) σ = some σ' ∧ RD σ' id l a' ∧ σ'.length = σ.length ∧ ∀ j, j ≠ id → σ'[j]? = σ[j]? := by
  subst hz
  obtain ⟨m, h⟩ := h
  have hlt := (List.getElem?_eq_some_iff.1 h).1
  refine ⟨σ.set id (.row [.tr (tksT l), nv .i64 a', iv 0, .tr (.sc .nilFunc), .mp m] 0), ?_, ⟨m, by rw [List.getElem?_set_self hlt]⟩, by simp, fun j hj => by rw [List.getElem?_set_ne (Ne.symm hj)]⟩
  have h1 : cellsOf (iv a') = [iv a'] := rfl
  unfold opStore
  simp only [h1, List.length_singleton, if_true]
  unfold obPut
  rw [h]
  rfl
theorem rd_new (h : RD σ id l a) (τ : Store) : RD (σ ++ τ) id l a := by
  obtain ⟨m, h⟩ := h
  exact ⟨m, by rw [List.getElem?_append_left (List.getElem?_eq_some_iff.1 h).1]; exact h⟩
theorem rd_lt (h : RD σ id l a) : id < σ.length := by
  obtain ⟨m, h⟩ := h
  exact (List.getElem?_eq_some_iff.1 h).1
theorem st3 {t : Tk} {A : List V} {id : Nat} (h : σ[id]? = some (.row A 0)) (hA : A.length = 3) : opStore 3 (.ptr id 0 0) (tkA t) σ = some (σ.set id (.row ((tkE t).map .tr) 0)) := by
  obtain ⟨p, q, r, rfl⟩ : ∃ p q r, A = [p, q, r] := by
    match A, hA with
    | [p, q, r], _ => exact ⟨p, q, r, rfl⟩
  have h1 : cellsOf (tkA t) = (tkE t).map .tr := rfl
  have h2 : ((tkE t).map V.tr).all oneV = true := rfl
  unfold opStore
  simp only [h1, List.length_map, tkE_len, if_true]
  unfold obPut
  rw [h]
  simp only [List.length_map, tkE_len, h2, List.length_cons, List.length_nil]
  rfl
theorem ld3 {t : Tk} {id : Nat} (h : σ[id]? = some (.row ((tkE t).map .tr) 0)) : opLoad 3 true (.ptr id 0 0) σ = some (tkA t) := by
  have h1 : obCells σ id 0 = some ((tkE t).map .tr) := by simp [obCells, h]
  simp only [opLoad, h1]; rfl
theorem ld3_at {t : Tk} {id : Nat} (h : σ[id]? = some (.row ((tkE t).map .tr) 0)) : opLoad 1 false (.ptr id 0 0) σ = some (nv .i64 t.kind) ∧ opLoad 1 false (.ptr id 0 1) σ = some (.tr (.sc (.string ⟨⟨t.text⟩⟩))) ∧ opLoad 1 false (.ptr id 0 2) σ = some (nv .i64 t.at_) := by
  have h1 : obCells σ id 0 = some ((tkE t).map .tr) := by simp [obCells, h]
  refine ⟨?_, ?_, ?_⟩ <;> (simp only [opLoad, h1]; rfl)
theorem tk_ia {i : Nat} {t : Tk} (hi : l[i]? = some t) (σ : Store) : opIaddr 3 (.tr (tksT l)) (nv .i64 i) σ = some (.tr (.rptr (l.flatMap tkE) (i * 3))) := isSl_iaddr (tks_sl l) (fun _ => rfl) (by omega) hi
theorem tk_ld {i : Nat} {t : Tk} (hi : l[i]? = some t) (σ : Store) : opLoad 3 true (.tr (.rptr (l.flatMap tkE) (i * 3))) σ = some (tkA t) := by
  rw [rptr_load0 (c := 3) (fun _ => rfl) hi (by omega)]
  rfl
theorem ahead0_ok (h : RD σ id l a) {t : Tk} (ha : l[a]? = some t) (hl : l.length ≤ 1000000) : ∃ σ', callL T 24 [.ptr id 0 0, iv 0] σ = some (tkA t, σ') ∧ ∃ x, σ' = σ ++ [x] := by
  obtain ⟨R, hR⟩ : ∃ R : V → Store → Prop, R = fun v σ' => v = tkA t ∧ ∃ x, σ' = σ ++ [x] := ⟨_, rfl⟩
  suffices hh : ∃ v σ', callL T 24 [.ptr id 0 0, iv 0] σ = some (v, σ') ∧ R v σ' by
    obtain ⟨v, σ', h1, h2⟩ := hh
    rw [hR] at h2
    obtain ⟨rfl, x, rfl⟩ := h2
    exact ⟨_, h1, x, rfl⟩
  refine call_shared T24 rfl rfl ?_
  have hlt := (List.getElem?_eq_some_iff.1 ha).1
  obtain ⟨X, hX⟩ : ∃ X : Ob, X = .row [.tr (.sc (.int .i64 0)), .tr (.sc (.string ⟨⟨[]⟩⟩)), .tr (.sc (.int .i64 0))] 0 := ⟨_, rfl⟩
  have h' := rd_new h [X]
  have l0 := rd_l0 h'
  have l1 := rd_l1 h'
  have hlen : ∀ σ, opLen 1 (.tr (tksT l)) σ = some (nv .i64 l.length) := fun σ => isSl_len (tks_sl l)
  have w0 : IntKind.i64.wrap ((a : Int) + 0) = a := by rw [Int.add_zero]; exact IntWalk.i64_in _ (by omega)
  have w0' : IntKind.i64.wrap (a : Int) = a := IntWalk.i64_in _ (by omega)
  have w1 : IntKind.i64.wrap ((l.length : Int) - 1) = ((l.length - 1 : Nat) : Int) := by rw [IntWalk.i64_in _ (by omega)]; omega
  have hmin : opMinMax false (nv .i64 a) (nv .i64 (l.length - 1 : Nat)) = some (nv .i64 a) := by
    have : ¬ (((l.length - 1 : Nat) : Int) < (a : Int)) := by omega
    simp only [opMinMax, this, if_false]; rfl
  have e0 := tk_ia ha
  have e1 := tk_ld ha
  have hnew : (σ ++ [X])[σ.length]? = some X := by simp
  rw [hX] at hnew
  have s3 := st3 (t := t) hnew rfl
  have r3 := ld3 (t := t) (σ := (σ ++ [X]).set σ.length (.row ((tkE t).map .tr) 0)) (id := σ.length) (by rw [List.getElem?_set_self (by simp)])
  have hset : (σ ++ [X]).set σ.length (.row ((tkE t).map .tr) 0) = σ ++ [.row ((tkE t).map .tr) 0] := by simp
  rw [hset] at r3
  rw [← hX] at s3 hnew
  rw [hset] at s3
  simp [← hX, l0, l1, hlen, w0', w1, hmin, minmaxAll, e0, e1, opNilCheck, fad_p, s3, r3]
  rw [hR]
  exact ⟨rfl, _, rfl⟩
theorem peek_ok (h : RD σ id l a) {t : Tk} (ha : l[a]? = some t) (hl : l.length ≤ 1000000) : ∃ τ, callL T 13 [.ptr id 0 0] σ = some (tkA t, σ ++ τ) := by
  obtain ⟨R, hR⟩ : ∃ R : V → Store → Prop, R = fun v σ' => v = tkA t ∧ ∃ τ, σ' = σ ++ τ := ⟨_, rfl⟩
  suffices hh : ∃ v σ', callL T 13 [.ptr id 0 0] σ = some (v, σ') ∧ R v σ' by
    obtain ⟨v, σ', h1, h2⟩ := hh
    rw [hR] at h2
    obtain ⟨rfl, τ, rfl⟩ := h2
    exact ⟨τ, h1⟩
  refine call_shared T13 rfl rfl ?_
  obtain ⟨X, hX⟩ : ∃ X : Ob, X = .row [.tr (.sc (.int .i64 0)), .tr (.sc (.string ⟨⟨[]⟩⟩)), .tr (.sc (.int .i64 0))] 0 := ⟨_, rfl⟩
  have h' := rd_new h [X]
  obtain ⟨_, hc, x, rfl⟩ := ahead0_ok h' ha hl
  have hnew : (σ ++ [X] ++ [x])[σ.length]? = some (.row [.tr (.sc (.int .i64 0)), .tr (.sc (.string ⟨⟨[]⟩⟩)), .tr (.sc (.int .i64 0))] 0) := by simp [hX]
  have s3 := st3 (t := t) hnew rfl
  obtain ⟨σ2, hσ2⟩ : ∃ σ2, σ2 = (σ ++ [X] ++ [x]).set σ.length (.row ((tkE t).map .tr) 0) := ⟨_, rfl⟩
  rw [← hσ2] at s3
  have r3 : opLoad 3 true (.ptr σ.length 0 0) σ2 = some (tkA t) := ld3 (by rw [hσ2, List.getElem?_set_self (by simp)])
  have hτ : ∃ τ, σ2 = σ ++ τ := ⟨[.row ((tkE t).map .tr) 0, x], by rw [hσ2]; simp⟩
  have e : σ ++ [X] ++ [x] = σ ++ [X, x] := by simp
  rw [e] at s3 hc
  simp [← hX, hc, s3, r3]
  rw [hR]
  exact ⟨rfl, hτ⟩
theorem next_ok (h : RD σ id l a) {t : Tk} (ha : l[a]? = some t) (hl : l.length ≤ 1000000) : ∃ σ', callL T 14 [.ptr id 0 0] σ = some (tkA t, σ') ∧ RD σ' id l (min (a + 1) (l.length - 1)) ∧ σ.length ≤ σ'.length ∧ ∀ j, j < σ.length → j ≠ id → σ'[j]? = σ[j]? := by
  obtain ⟨R, hR⟩ : ∃ R : V → Store → Prop, R = fun v σ' => v = tkA t ∧ RD σ' id l (min (a + 1) (l.length - 1)) ∧ σ.length ≤ σ'.length ∧ ∀ j, j < σ.length → j ≠ id → σ'[j]? = σ[j]? := ⟨_, rfl⟩
  suffices hh : ∃ v σ', callL T 14 [.ptr id 0 0] σ = some (v, σ') ∧ R v σ' by
    obtain ⟨v, σ', h1, h2⟩ := hh
    rw [hR] at h2
    obtain ⟨rfl, h2⟩ := h2
    exact ⟨σ', h1, h2⟩
  refine call_shared T14 rfl rfl ?_
  have hlt := (List.getElem?_eq_some_iff.1 ha).1
  have hid := rd_lt h
  obtain ⟨X, hX⟩ : ∃ X : Ob, X = .row [.tr (.sc (.int .i64 0)), .tr (.sc (.string ⟨⟨[]⟩⟩)), .tr (.sc (.int .i64 0))] 0 := ⟨_, rfl⟩
  have h' := rd_new h [X]
  obtain ⟨τ, hc⟩ := peek_ok h' ha hl
  obtain ⟨σ1, hσ1⟩ : ∃ σ1, σ1 = σ ++ [X] ++ τ := ⟨_, rfl⟩
  rw [← hσ1] at hc
  have hl1 : σ.length < σ1.length := by rw [hσ1]; simp
  have hX1 : σ1[σ.length]? = some X := by rw [hσ1]; simp
  have hσ1j : ∀ j, j < σ.length → σ1[j]? = σ[j]? := fun j hj => by rw [hσ1, List.append_assoc, List.getElem?_append_left hj]
  have h1 : RD σ1 id l a := by rw [hσ1]; exact rd_new h' τ
  have hn : (σ1 ++ [X])[σ1.length]? = some (.row [.tr (.sc (.int .i64 0)), .tr (.sc (.string ⟨⟨[]⟩⟩)), .tr (.sc (.int .i64 0))] 0) := by simp [hX]
  have s3 := st3 (t := t) hn rfl
  obtain ⟨σ2, hσ2⟩ : ∃ σ2, σ2 = (σ1 ++ [X]).set σ1.length (.row ((tkE t).map .tr) 0) := ⟨_, rfl⟩
  rw [← hσ2] at s3
  have hσ2' : σ2 = σ1 ++ [.row ((tkE t).map .tr) 0] := by rw [hσ2]; simp
  have h2 : RD σ2 id l a := by rw [hσ2']; exact rd_new h1 _
  have l0 := rd_l0 h2
  have l1 := rd_l1 h2
  have hlen : ∀ σ, opLen 1 (.tr (tksT l)) σ = some (nv .i64 l.length) := fun σ => isSl_len (tks_sl l)
  have w0 : IntKind.i64.wrap ((a : Int) + 1) = (a : Int) + 1 := IntWalk.i64_in _ (by omega)
  have w1 : IntKind.i64.wrap ((l.length : Int) - 1) = ((l.length - 1 : Nat) : Int) := by rw [IntWalk.i64_in _ (by omega)]; omega
  obtain ⟨a', ha'⟩ : ∃ a', a' = min (a + 1) (l.length - 1) := ⟨_, rfl⟩
  have hmin : opMinMax false (.tr (.sc (.int .i64 ((a : Int) + 1)))) (nv .i64 (l.length - 1 : Nat)) = some (nv .i64 a') := by
    by_cases hh : ((l.length - 1 : Nat) : Int) < (a : Int) + 1
    · have : a' = l.length - 1 := by omega
      rw [this]
      simp only [opMinMax, hh, if_true]; rfl
    · have : a' = a + 1 := by omega
      rw [this]
      simp only [opMinMax, hh, if_false, nv, Int.natCast_add]; rfl
  rw [← ha'] at hR
  obtain ⟨σ3, s1, h3, hlen3, hoth⟩ := rd_s1 h2 (a' := a') rfl
  have hn3 : σ3[σ1.length]? = some (.row ((tkE t).map .tr) 0) := by rw [hoth _ (by omega), hσ2']; simp
  have r3 := ld3 hn3
  have hX3 : σ3[σ.length]? = some (.row [.tr (.sc (.int .i64 0)), .tr (.sc (.string ⟨⟨[]⟩⟩)), .tr (.sc (.int .i64 0))] 0) := by
    rw [hoth _ (by omega), hσ2', List.getElem?_append_left hl1, hX1, hX]
  have s4 := st3 (t := t) hX3 rfl
  have hlt3 : σ.length < σ3.length := (List.getElem?_eq_some_iff.1 hX3).1
  obtain ⟨σ4, hσ4⟩ : ∃ σ4, σ4 = σ3.set σ.length (.row ((tkE t).map .tr) 0) := ⟨_, rfl⟩
  rw [← hσ4] at s4
  have r4 : opLoad 3 true (.ptr σ.length 0 0) σ4 = some (tkA t) := ld3 (by rw [hσ4, List.getElem?_set_self hlt3])
  have hfin : R (tkA t) σ4 := by
    rw [hR]
    obtain ⟨m, h3⟩ := h3
    refine ⟨rfl, ⟨m, by rw [hσ4, List.getElem?_set_ne (by omega)]; exact h3⟩, by rw [hσ4]; simp; omega, fun j hj hji => ?_⟩
    rw [hσ4, List.getElem?_set_ne (by omega), hoth j hji, hσ2', List.getElem?_append_left (by omega), hσ1j j hj]
  simp [← hX, hc, s3, l0, l1, hlen, w0, w1, hmin, minmaxAll, opNilCheck, fad_p, s1, r3, s4, r4]
  exact hfin
end
end Go.Proofs.YtolhjhjlfgfifaaGreatDoor.AM.Rd
end
section
set_option maxRecDepth 1000000
set_option linter.unusedVariables false
set_option linter.unusedSimpArgs false
namespace Go.Proofs.YtolhjhjlfgfifaaGreatDoor.AM.Rd
open Go.Proofs
theorem begun_ok (σ : Store) : callL T 6 [] σ = some (bv true, σ) := callL_extV (k := 18) T6 rfl rfl rfl
theorem new_bad {b : List UInt8} {tb : Tree} (hb : IsSl byE b (.tr tb)) (hl : b.length ≤ 1000000) {i : Nat} (hr : scanR b = .inl i) (σ : Store) : callL T 11 [.tr tb] σ = some (.tr (.tup [.sc (.pointer none), .sc (.bool false)]), σ) := by
  suffices hh : ∃ v σ', callL T 11 [.tr tb] σ = some (v, σ') ∧ (v = .tr (.tup [.sc (.pointer none), .sc (.bool false)]) ∧ σ' = σ) by
    obtain ⟨v, σ', h1, rfl, rfl⟩ := hh
    exact h1
  refine call_shared T11 rfl rfl ?_
  have hs := fun σ => scan_ok hb hl σ
  rw [hr] at hs
  simp [hs, scanT, opExtract, k11_4]
  rfl
theorem new_ok {b : List UInt8} {tb : Tree} (hb : IsSl byE b (.tr tb)) (hl : b.length ≤ 1000000) {l : List Tk} (hr : scanR b = .inr l) (σ : Store) : ∃ σ' id, callL T 11 [.tr tb] σ = some (.tup [.ptr id 0 0, bv true], σ') ∧ RD σ' id l 0 := by
  suffices hh : ∃ v σ', callL T 11 [.tr tb] σ = some (v, σ') ∧ (∃ id, v = .tup [.ptr id 0 0, bv true] ∧ RD σ' id l 0) by
    obtain ⟨v, σ', h1, id, rfl, h2⟩ := hh
    exact ⟨σ', id, h1, h2⟩
  refine call_shared T11 rfl rfl ?_
  have hs := fun σ => scan_ok hb hl σ
  rw [hr] at hs
  have hmk : opMkmap σ = some (.mp σ.length, σ ++ [.map [] 0]) := rfl
  have h1 : cellsOf (.tr (tksT l)) = [.tr (tksT l)] := by unfold tksT; split <;> rfl
  have h2 : ∀ n, cellsOf (.mp n) = [.mp n] := fun n => rfl
  have h3 : ∀ n, mkAgg [.tr (tksT l), iv 0, iv 0, .tr (.sc .nilFunc), .mp n] = .agg [.tr (tksT l), iv 0, iv 0, .tr (.sc .nilFunc), .mp n] := fun n => rfl
  have h4 : ∀ n (σ : Store), opBox (.agg [.tr (tksT l), iv 0, iv 0, .tr (.sc .nilFunc), .mp n]) σ = some (.ptr σ.length 0 0, σ ++ [.row [.tr (tksT l), iv 0, iv 0, .tr (.sc .nilFunc), .mp n] 0]) := fun n σ => rfl
  simp [hs, scanT, opExtract, k11_4, hmk, h1, h2, splice, opBoxB, h4]
  refine ⟨σ.length + 1, rfl, σ.length, ?_⟩
  rw [List.getElem?_append_right (by omega), show σ.length + 1 - σ.length = 1 by omega]
  rfl
theorem scanned_ok {b : List UInt8} {tb : Tree} (hb : IsSl byE b (.tr tb)) (hl : b.length ≤ 1000000) (σ : Store) : callL T 12 [.tr tb] σ = some (match scanR b with | .inl _ => .tr (.tup [.sc (.slice none 0 0), .sc (.bool false)]) | .inr l => .tr (.tup [tksT l, .sc (.bool true)]), σ) := by
  have hs := fun σ => rscan_ok hb hl σ
  cases hr : scanR b with
  | inl i =>
    suffices hh : ∃ v σ', callL T 12 [.tr tb] σ = some (v, σ') ∧ (v = .tr (.tup [.sc (.slice none 0 0), .sc (.bool false)]) ∧ σ' = σ) by
      obtain ⟨v, σ', h1, rfl, rfl⟩ := hh
      exact h1
    refine call_shared T12 rfl rfl ?_
    rw [hr] at hs
    simp [hs, scanT, opExtract]
    rfl
  | inr l =>
    suffices hh : ∃ v σ', callL T 12 [.tr tb] σ = some (v, σ') ∧ (v = .tr (.tup [tksT l, .sc (.bool true)]) ∧ σ' = σ) by
      obtain ⟨v, σ', h1, rfl, rfl⟩ := hh
      exact h1
    refine call_shared T12 rfl rfl ?_
    rw [hr] at hs
    simp [hs, scanT, opExtract]
    rfl
theorem scanG_ne : ∀ (m i : Nat) (l : List Tk) (s : List UInt8) {k : List Tk}, s.length ≤ m → scanG i l s = .inr k → k ≠ []
  | 0, i, l, s, k, hm, h => by
    obtain rfl := List.length_eq_zero_iff.1 (show s.length = 0 by omega)
    rw [scanG_nil] at h
    cases h
    simp
  | m + 1, i, l, s, k, hm, h => by
    by_cases hs : s = []
    · subst hs
      rw [scanG_nil] at h
      cases h
      simp
    · by_cases hn : (elR s).2.1 = 0
      · rw [scanG_bad hs hn] at h
        cases h
      · rw [scanG_step hs hn] at h
        have hle := (elR_le hs).1
        exact scanG_ne m _ _ _ (by rw [List.length_drop]; omega) h
end Go.Proofs.YtolhjhjlfgfifaaGreatDoor.AM.Rd
end
section
set_option maxRecDepth 1000000
set_option linter.unusedVariables false
set_option linter.unusedSimpArgs false
namespace Go.Proofs.YtolhjhjlfgfifaaGreatDoor.AM.Rd
open Go.Proofs
theorem law_readReader {b : List UInt8} {tb : Tree} (hb : IsSl byE b (.tr tb)) (k : Int) : ∃ v σ', callL T 4 [.tr tb, iv k] [] = some (v, σ') ∧ v = bv true := by
  refine call_shared T4 rfl rfl ?_
  have hbg := begun_ok
  obtain ⟨t', hsh, hb'⟩ := short_ok hb 300
  obtain ⟨c, hc⟩ : ∃ c, b.take 300 = c := ⟨_, rfl⟩
  rw [hc] at hb'
  have hcl : c.length ≤ 300 := by rw [← hc, List.length_take]; omega
  have hsh' : ∀ σ, callL T 10 [.tr tb, .tr (.sc (.int .i64 300))] σ = some (.tr t', σ) := hsh
  have hs2 := fun σ => scanned_ok hb' (by omega) σ
  have hx : ∀ x y : Bool, opBin .bool .neq (.tr (.sc (.bool x))) (.tr (.sc (.bool y))) = some (.tr (.sc (.bool (!(x == y))))) := by intro x y; cases x <;> cases y <;> rfl
  cases hr : scanR c with
  | inl i =>
    have hs1 := fun σ => new_bad hb' (by omega) hr σ
    rw [hr] at hs2
    have hp : opBin .pointer .neq (.tr (.sc (.pointer none))) (.tr (.sc (.pointer none))) = some (.tr (.sc (.bool false))) := rfl
    simp [hbg, hsh', hs1, hs2, opExtract, hx, hp, k4_7]
    refine wpc_up 0 (fun m st => m = 0 ∧ ∃ e L σ, st = ⟨e, L, σ⟩ ∧ look e 1 = some (iv k) ∧ look e 5 = some (bv true) ∧ look e 7 = some (bv false) ∧ look e 10 = some (iv 0)) ⟨rfl, _, _, _, rfl, by simp, by simp, by simp, by simp⟩ ?_
    rintro m st ⟨rfl, e, L, σ, rfl, e1, e5, e7, e10⟩
    by_cases hk : 0 < k
    · simp [k4_9, k4_19, e1, e5, e7, e10, hk]
    · simp [k4_9, k4_19, e1, e5, e10, hk]
  | inr l =>
    rw [hr] at hs2
    have hll := scanG_len _ 0 [] c (Nat.le_refl _) hr
    have hne := scanG_ne _ 0 [] c (Nat.le_refl _) hr
    have hl0 : 0 < l.length := List.length_pos_iff.2 hne
    have hl1 : l.length ≤ 1000000 := by simp at hll; omega
    obtain ⟨σ0, id, hs1, h0⟩ := new_ok hb' (by omega) hr []
    have hp : ∀ i g o, opBin .pointer .neq (.ptr i g o) (.tr (.sc (.pointer none))) = some (.tr (.sc (.bool true))) := fun i g o => rfl
    simp [hbg, hsh', hs1, hs2, opExtract, hx, hp, k4_7]
    obtain ⟨I, hI⟩ : ∃ I : Nat → St → Prop, I = fun m st => ∃ e L σ, st = ⟨e, L, σ⟩ ∧ m ≤ 100 ∧ look e 1 = some (iv k) ∧ look e 5 = some (bv true) ∧ look e 6 = some (.ptr id 0 0) ∧ look e 7 = some (bv true) ∧ look e 8 = some (.tr (tksT l)) ∧ look e 10 = some (nv .i64 m) ∧ RD σ id l (min m (l.length - 1)) := ⟨_, rfl⟩
    refine wpc_up 100 I (by rw [hI]; exact ⟨_, _, _, rfl, by omega, by simp, by simp, by simp, by simp, by simp, by simp, by simpa using h0⟩) ?_
    intro m st hst
    rw [hI] at hst
    obtain ⟨e, L, σ, rfl, hm, e1, e5, e6, e7, e8, e10, h⟩ := hst
    by_cases hk : (m : Int) < k
    · by_cases hm1 : m < 100
      · have hm1z : (m : Int) < 100 := by omega
        obtain ⟨j, hj⟩ : ∃ j, j = min m (l.length - 1) := ⟨_, rfl⟩
        rw [← hj] at h
        have hjl : j < l.length := by omega
        obtain ⟨t, ht⟩ : ∃ t, l[j]? = some t := ⟨_, List.getElem?_eq_getElem hjl⟩
        obtain ⟨τ, hc13⟩ := peek_ok h ht hl1
        obtain ⟨σ2, hc14, h2, _, _⟩ := next_ok (rd_new h τ) ht hl1
        obtain ⟨X, hX⟩ : ∃ X : Ob, X = .row [.tr (.sc (.int .i64 0)), .tr (.sc (.string ⟨⟨[]⟩⟩)), .tr (.sc (.int .i64 0))] 0 := ⟨_, rfl⟩
        obtain ⟨Y, hY⟩ : ∃ Y : Ob, Y = .row ((tkE t).map .tr) 0 := ⟨_, rfl⟩
        have s12 : opStore 3 (.ptr σ2.length 0 0) (tkA t) (σ2 ++ [X, X]) = some (σ2 ++ [Y, X]) := by
          rw [st3 (A := [.tr (.sc (.int .i64 0)), .tr (.sc (.string ⟨⟨[]⟩⟩)), .tr (.sc (.int .i64 0))]) (by rw [hX]; simp) rfl, ← hY]; simp
        have s13 : opStore 3 (.ptr (σ2.length + 1) 0 0) (tkA t) (σ2 ++ [Y, X]) = some (σ2 ++ [Y, Y]) := by
          rw [st3 (A := [.tr (.sc (.int .i64 0)), .tr (.sc (.string ⟨⟨[]⟩⟩)), .tr (.sc (.int .i64 0))]) (by rw [hX]; simp) rfl, ← hY]; simp
        obtain ⟨a0, a1, a2⟩ := ld3_at (σ := σ2 ++ [Y, Y]) (id := σ2.length) (t := t) (by rw [hY]; simp)
        obtain ⟨b0, b1, b2⟩ := ld3_at (σ := σ2 ++ [Y, Y]) (id := σ2.length + 1) (t := t) (by rw [hY]; simp)
        have hlen : ∀ σ, opLen 1 (.tr (tksT l)) σ = some (nv .i64 l.length) := fun σ => isSl_len (tks_sl l)
        have w1 : IntKind.i64.wrap ((l.length : Int) - 1) = ((l.length - 1 : Nat) : Int) := by rw [IntWalk.i64_in _ (by omega)]; omega
        have w2 : IntKind.i64.wrap ((m : Int) + 1) = ((m + 1 : Nat) : Int) := by rw [IntWalk.i64_in _ (by omega)]; omega
        have i0 := tk_ia ht
        have r0 : ∀ σ, opLoad 1 false (.tr (.rptr (l.flatMap tkE) (j * 3))) σ = some (nv .i64 t.kind) := fun σ => rptr_load0 (c := 3) (fun _ => rfl) ht (by omega)
        have r1 : ∀ σ, opLoad 1 false (.tr (.rptr (l.flatMap tkE) (j * 3 + 1))) σ = some (.tr (.sc (.string ⟨⟨t.text⟩⟩))) := fun σ => rptr_load (c := 3) (fun _ => rfl) ht (by omega)
        have r2 : ∀ σ, opLoad 1 false (.tr (.rptr (l.flatMap tkE) (j * 3 + 2))) σ = some (nv .i64 t.at_) := fun σ => rptr_load (c := 3) (fun _ => rfl) ht (by omega)
        have n0 : ∀ z : Int, opBin .other .neq (iv z) (iv z) = some (bv false) := by intro z; simp [opBin, isNil, notNil, binSc, binInt]
        have n1 : ∀ s : ByteArray, opBin .other .neq (.tr (.sc (.string s))) (.tr (.sc (.string s))) = some (bv false) := by intro s; simp [opBin, isNil, notNil, binSc, binStr, bytesEq_iff']
        have f0 : ∀ n o, opFaddr o (.tr (.rptr (l.flatMap tkE) n)) = some (.tr (.rptr (l.flatMap tkE) (n + o))) := fun n o => rfl
        have hnext : min (j + 1) (l.length - 1) = min (m + 1) (l.length - 1) := by omega
        rw [hnext] at h2
        by_cases hml : m < l.length
        · have hmz : ¬ (l.length : Int) ≤ (m : Int) := by omega
          have hjm : j = m := by omega
          subst hjm
          simp [k4_9, k4_11, k4_14, k4_18, e1, e6, e7, e8, e10, hk, hm1z, hmz, hlen, w2, hc13, hc14, ← hX, s12, s13, i0, r0, r1, r2, a0, a1, a2, b0, b1, b2, n0, n1, f0, fad_p]
          rw [hI]
          refine ⟨hm1, _, _, _, rfl, by omega, ?_, ?_, ?_, ?_, ?_, ?_, rd_new h2 _⟩
          · simp [e1]
          · simp [e5]
          · simp [e6]
          · simp [e7]
          · simp [e8]
          · simp
        · have hmz : (l.length : Int) ≤ (m : Int) := by omega
          have hjm : j = l.length - 1 := by omega
          subst hjm
          simp [k4_9, k4_11, k4_14, k4_18, e1, e6, e7, e8, e10, hk, hm1z, hmz, hlen, w1, w2, hc13, hc14, ← hX, s12, s13, i0, r0, r1, r2, a0, a1, a2, b0, b1, b2, n0, n1, f0, fad_p]
          rw [hI]
          refine ⟨hm1, _, _, _, rfl, by omega, ?_, ?_, ?_, ?_, ?_, ?_, rd_new h2 _⟩
          · simp [e1]
          · simp [e5]
          · simp [e6]
          · simp [e7]
          · simp [e8]
          · simp
      · have hm1z : ¬ (m : Int) < 100 := by omega
        simp [k4_9, k4_19, e1, e5, e10, hk, hm1z]
    · simp [k4_9, k4_19, e1, e5, e10, hk]
end Go.Proofs.YtolhjhjlfgfifaaGreatDoor.AM.Rd
end
