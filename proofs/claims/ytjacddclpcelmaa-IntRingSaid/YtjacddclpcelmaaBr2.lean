/- IntRing: part 2. -/
import Derived.Test.YtjacddclpcelmaaBr1
import Derived.Test.YtjacddclpcelmaaAm3
import Derived.Test.YtjacddclpcelmaaBrMath
set_option maxRecDepth 1000000
set_option linter.unusedVariables false
set_option linter.unusedSimpArgs false
namespace Go.Proofs.Ytjacddclpcelmaa.AM.Br
open Go.Proofs

@[simp] theorem ld2_0 {a b : Tree} {σ : Store} : opLoad 1 false (.tr (.rptr [a, b] 0)) σ = some (.tr a) := rfl
@[simp] theorem ld2_1 {a b : Tree} {σ : Store} : opLoad 1 false (.tr (.rptr [a, b] 1)) σ = some (.tr b) := rfl
@[simp] theorem ld2_2 {a b : Tree} {σ : Store} : opLoad 2 true (.tr (.rptr [a, b] 0)) σ = some (.tr (.agg [a, b])) := rfl
@[simp] theorem ldt2_0 {a b : Tree} : opLdt 1 false (.tr (.rptr [a, b] 0)) = some (.tr a) := rfl
@[simp] theorem ldt2_1 {a b : Tree} : opLdt 1 false (.tr (.rptr [a, b] 1)) = some (.tr b) := rfl
@[simp] theorem box2 {a b : Tree} {σ : Store} : opBoxB true (.tr (.agg [a, b])) σ = some (.tr (.rptr [a, b] 0), σ) := rfl
@[simp] theorem fad {cs : List Tree} {o n : Nat} : opFaddr o (.tr (.rptr cs n)) = some (.tr (.rptr cs (n + o))) := rfl

theorem cut_all {l : List Nat} {t : Tree} {k : IntKind} {n : Nat} (h : IsSl (nE k) l (.tr t)) (hn : n ≤ l.length) : ∃ t', (∀ σ, opSlice 1 (.tr t) none (some (nv .i64 n)) none σ = some (.tr t')) ∧ IsSl (nE k) (l.take n) (.tr t') := by
  obtain ⟨v', hcut, hv'⟩ := isSl_cut_hi (σ := []) h (nE_len k) (k' := .i64) hn
  obtain ⟨t', rfl⟩ := sl_tr hv'
  refine ⟨t', fun σ => ?_, hv'⟩
  rw [← hcut]
  rcases h with ⟨_, h⟩ | ⟨cap, h⟩ <;> cases h <;> rfl

theorem norm_tr {l : List Nat} {t : Tree} (h : IsSl uE l (.tr t)) (hl : l.length ≤ 1000000) : ∃ t', (∀ σ, callL T 48 [.tr t] σ = some (.tr t', σ)) ∧ IsSl uE (trim l) (.tr t') := by
  obtain ⟨t', hcut, hv'⟩ := cut_all h (tlen_le l l.length)
  refine ⟨t', fun σ => ?_, hv'⟩
  have hlen : opLen 1 (.tr t) σ = some (nv .i64 l.length) := isSl_len h
  suffices hh : ∃ r σ', callL T 48 [.tr t] σ = some (r, σ') ∧ (r = .tr t' ∧ σ' = σ) by
    obtain ⟨r, σ', h1, rfl, rfl⟩ := hh
    exact h1
  refine call_shared T48 rfl rfl ?_
  simp [hlen]
  refine wpc_loop (fun n s => n ≤ l.length ∧ tlen l n = tlen l l.length ∧ ∃ e L, s = ⟨e, L, σ⟩ ∧ look e 0 = some (.tr t) ∧ look e 3 = some (nv .i64 n)) l.length _ ⟨Nat.le_refl _, rfl, _, _, rfl, by simp, by simp⟩ ?_
  rintro n s ⟨hn, ht, e, L, rfl, h0, h3⟩
  have hw : IntKind.i64.wrap ((n : Int) - 1) = (n : Int) - 1 := w64 (by omega) (by omega)
  by_cases hp : 0 < n
  · obtain ⟨n, rfl⟩ : ∃ m, n = m + 1 := ⟨n - 1, by omega⟩
    have hx : l[n]? = some l[n] := List.getElem?_eq_getElem (by omega)
    have e1 : ((n + 1 : Nat) : Int) - 1 = (n : Int) := by omega
    rw [e1] at hw
    by_cases hz : l[n] = 0
    · simp [k48_2, h0, h3, e1, hw, sl_iaddr h hx, sl_load hx, hz, k48_4]
      refine ⟨n, by omega, by omega, ?_, rfl⟩
      rw [← ht]
      simp [tlen, hx, hz]
    · have ht' : tlen l l.length = n + 1 := by rw [← ht]; simp [tlen, hx, hz]
      rw [ht'] at hcut
      simp [k48_2, h0, h3, e1, hw, sl_iaddr h hx, sl_load hx, hz, k48_5, hcut]
  · obtain rfl : n = 0 := by omega
    have ht' : tlen l l.length = 0 := by rw [← ht]; rfl
    rw [ht'] at hcut
    simp [k48_2, h0, h3, hp, k48_5, hcut]

theorem clone_tr {l : List Nat} {t : Tree} (h : IsSl uE l (.tr t)) (hl : l.length ≤ 1000000) (σ : Store) : ∃ v σ', callL T 53 [.tr t] σ = some (v, σ') ∧
    ((l = [] ∧ σ' = σ ∧ IsSl uE [] v) ∨ (l ≠ [] ∧ v = .own σ.length 0 0 l.length 1 none ∧ σ' = σ ++ [.row (cK .u32 l) 0])) := by
  refine call_shared T53 rfl rfl ?_
  have hb : opBslice false 0 1 [.sc (.int .u32 0)] [] σ = some (.tr (.row [] 0 (some 0)), σ) := rfl
  by_cases h0 : l = []
  · subst h0
    rcases h with ⟨_, h⟩ | ⟨cap, h⟩
    · cases h
      simp
      exact .inl ⟨rfl, rfl⟩
    · have h' : IsSl uE [] (.tr (.row [] 0 cap)) := .inr ⟨cap, rfl⟩
      cases h
      simp [k53_3, hb, app_none h' (.inr ⟨_, rfl⟩)]
      exact .inr ⟨_, rfl⟩
  · have hp : 0 < l.length := List.length_pos_iff.2 h0
    have ha := fun σ => app_row (σ := σ) h hp (room_ok (b := 4) hl (by omega))
    rcases h with ⟨h, _⟩ | ⟨cap, h⟩
    · exact absurd h h0
    · cases h
      simp [k53_3, hb, ha, h0]

/-- A number as it is handed on. -/
structure IsBig (neg : Bool) (l : List Nat) (t : Tree) : Prop where
  ex : ∃ s, t = .agg [.sc (.bool neg), s] ∧ IsSl uE l (.tr s)
  dg : dig 4294967296 l
def ival (neg : Bool) (l : List Nat) : Int := if neg then -(val 4294967296 l : Int) else val 4294967296 l
/-- A number in normal form. -/
def IsNum (N : Nat) (z : Int) (t : Tree) : Prop := ∃ neg l, IsBig neg l t ∧ can l ∧ (neg = true → l ≠ []) ∧ ival neg l = z ∧ l.length ≤ N


/-- The trim of a slice, wherever it lies. -/
theorem norm_gen {l : List Nat} {v v' : V} {σ : Store} (hlen : opLen 1 v σ = some (nv .i64 l.length)) (hl : l.length ≤ 1000000) (hld : ∀ i x, l[i]? = some x → ∃ p, opIaddr 1 v (nv .i64 i) σ = some p ∧ opLoad 1 false p σ = some (nv .u32 x))
    (hcut : opSlice 1 v none (some (nv .i64 (tlen l l.length))) none σ = some v') : callL T 48 [v] σ = some (v', σ) := by
  suffices hh : ∃ r σ', callL T 48 [v] σ = some (r, σ') ∧ (r = v' ∧ σ' = σ) by
    obtain ⟨r, σ', h1, rfl, rfl⟩ := hh
    exact h1
  refine call_shared T48 rfl rfl ?_
  simp [hlen]
  obtain ⟨I, hI⟩ : ∃ I : Nat → St → Prop, I = (fun n s => n ≤ l.length ∧ tlen l n = tlen l l.length ∧ ∃ e L, s = ⟨e, L, σ⟩ ∧ look e 0 = some v ∧ look e 3 = some (nv .i64 n)) := ⟨_, rfl⟩
  refine wpc_loop I l.length _ (by rw [hI]; exact ⟨Nat.le_refl _, rfl, _, _, rfl, by simp, by simp⟩) ?_
  intro n s hIs
  rw [hI] at hIs
  obtain ⟨hn, ht, e, L, rfl, h0, h3⟩ := hIs
  have hw : IntKind.i64.wrap ((n : Int) - 1) = (n : Int) - 1 := w64 (by omega) (by omega)
  by_cases hp : 0 < n
  · obtain ⟨n, rfl⟩ : ∃ m, n = m + 1 := ⟨n - 1, by omega⟩
    have hx : l[n]? = some l[n] := List.getElem?_eq_getElem (by omega)
    obtain ⟨p, hp1, hp2⟩ := hld n _ hx
    have e1 : ((n + 1 : Nat) : Int) - 1 = (n : Int) := by omega
    rw [e1] at hw
    by_cases hz : l[n] = 0
    · simp [k48_2, h0, h3, e1, hw, hp1, hp2, hz, k48_4]
      refine ⟨n, by omega, ?_⟩
      rw [hI]
      refine ⟨by omega, ?_, _, _, rfl, by simp [h0], by simp⟩
      rw [← ht]
      simp [tlen, hx, hz]
    · have ht' : tlen l l.length = n + 1 := by rw [← ht]; simp [tlen, hx, hz]
      rw [ht'] at hcut
      simp [k48_2, h0, h3, e1, hw, hp1, hp2, hz, k48_5, hcut]
  · obtain rfl : n = 0 := by omega
    have ht' : tlen l l.length = 0 := by rw [← ht]; rfl
    rw [ht'] at hcut
    simp [k48_2, h0, h3, hp, k48_5, hcut]

/-- append behind an empty slice, of a slice wherever it lies. -/
theorem app_gen {k : IntKind} {l : List Nat} {v : V} {σ : Store} {b : Nat} (h : elems σ 1 v = some (cK k l, l.length)) (hl : 0 < l.length) (hr : room l.length b = true) : opAppend 1 b (.tr (.row [] 0 (some 0))) v σ = some (.own σ.length 0 0 l.length 1 none, σ ++ [.row (cK k l) 0]) := by
  have h0 : room 0 b = true := by unfold room; rw [Nat.zero_mul]; rfl
  have h1 : ¬ l.length = 0 := by omega
  unfold opAppend
  simp [h, hr, h0, h1]
theorem app_gen0 {k : IntKind} {v : V} {σ : Store} {b : Nat} (h : elems σ 1 v = some (cK k [], 0)) : opAppend 1 b (.tr (.row [] 0 (some 0))) v σ = some (.tr (.row [] 0 (some 0)), σ) := by
  have h0 : room 0 b = true := by unfold room; rw [Nat.zero_mul]; rfl
  unfold opAppend
  simp [h, h0]
theorem clone_gen {l : List Nat} {v : V} {σ : Store} (h : elems σ 1 v = some (cK .u32 l, l.length)) (hn : (l = [] ∧ v = .tr (.sc (.slice none 0 0))) ∨ opBin .slice .eql v (.tr (.sc (.slice none 0 0))) = some (.tr (.sc (.bool false)))) (hl : l.length ≤ 1000000) : ∃ w σ', callL T 53 [v] σ = some (w, σ') ∧
    ((l = [] ∧ σ' = σ ∧ IsSl uE [] w) ∨ (l ≠ [] ∧ w = .own σ.length 0 0 l.length 1 none ∧ σ' = σ ++ [.row (cK .u32 l) 0])) := by
  refine call_shared T53 rfl rfl ?_
  have hb : opBslice false 0 1 [.sc (.int .u32 0)] [] σ = some (.tr (.row [] 0 (some 0)), σ) := rfl
  rcases hn with ⟨rfl, rfl⟩ | hn
  · simp
    exact .inl ⟨rfl, rfl⟩
  · by_cases h0 : l = []
    · subst h0
      simp [hn, k53_3, hb, app_gen0 h]
      exact .inr ⟨_, rfl⟩
    · have hp : 0 < l.length := List.length_pos_iff.2 h0
      have ha := app_gen h hp (room_ok (b := 4) hl (by omega))
      simp [hn, k53_3, hb, ha, h0]

theorem snapF_own {k : IntKind} {l : List Nat} {σ : Store} {id n : Nat} {cap : Option Nat} {g d : Nat} (hs : σ[id]? = some (.row (cK k l) g)) (hn : n = l.length) : snapF σ (d + 1) (.own id g 0 n 1 cap) = some (.row (l.flatMap (nE k)) l.length cap) := by
  subst hn
  have h1 : obCells σ id g = some (cK k l) := by simp [obCells, hs]
  have h2 : slice? (cK k l) 0 (l.length * 1) = some (cK k l) := by
    unfold slice?
    have : ((cK k l).drop 0).take (l.length * 1) = cK k l := by
      rw [List.drop_zero, Nat.mul_one, List.take_of_length_le (by rw [cK_len]; exact Nat.le_refl _)]
    simp only [this]
    rw [if_pos (by rw [cK_len, Nat.mul_one])]
  have h3 : ∀ m : List Nat, snapL (snapF σ d) (cK k m) = some (m.flatMap (nE k)) := by
    intro m
    induction m with
    | nil => rfl
    | cons x m ih =>
      have hx : snapF σ d (nv k x) = some (.sc (.int k (x : Int))) := by cases d <;> simp [snapF, noRows]
      simp only [cK, List.map_cons, snapL] at ih ⊢
      rw [hx, ih]
      rfl
  unfold snapF
  simp only [h1, h2, h3]
theorem snapF_agg {σ : Store} {n : Nat} {cs : List V} : snapF σ (n + 1) (.agg cs) = match snapL (snapF σ n) cs with | some ts => some (.agg ts) | none => none := by rw [snapF]; rfl
@[simp] theorem snapF_b {σ : Store} {n : Nat} {b : Bool} : snapF σ n (bv b) = some (.sc (.bool b)) := by cases n <;> simp [snapF, noRows]
/-- What a made number is in the store. -/
def Made (N : Nat) (z : Int) (σ : Store) (v : V) (σ' : Store) : Prop := ∃ a b s r, v = mkAgg [a, b] ∧ σ' = σ ++ s ∧ oneV a = true ∧ oneV b = true ∧ IsNum N z r ∧ ∀ p : Store, p.length = σ.length → ∀ d, snap (p ++ s) (d + 1 + 1) (mkAgg [a, b]) = some r ∧ snapF (p ++ s) (d + 1 + 1) (mkAgg [a, b]) = some r

theorem made_gen {neg : Bool} {l : List Nat} {v v' : V} {σ : Store} (hd : dig 4294967296 l) (hl : l.length ≤ 1000000) (hn : callL T 48 [v] (σ ++ [.row [.tr (.sc (.bool false)), .tr (.sc (.slice none 0 0))] 0]) = some (v', σ ++ [.row [.tr (.sc (.bool false)), .tr (.sc (.slice none 0 0))] 0]))
    (he : elems (σ ++ [.row [.tr (.sc (.bool false)), .tr (.sc (.slice none 0 0))] 0]) 1 v' = some (cK .u32 (trim l), (trim l).length)) (hb : (trim l = [] ∧ v' = .tr (.sc (.slice none 0 0))) ∨ opBin .slice .eql v' (.tr (.sc (.slice none 0 0))) = some (.tr (.sc (.bool false)))) :
    ∃ w σ', callL T 41 [bv neg, v] σ = some (w, σ') ∧ Made l.length (ival neg l) σ w σ' := by
  refine call_shared T41 rfl rfl ?_
  have hle := trim_le l
  obtain ⟨w, σ', hc, hw⟩ := clone_gen he hb (by omega)
  have hval : val 4294967296 (trim l) = val 4294967296 l := val_trim 4294967296 l
  rcases hw with ⟨h0, rfl, hw⟩ | ⟨h0, rfl, rfl⟩
  · have hlen : ∀ σ, opLen 1 w σ = some (nv .i64 0) := fun σ => isSl_len hw
    simp [hn, hc, hlen, opStore, obPut, opLoad, obCells, slice?, splice_all]
    rw [h0] at hval
    have hz : ival neg l = 0 := by
      unfold ival
      rw [← hval]
      cases neg <;> rfl
    refine ⟨bv false, .tr (.sc (.slice none 0 0)), _, .agg [.sc (.bool false), .sc (.slice none 0 0)], rfl, rfl, rfl, rfl, ⟨false, [], ⟨⟨_, rfl, .inl ⟨rfl, rfl⟩⟩, dig_nil 4294967296⟩, can_nil, by simp, by rw [hz]; rfl, by simp⟩, fun p hp d => ⟨rfl, rfl⟩⟩
  · simp [hn, hc, own_len, h0, k41_4, opStore, obPut, opLoad, obCells, slice?, splice_all]
    have hl0 : 0 < (trim l).length := List.length_pos_iff.2 h0
    refine ⟨bv neg, .own (σ.length + 1) 0 0 (trim l).length 1 none, [.row [bv neg, .own (σ.length + 1) 0 0 (trim l).length 1 none] 0, .row (cK .u32 (trim l)) 0], .agg [.sc (.bool neg), .row ((trim l).flatMap uE) (trim l).length none], rfl, rfl, rfl, rfl, ⟨neg, trim l, ⟨⟨_, rfl, .inr ⟨none, rfl⟩⟩, dig_trim hd⟩, can_trim l, fun _ => h0, ?_, hle⟩, fun p hp d => ?_⟩
    · unfold ival
      rw [hval]
    · have hi : (p ++ [.row [bv neg, .own (σ.length + 1) 0 0 (trim l).length 1 none] 0, .row (cK .u32 (trim l)) 0])[σ.length + 1]? = some (Ob.row (cK .u32 (trim l)) 0) := by
        rw [List.getElem?_append_right (by omega), show σ.length + 1 - p.length = 1 by omega]
        rfl
      have h1 := snap_own (d := d) (cap := none) hi rfl
      have h2 := snapF_own (d := d) (cap := none) hi rfl
      constructor
      · simp [snap_agg, h1]
      · simp [snapF_agg, h2]
theorem allTr_eq : ∀ {vs : List V} {ts : List Tree}, allTr vs = some ts → vs = ts.map .tr
  | [], ts, h => by simp [allTr] at h; subst h; rfl
  | v :: vs, ts, h => by
    cases v with
    | tr t =>
      simp only [allTr] at h
      cases h2 : allTr vs with
      | none => rw [h2] at h; cases h
      | some us =>
        rw [h2] at h
        cases h
        rw [allTr_eq h2]
        rfl
    | _ => simp [allTr] at h
theorem cells_mk (a b : V) : cellsOf (mkAgg [a, b]) = [a, b] := by
  unfold mkAgg
  split
  · rename_i ts h
    rw [cells_tr, ← allTr_eq h]
  · rfl
/-- The number put into a struct's place, and read from there. -/
theorem Made.use {N : Nat} {z : Int} {σ σ' : Store} {w : V} (h : Made N z σ w σ') : ∃ a b s r, (∀ x y s', opStore 2 (.ptr 0 0 0) w (.row [x, y] 0 :: s') = some (.row [a, b] 0 :: s')) ∧ (∀ s', opLoad 2 true (.ptr 0 0 0) (.row [a, b] 0 :: s') = some w) ∧ σ' = σ ++ s ∧ IsNum N z r
    ∧ ∀ p : Store, p.length = σ.length → snap (p ++ s) 400 w = some r ∧ snapF (p ++ s) 400 w = some r := by
  obtain ⟨a, b, s, r, rfl, rfl, oa, ob, hr, hsn⟩ := h
  refine ⟨a, b, s, r, fun x y s' => ?_, fun s' => ?_, rfl, hr, fun p hp => hsn p hp 398⟩
  · unfold opStore
    simp only [cells_mk]
    simp [obPut, oa, ob, splice_all]
  · simp only [opLoad, obCells, slice?]
    rfl
theorem made_tr {neg : Bool} {l : List Nat} {t : Tree} (h : IsSl uE l (.tr t)) (hd : dig 4294967296 l) (hl : l.length ≤ 1000000) (σ : Store) : ∃ w σ', callL T 41 [bv neg, .tr t] σ = some (w, σ') ∧ Made l.length (ival neg l) σ w σ' := by
  obtain ⟨t', hn, hv'⟩ := norm_tr h hl
  refine made_gen hd hl (hn _) (sl_elems hv') ?_
  rcases hv' with ⟨h1, h2⟩ | ⟨c, h2⟩
  · exact .inl ⟨h1, h2⟩
  · rw [h2]; exact .inr rfl
theorem cut_own {l : List Nat} {σ : Store} {id m n : Nat} {cap : Option Nat} (hs : σ[id]? = some (.row (cK .u32 l) 0)) (hm : m = l.length) (hn : n ≤ l.length) : opSlice 1 (.own id 0 0 m 1 cap) none (some (nv .i64 n)) none σ = some (.own id 0 0 n 1 (cutCap cap none 0)) := by
  subst hm
  have h1 : obCells σ id 0 = some (cK .u32 l) := by simp [obCells, hs]
  unfold opSlice
  simp only [optIdx, asIdx_nat, Option.isSome_none, Bool.false_and, Bool.false_eq_true, if_false, Option.getD_some, Option.getD_none, h1, ne_eq, not_true_eq_false]
  rw [if_pos ⟨Nat.zero_le _, Nat.le_refl _, .inl hn⟩]
  simp
theorem made_own {neg : Bool} {l : List Nat} {σ : Store} {id n : Nat} {cap : Option Nat} (hs : σ[id]? = some (.row (cK .u32 l) 0)) (hn : n = l.length) (hd : dig 4294967296 l) (hl : l.length ≤ 1000000) : ∃ w σ', callL T 41 [bv neg, .own id 0 0 n 1 cap] σ = some (w, σ') ∧ Made l.length (ival neg l) σ w σ' := by
  subst hn
  have hid : id < σ.length := (List.getElem?_eq_some_iff.1 hs).1
  have hs2 : (σ ++ [Ob.row [.tr (.sc (.bool false)), .tr (.sc (.slice none 0 0))] 0])[id]? = some (.row (cK .u32 l) 0) := by rw [List.getElem?_append_left hid]; exact hs
  have ht := tlen_le l l.length
  refine made_gen (v' := .own id 0 0 (tlen l l.length) 1 (cutCap cap none 0)) hd hl (norm_gen own_len hl (fun i x hx => ⟨.ptr id 0 (0 + i), own_iaddr hs2 (List.getElem?_eq_some_iff.1 hx).1, by rw [Nat.zero_add]; exact own_load hs2 hx⟩) (cut_own hs2 rfl ht)) ?_ (.inr rfl)
  have h1 : obCells (σ ++ [Ob.row [.tr (.sc (.bool false)), .tr (.sc (.slice none 0 0))] 0]) id 0 = some (cK .u32 l) := by unfold obCells; rw [hs2]; simp
  have h2 : (trim l).length = tlen l l.length := by unfold trim; rw [List.length_take, Nat.min_eq_left ht]
  have h3 : slice? (cK .u32 l) 0 (tlen l l.length * 1) = some (cK .u32 (trim l)) := by
    unfold slice?
    have e : ((cK .u32 l).drop 0).take (tlen l l.length * 1) = cK .u32 (trim l) := by
      rw [List.drop_zero, Nat.mul_one]; simp [cK, trim, List.map_take]
    simp only [e]
    rw [if_pos (by rw [cK_len, h2, Nat.mul_one])]
  unfold elems
  simp only [h1, h3, if_true, h2]
end Go.Proofs.Ytjacddclpcelmaa.AM.Br
