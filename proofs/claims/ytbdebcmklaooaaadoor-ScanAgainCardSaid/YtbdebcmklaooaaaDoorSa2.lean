/- the scanner: parts 2, 3, 4, 5, 6, 7, 8, 9, 10, 11, 12, 13. -/
import Derived.Test.YtbdebcmklaooaaaDoorSa1
set_option linter.unusedSectionVars false
section
set_option maxRecDepth 1000000
set_option linter.unusedVariables false
set_option linter.unusedSimpArgs false
namespace Go.Proofs.YtbdebcmklaooaaaDoor.AM
theorem freezeAll_tr (σ : Store) (ts : List Tree) : freezeAll σ (ts.map .tr) = some σ := by
  unfold freezeAll
  rw [dirs_tr]
  have hn : ∀ (n : Nat) (S : List Nat), reachN σ n [] S = S := by
    intro n S
    cases n <;> simp [reachN]
  simp only [hn]
  rfl
/-- One run of a function that sees trees is so in any store. -/
theorem iso_of_run {T : FTab} {f : FuncId} {fn : HFn} {ts : List Tree} {n : Nat} {v : V} {σ1 : Store} (hf : T f = some fn) (hm : fn.mode = .iso) (h : callA T n f (ts.map .tr) [] = some (v, σ1)) : ∃ t, v = .tr t ∧ ∀ σ, callL T f (ts.map .tr) σ = some (.tr t, σ) := by
  cases n with
  | zero => rw [callA] at h; cases h
  | succ m =>
    rw [callA, hf] at h
    simp only [hm, snapL_tr] at h
    split at h
    · rename_i hl
      split at h
      · cases h
      · rename_i v' s' hr
        split at h
        · cases h
        · rename_i t ht
          have hv : v = .tr t := by
            split at h
            · cases h; rfl
            · rw [freezeAll_tr] at h; cases h; rfl
          refine ⟨t, hv, fun σ => callL_some.2 ⟨m + 1, ?_⟩⟩
          rw [callA, hf]
          simp only [hm, snapL_tr, hl, if_true, hr, ht, freezeAll_tr]
          split <;> rfl
    · cases h
end Go.Proofs.YtbdebcmklaooaaaDoor.AM
namespace Go.Proofs.YtbdebcmklaooaaaDoor.AM.Sa
open Go.Proofs
abbrev u8v (c : UInt8) : V := .tr (.sc (.int .u8 (c.toNat : Int)))
def hd (s : List UInt8) (k : Nat) : UInt8 := s.getD k 0
def isL (c : UInt8) : Bool := (Nat.ble 97 c.toNat && Nat.ble c.toNat 122) || (Nat.ble 65 c.toNat && Nat.ble c.toNat 90) || Nat.beq c.toNat 95
def isD (c : UInt8) : Bool := Nat.ble 48 c.toNat && Nat.ble c.toNat 57
/-- A digit's value. -/
def dv (c : UInt8) : Int := if Nat.ble 48 c.toNat && Nat.ble c.toNat 57 then (c.toNat - 48 : Nat) else if Nat.ble 97 c.toNat && Nat.ble c.toNat 102 then (c.toNat - 87 : Nat) else if Nat.ble 65 c.toNat && Nat.ble c.toNat 70 then (c.toNat - 55 : Nat) else -1
def inB (base : Nat) (c : UInt8) : Bool := decide (0 ≤ dv c) && decide (dv c < base)
def nrun (p : UInt8 → Bool) (s : List UInt8) : Nat := (s.takeWhile p).length
noncomputable def okByte (f : Nat) (g : UInt8 → Bool) (n : Nat) : Bool := match callA T 60 f [.tr (.sc (.int .u8 (n : Int)))] [] with | some (.tr (.sc (.bool b)), _) => b == g (UInt8.ofNat n) | _ => false
theorem byte_of {f : Nat} {fn : HFn} {g : UInt8 → Bool} (hf : T f = some fn) (hm : fn.mode = .iso) (h : (List.range 256).all (okByte f g) = true) (c : UInt8) (σ : Store) : callL T f [u8v c] σ = some (bv (g c), σ) := by
  have h1 := List.all_eq_true.1 h c.toNat (by simpa using c.toNat_lt)
  unfold okByte at h1
  rw [UInt8.ofNat_toNat] at h1
  split at h1
  · rename_i b s e
    obtain ⟨t, ht, hr⟩ := iso_of_run (ts := [.sc (.int .u8 (c.toNat : Int))]) hf hm e
    cases ht
    rw [beq_iff_eq] at h1
    subst h1
    exact hr σ
  · cases h1
theorem run34 : (List.range 256).all (okByte 34 isL) = true := by decide +kernel
theorem run36 : (List.range 256).all (okByte 36 isD) = true := by decide +kernel
theorem run57 : (List.range 256).all (okByte 57 (inB 16)) = true := by decide +kernel
theorem run71 : (List.range 256).all (okByte 71 (inB 8)) = true := by decide +kernel
theorem run72 : (List.range 256).all (okByte 72 (inB 2)) = true := by decide +kernel
theorem letter_ok (c : UInt8) (σ : Store) : callL T 34 [u8v c] σ = some (bv (isL c), σ) := byte_of T34 rfl run34 c σ
theorem decimal_ok (c : UInt8) (σ : Store) : callL T 36 [u8v c] σ = some (bv (isD c), σ) := byte_of T36 rfl run36 c σ
theorem hex_ok (c : UInt8) (σ : Store) : callL T 57 [u8v c] σ = some (bv (inB 16 c), σ) := byte_of T57 rfl run57 c σ
theorem octal_ok (c : UInt8) (σ : Store) : callL T 71 [u8v c] σ = some (bv (inB 8 c), σ) := byte_of T71 rfl run71 c σ
theorem binary_ok (c : UInt8) (σ : Store) : callL T 72 [u8v c] σ = some (bv (inB 2 c), σ) := byte_of T72 rfl run72 c σ
theorem isD_inB (c : UInt8) : isD c = inB 10 c := by
  have : ∀ n, n < 256 → isD (UInt8.ofNat n) = inB 10 (UInt8.ofNat n) := by decide +kernel
  have h := this c.toNat c.toNat_lt
  rwa [UInt8.ofNat_toNat] at h
theorem name1_ok (c : UInt8) (σ : Store) : ∃ σ', callL T 53 [u8v c] σ = some (bv (isL c || isD c), σ') ∧ σ' = σ := by
  suffices hh : ∃ v σ', callL T 53 [u8v c] σ = some (v, σ') ∧ (v = bv (isL c || isD c) ∧ σ' = σ) by
    obtain ⟨v, σ', h, rfl, rfl⟩ := hh
    exact ⟨_, h, rfl⟩
  refine call_shared T53 rfl rfl ?_
  have h1 := letter_ok c
  have h2 := decimal_ok c
  cases e1 : isL c <;> rw [e1] at h1 <;> simp [h1, h2]
end Go.Proofs.YtbdebcmklaooaaaDoor.AM.Sa
end
section
set_option maxRecDepth 1000000
set_option linter.unusedVariables false
set_option linter.unusedSimpArgs false
namespace Go.Proofs.YtbdebcmklaooaaaDoor.AM.Sa
open Go.Proofs
section
variable {l : List UInt8} {i : Nat} {c : UInt8} {σ : Store} {v : V}
theorem by_ia (h : IsSl byE l v) (hi : l[i]? = some c) (k : IntKind) : opIaddr 1 v (.tr (.sc (.int k (i : Int)))) σ = some (.tr (.rptr (l.flatMap byE) i)) := by
  have := isSl_iaddr (σ := σ) h byE_len (by omega) (k := k) hi
  rwa [Nat.mul_one] at this
theorem by_ld (hi : l[i]? = some c) : opLoad 1 false (.tr (.rptr (l.flatMap byE) i)) σ = some (u8v c) := by
  have := rptr_load0 (σ := σ) (agg := false) byE_len hi (s := 1) (by omega)
  rw [Nat.mul_one] at this
  rw [this]; rfl
theorem by_len (h : IsSl byE l v) : opLen 1 v σ = some (nv .i64 l.length) := isSl_len h
theorem hd_of (hi : l[i]? = some c) : hd l i = c := by simp [hd, List.getD_eq_getElem?_getD, hi]
theorem hd_none (hi : l.length ≤ i) : hd l i = 0 := by simp [hd, List.getD_eq_getElem?_getD, List.getElem?_eq_none hi]
theorem hd_drop (j : Nat) : hd (l.drop i) j = hd l (i + j) := by simp [hd, List.getD_eq_getElem?_getD]
theorem some_of (hi : i < l.length) : ∃ c, l[i]? = some c := ⟨_, List.getElem?_eq_getElem hi⟩
end
section
variable {p : UInt8 → Bool} {s : List UInt8} {n : Nat} {c : UInt8}
theorem nrun_le : nrun p s ≤ s.length := (List.takeWhile_sublist p).length_le
theorem nrun_lt (h : n < nrun p s) : ∃ c, s[n]? = some c ∧ p c = true := by
  induction s generalizing n with
  | nil => simp [nrun] at h
  | cons a s ih =>
    unfold nrun at h
    rw [List.takeWhile_cons] at h
    split at h
    · rename_i ha
      cases n with
      | zero => exact ⟨a, rfl, ha⟩
      | succ n =>
        obtain ⟨c, h1, h2⟩ := ih (n := n) (by unfold nrun; simpa using h)
        exact ⟨c, by simpa using h1, h2⟩
    · simp at h
theorem nrun_at (h : s[nrun p s]? = some c) : p c = false := by
  induction s with
  | nil => simp at h
  | cons a s ih =>
    unfold nrun at h
    rw [List.takeWhile_cons] at h
    split at h
    · exact ih (by unfold nrun; simpa using h)
    · rename_i ha
      simp at h
      subst h
      simpa using ha
theorem nrun_eq (h1 : n ≤ s.length) (h2 : ∀ (j : Nat) c, j < n → s[j]? = some c → p c = true) (h3 : ∀ c, s[n]? = some c → p c = false) : nrun p s = n := by
  rcases Nat.lt_trichotomy (nrun p s) n with h | h | h
  · obtain ⟨c, hc⟩ := some_of (l := s) (i := nrun p s) (by omega)
    have := h2 _ c h hc
    rw [nrun_at hc] at this
    cases this
  · exact h
  · obtain ⟨c, h4, h5⟩ := nrun_lt h
    rw [h3 c h4] at h5
    cases h5
end
theorem w64z {z : Int} (h0 : 0 ≤ z) (h : z ≤ 9000000000000000000) : IntKind.i64.wrap z = z := w64 (by omega) (by omega)
end Go.Proofs.YtbdebcmklaooaaaDoor.AM.Sa
end
section
set_option maxRecDepth 1000000
set_option linter.unusedVariables false
set_option linter.unusedSimpArgs false
namespace Go.Proofs.YtbdebcmklaooaaaDoor.AM.Sa
open Go.Proofs
def decV (l : List UInt8) : Int := l.foldl (fun v c => 10 * v + dv c) 0
theorem decV_snoc (l : List UInt8) (c : UInt8) : decV (l ++ [c]) = 10 * decV l + dv c := by simp [decV, List.foldl_append]
/-- An exponent's length; -1: wrong; 0: none. -/
def expoR (s : List UInt8) (a g : UInt8) : Int :=
  if hd s 0 ≠ a ∧ hd s 0 ≠ g then 0 else
  let k := if hd s 1 = 43 ∨ hd s 1 = 45 then 2 else 1
  let n := nrun (inB 10) (s.drop k)
  if n = 0 then -1 else if 999 < decV ((s.drop k).take n) then -1 else ((k + n : Nat) : Int)
theorem dig10 {c : UInt8} (h : inB 10 c = true) : dv c = (c.toNat : Int) - 48 ∧ 48 ≤ c.toNat ∧ c.toNat ≤ 57 := by
  rw [← isD_inB] at h
  simp only [isD, Bool.and_eq_true, Nat.ble_eq] at h
  refine ⟨?_, h.1, h.2⟩
  have : (Nat.ble 48 c.toNat && Nat.ble c.toNat 57) = true := by simp [Nat.ble_eq, h.1, h.2]
  unfold dv
  rw [if_pos this]
  omega
theorem u8_eq {a c : UInt8} : ((a.toNat : Int) = (c.toNat : Int)) ↔ a = c := by
  rw [← UInt8.toNat_inj]; omega
end Go.Proofs.YtbdebcmklaooaaaDoor.AM.Sa
end
section
set_option maxRecDepth 1000000
set_option linter.unusedVariables false
set_option linter.unusedSimpArgs false
namespace Go.Proofs.YtbdebcmklaooaaaDoor.AM.Sa
open Go.Proofs
/-- What may not stand behind a number. -/
def badTail (c : UInt8) : Bool := isL c || isD c || c == 46
def numFin (s : List UInt8) (kind k : Nat) : Option (Nat × Nat) := if badTail (hd s k) then none else some (kind, k)
def numX (s : List UInt8) (n k : Nat) (pt : Bool) : Option (Nat × Nat) :=
  if n = 0 ∨ expoR (s.drop k) 112 80 < 0 ∨ (expoR (s.drop k) 112 80 = 0 ∧ pt = true) then none else numFin s (if pt = true ∨ 0 < expoR (s.drop k) 112 80 then 3 else 2) (k + (expoR (s.drop k) 112 80).toNat)
def numP (s : List UInt8) (n k : Nat) (pt : Bool) : Option (Nat × Nat) :=
  if expoR (s.drop k) 101 69 < 0 then none else
  if ¬ (pt = true ∨ 0 < expoR (s.drop k) 101 69) ∧ 1 < n ∧ hd s 0 = 48 then none else numFin s (if pt = true ∨ 0 < expoR (s.drop k) 101 69 then 3 else 2) (k + (expoR (s.drop k) 101 69).toNat)
/-- A number: its kind and length, or none. -/
def numberR (s : List UInt8) : Option (Nat × Nat) :=
  if hd s 0 = 48 ∧ (hd s 1 = 120 ∨ hd s 1 = 88) then
    if hd s (2 + nrun (inB 16) (s.drop 2)) = 46 then numX s (nrun (inB 16) (s.drop 2) + nrun (inB 16) (s.drop (2 + nrun (inB 16) (s.drop 2) + 1))) (2 + nrun (inB 16) (s.drop 2) + 1 + nrun (inB 16) (s.drop (2 + nrun (inB 16) (s.drop 2) + 1))) true
    else numX s (nrun (inB 16) (s.drop 2)) (2 + nrun (inB 16) (s.drop 2)) false
  else if hd s 0 = 48 ∧ (hd s 1 = 111 ∨ hd s 1 = 79 ∨ hd s 1 = 98 ∨ hd s 1 = 66) then
    if nrun (inB (if hd s 1 = 98 ∨ hd s 1 = 66 then 2 else 8)) (s.drop 2) = 0 then none else numFin s 2 (2 + nrun (inB (if hd s 1 = 98 ∨ hd s 1 = 66 then 2 else 8)) (s.drop 2))
  else
    if hd s (nrun (inB 10) s) = 46 then numP s (nrun (inB 10) s) (nrun (inB 10) s + 1 + nrun (inB 10) (s.drop (nrun (inB 10) s + 1))) true
    else numP s (nrun (inB 10) s) (nrun (inB 10) s) false
@[simp] theorem snap_2 (x y : Value) (σ : Store) : snap σ deepN (mkTup [.tr (.sc x), .tr (.sc y)]) = some (.tup [.sc x, .sc y]) := rfl
theorem expoR_le (s : List UInt8) (a g : UInt8) : expoR s a g ≤ s.length := by
  unfold expoR
  simp only
  obtain ⟨k, hk⟩ : ∃ k, (if hd s 1 = 43 ∨ hd s 1 = 45 then 2 else 1) = k := ⟨_, rfl⟩
  rw [hk]
  have := nrun_le (p := inB 10) (s := s.drop k)
  rw [List.length_drop] at this
  generalize nrun (inB 10) (s.drop k) = n at *
  split
  · omega
  · split
    · omega
    · split <;> omega
section
variable {b : List UInt8} {tb : Tree} (hb : IsSl byE b (.tr tb)) (hl : b.length ≤ 1000000) {i : Nat} (hi : i < b.length)
include hb hl hi
end
end Go.Proofs.YtbdebcmklaooaaaDoor.AM.Sa
end
section
set_option maxRecDepth 1000000
set_option linter.unusedVariables false
set_option linter.unusedSimpArgs false
namespace Go.Proofs.YtbdebcmklaooaaaDoor.AM.Sa
open Go.Proofs
section
variable {b : List UInt8} {tb : Tree} (hb : IsSl byE b (.tr tb)) (hl : b.length ≤ 1000000) {i : Nat} (hi : i < b.length)
include hb hl hi
end
end Go.Proofs.YtbdebcmklaooaaaDoor.AM.Sa
end
section
set_option maxRecDepth 1000000
set_option linter.unusedVariables false
set_option linter.unusedSimpArgs false
namespace Go.Proofs.YtbdebcmklaooaaaDoor.AM.Sa
open Go.Proofs
def utfV (v : Nat) (l : List UInt8) : Nat := l.foldl (fun v c => v * 64 + c.toNat % 64) v
def contB (c : UInt8) : Bool := Nat.beq (c.toNat / 64) 2
def utfN (s : List UInt8) (n v least : Nat) : Nat :=
  if s.length < n then 0 else if ((s.drop 1).take (n - 1)).all contB = false then 0 else
  if utfV v ((s.drop 1).take (n - 1)) < least ∨ 1114111 < utfV v ((s.drop 1).take (n - 1)) ∨ (55296 ≤ utfV v ((s.drop 1).take (n - 1)) ∧ utfV v ((s.drop 1).take (n - 1)) < 57344) then 0 else n
/-- The length of a rune's form; 0: none. -/
def utfR (s : List UInt8) : Nat :=
  if (hd s 0).toNat < 128 then 1 else
  if 194 ≤ (hd s 0).toNat ∧ (hd s 0).toNat < 224 then utfN s 2 ((hd s 0).toNat % 32) 128 else
  if 224 ≤ (hd s 0).toNat ∧ (hd s 0).toNat < 240 then utfN s 3 ((hd s 0).toNat % 16) 2048 else
  if 240 ≤ (hd s 0).toNat ∧ (hd s 0).toNat < 245 then utfN s 4 ((hd s 0).toNat % 8) 65536 else 0
section
variable {b : List UInt8} {tb : Tree} (hb : IsSl byE b (.tr tb)) (hl : b.length ≤ 1000000) {i : Nat} (hi : i < b.length)
include hb hl hi
end
end Go.Proofs.YtbdebcmklaooaaaDoor.AM.Sa
end
section
set_option maxRecDepth 1000000
set_option linter.unusedVariables false
set_option linter.unusedSimpArgs false
namespace Go.Proofs.YtbdebcmklaooaaaDoor.AM.Sa
open Go.Proofs
section
variable {b : List UInt8} {tb : Tree} (hb : IsSl byE b (.tr tb)) (hl : b.length ≤ 1000000) {i : Nat} (hi : i < b.length)
include hb hl hi
end
end Go.Proofs.YtbdebcmklaooaaaDoor.AM.Sa
end
section
set_option maxRecDepth 1000000
set_option linter.unusedVariables false
set_option linter.unusedSimpArgs false
namespace Go.Proofs.YtbdebcmklaooaaaDoor.AM.Sa
open Go.Proofs
/-- Where a comment's end begins. -/
def star : List UInt8 → Option Nat
  | [] => none
  | [_] => none
  | a :: b :: t => if a = 42 ∧ b = 47 then some 0 else (star (b :: t)).map (· + 1)
def isNl (c : UInt8) : Bool := c == 10
/-- A comment: its length, and whether it counts as a newline. -/
def commentR (s : List UInt8) : Option (Nat × Bool) :=
  if hd s 1 = 47 then some (nrun (fun c => !isNl c) s, false) else (star (s.drop 2)).map fun k => (k + 4, ((s.drop 2).take k).any isNl)
section
variable {b : List UInt8} {tb : Tree} (hb : IsSl byE b (.tr tb)) (hl : b.length ≤ 1000000) {i : Nat} (hi : i + 1 < b.length)
include hb hl hi
end
end Go.Proofs.YtbdebcmklaooaaaDoor.AM.Sa
end
section
set_option maxRecDepth 1000000
set_option linter.unusedVariables false
set_option linter.unusedSimpArgs false
namespace Go.Proofs.YtbdebcmklaooaaaDoor.AM.Sa
open Go.Proofs
abbrev sv (l : List UInt8) : V := .tr (.sc (.string ⟨⟨l⟩⟩))
theorem by_elems {l : List UInt8} {v : V} (h : IsSl byE l v) (σ : Store) : elems σ 1 v = some ((l.flatMap byE).map .tr, l.length) := by
  rcases h with ⟨rfl, rfl⟩ | ⟨cap, rfl⟩
  · rfl
  · have : (l.flatMap byE).length = l.length * 1 := flat_len byE_len l
    simp only [elems, this, if_true]
theorem by_str {l : List UInt8} {v : V} (h : IsSl byE l v) (σ : Store) : opConv .bytesStr v σ = some (sv l, σ) := by
  have he := by_elems h σ
  rcases h with ⟨rfl, rfl⟩ | ⟨cap, rfl⟩
  · rfl
  · simp only [opConv, he, byE_bytes]
theorem by_cut {l : List UInt8} {tb : Tree} (h : IsSl byE l (.tr tb)) {lo hi : Nat} (h1 : lo ≤ hi) (h2 : hi ≤ l.length) {y z : Int} (hy : y = lo) (hz : z = hi) : ∃ t', (∀ σ, opSlice 1 (.tr tb) (some (iv y)) (some (iv z)) none σ = some (.tr t')) ∧ IsSl byE ((l.take hi).drop lo) (.tr t') := by
  subst hy hz
  obtain ⟨v', h3, h4⟩ := isSl_cut (σ := []) h byE_len (k := .i64) (k' := .i64) h1 h2
  obtain ⟨t', rfl⟩ : ∃ t', v' = .tr t' := by
    rcases h4 with ⟨_, rfl⟩ | ⟨_, rfl⟩
    · exact ⟨_, rfl⟩
    · exact ⟨_, rfl⟩
  refine ⟨t', fun σ => ?_, h4⟩
  rw [← h3]
  rcases h with ⟨rfl, h⟩ | ⟨cap, h⟩
  · cases h; rfl
  · cases h; rfl
theorem by_cut_lo {l : List UInt8} {tb : Tree} (h : IsSl byE l (.tr tb)) {lo : Nat} (h1 : lo ≤ l.length) {y : Int} (hy : y = lo) : ∃ t', (∀ σ, opSlice 1 (.tr tb) (some (iv y)) none none σ = some (.tr t')) ∧ IsSl byE (l.drop lo) (.tr t') := by
  subst hy
  obtain ⟨v', h3, h4⟩ := isSl_cut_lo (σ := []) h byE_len (k := .i64) h1
  obtain ⟨t', rfl⟩ : ∃ t', v' = .tr t' := by
    rcases h4 with ⟨_, rfl⟩ | ⟨_, rfl⟩
    · exact ⟨_, rfl⟩
    · exact ⟨_, rfl⟩
  refine ⟨t', fun σ => ?_, h4⟩
  rw [← h3]
  rcases h with ⟨rfl, h⟩ | ⟨cap, h⟩
  · cases h; rfl
  · cases h; rfl
def strT (l : List UInt8) : Tree := .sc (.string ⟨⟨l⟩⟩)
def opsR : List (List UInt8) := [[38, 94, 61], [38, 94], [38, 38], [38, 61], [43, 61], [45, 61], [42, 61], [47, 61], [37, 61], [124, 61], [94, 61], [124, 124], [61, 61], [33, 61], [60, 61], [62, 61], [58, 61], [43, 43], [45, 45], [43], [45], [42], [47], [37], [38], [124], [94], [60], [62], [33], [40], [41], [91], [93], [123], [125], [44], [46], [61], [126], [58]]
def opFind (ops : List (List UInt8)) (s : List UInt8) : Nat := match ops.find? (fun o => o.isPrefixOf s) with | some o => o.length | none => 0
theorem pre_take {o s : List UInt8} : o.isPrefixOf s = true ↔ o.length ≤ s.length ∧ s.take o.length = o := by
  rw [List.isPrefixOf_iff_prefix]
  constructor
  · rintro ⟨r, rfl⟩
    simp
  · rintro ⟨_, h⟩
    exact ⟨s.drop o.length, by conv => rhs; rw [← List.take_append_drop o.length s, h]⟩
section
variable {b : List UInt8} {tb : Tree} (hb : IsSl byE b (.tr tb)) (hl : b.length ≤ 1000000) {i : Nat} (hi : i < b.length)
include hb hl hi
end
end Go.Proofs.YtbdebcmklaooaaaDoor.AM.Sa
end
section
set_option maxRecDepth 1000000
set_option linter.unusedVariables false
set_option linter.unusedSimpArgs false
namespace Go.Proofs.YtbdebcmklaooaaaDoor.AM.Sa
open Go.Proofs
def wordsR : List (List UInt8) := [[98, 114, 101, 97, 107], [99, 97, 115, 101], [99, 104, 97, 110], [99, 111, 110, 115, 116], [99, 111, 110, 116, 105, 110, 117, 101], [100, 101, 102, 97, 117, 108, 116], [100, 101, 102, 101, 114], [101, 108, 115, 101], [102, 97, 108, 108, 116, 104, 114, 111, 117, 103, 104], [102, 111, 114], [102, 117, 110, 99], [103, 111], [103, 111, 116, 111], [105, 102], [105, 109, 112, 111, 114, 116], [105, 110, 116, 101, 114, 102, 97, 99, 101], [109, 97, 112], [112, 97, 99, 107, 97, 103, 101], [114, 97, 110, 103, 101], [114, 101, 116, 117, 114, 110], [115, 101, 108, 101, 99, 116], [115, 116, 114, 117, 99, 116], [115, 119, 105, 116, 99, 104], [116, 121, 112, 101], [118, 97, 114]]
def isWord (ws : List (List UInt8)) (s : List UInt8) : Bool := ws.any fun w => decide (w = s)
/-- A token. -/
structure Tk where
  kind : Nat
  text : List UInt8
  at_ : Nat
  deriving DecidableEq
def tkE (t : Tk) : List Tree := [.sc (.int .i64 (t.kind : Int)), .sc (.string ⟨⟨t.text⟩⟩), .sc (.int .i64 (t.at_ : Int))]
theorem tkE_len (t : Tk) : (tkE t).length = 3 := rfl
def endW : List (List UInt8) := [[98, 114, 101, 97, 107], [99, 111, 110, 116, 105, 110, 117, 101], [114, 101, 116, 117, 114, 110]]
def endO : List (List UInt8) := [[43, 43], [45, 45], [41], [93], [125]]
/-- May a line end behind a token of that kind and text? -/
def endK (k : Nat) (x : List UInt8) : Bool := decide (k = 1) || decide (k = 2) || decide (k = 3) || decide (k = 4) || (decide (k = 6) && isWord endW x) || (decide (k = 5) && isWord endO x)
def endsR (l : List Tk) : Bool := match l.getLast? with | none => false | some t => endK t.kind t.text
end Go.Proofs.YtbdebcmklaooaaaDoor.AM.Sa
end
section
set_option maxRecDepth 1000000
set_option linter.unusedVariables false
set_option linter.unusedSimpArgs false
namespace Go.Proofs.YtbdebcmklaooaaaDoor.AM.Sa
open Go.Proofs
/-- A rune's form, below 65536. -/
def rune8R (c : Nat) : List UInt8 :=
  if c < 128 then [.ofNat c] else if c < 2048 then [.ofNat (192 + c / 64), .ofNat (128 + c % 64)] else
  [.ofNat (224 + c / 4096), .ofNat (128 + c / 64 % 64), .ofNat (128 + c % 64)]
theorem rune8R_pos (c : Nat) : 0 < (rune8R c).length := by
  unfold rune8R
  split
  · simp
  · split <;> simp
/-- What a fresh slice of bytes is. -/
def byT (l : List UInt8) : Tree := .row (l.flatMap byE) l.length (some l.length)
theorem byT_sl (l : List UInt8) : IsSl byE l (.tr (byT l)) := .inr ⟨_, rfl⟩
theorem bs1 {x : Int} {c : UInt8} (h : x = (c.toNat : Int)) (σ : Store) : opBslice false 1 1 [.sc (.int .u8 0)] [(0, 1, .tr (.sc (.int .u8 x)))] σ = some (.tr (byT [c]), σ) := by subst h; rfl
end Go.Proofs.YtbdebcmklaooaaaDoor.AM.Sa
end
section
set_option maxRecDepth 1000000
set_option linter.unusedVariables false
set_option linter.unusedSimpArgs false
namespace Go.Proofs.YtbdebcmklaooaaaDoor.AM.Sa
open Go.Proofs
def hexN (l : List UInt8) : Nat := l.foldl (fun v c => 16 * v + (dv c).toNat) 0
/-- What stands behind a backslash: its length with it, and what it says. -/
def escR (s : List UInt8) : Option (Nat × List UInt8) :=
  if hd s 1 = 92 ∨ hd s 1 = 34 then some (2, [hd s 1]) else
  if hd s 1 = 110 then some (2, [10]) else
  if hd s 1 = 116 then some (2, [9]) else
  if hd s 1 = 120 then (if nrun (inB 16) (s.drop 2) < 2 then none else some (4, [.ofNat (hexN ((s.drop 2).take 2))])) else
  if hd s 1 = 117 then (if nrun (inB 16) (s.drop 2) < 4 then none else
    if 55296 ≤ hexN ((s.drop 2).take 4) ∧ hexN ((s.drop 2).take 4) < 57344 then none else some (6, rune8R (hexN ((s.drop 2).take 4)))) else none
/-- One step within a text. -/
def stepR (q : UInt8) (s : List UInt8) : Option (Nat × List UInt8) :=
  if q = 34 ∧ hd s 0 = 10 then none else if q = 34 ∧ hd s 0 = 92 then escR s else
  if utfR s = 0 then none else some (utfR s, if q ≠ 96 ∨ hd s 0 ≠ 13 then s.take (utfR s) else [])
def comb (n : Nat) (o : List UInt8) : Option (Nat × List UInt8) → Option (Nat × List UInt8) := Option.map fun r => (n + r.1, o ++ r.2)
def textF (q : UInt8) : Nat → List UInt8 → Option (Nat × List UInt8)
  | 0, _ => none
  | f + 1, s => if s = [] then none else if hd s 0 = q then some (1, []) else
    match stepR q s with | none => none | some (n, o) => comb n o (textF q f (s.drop n))
/-- A text: its length, what it says. -/
def textR (s : List UInt8) : Option (Nat × List UInt8) := comb 1 [] (textF (hd s 0) s.length (s.drop 1))
theorem hd_pos {s : List UInt8} {n : Nat} (h : hd s n ≠ 0) : n < s.length := by
  rcases Nat.lt_or_ge n s.length with h1 | h1
  · exact h1
  · exact absurd (hd_none h1) h
theorem nrun_le' {p : UInt8 → Bool} {s : List UInt8} {i n : Nat} (h : ¬ nrun p (s.drop i) < n) (hn : 0 < n) : i + n ≤ s.length := by
  have := nrun_le (p := p) (s := s.drop i)
  rw [List.length_drop] at this
  omega
theorem utfN_le {s : List UInt8} {n v l : Nat} (hn : 0 < n) : utfN s n v l ≤ s.length ∧ (utfN s n v l = 0 ∨ utfN s n v l = n) := by
  unfold utfN
  split
  · exact ⟨by omega, .inl rfl⟩
  · split
    · exact ⟨by omega, .inl rfl⟩
    · split
      · exact ⟨by omega, .inl rfl⟩
      · exact ⟨by omega, .inr rfl⟩
theorem utfR_le {s : List UInt8} (h : s ≠ []) : utfR s ≤ s.length := by
  have := List.length_pos_iff.2 h
  unfold utfR
  split
  · omega
  · split
    · exact (utfN_le (by omega)).1
    · split
      · exact (utfN_le (by omega)).1
      · split
        · exact (utfN_le (by omega)).1
        · omega
theorem rune8R_le (c : Nat) : (rune8R c).length ≤ 3 := by
  unfold rune8R
  split
  · simp
  · split <;> simp
theorem escR_le {s : List UInt8} {n : Nat} {o : List UInt8} (h : escR s = some (n, o)) : 2 ≤ n ∧ n ≤ s.length ∧ o.length ≤ n ∧ 0 < o.length := by
  unfold escR at h
  split at h
  · rename_i hc
    obtain ⟨rfl, rfl⟩ := Prod.mk.inj (Option.some.inj h)
    have := hd_pos (s := s) (n := 1) (by rcases hc with h | h <;> rw [h] <;> decide)
    refine ⟨by omega, by omega, ?_, ?_⟩ <;> simp
  split at h
  · rename_i hc
    obtain ⟨rfl, rfl⟩ := Prod.mk.inj (Option.some.inj h)
    have := hd_pos (s := s) (n := 1) (by rw [hc]; decide)
    refine ⟨by omega, by omega, ?_, ?_⟩ <;> simp
  split at h
  · rename_i hc
    obtain ⟨rfl, rfl⟩ := Prod.mk.inj (Option.some.inj h)
    have := hd_pos (s := s) (n := 1) (by rw [hc]; decide)
    refine ⟨by omega, by omega, ?_, ?_⟩ <;> simp
  split at h
  · split at h
    · cases h
    · rename_i hn
      obtain ⟨rfl, rfl⟩ := Prod.mk.inj (Option.some.inj h)
      have := nrun_le' hn (by omega)
      refine ⟨by omega, by omega, ?_, ?_⟩ <;> simp
  split at h
  · split at h
    · cases h
    · rename_i hn
      split at h
      · cases h
      · obtain ⟨rfl, rfl⟩ := Prod.mk.inj (Option.some.inj h)
        have := nrun_le' hn (by omega)
        have := rune8R_le (hexN ((s.drop 2).take 4))
        have := rune8R_pos (hexN ((s.drop 2).take 4))
        exact ⟨by omega, by omega, by omega, by omega⟩
  · cases h
theorem stepR_le {q : UInt8} {s : List UInt8} {n : Nat} {o : List UInt8} (hs : s ≠ []) (h : stepR q s = some (n, o)) : 1 ≤ n ∧ n ≤ s.length ∧ o.length ≤ n := by
  unfold stepR at h
  split at h
  · cases h
  split at h
  · have := escR_le h
    exact ⟨by omega, by omega, by omega⟩
  split at h
  · cases h
  · obtain ⟨rfl, rfl⟩ := Prod.mk.inj (Option.some.inj h)
    refine ⟨by omega, utfR_le hs, ?_⟩
    split
    · rw [List.length_take]; omega
    · simp
theorem textF_fuel {q : UInt8} : ∀ (f g : Nat) (s : List UInt8), s.length ≤ f → s.length ≤ g → textF q f s = textF q g s
  | 0, 0, s, _, _ => rfl
  | 0, g + 1, s, h, _ => by
    obtain rfl := List.length_eq_zero_iff.1 (show s.length = 0 by omega)
    simp [textF]
  | f + 1, 0, s, _, h => by
    obtain rfl := List.length_eq_zero_iff.1 (show s.length = 0 by omega)
    simp [textF]
  | f + 1, g + 1, s, h1, h2 => by
    unfold textF
    split
    · rfl
    · rename_i hs
      split
      · rfl
      · split
        · rfl
        · rename_i n o hst
          have := stepR_le hs hst
          rw [textF_fuel f g (s.drop n) (by rw [List.length_drop]; omega) (by rw [List.length_drop]; omega)]
/-- A text's rest. -/
def textG (q : UInt8) (s : List UInt8) : Option (Nat × List UInt8) := textF q s.length s
theorem textG_nil (q : UInt8) : textG q [] = none := rfl
theorem textG_end {q : UInt8} {s : List UInt8} (hs : s ≠ []) (h : hd s 0 = q) : textG q s = some (1, []) := by
  obtain ⟨a, s, rfl⟩ := List.exists_cons_of_ne_nil hs
  show textF q (s.length + 1) _ = _
  unfold textF
  rw [if_neg (by simp), if_pos h]
theorem textG_bad {q : UInt8} {s : List UInt8} (hs : s ≠ []) (h : hd s 0 ≠ q) (hn : stepR q s = none) : textG q s = none := by
  obtain ⟨a, s, rfl⟩ := List.exists_cons_of_ne_nil hs
  show textF q (s.length + 1) _ = _
  unfold textF
  rw [if_neg (by simp), if_neg h, hn]
theorem textG_step {q : UInt8} {s : List UInt8} {n : Nat} {o : List UInt8} (hs : s ≠ []) (h : hd s 0 ≠ q) (hn : stepR q s = some (n, o)) : textG q s = comb n o (textG q (s.drop n)) := by
  have := stepR_le hs hn
  obtain ⟨a, s, rfl⟩ := List.exists_cons_of_ne_nil hs
  show textF q (s.length + 1) _ = _
  unfold textF
  rw [if_neg (by simp), if_neg h, hn]
  simp only
  unfold textG
  congr 1
  refine textF_fuel _ _ _ ?_ (Nat.le_refl _)
  rw [List.length_drop]
  simp at this ⊢
  omega
theorem textR_G {s : List UInt8} (hs : s ≠ []) : textR s = comb 1 [] (textG (hd s 0) (s.drop 1)) := by
  have := List.length_pos_iff.2 hs
  unfold textR textG
  congr 1
  refine textF_fuel _ _ _ ?_ (Nat.le_refl _)
  rw [List.length_drop]
  omega
theorem comb_comb (n m : Nat) (o p : List UInt8) (r : Option (Nat × List UInt8)) : comb n o (comb m p r) = comb (n + m) (o ++ p) r := by
  cases r with
  | none => rfl
  | some r => simp [comb, Nat.add_assoc]
theorem by_nE (l : List UInt8) : (l.map (·.toNat)).flatMap (nE .u8) = l.flatMap byE := by
  rw [List.flatMap_map]; rfl
theorem by_isSl {l : List UInt8} {v : V} (h : IsSl byE l v) : IsSl (nE .u8) (l.map (·.toNat)) v := by
  rcases h with ⟨rfl, rfl⟩ | ⟨cap, rfl⟩
  · exact .inl ⟨rfl, rfl⟩
  · refine .inr ⟨cap, ?_⟩
    rw [by_nE, List.length_map]
end Go.Proofs.YtbdebcmklaooaaaDoor.AM.Sa
end
