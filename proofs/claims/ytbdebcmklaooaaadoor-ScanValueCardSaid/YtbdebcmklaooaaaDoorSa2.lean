/- the scanner: parts 2, 3, 4, 5, 6, 7, 8, 9, 10, 11, 12, 13. -/
import Derived.Test.YtbdebcmklaooaaaDoorSa1
section
set_option maxRecDepth 1000000
set_option linter.unusedVariables false
set_option linter.unusedSimpArgs false
namespace Go.Proofs.YtbdebcmklaooaaaDoor.AM
theorem freezeAll_tr (σ : Store) (ts : List Tree) : freezeAll σ (ts.map .tr) = some σ := by
  unfold freezeAll
  rw [dirs_tr]
  have hn : ∀ (n : Nat) (S : List Nat), reachN σ n [] S = S := by
    intro n S
    cases n <;> simp [reachN]
  simp only [hn]
  rfl
/-- One run of a function that sees trees is so in any store. -/
theorem iso_of_run {T : FTab} {f : FuncId} {fn : HFn} {ts : List Tree} {n : Nat} {v : V} {σ1 : Store} (hf : T f = some fn) (hm : fn.mode = .iso) (h : callA T n f (ts.map .tr) [] = some (v, σ1)) : ∃ t, v = .tr t ∧ ∀ σ, callL T f (ts.map .tr) σ = some (.tr t, σ) := by
  cases n with
  | zero => rw [callA] at h; cases h
  | succ m =>
    rw [callA, hf] at h
    simp only [hm, snapL_tr] at h
    split at h
    · rename_i hl
      split at h
      · cases h
      · rename_i v' s' hr
        split at h
        · cases h
        · rename_i t ht
          have hv : v = .tr t := by
            split at h
            · cases h; rfl
            · rw [freezeAll_tr] at h; cases h; rfl
          refine ⟨t, hv, fun σ => callL_some.2 ⟨m + 1, ?_⟩⟩
          rw [callA, hf]
          simp only [hm, snapL_tr, hl, if_true, hr, ht, freezeAll_tr]
          split <;> rfl
    · cases h
end Go.Proofs.YtbdebcmklaooaaaDoor.AM
namespace Go.Proofs.YtbdebcmklaooaaaDoor.AM.Sa
open Go.Proofs
abbrev u8v (c : UInt8) : V := .tr (.sc (.int .u8 (c.toNat : Int)))
def hd (s : List UInt8) (k : Nat) : UInt8 := s.getD k 0
def isL (c : UInt8) : Bool := (Nat.ble 97 c.toNat && Nat.ble c.toNat 122) || (Nat.ble 65 c.toNat && Nat.ble c.toNat 90) || Nat.beq c.toNat 95
def isD (c : UInt8) : Bool := Nat.ble 48 c.toNat && Nat.ble c.toNat 57
/-- A digit's value. -/
def dv (c : UInt8) : Int := if Nat.ble 48 c.toNat && Nat.ble c.toNat 57 then (c.toNat - 48 : Nat) else if Nat.ble 97 c.toNat && Nat.ble c.toNat 102 then (c.toNat - 87 : Nat) else if Nat.ble 65 c.toNat && Nat.ble c.toNat 70 then (c.toNat - 55 : Nat) else -1
def inB (base : Nat) (c : UInt8) : Bool := decide (0 ≤ dv c) && decide (dv c < base)
def nrun (p : UInt8 → Bool) (s : List UInt8) : Nat := (s.takeWhile p).length
noncomputable def okByte (f : Nat) (g : UInt8 → Bool) (n : Nat) : Bool := match callA T 60 f [.tr (.sc (.int .u8 (n : Int)))] [] with | some (.tr (.sc (.bool b)), _) => b == g (UInt8.ofNat n) | _ => false
theorem byte_of {f : Nat} {fn : HFn} {g : UInt8 → Bool} (hf : T f = some fn) (hm : fn.mode = .iso) (h : (List.range 256).all (okByte f g) = true) (c : UInt8) (σ : Store) : callL T f [u8v c] σ = some (bv (g c), σ) := by
  have h1 := List.all_eq_true.1 h c.toNat (by simpa using c.toNat_lt)
  unfold okByte at h1
  rw [UInt8.ofNat_toNat] at h1
  split at h1
  · rename_i b s e
    obtain ⟨t, ht, hr⟩ := iso_of_run (ts := [.sc (.int .u8 (c.toNat : Int))]) hf hm e
    cases ht
    rw [beq_iff_eq] at h1
    subst h1
    exact hr σ
  · cases h1
theorem run36 : (List.range 256).all (okByte 36 isD) = true := by decide +kernel
theorem run57 : (List.range 256).all (okByte 57 (inB 16)) = true := by decide +kernel
theorem decimal_ok (c : UInt8) (σ : Store) : callL T 36 [u8v c] σ = some (bv (isD c), σ) := byte_of T36 rfl run36 c σ
theorem hex_ok (c : UInt8) (σ : Store) : callL T 57 [u8v c] σ = some (bv (inB 16 c), σ) := byte_of T57 rfl run57 c σ
noncomputable def okDig (n : Nat) : Bool := match callA T 60 42 [.tr (.sc (.int .u8 (n : Int)))] [] with | some (.tr (.sc (.int .i64 z)), _) => z == dv (UInt8.ofNat n) | _ => false
theorem run42 : (List.range 256).all okDig = true := by decide +kernel
theorem digit_ok (c : UInt8) (σ : Store) : callL T 42 [u8v c] σ = some (iv (dv c), σ) := by
  have h1 := List.all_eq_true.1 run42 c.toNat (by simpa using c.toNat_lt)
  unfold okDig at h1
  rw [UInt8.ofNat_toNat] at h1
  split at h1
  · rename_i b s e
    obtain ⟨t, ht, hr⟩ := iso_of_run (ts := [.sc (.int .u8 (c.toNat : Int))]) T42 rfl e
    cases ht
    rw [beq_iff_eq] at h1
    subst h1
    exact hr σ
  · cases h1
end Go.Proofs.YtbdebcmklaooaaaDoor.AM.Sa
end
section
set_option maxRecDepth 1000000
set_option linter.unusedVariables false
set_option linter.unusedSimpArgs false
namespace Go.Proofs.YtbdebcmklaooaaaDoor.AM.Sa
open Go.Proofs
section
variable {l : List UInt8} {i : Nat} {c : UInt8} {σ : Store} {v : V}
theorem by_ia (h : IsSl byE l v) (hi : l[i]? = some c) (k : IntKind) : opIaddr 1 v (.tr (.sc (.int k (i : Int)))) σ = some (.tr (.rptr (l.flatMap byE) i)) := by
  have := isSl_iaddr (σ := σ) h byE_len (by omega) (k := k) hi
  rwa [Nat.mul_one] at this
theorem by_iaZ (h : IsSl byE l v) (hi : l[i]? = some c) {z : Int} (hz : z = i) (k : IntKind) : opIaddr 1 v (.tr (.sc (.int k z))) σ = some (.tr (.rptr (l.flatMap byE) i)) := by
  subst hz
  exact by_ia h hi k
theorem by_ld (hi : l[i]? = some c) : opLoad 1 false (.tr (.rptr (l.flatMap byE) i)) σ = some (u8v c) := by
  have := rptr_load0 (σ := σ) (agg := false) byE_len hi (s := 1) (by omega)
  rw [Nat.mul_one] at this
  rw [this]; rfl
theorem by_ldt (hi : l[i]? = some c) : opLdt 1 false (.tr (.rptr (l.flatMap byE) i)) = some (u8v c) := by_ld (σ := []) hi
theorem by_len (h : IsSl byE l v) : opLen 1 v σ = some (nv .i64 l.length) := isSl_len h
theorem hd_of (hi : l[i]? = some c) : hd l i = c := by simp [hd, List.getD_eq_getElem?_getD, hi]
theorem hd_none (hi : l.length ≤ i) : hd l i = 0 := by simp [hd, List.getD_eq_getElem?_getD, List.getElem?_eq_none hi]
theorem hd_drop (j : Nat) : hd (l.drop i) j = hd l (i + j) := by simp [hd, List.getD_eq_getElem?_getD]
theorem some_of (hi : i < l.length) : ∃ c, l[i]? = some c := ⟨_, List.getElem?_eq_getElem hi⟩
end
section
variable {p : UInt8 → Bool} {s : List UInt8} {n : Nat} {c : UInt8}
theorem nrun_le : nrun p s ≤ s.length := (List.takeWhile_sublist p).length_le
theorem nrun_lt (h : n < nrun p s) : ∃ c, s[n]? = some c ∧ p c = true := by
  induction s generalizing n with
  | nil => simp [nrun] at h
  | cons a s ih =>
    unfold nrun at h
    rw [List.takeWhile_cons] at h
    split at h
    · rename_i ha
      cases n with
      | zero => exact ⟨a, rfl, ha⟩
      | succ n =>
        obtain ⟨c, h1, h2⟩ := ih (n := n) (by unfold nrun; simpa using h)
        exact ⟨c, by simpa using h1, h2⟩
    · simp at h
theorem nrun_at (h : s[nrun p s]? = some c) : p c = false := by
  induction s with
  | nil => simp at h
  | cons a s ih =>
    unfold nrun at h
    rw [List.takeWhile_cons] at h
    split at h
    · exact ih (by unfold nrun; simpa using h)
    · rename_i ha
      simp at h
      subst h
      simpa using ha
end
theorem w64z {z : Int} (h0 : 0 ≤ z) (h : z ≤ 9000000000000000000) : IntKind.i64.wrap z = z := w64 (by omega) (by omega)
theorem at_ok {b : List UInt8} {tb : Tree} (hb : IsSl byE b (.tr tb)) (i : Nat) {z : Int} (hz : z = i) (σ : Store) : callL T 19 [.tr tb, iv z] σ = some (u8v (hd b i), σ) := by
  subst hz
  suffices hh : ∃ t, (∀ σ, callL T 19 ([tb, .sc (.int .i64 (i : Int))].map .tr) σ = some (.tr t, σ)) ∧ t = .sc (.int .u8 ((hd b i).toNat : Int)) by
    obtain ⟨t, h, rfl⟩ := hh
    exact h σ
  refine call_iso T19 rfl rfl ?_
  have hlen : ∀ σ, opLen 1 (.tr tb) σ = some (nv .i64 b.length) := fun σ => by_len hb
  by_cases h : i < b.length
  · obtain ⟨c, hc⟩ := some_of h
    rw [hd_of hc]
    simp [hlen, h, by_ia hb hc, by_ld hc, by_ldt hc]
  · rw [hd_none (by omega)]
    simp [hlen, h, k19_3]
theorem digits_ok {b : List UInt8} {tb : Tree} (hb : IsSl byE b (.tr tb)) (hl : b.length ≤ 1000000) (i base : Nat) (hi : i ≤ 3000000) {z y : Int} (hz : z = i) (hy : y = base) (σ : Store) : callL T 40 [.tr tb, iv z, iv y] σ = some (nv .i64 (nrun (inB base) (b.drop i)), σ) := by
  subst hz hy
  suffices hh : ∃ t, (∀ σ, callL T 40 ([tb, .sc (.int .i64 (i : Int)), .sc (.int .i64 (base : Int))].map .tr) σ = some (.tr t, σ)) ∧ t = .sc (.int .i64 (nrun (inB base) (b.drop i) : Nat)) by
    obtain ⟨t, h, rfl⟩ := hh
    exact h σ
  refine call_iso T40 rfl rfl ?_
  have hlen : ∀ σ, opLen 1 (.tr tb) σ = some (nv .i64 b.length) := fun σ => by_len hb
  obtain ⟨R, hR⟩ : ∃ R, nrun (inB base) (b.drop i) = R := ⟨_, rfl⟩
  have hRl : R ≤ b.length - i := by rw [← hR, ← List.length_drop]; exact nrun_le
  rw [hR]
  obtain ⟨I, hI⟩ : ∃ I : Nat → St → Prop, I = fun n s => n ≤ R ∧ ∃ e L, s = ⟨e, L, []⟩ ∧ look e 0 = some (.tr tb) ∧ look e 1 = some (nv .i64 i) ∧ look e 2 = some (nv .i64 base) ∧ look e 7 = some (nv .i64 n) := ⟨_, rfl⟩
  simp
  refine wpc_up R I (by rw [hI]; exact ⟨Nat.zero_le _, _, _, rfl, by simp, by simp, by simp, by simp⟩) ?_
  intro n s hs
  rw [hI] at hs
  obtain ⟨hn, e, L, rfl, h0, h1, h2, h7⟩ := hs
  have hw : IntKind.i64.wrap ((i : Int) + n) = (i : Int) + n := w64z (by omega) (by omega)
  by_cases hlt : i + n < b.length
  · obtain ⟨c, hc⟩ := some_of hlt
    have hlt' : (i : Int) + n < (b.length : Int) := by omega
    have hc' : (b.drop i)[n]? = some c := by simpa using hc
    have hia := fun σ => by_iaZ (σ := σ) hb hc (z := (i : Int) + n) (by omega) .i64
    by_cases hlast : n < R
    · obtain ⟨c2, h5, h6⟩ := nrun_lt (p := inB base) (s := b.drop i) (n := n) (by omega)
      rw [hc'] at h5
      cases h5
      unfold inB at h6
      simp only [Bool.and_eq_true, decide_eq_true_eq] at h6
      have g1 : ¬ dv c < 0 := by omega
      have g2 : ¬ (base : Int) ≤ dv c := by omega
      have hw2 : IntKind.i64.wrap ((n : Int) + 1) = (n : Int) + 1 := w64z (by omega) (by omega)
      simp [k40_2, k40_4, k40_7, h0, h1, h2, h7, hw, hlen, hlt', hia, by_ld hc, by_ldt hc, digit_ok, g1, g2, hw2]
      refine ⟨hlast, ?_⟩
      rw [hI]
      exact ⟨by omega, _, _, rfl, by simp [h0], by simp [h1], by simp [h2], by simp⟩
    · have hn' : n = R := by omega
      subst hn'
      have h6 := nrun_at (p := inB base) (s := b.drop i) (c := c) (by rw [hR]; exact hc')
      simp only [inB, Bool.and_eq_false_iff, decide_eq_false_iff_not] at h6
      by_cases g1 : dv c < 0
      · simp [k40_2, k40_4, k40_7, k40_8, h0, h1, h2, h7, hw, hlen, hlt', hia, by_ld hc, by_ldt hc, digit_ok, g1]
      · have g2 : (base : Int) ≤ dv c := by omega
        simp [k40_2, k40_4, k40_7, k40_8, h0, h1, h2, h7, hw, hlen, hlt', hia, by_ld hc, by_ldt hc, digit_ok, g1, g2]
  · have hlt' : ¬ (i : Int) + n < (b.length : Int) := by omega
    have hn' : n = R := by
      rcases Nat.lt_or_ge n R with h | h
      · omega
      · omega
    subst hn'
    simp [k40_2, k40_8, h0, h1, h2, h7, hw, hlen, hlt']
end Go.Proofs.YtbdebcmklaooaaaDoor.AM.Sa
end
section
set_option maxRecDepth 1000000
set_option linter.unusedVariables false
set_option linter.unusedSimpArgs false
namespace Go.Proofs.YtbdebcmklaooaaaDoor.AM.Sa
open Go.Proofs
theorem take_snoc {α : Type} {l : List α} {n : Nat} {c : α} (h : l[n]? = some c) : l.take (n + 1) = l.take n ++ [c] := by
  rw [List.take_add_one, h]
  rfl
theorem u8_eq {a c : UInt8} : ((a.toNat : Int) = (c.toNat : Int)) ↔ a = c := by
  rw [← UInt8.toNat_inj]; omega
end Go.Proofs.YtbdebcmklaooaaaDoor.AM.Sa
end
section
set_option maxRecDepth 1000000
set_option linter.unusedVariables false
set_option linter.unusedSimpArgs false
namespace Go.Proofs.YtbdebcmklaooaaaDoor.AM.Sa
open Go.Proofs
@[simp] theorem snap_2 (x y : Value) (σ : Store) : snap σ deepN (mkTup [.tr (.sc x), .tr (.sc y)]) = some (.tup [.sc x, .sc y]) := rfl
section
variable {b : List UInt8} {tb : Tree} (hb : IsSl byE b (.tr tb)) (hl : b.length ≤ 1000000) {i : Nat} (hi : i < b.length)
include hb hl hi
end
end Go.Proofs.YtbdebcmklaooaaaDoor.AM.Sa
end
section
set_option maxRecDepth 1000000
set_option linter.unusedVariables false
set_option linter.unusedSimpArgs false
namespace Go.Proofs.YtbdebcmklaooaaaDoor.AM.Sa
open Go.Proofs
section
variable {b : List UInt8} {tb : Tree} (hb : IsSl byE b (.tr tb)) (hl : b.length ≤ 1000000) {i : Nat} (hi : i < b.length)
include hb hl hi
end
end Go.Proofs.YtbdebcmklaooaaaDoor.AM.Sa
end
section
set_option maxRecDepth 1000000
set_option linter.unusedVariables false
set_option linter.unusedSimpArgs false
namespace Go.Proofs.YtbdebcmklaooaaaDoor.AM.Sa
open Go.Proofs
def utfV (v : Nat) (l : List UInt8) : Nat := l.foldl (fun v c => v * 64 + c.toNat % 64) v
theorem utfV_snoc (v : Nat) (l : List UInt8) (c : UInt8) : utfV v (l ++ [c]) = utfV v l * 64 + c.toNat % 64 := by simp [utfV, List.foldl_append]
def contB (c : UInt8) : Bool := Nat.beq (c.toNat / 64) 2
def utfN (s : List UInt8) (n v least : Nat) : Nat :=
  if s.length < n then 0 else if ((s.drop 1).take (n - 1)).all contB = false then 0 else
  if utfV v ((s.drop 1).take (n - 1)) < least ∨ 1114111 < utfV v ((s.drop 1).take (n - 1)) ∨ (55296 ≤ utfV v ((s.drop 1).take (n - 1)) ∧ utfV v ((s.drop 1).take (n - 1)) < 57344) then 0 else n
/-- The length of a rune's form; 0: none. -/
def utfR (s : List UInt8) : Nat :=
  if (hd s 0).toNat < 128 then 1 else
  if 194 ≤ (hd s 0).toNat ∧ (hd s 0).toNat < 224 then utfN s 2 ((hd s 0).toNat % 32) 128 else
  if 224 ≤ (hd s 0).toNat ∧ (hd s 0).toNat < 240 then utfN s 3 ((hd s 0).toNat % 16) 2048 else
  if 240 ≤ (hd s 0).toNat ∧ (hd s 0).toNat < 245 then utfN s 4 ((hd s 0).toNat % 8) 65536 else 0
theorem utfV_lt (v : Nat) : ∀ (n : Nat) (l : List UInt8), l.length = n → utfV v l < (v + 1) * 64 ^ n
  | 0, l, h => by
    obtain rfl := List.length_eq_zero_iff.1 h
    simp [utfV]
  | n + 1, l, h => by
    have hne : l ≠ [] := by rintro rfl; simp at h
    rw [← List.dropLast_concat_getLast hne, utfV_snoc]
    have := utfV_lt v n l.dropLast (by rw [List.length_dropLast]; omega)
    have := Nat.mod_lt (l.getLast hne).toNat (show 64 > 0 by omega)
    rw [Nat.pow_succ, ← Nat.mul_assoc]
    omega
section
variable {b : List UInt8} {tb : Tree} (hb : IsSl byE b (.tr tb)) (hl : b.length ≤ 1000000) {i : Nat} (hi : i < b.length)
include hb hl hi
theorem utf_tail (n v least : Nat) (hn : n = 2 ∨ n = 3 ∨ n = 4) (hv : v < 32) (hleast : least ≤ 65536) (e L : List (Nat × V)) (h0 : look e 0 = some (.tr tb)) (h1 : look e 1 = some (nv .i64 i)) (h6 : look e 6 = some (nv .i64 n)) (h7 : look e 7 = some (nv .i64 v)) (h8 : look e 8 = some (nv .i64 least)) :
    wpc T k44_12 ⟨e, L, []⟩ (giv [.tmp 4] fun w σ => snap σ deepN w = some (.sc (.int .i64 (utfN (b.drop i) n v least : Nat)))) := by
  have hlen : ∀ σ, opLen 1 (.tr tb) σ = some (nv .i64 b.length) := fun σ => by_len hb
  have w1 : IntKind.i64.wrap ((i : Int) + n) = (i : Int) + n := w64z (by omega) (by omega)
  unfold utfN
  rw [List.length_drop]
  by_cases hshort : (b.length : Int) < (i : Int) + n
  · have : b.length - i < n := by omega
    simp [k44_12, h0, h1, h6, h7, h8, hlen, w1, hshort, this]
  · have hs' : ¬ b.length - i < n := by omega
    rw [if_neg hs']
    simp only [List.drop_drop]
    obtain ⟨RS, hRS⟩ : ∃ RS, (if ((b.drop (i + 1)).take (n - 1)).all contB = false then 0 else
      if utfV v ((b.drop (i + 1)).take (n - 1)) < least ∨ 1114111 < utfV v ((b.drop (i + 1)).take (n - 1)) ∨ (55296 ≤ utfV v ((b.drop (i + 1)).take (n - 1)) ∧ utfV v ((b.drop (i + 1)).take (n - 1)) < 57344) then 0 else n) = RS := ⟨_, rfl⟩
    rw [hRS]
    obtain ⟨I, hI⟩ : ∃ I : Nat → St → Prop, I = fun m s => m ≤ n - 1 ∧ ((b.drop (i + 1)).take m).all contB = true ∧ ∃ e L, s = ⟨e, L, []⟩ ∧ look e 0 = some (.tr tb) ∧ look e 1 = some (nv .i64 i) ∧ look e 6 = some (nv .i64 n) ∧ look e 7 = some (nv .i64 (utfV v ((b.drop (i + 1)).take m))) ∧ look e 8 = some (nv .i64 least) ∧ look e 9 = some (iv (1 + (m : Int))) := ⟨_, rfl⟩
    simp [k44_12, h0, h1, h6, h7, h8, hlen, w1, hshort, k44_15]
    refine wpc_up (n - 1) I (by rw [hI]; exact ⟨Nat.zero_le _, by simp, _, _, rfl, by simp [h0], by simp [h1], by simp [h6], by simp [h7, utfV], by simp [h8], by simp⟩) ?_
    intro m s hs
    rw [hI] at hs
    obtain ⟨hm, hall, e, L, rfl, h0, h1, h6, h7, h8, h9⟩ := hs
    have hvb := utfV_lt v m ((b.drop (i + 1)).take m) (by rw [List.length_take, List.length_drop]; omega)
    have hvb2 : utfV v ((b.drop (i + 1)).take m) < 8388608 := by
      have : 64 ^ m ≤ 64 ^ 3 := Nat.pow_le_pow_right (by omega) (by omega)
      have := Nat.mul_le_mul_left (v + 1) this
      omega
    by_cases hlast : m < n - 1
    · have hlt : (1 : Int) + m < n := by omega
      obtain ⟨c, hc⟩ := some_of (l := b) (i := i + 1 + m) (by omega)
      have hc' : (b.drop (i + 1))[m]? = some c := by simpa using hc
      have wi : IntKind.i64.wrap ((i : Int) + (1 + (m : Int))) = (i : Int) + (1 + (m : Int)) := w64z (by omega) (by omega)
      have hia := fun σ => by_iaZ (σ := σ) hb hc (z := (i : Int) + (1 + (m : Int))) (by omega) .i64
      have cl := c.toNat_lt
      have hq : opBin .other .quo (u8v c) (.tr (.sc (.int .u8 64))) = some (.tr (.sc (.int .u8 ((c.toNat / 64 : Nat) : Int)))) := by
        rw [bin_quo (h := by omega), IntKind.wrap_u8, Int.tdiv_eq_ediv_of_nonneg (by omega)]
        congr 4
        omega
      have hr : opBin .other .rem (u8v c) (.tr (.sc (.int .u8 64))) = some (.tr (.sc (.int .u8 ((c.toNat % 64 : Nat) : Int)))) := by
        rw [bin_rem (h := by omega), Int.tmod_eq_emod_of_nonneg (by omega)]
        congr 4
      simp only [Int.natCast_ediv, Int.natCast_emod, Int.cast_ofNat_Int] at hq hr
      by_cases hcb : (c.toNat : Int) / 64 = 2
      · obtain ⟨V0, hV0⟩ : ∃ V0, utfV v ((b.drop (i + 1)).take m) = V0 := ⟨_, rfl⟩
        rw [hV0] at h7 hvb2
        have hm64 : opBin .other .mul (nv .i64 V0) (iv 64) = some (iv ((V0 : Int) * 64)) := by
          show some (V.tr (.sc (.int .i64 (IntKind.i64.wrap ((V0 : Int) * 64))))) = _
          rw [w64z (by omega) (by omega)]
        have wr : IntKind.i64.wrap ((c.toNat : Int) % 64) = (c.toNat : Int) % 64 := w64z (by omega) (by omega)
        have ws : IntKind.i64.wrap ((V0 : Int) * 64 + (c.toNat : Int) % 64) = (V0 : Int) * 64 + (c.toNat : Int) % 64 := w64z (by omega) (by omega)
        have w9 : IntKind.i64.wrap ((1 : Int) + m + 1) = 1 + m + 1 := w64z (by omega) (by omega)
        simp [k44_17, k44_19, k44_22, k44_23, h0, h1, h6, h7, h8, h9, hlt, wi, hia, by_ld hc, by_ldt hc, hq, hr, hcb, hm64, wr, ws, w9]
        refine ⟨hlast, ?_⟩
        rw [hI]
        refine ⟨by omega, ?_, _, _, rfl, by simp [h0], by simp [h1], by simp [h6], ?_, by simp [h8], by simp; omega⟩
        · rw [take_snoc hc', List.all_append, hall]
          simp [contB]
          omega
        · rw [take_snoc hc', utfV_snoc, hV0]
          simp
      · have hfalse : ((b.drop (i + 1)).take (n - 1)).all contB = false := by
          rw [List.all_eq_false]
          refine ⟨c, List.mem_of_getElem? (i := m) (by rw [List.getElem?_take, if_pos hlast]; exact hc'), ?_⟩
          simp [contB]
          omega
        rw [if_pos hfalse] at hRS
        subst hRS
        simp [k44_17, k44_19, h0, h1, h6, h7, h8, h9, hlt, wi, hia, by_ld hc, by_ldt hc, hq, hcb]
    · have hmn : m = n - 1 := by omega
      subst hmn
      have hlt : ¬ (1 : Int) + ((n - 1 : Nat) : Int) < n := by omega
      rw [if_neg (by rw [hall]; simp)] at hRS
      obtain ⟨V0, hV0⟩ : ∃ V0, utfV v ((b.drop (i + 1)).take (n - 1)) = V0 := ⟨_, rfl⟩
      rw [hV0] at h7 hRS
      subst hRS
      by_cases q1 : V0 < least
      · simp [k44_17, k44_24, h0, h1, h6, h7, h8, h9, hlt, q1]
      · by_cases q2 : 1114111 < V0
        · have q2' : (1114111 : Int) < (V0 : Int) := by omega
          simp [k44_17, k44_24, h0, h1, h6, h7, h8, h9, hlt, q1, q2, q2']
        · have q2' : ¬ (1114111 : Int) < (V0 : Int) := by omega
          by_cases q3 : 55296 ≤ V0
          · have q3' : (55296 : Int) ≤ (V0 : Int) := by omega
            by_cases q4 : V0 < 57344
            · have q4' : (V0 : Int) < 57344 := by omega
              simp [k44_17, k44_24, h0, h1, h6, h7, h8, h9, hlt, q1, q2, q2', q3, q3', q4, q4']
            · have q4' : ¬ (V0 : Int) < 57344 := by omega
              simp [k44_17, k44_24, k44_27, h0, h1, h6, h7, h8, h9, hlt, q1, q2, q2', q3, q3', q4, q4']
          · have q3' : ¬ (55296 : Int) ≤ (V0 : Int) := by omega
            simp [k44_17, k44_24, k44_27, h0, h1, h6, h7, h8, h9, hlt, q1, q2, q2', q3, q3']
end
end Go.Proofs.YtbdebcmklaooaaaDoor.AM.Sa
end
section
set_option maxRecDepth 1000000
set_option linter.unusedVariables false
set_option linter.unusedSimpArgs false
namespace Go.Proofs.YtbdebcmklaooaaaDoor.AM.Sa
open Go.Proofs
section
variable {b : List UInt8} {tb : Tree} (hb : IsSl byE b (.tr tb)) (hl : b.length ≤ 1000000) {i : Nat} (hi : i < b.length)
include hb hl hi
theorem utf_ok {z : Int} (hz : z = i) (σ : Store) : callL T 44 [.tr tb, iv z] σ = some (nv .i64 (utfR (b.drop i)), σ) := by
  subst hz
  suffices hh : ∃ t, (∀ σ, callL T 44 ([tb, .sc (.int .i64 (i : Int))].map .tr) σ = some (.tr t, σ)) ∧ t = .sc (.int .i64 (utfR (b.drop i) : Nat)) by
    obtain ⟨t, h, rfl⟩ := hh
    exact h σ
  refine call_iso T44 rfl rfl ?_
  obtain ⟨c, hc⟩ := some_of hi
  have ec : hd (b.drop i) 0 = c := by rw [hd_drop]; exact hd_of hc
  have hia := fun σ => by_ia (σ := σ) hb hc .i64
  have cl := c.toNat_lt
  have hr : ∀ m : Nat, 0 < m → m < 256 → opBin .other .rem (u8v c) (.tr (.sc (.int .u8 (m : Int)))) = some (.tr (.sc (.int .u8 ((c.toNat : Int) % (m : Int))))) := by
    intro m hm hm2
    rw [bin_rem (h := by omega), Int.tmod_eq_emod_of_nonneg (by omega)]
  have hr32 := hr 32 (by omega) (by omega)
  have hr16 := hr 16 (by omega) (by omega)
  have hr8 := hr 8 (by omega) (by omega)
  simp only [Int.cast_ofNat_Int] at hr32 hr16 hr8
  have m32 : IntKind.i64.wrap ((c.toNat : Int) % 32) = ((c.toNat % 32 : Nat) : Int) := by rw [w64z (by omega) (by omega)]; simp
  have m16 : IntKind.i64.wrap ((c.toNat : Int) % 16) = ((c.toNat % 16 : Nat) : Int) := by rw [w64z (by omega) (by omega)]; simp
  have m8 : IntKind.i64.wrap ((c.toNat : Int) % 8) = ((c.toNat % 8 : Nat) : Int) := by rw [w64z (by omega) (by omega)]; simp
  unfold utfR
  rw [ec]
  generalize hcn : c.toNat = x at *
  have done : ∀ n v least, (n = 2 ∨ n = 3 ∨ n = 4) → v < 32 → least ≤ 65536 → ∀ e L, look e 0 = some (.tr tb) → look e 1 = some (nv .i64 i) → look e 6 = some (nv .i64 n) → look e 7 = some (nv .i64 v) → look e 8 = some (nv .i64 least) → wpc T k44_12 ⟨e, L, []⟩ (giv [.tmp 4] fun w σ => snap σ deepN w = some (.sc (.int .i64 (utfN (b.drop i) n v least : Nat)))) := fun n v least h1 h2 h3 => utf_tail hb hl hi n v least h1 h2 h3
  by_cases g1 : x < 128
  · have g1' : (x : Int) < 128 := by omega
    simp [hia, by_ld hc, by_ldt hc, hcn, g1, g1']
  · have g1' : ¬ (x : Int) < 128 := by omega
    by_cases g2 : 194 ≤ x
    · have g2' : (194 : Int) ≤ x := by omega
      by_cases g3 : x < 224
      · have g3' : (x : Int) < 224 := by omega
        simp [hia, by_ld hc, by_ldt hc, hcn, g1, g1', g2, g2', g3, g3', hr32, m32]
        refine done 2 (x % 32) 128 (by omega) (by omega) (by omega) _ _ ?_ ?_ ?_ ?_ ?_ <;> simp
      · have g3' : ¬ (x : Int) < 224 := by omega
        have g4 : 224 ≤ x := by omega
        have g4' : (224 : Int) ≤ x := by omega
        by_cases g5 : x < 240
        · have g5' : (x : Int) < 240 := by omega
          simp [hia, by_ld hc, by_ldt hc, hcn, g1, g1', g2, g2', g3, g3', g4, g4', g5, g5', hr16, m16]
          refine done 3 (x % 16) 2048 (by omega) (by omega) (by omega) _ _ ?_ ?_ ?_ ?_ ?_ <;> simp
        · have g5' : ¬ (x : Int) < 240 := by omega
          have g6 : 240 ≤ x := by omega
          have g6' : (240 : Int) ≤ x := by omega
          by_cases g7 : x < 245
          · have g7' : (x : Int) < 245 := by omega
            simp [hia, by_ld hc, by_ldt hc, hcn, g1, g1', g2, g2', g3, g3', g4, g4', g5, g5', g6, g6', g7, g7', hr8, m8]
            refine done 4 (x % 8) 65536 (by omega) (by omega) (by omega) _ _ ?_ ?_ ?_ ?_ ?_ <;> simp
          · have g7' : ¬ (x : Int) < 245 := by omega
            simp [hia, by_ld hc, by_ldt hc, hcn, g1, g1', g2, g2', g3, g3', g4, g4', g5, g5', g6, g6', g7, g7']
    · have g2' : ¬ (194 : Int) ≤ x := by omega
      have g4 : ¬ 224 ≤ x := by omega
      have g4' : ¬ (224 : Int) ≤ x := by omega
      have g6 : ¬ 240 ≤ x := by omega
      have g6' : ¬ (240 : Int) ≤ x := by omega
      simp [hia, by_ld hc, by_ldt hc, hcn, g1, g1', g2, g2', g4, g4', g6, g6']
end
end Go.Proofs.YtbdebcmklaooaaaDoor.AM.Sa
end
section
set_option maxRecDepth 1000000
set_option linter.unusedVariables false
set_option linter.unusedSimpArgs false
namespace Go.Proofs.YtbdebcmklaooaaaDoor.AM.Sa
open Go.Proofs
section
variable {b : List UInt8} {tb : Tree} (hb : IsSl byE b (.tr tb)) (hl : b.length ≤ 1000000) {i : Nat} (hi : i + 1 < b.length)
include hb hl hi
end
end Go.Proofs.YtbdebcmklaooaaaDoor.AM.Sa
end
section
set_option maxRecDepth 1000000
set_option linter.unusedVariables false
set_option linter.unusedSimpArgs false
namespace Go.Proofs.YtbdebcmklaooaaaDoor.AM.Sa
open Go.Proofs
abbrev sv (l : List UInt8) : V := .tr (.sc (.string ⟨⟨l⟩⟩))
theorem by_elems {l : List UInt8} {v : V} (h : IsSl byE l v) (σ : Store) : elems σ 1 v = some ((l.flatMap byE).map .tr, l.length) := by
  rcases h with ⟨rfl, rfl⟩ | ⟨cap, rfl⟩
  · rfl
  · have : (l.flatMap byE).length = l.length * 1 := flat_len byE_len l
    simp only [elems, this, if_true]
theorem by_str {l : List UInt8} {v : V} (h : IsSl byE l v) (σ : Store) : opConv .bytesStr v σ = some (sv l, σ) := by
  have he := by_elems h σ
  rcases h with ⟨rfl, rfl⟩ | ⟨cap, rfl⟩
  · rfl
  · simp only [opConv, he, byE_bytes]
theorem by_cut {l : List UInt8} {tb : Tree} (h : IsSl byE l (.tr tb)) {lo hi : Nat} (h1 : lo ≤ hi) (h2 : hi ≤ l.length) {y z : Int} (hy : y = lo) (hz : z = hi) : ∃ t', (∀ σ, opSlice 1 (.tr tb) (some (iv y)) (some (iv z)) none σ = some (.tr t')) ∧ IsSl byE ((l.take hi).drop lo) (.tr t') := by
  subst hy hz
  obtain ⟨v', h3, h4⟩ := isSl_cut (σ := []) h byE_len (k := .i64) (k' := .i64) h1 h2
  obtain ⟨t', rfl⟩ : ∃ t', v' = .tr t' := by
    rcases h4 with ⟨_, rfl⟩ | ⟨_, rfl⟩
    · exact ⟨_, rfl⟩
    · exact ⟨_, rfl⟩
  refine ⟨t', fun σ => ?_, h4⟩
  rw [← h3]
  rcases h with ⟨rfl, h⟩ | ⟨cap, h⟩
  · cases h; rfl
  · cases h; rfl
theorem by_cut_lo {l : List UInt8} {tb : Tree} (h : IsSl byE l (.tr tb)) {lo : Nat} (h1 : lo ≤ l.length) {y : Int} (hy : y = lo) : ∃ t', (∀ σ, opSlice 1 (.tr tb) (some (iv y)) none none σ = some (.tr t')) ∧ IsSl byE (l.drop lo) (.tr t') := by
  subst hy
  obtain ⟨v', h3, h4⟩ := isSl_cut_lo (σ := []) h byE_len (k := .i64) h1
  obtain ⟨t', rfl⟩ : ∃ t', v' = .tr t' := by
    rcases h4 with ⟨_, rfl⟩ | ⟨_, rfl⟩
    · exact ⟨_, rfl⟩
    · exact ⟨_, rfl⟩
  refine ⟨t', fun σ => ?_, h4⟩
  rw [← h3]
  rcases h with ⟨rfl, h⟩ | ⟨cap, h⟩
  · cases h; rfl
  · cases h; rfl
def strT (l : List UInt8) : Tree := .sc (.string ⟨⟨l⟩⟩)
section
variable {b : List UInt8} {tb : Tree} (hb : IsSl byE b (.tr tb)) (hl : b.length ≤ 1000000) {i : Nat} (hi : i < b.length)
include hb hl hi
end
end Go.Proofs.YtbdebcmklaooaaaDoor.AM.Sa
end
section
set_option maxRecDepth 1000000
set_option linter.unusedVariables false
set_option linter.unusedSimpArgs false
namespace Go.Proofs.YtbdebcmklaooaaaDoor.AM.Sa
open Go.Proofs
def wordsR : List (List UInt8) := [[98, 114, 101, 97, 107], [99, 97, 115, 101], [99, 104, 97, 110], [99, 111, 110, 115, 116], [99, 111, 110, 116, 105, 110, 117, 101], [100, 101, 102, 97, 117, 108, 116], [100, 101, 102, 101, 114], [101, 108, 115, 101], [102, 97, 108, 108, 116, 104, 114, 111, 117, 103, 104], [102, 111, 114], [102, 117, 110, 99], [103, 111], [103, 111, 116, 111], [105, 102], [105, 109, 112, 111, 114, 116], [105, 110, 116, 101, 114, 102, 97, 99, 101], [109, 97, 112], [112, 97, 99, 107, 97, 103, 101], [114, 97, 110, 103, 101], [114, 101, 116, 117, 114, 110], [115, 101, 108, 101, 99, 116], [115, 116, 114, 117, 99, 116], [115, 119, 105, 116, 99, 104], [116, 121, 112, 101], [118, 97, 114]]
def isWord (ws : List (List UInt8)) (s : List UInt8) : Bool := ws.any fun w => decide (w = s)
theorem rword_ok (s : List UInt8) (σ : Store) : callL T 15 [sv s] σ = some (bv (isWord wordsR s), σ) := by
  suffices hh : ∃ t, (∀ σ, callL T 15 ([Tree.sc (.string ⟨⟨s⟩⟩)].map .tr) σ = some (.tr t, σ)) ∧ t = .sc (.bool (isWord wordsR s)) by
    obtain ⟨t, h, rfl⟩ := hh
    exact h σ
  refine call_iso T15 rfl rfl ?_
  obtain ⟨W, hW⟩ : ∃ W : V, W = .tr (.row (wordsR.map strT) 25 (some 25)) := ⟨_, rfl⟩
  have hbs : ∀ σ, opBslice false 25 1 [(.sc (.string ⟨⟨[]⟩⟩))] [(0, 1, (sv [98, 114, 101, 97, 107])), (1, 1, (sv [99, 97, 115, 101])), (2, 1, (sv [99, 104, 97, 110])), (3, 1, (sv [99, 111, 110, 115, 116])), (4, 1, (sv [99, 111, 110, 116, 105, 110, 117, 101])), (5, 1, (sv [100, 101, 102, 97, 117, 108, 116])), (6, 1, (sv [100, 101, 102, 101, 114])), (7, 1, (sv [101, 108, 115, 101])), (8, 1, (sv [102, 97, 108, 108, 116, 104, 114, 111, 117, 103, 104])), (9, 1, (sv [102, 111, 114])), (10, 1, (sv [102, 117, 110, 99])), (11, 1, (sv [103, 111])), (12, 1, (sv [103, 111, 116, 111])), (13, 1, (sv [105, 102])), (14, 1, (sv [105, 109, 112, 111, 114, 116])), (15, 1, (sv [105, 110, 116, 101, 114, 102, 97, 99, 101])), (16, 1, (sv [109, 97, 112])), (17, 1, (sv [112, 97, 99, 107, 97, 103, 101])), (18, 1, (sv [114, 97, 110, 103, 101])), (19, 1, (sv [114, 101, 116, 117, 114, 110])), (20, 1, (sv [115, 101, 108, 101, 99, 116])), (21, 1, (sv [115, 116, 114, 117, 99, 116])), (22, 1, (sv [115, 119, 105, 116, 99, 104])), (23, 1, (sv [116, 121, 112, 101])), (24, 1, (sv [118, 97, 114]))] σ = some (W, σ) := by
    intro σ
    rw [hW]
    rfl
  have hrw : Rw (wordsR.map strT) W := by rw [hW]; exact .inr ⟨some 25, rfl⟩
  have hWl : ∀ σ, opLen 1 W σ = some (nv .i64 25) := fun σ => rw_len hrw
  obtain ⟨RS, hRS⟩ : ∃ RS : Bool, isWord wordsR s = RS := ⟨_, rfl⟩
  rw [hRS]
  obtain ⟨I, hI⟩ : ∃ I : Nat → St → Prop, I = fun m st => m ≤ 25 ∧ isWord wordsR s = isWord (wordsR.drop m) s ∧ ∃ e L, st = ⟨e, L, []⟩ ∧ look e 0 = some (sv s) ∧ look e 3 = some W ∧ look e 4 = some (nv .i64 m) := ⟨_, rfl⟩
  simp [hbs]
  refine wpc_up 25 I (by rw [hI]; exact ⟨by omega, rfl, _, _, rfl, by simp, by simp, by simp⟩) ?_
  intro m st hst
  rw [hI] at hst
  obtain ⟨hm, hf, e, L, rfl, h0, h3, h4⟩ := hst
  by_cases hlt : m < 25
  · have hlt' : (m : Int) < 25 := by omega
    obtain ⟨o, ho⟩ : ∃ o, wordsR[m]? = some o := ⟨_, List.getElem?_eq_getElem (show m < wordsR.length from hlt)⟩
    have hto : (wordsR.map strT)[m]? = some (strT o) := by rw [List.getElem?_map, ho]; rfl
    have hdrop : wordsR.drop m = o :: wordsR.drop (m + 1) := by
      obtain ⟨h, rfl⟩ := List.getElem?_eq_some_iff.1 ho
      exact List.drop_eq_getElem_cons h
    have ia := fun σ => rw_iaddr (σ := σ) hrw hto .i64
    have ld : ∀ σ, opLoad 1 false (.tr (.rptr (wordsR.map strT) m)) σ = some (sv o) := fun σ => rw_load (σ := σ) hto
    have ldt : opLdt 1 false (.tr (.rptr (wordsR.map strT) m)) = some (sv o) := rw_ldt hto
    have w6 : IntKind.i64.wrap ((m : Int) + 1) = (m : Int) + 1 := w64z (by omega) (by omega)
    by_cases heq : o = s
    · have hres : RS = true := by rw [← hRS, hf, hdrop]; simp [isWord, heq]
      subst hres
      simp [k15_3, k15_5, h0, h3, h4, hWl, hlt', ia, ld, ldt, bytesEq_iff', heq]
    · have hres : isWord wordsR s = isWord (wordsR.drop (m + 1)) s := by rw [hf, hdrop]; simp [isWord, heq]
      simp [k15_3, k15_5, k15_8, h0, h3, h4, hWl, hlt', ia, ld, ldt, bytesEq_iff', heq, w6]
      refine ⟨hlt, ?_⟩
      rw [hI]
      refine ⟨by omega, hres, _, _, rfl, ?_, ?_, ?_⟩ <;> simp [h0, h3]
  · have hlt' : ¬ (m : Int) < 25 := by omega
    have hd0 : wordsR.drop m = [] := List.drop_eq_nil_of_le (by show 25 ≤ m; omega)
    have hres : RS = false := by rw [← hRS, hf, hd0]; rfl
    subst hres
    simp [k15_3, k15_9, h0, h3, h4, hWl, hlt']
/-- A token. -/
structure Tk where
  kind : Nat
  text : List UInt8
  at_ : Nat
  deriving DecidableEq
def tkE (t : Tk) : List Tree := [.sc (.int .i64 (t.kind : Int)), .sc (.string ⟨⟨t.text⟩⟩), .sc (.int .i64 (t.at_ : Int))]
end Go.Proofs.YtbdebcmklaooaaaDoor.AM.Sa
end
section
set_option maxRecDepth 1000000
set_option linter.unusedVariables false
set_option linter.unusedSimpArgs false
namespace Go.Proofs.YtbdebcmklaooaaaDoor.AM.Sa
open Go.Proofs
/-- A rune's form, below 65536. -/
def rune8R (c : Nat) : List UInt8 :=
  if c < 128 then [.ofNat c] else if c < 2048 then [.ofNat (192 + c / 64), .ofNat (128 + c % 64)] else
  [.ofNat (224 + c / 4096), .ofNat (128 + c / 64 % 64), .ofNat (128 + c % 64)]
theorem rune8R_pos (c : Nat) : 0 < (rune8R c).length := by
  unfold rune8R
  split
  · simp
  · split <;> simp
/-- What a fresh slice of bytes is. -/
def byT (l : List UInt8) : Tree := .row (l.flatMap byE) l.length (some l.length)
theorem byT_sl (l : List UInt8) : IsSl byE l (.tr (byT l)) := .inr ⟨_, rfl⟩
theorem bs1 {x : Int} {c : UInt8} (h : x = (c.toNat : Int)) (σ : Store) : opBslice false 1 1 [.sc (.int .u8 0)] [(0, 1, .tr (.sc (.int .u8 x)))] σ = some (.tr (byT [c]), σ) := by subst h; rfl
theorem bs2 {x y : Int} {c d : UInt8} (h : x = (c.toNat : Int)) (h' : y = (d.toNat : Int)) (σ : Store) : opBslice false 2 1 [.sc (.int .u8 0)] [(0, 1, .tr (.sc (.int .u8 x))), (1, 1, .tr (.sc (.int .u8 y)))] σ = some (.tr (byT [c, d]), σ) := by subst h; subst h'; rfl
theorem bs3 {x y z : Int} {c d e : UInt8} (h : x = (c.toNat : Int)) (h' : y = (d.toNat : Int)) (h'' : z = (e.toNat : Int)) (σ : Store) : opBslice false 3 1 [.sc (.int .u8 0)] [(0, 1, .tr (.sc (.int .u8 x))), (1, 1, .tr (.sc (.int .u8 y))), (2, 1, .tr (.sc (.int .u8 z)))] σ = some (.tr (byT [c, d, e]), σ) := by subst h; subst h'; subst h''; rfl
theorem of8 (x : Nat) : ((UInt8.ofNat x).toNat : Int) = (x : Int) % 256 := by rw [UInt8.toNat_ofNat']; simp
theorem rune8_ok (c : Nat) (hc : c < 65536) (σ : Store) : callL T 43 [nv .i64 c] σ = some (.tr (byT (rune8R c)), σ) := by
  suffices hh : ∃ t, (∀ σ, callL T 43 ([.sc (.int .i64 (c : Int))].map .tr) σ = some (.tr t, σ)) ∧ t = byT (rune8R c) by
    obtain ⟨t, h, rfl⟩ := hh
    exact h σ
  refine call_iso T43 rfl rfl ?_
  have q1 : opBin .other .quo (nv .i64 c) (iv 64) = some (iv ((c : Int) / 64)) := by
    rw [bin_quo (h := by omega), Int.tdiv_eq_ediv_of_nonneg (by omega), w64z (by omega) (by omega)]
  have q2 : opBin .other .quo (nv .i64 c) (iv 4096) = some (iv ((c : Int) / 4096)) := by
    rw [bin_quo (h := by omega), Int.tdiv_eq_ediv_of_nonneg (by omega), w64z (by omega) (by omega)]
  have m1 : opBin .other .rem (nv .i64 c) (iv 64) = some (iv ((c : Int) % 64)) := by
    rw [bin_rem (h := by omega), Int.tmod_eq_emod_of_nonneg (by omega)]
  have m2 : opBin .other .rem (iv ((c : Int) / 64)) (iv 64) = some (iv ((c : Int) / 64 % 64)) := by
    rw [bin_rem (h := by omega), Int.tmod_eq_emod_of_nonneg (by omega)]
  have a1 : IntKind.i64.wrap (192 + (c : Int) / 64) = 192 + (c : Int) / 64 := w64z (by omega) (by omega)
  have a2 : IntKind.i64.wrap (128 + (c : Int) % 64) = 128 + (c : Int) % 64 := w64z (by omega) (by omega)
  have a3 : IntKind.i64.wrap (224 + (c : Int) / 4096) = 224 + (c : Int) / 4096 := w64z (by omega) (by omega)
  have a4 : IntKind.i64.wrap (128 + (c : Int) / 64 % 64) = 128 + (c : Int) / 64 % 64 := w64z (by omega) (by omega)
  have t1 : (((192 + c / 64 : Nat) : Int)) = 192 + (c : Int) / 64 := by simp
  have t2 : (((128 + c % 64 : Nat) : Int)) = 128 + (c : Int) % 64 := by simp
  have t3 : (((224 + c / 4096 : Nat) : Int)) = 224 + (c : Int) / 4096 := by simp
  have t4 : (((128 + c / 64 % 64 : Nat) : Int)) = 128 + (c : Int) / 64 % 64 := by simp
  unfold rune8R
  by_cases h1 : c < 128
  · have h1' : (c : Int) < 128 := by omega
    have b := bs1 (x := IntKind.u8.wrap (c : Int)) (c := .ofNat c) (by rw [of8, IntKind.wrap_u8])
    simp [h1, h1', b]
  · have h1' : ¬ (c : Int) < 128 := by omega
    by_cases h2 : c < 2048
    · have h2' : (c : Int) < 2048 := by omega
      have b := bs2 (x := IntKind.u8.wrap (192 + (c : Int) / 64)) (y := IntKind.u8.wrap (128 + (c : Int) % 64)) (c := .ofNat (192 + c / 64)) (d := .ofNat (128 + c % 64)) (by rw [of8, t1, IntKind.wrap_u8]) (by rw [of8, t2, IntKind.wrap_u8])
      simp [h1, h1', h2, h2', b, q1, m1, a1, a2]
    · have h2' : ¬ (c : Int) < 2048 := by omega
      have b := bs3 (x := IntKind.u8.wrap (224 + (c : Int) / 4096)) (y := IntKind.u8.wrap (128 + (c : Int) / 64 % 64)) (z := IntKind.u8.wrap (128 + (c : Int) % 64)) (c := .ofNat (224 + c / 4096)) (d := .ofNat (128 + c / 64 % 64)) (e := .ofNat (128 + c % 64)) (by rw [of8, t3, IntKind.wrap_u8]) (by rw [of8, t4, IntKind.wrap_u8]) (by rw [of8, t2, IntKind.wrap_u8])
      simp [h1, h1', h2, h2', b, q1, q2, m1, m2, a1, a2, a3, a4, k43_6]
end Go.Proofs.YtbdebcmklaooaaaDoor.AM.Sa
end
section
set_option maxRecDepth 1000000
set_option linter.unusedVariables false
set_option linter.unusedSimpArgs false
namespace Go.Proofs.YtbdebcmklaooaaaDoor.AM.Sa
open Go.Proofs
def hexN (l : List UInt8) : Nat := l.foldl (fun v c => 16 * v + (dv c).toNat) 0
theorem hexN_snoc (l : List UInt8) (c : UInt8) : hexN (l ++ [c]) = 16 * hexN l + (dv c).toNat := by simp [hexN, List.foldl_append]
/-- What stands behind a backslash: its length with it, and what it says. -/
def escR (s : List UInt8) : Option (Nat × List UInt8) :=
  if hd s 1 = 92 ∨ hd s 1 = 34 then some (2, [hd s 1]) else
  if hd s 1 = 110 then some (2, [10]) else
  if hd s 1 = 116 then some (2, [9]) else
  if hd s 1 = 120 then (if nrun (inB 16) (s.drop 2) < 2 then none else some (4, [.ofNat (hexN ((s.drop 2).take 2))])) else
  if hd s 1 = 117 then (if nrun (inB 16) (s.drop 2) < 4 then none else
    if 55296 ≤ hexN ((s.drop 2).take 4) ∧ hexN ((s.drop 2).take 4) < 57344 then none else some (6, rune8R (hexN ((s.drop 2).take 4)))) else none
/-- One step within a text. -/
def stepR (q : UInt8) (s : List UInt8) : Option (Nat × List UInt8) :=
  if q = 34 ∧ hd s 0 = 10 then none else if q = 34 ∧ hd s 0 = 92 then escR s else
  if utfR s = 0 then none else some (utfR s, if q ≠ 96 ∨ hd s 0 ≠ 13 then s.take (utfR s) else [])
def comb (n : Nat) (o : List UInt8) : Option (Nat × List UInt8) → Option (Nat × List UInt8) := Option.map fun r => (n + r.1, o ++ r.2)
def textF (q : UInt8) : Nat → List UInt8 → Option (Nat × List UInt8)
  | 0, _ => none
  | f + 1, s => if s = [] then none else if hd s 0 = q then some (1, []) else
    match stepR q s with | none => none | some (n, o) => comb n o (textF q f (s.drop n))
/-- A text: its length, what it says. -/
def textR (s : List UInt8) : Option (Nat × List UInt8) := comb 1 [] (textF (hd s 0) s.length (s.drop 1))
theorem hd_pos {s : List UInt8} {n : Nat} (h : hd s n ≠ 0) : n < s.length := by
  rcases Nat.lt_or_ge n s.length with h1 | h1
  · exact h1
  · exact absurd (hd_none h1) h
theorem nrun_le' {p : UInt8 → Bool} {s : List UInt8} {i n : Nat} (h : ¬ nrun p (s.drop i) < n) (hn : 0 < n) : i + n ≤ s.length := by
  have := nrun_le (p := p) (s := s.drop i)
  rw [List.length_drop] at this
  omega
theorem utfN_le {s : List UInt8} {n v l : Nat} (hn : 0 < n) : utfN s n v l ≤ s.length ∧ (utfN s n v l = 0 ∨ utfN s n v l = n) := by
  unfold utfN
  split
  · exact ⟨by omega, .inl rfl⟩
  · split
    · exact ⟨by omega, .inl rfl⟩
    · split
      · exact ⟨by omega, .inl rfl⟩
      · exact ⟨by omega, .inr rfl⟩
theorem utfR_le {s : List UInt8} (h : s ≠ []) : utfR s ≤ s.length := by
  have := List.length_pos_iff.2 h
  unfold utfR
  split
  · omega
  · split
    · exact (utfN_le (by omega)).1
    · split
      · exact (utfN_le (by omega)).1
      · split
        · exact (utfN_le (by omega)).1
        · omega
theorem rune8R_le (c : Nat) : (rune8R c).length ≤ 3 := by
  unfold rune8R
  split
  · simp
  · split <;> simp
theorem escR_le {s : List UInt8} {n : Nat} {o : List UInt8} (h : escR s = some (n, o)) : 2 ≤ n ∧ n ≤ s.length ∧ o.length ≤ n ∧ 0 < o.length := by
  unfold escR at h
  split at h
  · rename_i hc
    obtain ⟨rfl, rfl⟩ := Prod.mk.inj (Option.some.inj h)
    have := hd_pos (s := s) (n := 1) (by rcases hc with h | h <;> rw [h] <;> decide)
    refine ⟨by omega, by omega, ?_, ?_⟩ <;> simp
  split at h
  · rename_i hc
    obtain ⟨rfl, rfl⟩ := Prod.mk.inj (Option.some.inj h)
    have := hd_pos (s := s) (n := 1) (by rw [hc]; decide)
    refine ⟨by omega, by omega, ?_, ?_⟩ <;> simp
  split at h
  · rename_i hc
    obtain ⟨rfl, rfl⟩ := Prod.mk.inj (Option.some.inj h)
    have := hd_pos (s := s) (n := 1) (by rw [hc]; decide)
    refine ⟨by omega, by omega, ?_, ?_⟩ <;> simp
  split at h
  · split at h
    · cases h
    · rename_i hn
      obtain ⟨rfl, rfl⟩ := Prod.mk.inj (Option.some.inj h)
      have := nrun_le' hn (by omega)
      refine ⟨by omega, by omega, ?_, ?_⟩ <;> simp
  split at h
  · split at h
    · cases h
    · rename_i hn
      split at h
      · cases h
      · obtain ⟨rfl, rfl⟩ := Prod.mk.inj (Option.some.inj h)
        have := nrun_le' hn (by omega)
        have := rune8R_le (hexN ((s.drop 2).take 4))
        have := rune8R_pos (hexN ((s.drop 2).take 4))
        exact ⟨by omega, by omega, by omega, by omega⟩
  · cases h
theorem stepR_le {q : UInt8} {s : List UInt8} {n : Nat} {o : List UInt8} (hs : s ≠ []) (h : stepR q s = some (n, o)) : 1 ≤ n ∧ n ≤ s.length ∧ o.length ≤ n := by
  unfold stepR at h
  split at h
  · cases h
  split at h
  · have := escR_le h
    exact ⟨by omega, by omega, by omega⟩
  split at h
  · cases h
  · obtain ⟨rfl, rfl⟩ := Prod.mk.inj (Option.some.inj h)
    refine ⟨by omega, utfR_le hs, ?_⟩
    split
    · rw [List.length_take]; omega
    · simp
theorem textF_fuel {q : UInt8} : ∀ (f g : Nat) (s : List UInt8), s.length ≤ f → s.length ≤ g → textF q f s = textF q g s
  | 0, 0, s, _, _ => rfl
  | 0, g + 1, s, h, _ => by
    obtain rfl := List.length_eq_zero_iff.1 (show s.length = 0 by omega)
    simp [textF]
  | f + 1, 0, s, _, h => by
    obtain rfl := List.length_eq_zero_iff.1 (show s.length = 0 by omega)
    simp [textF]
  | f + 1, g + 1, s, h1, h2 => by
    unfold textF
    split
    · rfl
    · rename_i hs
      split
      · rfl
      · split
        · rfl
        · rename_i n o hst
          have := stepR_le hs hst
          rw [textF_fuel f g (s.drop n) (by rw [List.length_drop]; omega) (by rw [List.length_drop]; omega)]
/-- A text's rest. -/
def textG (q : UInt8) (s : List UInt8) : Option (Nat × List UInt8) := textF q s.length s
theorem textG_nil (q : UInt8) : textG q [] = none := rfl
theorem textG_end {q : UInt8} {s : List UInt8} (hs : s ≠ []) (h : hd s 0 = q) : textG q s = some (1, []) := by
  obtain ⟨a, s, rfl⟩ := List.exists_cons_of_ne_nil hs
  show textF q (s.length + 1) _ = _
  unfold textF
  rw [if_neg (by simp), if_pos h]
theorem textG_bad {q : UInt8} {s : List UInt8} (hs : s ≠ []) (h : hd s 0 ≠ q) (hn : stepR q s = none) : textG q s = none := by
  obtain ⟨a, s, rfl⟩ := List.exists_cons_of_ne_nil hs
  show textF q (s.length + 1) _ = _
  unfold textF
  rw [if_neg (by simp), if_neg h, hn]
theorem textG_step {q : UInt8} {s : List UInt8} {n : Nat} {o : List UInt8} (hs : s ≠ []) (h : hd s 0 ≠ q) (hn : stepR q s = some (n, o)) : textG q s = comb n o (textG q (s.drop n)) := by
  have := stepR_le hs hn
  obtain ⟨a, s, rfl⟩ := List.exists_cons_of_ne_nil hs
  show textF q (s.length + 1) _ = _
  unfold textF
  rw [if_neg (by simp), if_neg h, hn]
  simp only
  unfold textG
  congr 1
  refine textF_fuel _ _ _ ?_ (Nat.le_refl _)
  rw [List.length_drop]
  simp at this ⊢
  omega
theorem textR_G {s : List UInt8} (hs : s ≠ []) : textR s = comb 1 [] (textG (hd s 0) (s.drop 1)) := by
  have := List.length_pos_iff.2 hs
  unfold textR textG
  congr 1
  refine textF_fuel _ _ _ ?_ (Nat.le_refl _)
  rw [List.length_drop]
  omega
theorem comb_comb (n m : Nat) (o p : List UInt8) (r : Option (Nat × List UInt8)) : comb n o (comb m p r) = comb (n + m) (o ++ p) r := by
  cases r with
  | none => rfl
  | some r => simp [comb, Nat.add_assoc]
/-- What has been gathered. -/
def OutP (o : List UInt8) (v : V) (σ : Store) : Prop := (o = [] ∧ v = nilSl ∧ σ = []) ∨ (0 < o.length ∧ ∃ g, v = .own 0 g 0 o.length 1 none ∧ σ = [.row (cK .u8 (o.map (·.toNat))) g])
def outT (o : List UInt8) : Tree := if o = [] then .sc (.slice none 0 0) else .row (o.flatMap byE) o.length none
theorem by_nE (l : List UInt8) : (l.map (·.toNat)).flatMap (nE .u8) = l.flatMap byE := by
  rw [List.flatMap_map]; rfl
theorem by_isSl {l : List UInt8} {v : V} (h : IsSl byE l v) : IsSl (nE .u8) (l.map (·.toNat)) v := by
  rcases h with ⟨rfl, rfl⟩ | ⟨cap, rfl⟩
  · exact .inl ⟨rfl, rfl⟩
  · refine .inr ⟨cap, ?_⟩
    rw [by_nE, List.length_map]
theorem out_app {o m : List UInt8} {v x : V} {σ : Store} (h : OutP o v σ) (hx : IsSl byE m x) (hm : 0 < m.length) (hl : o.length ≤ 1000000) (hl2 : m.length ≤ 1000000) : ∃ v' σ', opAppend 1 1 v x σ = some (v', σ') ∧ OutP (o ++ m) v' σ' := by
  have hx' := by_isSl hx
  have hml : (m.map (·.toNat)).length = m.length := List.length_map ..
  rcases h with ⟨rfl, rfl, rfl⟩ | ⟨h0, g, rfl, rfl⟩
  · have := app_nil (σ := []) (b := 1) hx' (by rw [hml]; exact hm) (room_ok (by omega) (by omega))
    refine ⟨_, _, this, .inr ⟨by simpa using hm, 0, ?_, ?_⟩⟩
    · simp
    · simp
  · have := app_own (σ := [.row (cK .u8 (o.map (·.toNat))) g]) (id := 0) (n := o.length) (b := 1) (l := o.map (·.toNat)) rfl (by simp) hx' (by rw [hml]; exact hm) (room_ok (by omega) (by omega)) (room_ok (by simpa using hl) (by omega))
    refine ⟨_, _, this, .inr ⟨by rw [List.length_append]; omega, g + 1, ?_, ?_⟩⟩
    · simp
    · simp
theorem out_snap {o : List UInt8} {v : V} {σ : Store} {d : Nat} (h : OutP o v σ) : snap σ (d + 1) v = some (outT o) := by
  rcases h with ⟨rfl, rfl, rfl⟩ | ⟨h0, g, rfl, rfl⟩
  · rfl
  · have := snap_own (σ := [.row (cK .u8 (o.map (·.toNat))) g]) (id := 0) (g := g) (d := d) (n := o.length) (cap := none) (l := o.map (·.toNat)) rfl (by simp)
    rw [this, by_nE, List.length_map]
    unfold outT
    rw [if_neg (by rintro rfl; simp at h0)]
theorem out_sl (o : List UInt8) : IsSl byE o (.tr (outT o)) := by
  unfold outT
  split
  · rename_i h; exact .inl ⟨h, rfl⟩
  · exact .inr ⟨_, rfl⟩
end Go.Proofs.YtbdebcmklaooaaaDoor.AM.Sa
end
