/- the reader: parts 2, 3, 4, 5, 6, 7, 8, 9, 10, 11, 12, 13. -/
import Derived.Test.YtolhjhjlfgfifaaGreatDoorRd1
set_option linter.unusedSectionVars false
section
set_option maxRecDepth 1000000
set_option linter.unusedVariables false
set_option linter.unusedSimpArgs false
namespace Go.Proofs.YtolhjhjlfgfifaaGreatDoor.AM
theorem freezeAll_tr (σ : Store) (ts : List Tree) : freezeAll σ (ts.map .tr) = some σ := by
  unfold freezeAll
  rw [dirs_tr]
  have hn : ∀ (n : Nat) (S : List Nat), reachN σ n [] S = S := by
    intro n S
    cases n <;> simp [reachN]
  simp only [hn]
  rfl
theorem iso_of_run {T : FTab} {f : FuncId} {fn : HFn} {ts : List Tree} {n : Nat} {v : V} {σ1 : Store} (hf : T f = some fn) (hm : fn.mode = .iso) (h : callA T n f (ts.map .tr) [] = some (v, σ1)) : ∃ t, v = .tr t ∧ ∀ σ, callL T f (ts.map .tr) σ = some (.tr t, σ) := by
  cases n with
  | zero => rw [callA] at h; cases h
  | succ m =>
    rw [callA, hf] at h
    simp only [hm, snapL_tr] at h
    split at h
    · rename_i hl
      split at h
      · cases h
      · rename_i v' s' hr
        split at h
        · cases h
        · rename_i t ht
          have hv : v = .tr t := by
            split at h
            · cases h; rfl
            · rw [freezeAll_tr] at h; cases h; rfl
          refine ⟨t, hv, fun σ => callL_some.2 ⟨m + 1, ?_⟩⟩
          rw [callA, hf]
          simp only [hm, snapL_tr, hl, if_true, hr, ht, freezeAll_tr]
          split <;> rfl
    · cases h
end Go.Proofs.YtolhjhjlfgfifaaGreatDoor.AM
namespace Go.Proofs.YtolhjhjlfgfifaaGreatDoor.AM.Rd
open Go.Proofs
abbrev u8v (c : UInt8) : V := .tr (.sc (.int .u8 (c.toNat : Int)))
def hd (s : List UInt8) (k : Nat) : UInt8 := s.getD k 0
def isL (c : UInt8) : Bool := (Nat.ble 97 c.toNat && Nat.ble c.toNat 122) || (Nat.ble 65 c.toNat && Nat.ble c.toNat 90) || Nat.beq c.toNat 95
def isD (c : UInt8) : Bool := Nat.ble 48 c.toNat && Nat.ble c.toNat 57
def dv (c : UInt8) : Int := if Nat.ble 48 c.toNat && Nat.ble c.toNat 57 then (c.toNat - 48 : Nat) else if Nat.ble 97 c.toNat && Nat.ble c.toNat 102 then (c.toNat - 87 : Nat) else if Nat.ble 65 c.toNat && Nat.ble c.toNat 70 then (c.toNat - 55 : Nat) else -1
def inB (base : Nat) (c : UInt8) : Bool := decide (0 ≤ dv c) && decide (dv c < base)
def nrun (p : UInt8 → Bool) (s : List UInt8) : Nat := (s.takeWhile p).length
noncomputable def okByte (f : Nat) (g : UInt8 → Bool) (n : Nat) : Bool := match callA T 60 f [.tr (.sc (.int .u8 (n : Int)))] [] with | some (.tr (.sc (.bool b)), _) => b == g (UInt8.ofNat n) | _ => false
theorem byte_of {f : Nat} {fn : HFn} {g : UInt8 → Bool} (hf : T f = some fn) (hm : fn.mode = .iso) (h : (List.range 256).all (okByte f g) = true) (c : UInt8) (σ : Store) : callL T f [u8v c] σ = some (bv (g c), σ) := by
  have h1 := List.all_eq_true.1 h c.toNat (by simpa using c.toNat_lt)
  unfold okByte at h1
  rw [UInt8.ofNat_toNat] at h1
  split at h1
  · rename_i b s e
    obtain ⟨t, ht, hr⟩ := iso_of_run (ts := [.sc (.int .u8 (c.toNat : Int))]) hf hm e
    cases ht
    rw [beq_iff_eq] at h1
    subst h1
    exact hr σ
  · cases h1
theorem run69 : (List.range 256).all (okByte 69 isL) = true := by decide +kernel
theorem run71 : (List.range 256).all (okByte 71 isD) = true := by decide +kernel
theorem run139 : (List.range 256).all (okByte 139 (inB 16)) = true := by decide +kernel
theorem run137 : (List.range 256).all (okByte 137 (inB 8)) = true := by decide +kernel
theorem run138 : (List.range 256).all (okByte 138 (inB 2)) = true := by decide +kernel
theorem run45 : (List.range 256).all (okByte 45 isL) = true := by decide +kernel
theorem run46 : (List.range 256).all (okByte 46 isD) = true := by decide +kernel
theorem letter_ok (c : UInt8) (σ : Store) : callL T 69 [u8v c] σ = some (bv (isL c), σ) := byte_of T69 rfl run69 c σ
theorem decimal_ok (c : UInt8) (σ : Store) : callL T 71 [u8v c] σ = some (bv (isD c), σ) := byte_of T71 rfl run71 c σ
theorem hex_ok (c : UInt8) (σ : Store) : callL T 139 [u8v c] σ = some (bv (inB 16 c), σ) := byte_of T139 rfl run139 c σ
theorem octal_ok (c : UInt8) (σ : Store) : callL T 137 [u8v c] σ = some (bv (inB 8 c), σ) := byte_of T137 rfl run137 c σ
theorem binary_ok (c : UInt8) (σ : Store) : callL T 138 [u8v c] σ = some (bv (inB 2 c), σ) := byte_of T138 rfl run138 c σ
theorem rletter_ok (c : UInt8) (σ : Store) : callL T 45 [u8v c] σ = some (bv (isL c), σ) := byte_of T45 rfl run45 c σ
theorem rdigit_ok (c : UInt8) (σ : Store) : callL T 46 [u8v c] σ = some (bv (isD c), σ) := byte_of T46 rfl run46 c σ
noncomputable def okDig (n : Nat) : Bool := match callA T 60 78 [.tr (.sc (.int .u8 (n : Int)))] [] with | some (.tr (.sc (.int .i64 z)), _) => z == dv (UInt8.ofNat n) | _ => false
theorem run78 : (List.range 256).all okDig = true := by decide +kernel
theorem digit_ok (c : UInt8) (σ : Store) : callL T 78 [u8v c] σ = some (iv (dv c), σ) := by
  have h1 := List.all_eq_true.1 run78 c.toNat (by simpa using c.toNat_lt)
  unfold okDig at h1
  rw [UInt8.ofNat_toNat] at h1
  split at h1
  · rename_i b s e
    obtain ⟨t, ht, hr⟩ := iso_of_run (ts := [.sc (.int .u8 (c.toNat : Int))]) T78 rfl e
    cases ht
    rw [beq_iff_eq] at h1
    subst h1
    exact hr σ
  · cases h1
theorem isD_inB (c : UInt8) : isD c = inB 10 c := by
  have : ∀ n, n < 256 → isD (UInt8.ofNat n) = inB 10 (UInt8.ofNat n) := by decide +kernel
  have h := this c.toNat c.toNat_lt
  rwa [UInt8.ofNat_toNat] at h
theorem name1_ok (c : UInt8) (σ : Store) : ∃ σ', callL T 108 [u8v c] σ = some (bv (isL c || isD c), σ') ∧ σ' = σ := by
  suffices hh : ∃ v σ', callL T 108 [u8v c] σ = some (v, σ') ∧ (v = bv (isL c || isD c) ∧ σ' = σ) by
    obtain ⟨v, σ', h, rfl, rfl⟩ := hh
    exact ⟨_, h, rfl⟩
  refine call_shared T108 rfl rfl ?_
  have h1 := letter_ok c
  have h2 := decimal_ok c
  cases e1 : isL c <;> rw [e1] at h1 <;> simp [h1, h2]
end Go.Proofs.YtolhjhjlfgfifaaGreatDoor.AM.Rd
end
section
set_option maxRecDepth 1000000
set_option linter.unusedVariables false
set_option linter.unusedSimpArgs false
namespace Go.Proofs.YtolhjhjlfgfifaaGreatDoor.AM.Rd
open Go.Proofs
section
variable {l : List UInt8} {i : Nat} {c : UInt8} {σ : Store} {v : V}
theorem by_ia (h : IsSl byE l v) (hi : l[i]? = some c) (k : IntKind) : opIaddr 1 v (.tr (.sc (.int k (i : Int)))) σ = some (.tr (.rptr (l.flatMap byE) i)) := by
  have := isSl_iaddr (σ := σ) h byE_len (by omega) (k := k) hi
  rwa [Nat.mul_one] at this
theorem by_iaZ (h : IsSl byE l v) (hi : l[i]? = some c) {z : Int} (hz : z = i) (k : IntKind) : opIaddr 1 v (.tr (.sc (.int k z))) σ = some (.tr (.rptr (l.flatMap byE) i)) := by
  subst hz
  exact by_ia h hi k
theorem by_ld (hi : l[i]? = some c) : opLoad 1 false (.tr (.rptr (l.flatMap byE) i)) σ = some (u8v c) := by
  have := rptr_load0 (σ := σ) (agg := false) byE_len hi (s := 1) (by omega)
  rw [Nat.mul_one] at this
  rw [this]; rfl
theorem by_ldt (hi : l[i]? = some c) : opLdt 1 false (.tr (.rptr (l.flatMap byE) i)) = some (u8v c) := by_ld (σ := []) hi
theorem by_len (h : IsSl byE l v) : opLen 1 v σ = some (nv .i64 l.length) := isSl_len h
theorem hd_of (hi : l[i]? = some c) : hd l i = c := by simp [hd, List.getD_eq_getElem?_getD, hi]
theorem hd_none (hi : l.length ≤ i) : hd l i = 0 := by simp [hd, List.getD_eq_getElem?_getD, List.getElem?_eq_none hi]
theorem hd_drop (j : Nat) : hd (l.drop i) j = hd l (i + j) := by simp [hd, List.getD_eq_getElem?_getD]
theorem some_of (hi : i < l.length) : ∃ c, l[i]? = some c := ⟨_, List.getElem?_eq_getElem hi⟩
end
section
variable {p : UInt8 → Bool} {s : List UInt8} {n : Nat} {c : UInt8}
theorem nrun_le : nrun p s ≤ s.length := (List.takeWhile_sublist p).length_le
theorem nrun_lt (h : n < nrun p s) : ∃ c, s[n]? = some c ∧ p c = true := by
  induction s generalizing n with
  | nil => simp [nrun] at h
  | cons a s ih =>
    unfold nrun at h
    rw [List.takeWhile_cons] at h
    split at h
    · rename_i ha
      cases n with
      | zero => exact ⟨a, rfl, ha⟩
      | succ n =>
        obtain ⟨c, h1, h2⟩ := ih (n := n) (by unfold nrun; simpa using h)
        exact ⟨c, by simpa using h1, h2⟩
    · simp at h
theorem nrun_at (h : s[nrun p s]? = some c) : p c = false := by
  induction s with
  | nil => simp at h
  | cons a s ih =>
    unfold nrun at h
    rw [List.takeWhile_cons] at h
    split at h
    · exact ih (by unfold nrun; simpa using h)
    · rename_i ha
      simp at h
      subst h
      simpa using ha
end
theorem w64z {z : Int} (h0 : 0 ≤ z) (h : z ≤ 9000000000000000000) : IntKind.i64.wrap z = z := w64 (by omega) (by omega)
theorem at_ok {b : List UInt8} {tb : Tree} (hb : IsSl byE b (.tr tb)) (i : Nat) {z : Int} (hz : z = i) (σ : Store) : callL T 43 [.tr tb, iv z] σ = some (u8v (hd b i), σ) := by
  subst hz
  suffices hh : ∃ t, (∀ σ, callL T 43 ([tb, .sc (.int .i64 (i : Int))].map .tr) σ = some (.tr t, σ)) ∧ t = .sc (.int .u8 ((hd b i).toNat : Int)) by
    obtain ⟨t, h, rfl⟩ := hh
    exact h σ
  refine call_iso T43 rfl rfl ?_
  have hlen : ∀ σ, opLen 1 (.tr tb) σ = some (nv .i64 b.length) := fun σ => by_len hb
  by_cases h : i < b.length
  · obtain ⟨c, hc⟩ := some_of h
    rw [hd_of hc]
    simp [hlen, h, by_ia hb hc, by_ld hc]
  · rw [hd_none (by omega)]
    simp [hlen, h, k43_3]
theorem digits_ok {b : List UInt8} {tb : Tree} (hb : IsSl byE b (.tr tb)) (hl : b.length ≤ 1000000) (i base : Nat) (hi : i ≤ 3000000) {z y : Int} (hz : z = i) (hy : y = base) (σ : Store) : callL T 76 [.tr tb, iv z, iv y] σ = some (nv .i64 (nrun (inB base) (b.drop i)), σ) := by
  subst hz hy
  suffices hh : ∃ t, (∀ σ, callL T 76 ([tb, .sc (.int .i64 (i : Int)), .sc (.int .i64 (base : Int))].map .tr) σ = some (.tr t, σ)) ∧ t = .sc (.int .i64 (nrun (inB base) (b.drop i) : Nat)) by
    obtain ⟨t, h, rfl⟩ := hh
    exact h σ
  refine call_iso T76 rfl rfl ?_
  have hlen : ∀ σ, opLen 1 (.tr tb) σ = some (nv .i64 b.length) := fun σ => by_len hb
  obtain ⟨R, hR⟩ : ∃ R, nrun (inB base) (b.drop i) = R := ⟨_, rfl⟩
  have hRl : R ≤ b.length - i := by rw [← hR, ← List.length_drop]; exact nrun_le
  rw [hR]
  obtain ⟨I, hI⟩ : ∃ I : Nat → St → Prop, I = fun n s => n ≤ R ∧ ∃ e L, s = ⟨e, L, []⟩ ∧ look e 0 = some (.tr tb) ∧ look e 1 = some (nv .i64 i) ∧ look e 2 = some (nv .i64 base) ∧ look e 7 = some (nv .i64 n) := ⟨_, rfl⟩
  simp
  refine wpc_up R I (by rw [hI]; exact ⟨Nat.zero_le _, _, _, rfl, by simp, by simp, by simp, by simp⟩) ?_
  intro n s hs
  rw [hI] at hs
  obtain ⟨hn, e, L, rfl, h0, h1, h2, h7⟩ := hs
  have hw : IntKind.i64.wrap ((i : Int) + n) = (i : Int) + n := w64z (by omega) (by omega)
  by_cases hlt : i + n < b.length
  · obtain ⟨c, hc⟩ := some_of hlt
    have hlt' : (i : Int) + n < (b.length : Int) := by omega
    have hc' : (b.drop i)[n]? = some c := by simpa using hc
    have hia := fun σ => by_iaZ (σ := σ) hb hc (z := (i : Int) + n) (by omega) .i64
    by_cases hlast : n < R
    · obtain ⟨c2, h5, h6⟩ := nrun_lt (p := inB base) (s := b.drop i) (n := n) (by omega)
      rw [hc'] at h5
      cases h5
      unfold inB at h6
      simp only [Bool.and_eq_true, decide_eq_true_eq] at h6
      have g1 : ¬ dv c < 0 := by omega
      have g2 : ¬ (base : Int) ≤ dv c := by omega
      have hw2 : IntKind.i64.wrap ((n : Int) + 1) = (n : Int) + 1 := w64z (by omega) (by omega)
      simp [k76_2, k76_4, k76_7, h0, h1, h2, h7, hw, hlen, hlt', hia, by_ld hc, digit_ok, g1, g2, hw2]
      refine ⟨hlast, ?_⟩
      rw [hI]
      exact ⟨by omega, _, _, rfl, by simp [h0], by simp [h1], by simp [h2], by simp⟩
    · have hn' : n = R := by omega
      subst hn'
      have h6 := nrun_at (p := inB base) (s := b.drop i) (c := c) (by rw [hR]; exact hc')
      simp only [inB, Bool.and_eq_false_iff, decide_eq_false_iff_not] at h6
      by_cases g1 : dv c < 0
      · simp [k76_2, k76_4, k76_7, k76_8, h0, h1, h7, hw, hlen, hlt', hia, by_ld hc, digit_ok, g1]
      · have g2 : (base : Int) ≤ dv c := by omega
        simp [k76_2, k76_4, k76_7, k76_8, h0, h1, h2, h7, hw, hlen, hlt', hia, by_ld hc, digit_ok, g1, g2]
  · have hlt' : ¬ (i : Int) + n < (b.length : Int) := by omega
    have hn' : n = R := by
      rcases Nat.lt_or_ge n R with h | h
      · omega
      · omega
    subst hn'
    simp [k76_2, k76_8, h0, h1, h7, hw, hlen, hlt']
end Go.Proofs.YtolhjhjlfgfifaaGreatDoor.AM.Rd
end
section
set_option maxRecDepth 1000000
set_option linter.unusedVariables false
set_option linter.unusedSimpArgs false
namespace Go.Proofs.YtolhjhjlfgfifaaGreatDoor.AM.Rd
open Go.Proofs
def decV (l : List UInt8) : Int := l.foldl (fun v c => 10 * v + dv c) 0
theorem decV_snoc (l : List UInt8) (c : UInt8) : decV (l ++ [c]) = 10 * decV l + dv c := by simp [decV, List.foldl_append]
theorem decV_nn : ∀ (n : Nat) (l : List UInt8), (∀ c ∈ l, 0 ≤ dv c) → l.length = n → 0 ≤ decV l
  | 0, l, h, e => by
    obtain rfl := List.length_eq_zero_iff.1 e
    simp [decV]
  | n + 1, l, h, e => by
    have hne : l ≠ [] := by rintro rfl; simp at e
    rw [← List.dropLast_concat_getLast hne, decV_snoc]
    have := decV_nn n l.dropLast (fun c hc => h c (List.dropLast_subset l hc)) (by rw [List.length_dropLast]; omega)
    have := h _ (List.getLast_mem hne)
    omega
theorem take_snoc {α : Type} {l : List α} {n : Nat} {c : α} (h : l[n]? = some c) : l.take (n + 1) = l.take n ++ [c] := by
  rw [List.take_add_one, h]
  rfl
theorem mem_take_le {α : Type} {l : List α} {m n : Nat} {c : α} (hmn : m ≤ n) (h : c ∈ l.take m) : c ∈ l.take n := by
  have : l.take m = (l.take n).take m := by rw [List.take_take, Nat.min_eq_left hmn]
  rw [this] at h
  exact List.mem_of_mem_take h
theorem decV_mono {l : List UInt8} (h : ∀ c ∈ l, 0 ≤ dv c) : ∀ (m k : Nat), m + k ≤ l.length → decV (l.take m) ≤ decV (l.take (m + k))
  | m, 0, _ => by simp
  | m, k + 1, hk => by
    have ih := decV_mono h m k (by omega)
    obtain ⟨c, hc⟩ := some_of (l := l) (i := m + k) (by omega)
    rw [show m + (k + 1) = m + k + 1 by omega, take_snoc hc, decV_snoc]
    have h1 := decV_nn _ (l.take (m + k)) (fun c hc => h c (List.mem_of_mem_take hc)) rfl
    have h2 := h c (List.mem_of_getElem? hc)
    omega
def expoR (s : List UInt8) (a g : UInt8) : Int :=
  if hd s 0 ≠ a ∧ hd s 0 ≠ g then 0 else
  let k := if hd s 1 = 43 ∨ hd s 1 = 45 then 2 else 1
  let n := nrun (inB 10) (s.drop k)
  if n = 0 then -1 else if 999 < decV ((s.drop k).take n) then -1 else ((k + n : Nat) : Int)
theorem dig10 {c : UInt8} (h : inB 10 c = true) : dv c = (c.toNat : Int) - 48 ∧ 48 ≤ c.toNat ∧ c.toNat ≤ 57 := by
  rw [← isD_inB] at h
  simp only [isD, Bool.and_eq_true, Nat.ble_eq] at h
  refine ⟨?_, h.1, h.2⟩
  have : (Nat.ble 48 c.toNat && Nat.ble c.toNat 57) = true := by simp [Nat.ble_eq, h.1, h.2]
  unfold dv
  rw [if_pos this]
  omega
theorem u8_eq {a c : UInt8} : ((a.toNat : Int) = (c.toNat : Int)) ↔ a = c := by
  rw [← UInt8.toNat_inj]; omega
theorem exponent_ok {b : List UInt8} {tb : Tree} (hb : IsSl byE b (.tr tb)) (hl : b.length ≤ 1000000) (i : Nat) (hi : i ≤ 2000000) (a g : UInt8) {z : Int} (hz : z = i) (σ : Store) : callL T 77 [.tr tb, iv z, u8v a, u8v g] σ = some (iv (expoR (b.drop i) a g), σ) := by
  subst hz
  suffices hh : ∃ t, (∀ σ, callL T 77 ([tb, .sc (.int .i64 (i : Int)), .sc (.int .u8 (a.toNat : Int)), .sc (.int .u8 (g.toNat : Int))].map .tr) σ = some (.tr t, σ)) ∧ t = .sc (.int .i64 (expoR (b.drop i) a g)) by
    obtain ⟨t, h, rfl⟩ := hh
    exact h σ
  refine call_iso T77 rfl rfl ?_
  have a0 := fun σ => at_ok hb i (z := (i : Int)) rfl σ
  have a1 := fun σ => at_ok hb (i + 1) (z := (i : Int) + 1) (by omega) σ
  have w1 : IntKind.i64.wrap ((i : Int) + 1) = (i : Int) + 1 := w64z (by omega) (by omega)
  have w2 : IntKind.i64.wrap ((i : Int) + 1 + 1) = (i : Int) + 1 + 1 := w64z (by omega) (by omega)
  have tail : ∀ (K : Nat), (K = 1 ∨ K = 2) → (if hd (b.drop i) 1 = 43 ∨ hd (b.drop i) 1 = 45 then 2 else 1) = K → ¬ (hd (b.drop i) 0 ≠ a ∧ hd (b.drop i) 0 ≠ g) → ∀ e L, look e 0 = some (.tr tb) → look e 1 = some (nv .i64 i) → look e 9 = some (iv ((i : Int) + K)) →
      wpc T k77_6 ⟨e, L, []⟩ (giv [.tmp 8] fun v σ => snap σ deepN v = some (.sc (.int .i64 (expoR (b.drop i) a g)))) := by
    intro K hK hKe hne e L h0 h1 h9
    have d := fun σ => digits_ok hb hl (i + K) 10 (by omega) (z := (i : Int) + K) (y := 10) (by omega) rfl σ
    have hdd : (b.drop i).drop K = b.drop (i + K) := by rw [List.drop_drop]
    obtain ⟨N, hN⟩ : ∃ N, nrun (inB 10) (b.drop (i + K)) = N := ⟨_, rfl⟩
    have hNl : N ≤ b.length - (i + K) := by rw [← hN, ← List.length_drop]; exact nrun_le
    have hspec : expoR (b.drop i) a g = if N = 0 then -1 else if 999 < decV ((b.drop (i + K)).take N) then -1 else ((K + N : Nat) : Int) := by
      unfold expoR
      rw [if_neg hne]
      simp only [hKe, hdd, hN]
    rw [hspec]
    rw [hN] at d
    by_cases hN0 : N = 0
    · subst hN0
      simp [k77_6, h0, h9, d]
    · have wN : IntKind.i64.wrap ((i : Int) + K + N) = (i : Int) + K + N := w64z (by omega) (by omega)
      have hdg : ∀ (m : Nat) c, m < N → (b.drop (i + K))[m]? = some c → inB 10 c = true := by
        intro m c hm hc
        obtain ⟨c2, h5, h6⟩ := nrun_lt (p := inB 10) (s := b.drop (i + K)) (n := m) (by omega)
        rw [hc] at h5
        cases h5
        exact h6
      have hall : ∀ c ∈ (b.drop (i + K)).take N, 0 ≤ dv c := by
        intro c hc
        obtain ⟨m, hm⟩ := List.mem_iff_getElem?.1 hc
        rw [List.getElem?_take] at hm
        split at hm
        · rename_i hmN
          have := dig10 (hdg m c hmN hm)
          omega
        · cases hm
      have hm10 : ∀ x : Int, opBin .other .mul (iv 10) (iv x) = some (iv (IntKind.i64.wrap (10 * x))) := fun x => rfl
      obtain ⟨I, hI⟩ : ∃ I : Nat → St → Prop, I = fun m s => m ≤ N ∧ decV ((b.drop (i + K)).take m) ≤ 999 ∧ ∃ e L, s = ⟨e, L, []⟩ ∧ look e 0 = some (.tr tb) ∧ look e 1 = some (nv .i64 i) ∧ look e 9 = some (iv ((i : Int) + K)) ∧ look e 10 = some (nv .i64 N) ∧ look e 11 = some (iv (decV ((b.drop (i + K)).take m))) ∧ look e 12 = some (iv ((i : Int) + K + m)) := ⟨_, rfl⟩
      simp [k77_6, h0, h9, d, hN0, k77_10]
      refine wpc_up N I (by rw [hI]; exact ⟨Nat.zero_le _, by simp [decV], _, _, rfl, by simp [h0], by simp [h1], by simp [h9], by simp, by simp [decV], by simp⟩) ?_
      intro m s hs
      rw [hI] at hs
      obtain ⟨hm, h999, e, L, rfl, h0, h1, h9, h10, h11, h12⟩ := hs
      by_cases hlast : m < N
      · obtain ⟨c, hc⟩ := some_of (l := b) (i := i + K + m) (by omega)
        have hc' : (b.drop (i + K))[m]? = some c := by simpa using hc
        have hia := fun σ => by_iaZ (σ := σ) hb hc (z := (i : Int) + K + m) (by omega) .i64
        have hcd := dig10 (hdg m c hlast hc')
        have hv0 := decV_nn _ ((b.drop (i + K)).take m) (fun c hc => hall c (mem_take_le (by omega) hc)) rfl
        have hsn : decV ((b.drop (i + K)).take (m + 1)) = 10 * decV ((b.drop (i + K)).take m) + dv c := by rw [take_snoc hc', decV_snoc]
        have hmono := decV_mono (l := (b.drop (i + K)).take N) hall (m + 1) (N - (m + 1)) (by rw [List.length_take, List.length_drop]; omega)
        rw [List.take_take, List.take_take, Nat.min_eq_left (by omega), Nat.min_eq_left (by omega), show m + 1 + (N - (m + 1)) = N by omega] at hmono
        obtain ⟨V0, hV0⟩ : ∃ V0, decV ((b.drop (i + K)).take m) = V0 := ⟨_, rfl⟩
        rw [hV0] at h999 hv0 hsn h11
        have q1 : (i : Int) + K + m < (i : Int) + K + N := by omega
        have wa : IntKind.i64.wrap (10 * V0) = 10 * V0 := w64z (by omega) (by omega)
        have wb : IntKind.u8.wrap ((c.toNat : Int) - 48) = (c.toNat : Int) - 48 := by rw [IntKind.wrap_u8]; omega
        have wc : IntKind.i64.wrap ((c.toNat : Int) - 48) = (c.toNat : Int) - 48 := w64z (by omega) (by omega)
        have wd : IntKind.i64.wrap (10 * V0 + ((c.toNat : Int) - 48)) = 10 * V0 + ((c.toNat : Int) - 48) := w64z (by omega) (by omega)
        have we : IntKind.i64.wrap ((i : Int) + K + m + 1) = (i : Int) + K + m + 1 := w64z (by omega) (by omega)
        rw [hcd.1] at hsn
        by_cases hbig : 999 < 10 * V0 + ((c.toNat : Int) - 48)
        · have hb2 : 999 < decV ((b.drop (i + K)).take N) := by omega
          simp [k77_13, k77_15, k77_19, h0, h9, h10, h11, h12, wN, q1, hm10, wa, wb, wc, wd, hia, by_ld hc, hbig, hb2]
        · simp [k77_13, k77_15, k77_19, h0, h9, h10, h11, h12, wN, q1, hm10, wa, wb, wc, wd, we, hia, by_ld hc, hbig]
          refine ⟨hlast, ?_⟩
          rw [hI]
          refine ⟨by omega, by omega, _, _, rfl, by simp [h0], by simp [h1], by simp [h9], by simp [h10], ?_, ?_⟩
          · simp [hsn]
          · simp
            omega
      · have hmN : m = N := by omega
        subst hmN
        have q1 : ¬ ((i : Int) + K + m < (i : Int) + K + m) := by omega
        have hb2 : ¬ 999 < decV ((b.drop (i + K)).take m) := by omega
        have w3 : IntKind.i64.wrap ((i : Int) + K + m - i) = (K : Int) + m := by rw [show (i : Int) + K + m - i = K + m by omega]; exact w64z (by omega) (by omega)
        simp [k77_13, k77_20, h1, h9, h10, h12, wN, q1, hb2, w3]
  have e0 : hd (b.drop i) 0 = hd b i := by rw [hd_drop]; rfl
  have e1 : hd (b.drop i) 1 = hd b (i + 1) := hd_drop 1
  by_cases hne : hd b i ≠ a ∧ hd b i ≠ g
  · have hr : expoR (b.drop i) a g = 0 := by unfold expoR; rw [e0, if_pos hne]
    have n1 : ¬ ((hd b i).toNat : Int) = (a.toNat : Int) := by rw [u8_eq]; exact hne.1
    have n2 : ¬ ((hd b i).toNat : Int) = (g.toNat : Int) := by rw [u8_eq]; exact hne.2
    rw [hr]
    simp [a0, n1, n2]
  · have tl := fun K h1 h2 => tail K h1 h2 (by rw [e0]; exact hne)
    have h43 : ((hd b (i + 1)).toNat : Int) = 43 ↔ hd b (i + 1) = 43 := u8_eq (c := 43)
    have h45 : ((hd b (i + 1)).toNat : Int) = 45 ↔ hd b (i + 1) = 45 := u8_eq (c := 45)
    rw [e1] at tl
    have key : ∀ e L, look e 0 = some (.tr tb) → look e 1 = some (nv .i64 i) → wpc T k77_3 ⟨e, L, []⟩ (giv [.tmp 8] fun v σ => snap σ deepN v = some (.sc (.int .i64 (expoR (b.drop i) a g)))) := by
      intro e L q0 q1
      by_cases c1 : hd b (i + 1) = 43
      · have c1' := h43.2 c1
        simp [k77_3, q0, q1, w1, w2, a1, c1']
        exact tl 2 (.inr rfl) (by rw [if_pos (.inl c1)]) _ _ (by simp [q0]) (by simp [q1]) (by simp; omega)
      · have c1' : ¬ ((hd b (i + 1)).toNat : Int) = 43 := fun h => c1 (h43.1 h)
        by_cases c2 : hd b (i + 1) = 45
        · have c2' := h45.2 c2
          simp [k77_3, q0, q1, w1, w2, a1, c2']
          exact tl 2 (.inr rfl) (by rw [if_pos (.inr c2)]) _ _ (by simp [q0]) (by simp [q1]) (by simp; omega)
        · have c2' : ¬ ((hd b (i + 1)).toNat : Int) = 45 := fun h => c2 (h45.1 h)
          simp [k77_3, q0, q1, w1, a1, c1', c2']
          exact tl 1 (.inl rfl) (by rw [if_neg (by simp [c1, c2])]) _ _ (by simp [q0]) (by simp [q1]) (by simp)
    by_cases n1 : hd b i = a
    · have n1' : ((hd b i).toNat : Int) = (a.toNat : Int) := u8_eq.2 n1
      simp [a0, n1']
      refine key _ _ ?_ ?_ <;> simp
    · have n2 : hd b i = g := by
        rcases Classical.em (hd b i = g) with h | h
        · exact h
        · exact absurd ⟨n1, h⟩ hne
      have n1' : ¬ ((hd b i).toNat : Int) = (a.toNat : Int) := fun h => n1 (u8_eq.1 h)
      have n2' : ((hd b i).toNat : Int) = (g.toNat : Int) := u8_eq.2 n2
      have n3' : ¬ g.toNat = a.toNat := fun h => n1 (by rw [n2]; exact UInt8.toNat_inj.1 h)
      simp [a0, n2', n3']
      refine key _ _ ?_ ?_ <;> simp
end Go.Proofs.YtolhjhjlfgfifaaGreatDoor.AM.Rd
end
section
set_option maxRecDepth 1000000
set_option linter.unusedVariables false
set_option linter.unusedSimpArgs false
namespace Go.Proofs.YtolhjhjlfgfifaaGreatDoor.AM.Rd
open Go.Proofs
def badTail (c : UInt8) : Bool := isL c || isD c || c == 46
def numFin (s : List UInt8) (kind k : Nat) : Option (Nat × Nat) := if badTail (hd s k) then none else some (kind, k)
def numX (s : List UInt8) (n k : Nat) (pt : Bool) : Option (Nat × Nat) :=
  if n = 0 ∨ expoR (s.drop k) 112 80 < 0 ∨ (expoR (s.drop k) 112 80 = 0 ∧ pt = true) then none else numFin s (if pt = true ∨ 0 < expoR (s.drop k) 112 80 then 3 else 2) (k + (expoR (s.drop k) 112 80).toNat)
def numP (s : List UInt8) (n k : Nat) (pt : Bool) : Option (Nat × Nat) :=
  if expoR (s.drop k) 101 69 < 0 then none else
  if ¬ (pt = true ∨ 0 < expoR (s.drop k) 101 69) ∧ 1 < n ∧ hd s 0 = 48 then none else numFin s (if pt = true ∨ 0 < expoR (s.drop k) 101 69 then 3 else 2) (k + (expoR (s.drop k) 101 69).toNat)
def numberR (s : List UInt8) : Option (Nat × Nat) :=
  if hd s 0 = 48 ∧ (hd s 1 = 120 ∨ hd s 1 = 88) then
    if hd s (2 + nrun (inB 16) (s.drop 2)) = 46 then numX s (nrun (inB 16) (s.drop 2) + nrun (inB 16) (s.drop (2 + nrun (inB 16) (s.drop 2) + 1))) (2 + nrun (inB 16) (s.drop 2) + 1 + nrun (inB 16) (s.drop (2 + nrun (inB 16) (s.drop 2) + 1))) true
    else numX s (nrun (inB 16) (s.drop 2)) (2 + nrun (inB 16) (s.drop 2)) false
  else if hd s 0 = 48 ∧ (hd s 1 = 111 ∨ hd s 1 = 79 ∨ hd s 1 = 98 ∨ hd s 1 = 66) then
    if nrun (inB (if hd s 1 = 98 ∨ hd s 1 = 66 then 2 else 8)) (s.drop 2) = 0 then none else numFin s 2 (2 + nrun (inB (if hd s 1 = 98 ∨ hd s 1 = 66 then 2 else 8)) (s.drop 2))
  else
    if hd s (nrun (inB 10) s) = 46 then numP s (nrun (inB 10) s) (nrun (inB 10) s + 1 + nrun (inB 10) (s.drop (nrun (inB 10) s + 1))) true
    else numP s (nrun (inB 10) s) (nrun (inB 10) s) false
def resN : Option (Nat × Nat) → Tree
  | none => .tup [.sc (.int .i64 0), .sc (.int .i64 0)]
  | some (k, n) => .tup [.sc (.int .i64 (k : Int)), .sc (.int .i64 (n : Int))]
@[simp] theorem snap_2 (x y : Value) (σ : Store) : snap σ deepN (mkTup [.tr (.sc x), .tr (.sc y)]) = some (.tup [.sc x, .sc y]) := rfl
theorem expoR_le (s : List UInt8) (a g : UInt8) : expoR s a g ≤ s.length := by
  unfold expoR
  simp only
  obtain ⟨k, hk⟩ : ∃ k, (if hd s 1 = 43 ∨ hd s 1 = 45 then 2 else 1) = k := ⟨_, rfl⟩
  rw [hk]
  have := nrun_le (p := inB 10) (s := s.drop k)
  rw [List.length_drop] at this
  generalize nrun (inB 10) (s.drop k) = n at *
  split
  · omega
  · split
    · omega
    · split <;> omega
theorem expoR_ge (s : List UInt8) (a g : UInt8) : -1 ≤ expoR s a g := by
  unfold expoR
  simp only
  generalize nrun (inB 10) (s.drop (if hd s 1 = 43 ∨ hd s 1 = 45 then 2 else 1)) = n
  generalize (if hd s 1 = 43 ∨ hd s 1 = 45 then 2 else 1) = k
  split
  · omega
  · split
    · omega
    · split <;> omega
section
variable {b : List UInt8} {tb : Tree} (hb : IsSl byE b (.tr tb)) (hl : b.length ≤ 1000000) {i : Nat} (hi : i < b.length)
include hb hl hi
theorem num_tail (kind k : Nat) (hk : k ≤ 3000000) {Z : Int} (hZ : Z = ((i + k : Nat) : Int)) (e L : List (Nat × V)) (h0 : look e 0 = some (.tr tb)) (h1 : look e 1 = some (nv .i64 i)) (h6 : look e 6 = some (nv .i64 kind)) (h7 : look e 7 = some (iv Z)) :
    wpc T k48_43 ⟨e, L, []⟩ (giv [.tmp 4, .tmp 5] fun v σ => snap σ deepN v = some (resN (numFin (b.drop i) kind k))) := by
  have a := fun σ => at_ok hb (i + k) (z := Z) hZ σ
  have e1 : hd (b.drop i) k = hd b (i + k) := hd_drop k
  have w : IntKind.i64.wrap (Z - i) = (k : Int) := by rw [hZ, show ((i + k : Nat) : Int) - i = k by omega]; exact w64z (by omega) (by omega)
  have h46 : ((hd b (i + k)).toNat : Int) = 46 ↔ hd b (i + k) = 46 := u8_eq (c := 46)
  unfold numFin badTail
  rw [e1]
  have l := rletter_ok (hd b (i + k))
  have d := rdigit_ok (hd b (i + k))
  cases e2 : isL (hd b (i + k)) with
  | true =>
    rw [e2] at l
    simp [k48_43, h0, h7, a, l, resN]
  | false =>
    rw [e2] at l
    cases e3 : isD (hd b (i + k)) with
    | true =>
      rw [e3] at d
      simp [k48_43, h0, h7, a, l, d, resN]
    | false =>
      rw [e3] at d
      by_cases e4 : hd b (i + k) = 46
      · have e4' := h46.2 e4
        have e5 : (hd b (i + k) == 46) = true := by simp [e4]
        simp [k48_43, h0, h7, a, l, d, e5, e4', resN]
      · have e4' : ¬ ((hd b (i + k)).toNat : Int) = 46 := fun h => e4 (h46.1 h)
        have e5 : (hd b (i + k) == 46) = false := by simp [e4]
        simp [k48_43, k48_46, h0, h1, h6, h7, a, l, d, e5, e4', w, resN]
theorem num_x (n k : Nat) (pt : Bool) (hn : n ≤ 3000000) (hk : k ≤ 1000000) {Z : Int} (hZ : Z = ((i + k : Nat) : Int)) (e L : List (Nat × V)) (h0 : look e 0 = some (.tr tb)) (h1 : look e 1 = some (nv .i64 i)) (h6 : look e 6 = some (nv .i64 (if pt then 3 else 2))) (h7 : look e 7 = some (iv Z)) (h9 : look e 9 = some (nv .i64 n)) :
    wpc T k48_11 ⟨e, L, []⟩ (sq T k48_43 (giv [.tmp 4, .tmp 5] fun v σ => snap σ deepN v = some (resN (numX (b.drop i) n k pt)))) := by
  have x := fun σ => exponent_ok hb hl (i + k) (by omega) 112 80 (z := Z) hZ σ
  have hdd : (b.drop i).drop k = b.drop (i + k) := by rw [List.drop_drop]
  unfold numX
  rw [hdd]
  have hle := expoR_le (b.drop (i + k)) 112 80
  have hge := expoR_ge (b.drop (i + k)) 112 80
  rw [List.length_drop] at hle
  generalize expoR (b.drop (i + k)) 112 80 = E at *
  have x' : ∀ σ, callL T 77 [.tr tb, iv Z, .tr (.sc (.int .u8 112)), .tr (.sc (.int .u8 80))] σ = some (iv E, σ) := x
  by_cases hn0 : n = 0
  · subst hn0
    simp [k48_11, h0, h7, h9, x', resN]
  · by_cases hE : E < 0
    · simp [k48_11, h0, h7, h9, x', hn0, hE, resN]
    · by_cases hE0 : E = 0
      · subst hE0
        cases pt with
        | true => simp [k48_11, h0, h6, h7, h9, x', hn0, resN]
        | false =>
          have wZ : IntKind.i64.wrap Z = Z := w64z (by omega) (by omega)
          simp [k48_11, k48_15, k48_17, h0, h6, h7, h9, x', hn0, wZ]
          refine num_tail hb hl hi 2 k (by omega) (Z := Z) hZ _ _ ?_ ?_ ?_ ?_ <;> simp [h0, h1, h6]
      · have hpos : 0 < E := by omega
        obtain ⟨E', rfl⟩ : ∃ E' : Nat, E = E' := ⟨E.toNat, by omega⟩
        have hpos' : 0 < E' := by omega
        have hE0' : ¬ E' = 0 := by omega
        have c : (if pt = true ∨ (0 : Int) < (E' : Int) then 3 else 2) = 3 := if_pos (.inr hpos)
        have wZ : IntKind.i64.wrap (Z + E') = Z + E' := w64z (by omega) (by omega)
        simp [k48_11, k48_15, k48_17, h0, h7, h9, x', hn0, hE, hE0', hpos', wZ]
        refine num_tail hb hl hi 3 (k + E') (by omega) (Z := Z + E') (by rw [hZ]; omega) _ _ ?_ ?_ ?_ ?_ <;> simp [h0, h1]
theorem num_p (n k : Nat) (pt : Bool) (hn : n ≤ 3000000) (hk : k ≤ 1000000) {Z : Int} (hZ : Z = ((i + k : Nat) : Int)) (e L : List (Nat × V)) (h0 : look e 0 = some (.tr tb)) (h1 : look e 1 = some (nv .i64 i)) (h6 : look e 6 = some (nv .i64 (if pt then 3 else 2))) (h7 : look e 7 = some (iv Z)) (h14 : look e 14 = some (nv .i64 n)) :
    wpc T k48_33 ⟨e, L, []⟩ (sq T k48_43 (giv [.tmp 4, .tmp 5] fun v σ => snap σ deepN v = some (resN (numP (b.drop i) n k pt)))) := by
  have x := fun σ => exponent_ok hb hl (i + k) (by omega) 101 69 (z := Z) hZ σ
  have hdd : (b.drop i).drop k = b.drop (i + k) := by rw [List.drop_drop]
  have e0 : hd (b.drop i) 0 = hd b i := by rw [hd_drop]; rfl
  obtain ⟨c0, hc0⟩ := some_of hi
  have ec : hd b i = c0 := hd_of hc0
  have hia := fun σ => by_ia (σ := σ) hb hc0 .i64
  unfold numP
  rw [hdd, e0, ec]
  have hle := expoR_le (b.drop (i + k)) 101 69
  have hge := expoR_ge (b.drop (i + k)) 101 69
  rw [List.length_drop] at hle
  generalize expoR (b.drop (i + k)) 101 69 = E at *
  have x' : ∀ σ, callL T 77 [.tr tb, iv Z, .tr (.sc (.int .u8 101)), .tr (.sc (.int .u8 69))] σ = some (iv E, σ) := x
  have h48 : (c0.toNat : Int) = 48 ↔ c0 = 48 := u8_eq (c := 48)
  by_cases hE : E < 0
  · simp [k48_33, h0, h7, x', hE, resN]
  · obtain ⟨E', rfl⟩ : ∃ E' : Nat, E = E' := ⟨E.toNat, by omega⟩
    have w : IntKind.i64.wrap (Z + E') = Z + E' := w64z (by omega) (by omega)
    by_cases hpos : 0 < E'
    · simp [k48_33, k48_37, k48_39, h0, h7, x', hE, hpos, w]
      refine num_tail hb hl hi 3 (k + E') (by omega) (Z := Z + E') (by rw [hZ]; omega) _ _ ?_ ?_ ?_ ?_ <;> simp [h0, h1]
    · obtain rfl : E' = 0 := by omega
      cases pt with
      | true =>
        have wZ : IntKind.i64.wrap Z = Z := w64z (by omega) (by omega)
        simp [k48_33, k48_37, k48_39, h0, h6, h7, x', wZ]
        refine num_tail hb hl hi 3 k (by omega) (Z := Z) hZ _ _ ?_ ?_ ?_ ?_ <;> simp [h0, h1, h6]
      | false =>
        have wZ : IntKind.i64.wrap Z = Z := w64z (by omega) (by omega)
        by_cases h1n : (1 : Int) < (n : Int)
        · have h1m : 1 < n := by omega
          by_cases hc : c0 = 48
          · have hc' := h48.2 hc
            simp [k48_33, k48_37, k48_39, h0, h1, h6, h7, h14, x', h1n, h1m, hia, by_ld hc0, resN, show c0 = 48 from hc]
          · have hc' : ¬ (c0.toNat : Int) = 48 := fun h => hc (h48.1 h)
            simp [k48_33, k48_37, k48_39, h0, h1, h6, h7, h14, x', h1n, h1m, hia, by_ld hc0, hc, hc', wZ]
            refine num_tail hb hl hi 2 k (by omega) (Z := Z) hZ _ _ ?_ ?_ ?_ ?_ <;> simp [h0, h1, h6]
        · have h1m : ¬ 1 < n := by omega
          simp [k48_33, k48_37, k48_39, h0, h6, h7, h14, x', h1n, h1m, wZ]
          refine num_tail hb hl hi 2 k (by omega) (Z := Z) hZ _ _ ?_ ?_ ?_ ?_ <;> simp [h0, h1, h6]
end
end Go.Proofs.YtolhjhjlfgfifaaGreatDoor.AM.Rd
end
section
set_option maxRecDepth 1000000
set_option linter.unusedVariables false
set_option linter.unusedSimpArgs false
namespace Go.Proofs.YtolhjhjlfgfifaaGreatDoor.AM.Rd
open Go.Proofs
theorem hd_lt {b : List UInt8} {j : Nat} (h : hd b j ≠ 0) : j < b.length := by
  rcases Nat.lt_or_ge j b.length with h1 | h1
  · exact h1
  · exact absurd (hd_none h1) h
section
variable {b : List UInt8} {tb : Tree} (hb : IsSl byE b (.tr tb)) (hl : b.length ≤ 1000000) {i : Nat} (hi : i < b.length)
include hb hl hi
theorem number_ok {z : Int} (hz : z = i) (σ : Store) : callL T 48 [.tr tb, iv z] σ = some (.tr (resN (numberR (b.drop i))), σ) := by
  subst hz
  suffices hh : ∃ t, (∀ σ, callL T 48 ([tb, .sc (.int .i64 (i : Int))].map .tr) σ = some (.tr t, σ)) ∧ t = resN (numberR (b.drop i)) by
    obtain ⟨t, h, rfl⟩ := hh
    exact h σ
  refine call_iso T48 rfl rfl ?_
  obtain ⟨c0, hc0⟩ := some_of hi
  have ec : hd (b.drop i) 0 = c0 := by rw [hd_drop]; exact hd_of hc0
  have hia := fun σ => by_ia (σ := σ) hb hc0 .i64
  have hld := fun σ => by_ld (σ := σ) hc0
  have hldt := by_ldt hc0
  have a1 := fun σ => at_ok hb (i + 1) (z := (i : Int) + 1) (by omega) σ
  have w1 : IntKind.i64.wrap ((i : Int) + 1) = (i : Int) + 1 := w64z (by omega) (by omega)
  have w2 : IntKind.i64.wrap ((i : Int) + 2) = (i : Int) + 2 := w64z (by omega) (by omega)
  have ec1 : hd (b.drop i) 1 = hd b (i + 1) := hd_drop 1
  obtain ⟨c1, hc1⟩ : ∃ c1, hd b (i + 1) = c1 := ⟨_, rfl⟩
  rw [hc1] at ec1 a1
  have q0 : ∀ {c d : UInt8}, ((c.toNat : Int) = (d.toNat : Int)) ↔ c = d := u8_eq
  have q48 : (c0.toNat : Int) = 48 ↔ c0 = 48 := u8_eq (c := 48)
  have q120 : (c1.toNat : Int) = 120 ↔ c1 = 120 := u8_eq (c := 120)
  have q88 : (c1.toNat : Int) = 88 ↔ c1 = 88 := u8_eq (c := 88)
  have q111 : (c1.toNat : Int) = 111 ↔ c1 = 111 := u8_eq (c := 111)
  have q79 : (c1.toNat : Int) = 79 ↔ c1 = 79 := u8_eq (c := 79)
  have q98 : (c1.toNat : Int) = 98 ↔ c1 = 98 := u8_eq (c := 98)
  have q66 : (c1.toNat : Int) = 66 ↔ c1 = 66 := u8_eq (c := 66)
  have hdd : ∀ k, (b.drop i).drop k = b.drop (i + k) := fun k => by rw [List.drop_drop]
  have nl : ∀ base k, nrun (inB base) (b.drop (i + k)) ≤ b.length - (i + k) := fun base k => by rw [← List.length_drop]; exact nrun_le
  unfold numberR
  rw [ec, ec1]
  by_cases g0 : c0 = 48
  · have g0' := q48.2 g0
    by_cases f120 : c1 = 120
    · have f120' := q120.2 f120
      rw [if_pos ⟨g0, by simp [f120]⟩]
      have d2 := fun σ => digits_ok hb hl (i + 2) 16 (by omega) (z := (i : Int) + 2) (y := 16) (by omega) rfl σ
      have hnl := nl 16 2
      rw [hdd 2]
      generalize nrun (inB 16) (b.drop (i + 2)) = n at *
      have wn : IntKind.i64.wrap ((i : Int) + 2 + n) = (i : Int) + 2 + n := w64z (by omega) (by omega)
      have an := fun σ => at_ok hb (i + (2 + n)) (z := (i : Int) + 2 + n) (by omega) σ
      have en : hd (b.drop i) (2 + n) = hd b (i + (2 + n)) := hd_drop _
      rw [en]
      have q46 : ((hd b (i + (2 + n))).toNat : Int) = 46 ↔ hd b (i + (2 + n)) = 46 := u8_eq (c := 46)
      by_cases hp : hd b (i + (2 + n)) = 46
      · have hp' := q46.2 hp
        have hlt : i + (2 + n) < b.length := hd_lt (by rw [hp]; decide)
        rw [if_pos hp, hdd]
        have d3 := fun σ => digits_ok hb hl (i + (2 + n + 1)) 16 (by omega) (z := (i : Int) + 2 + n + 1) (y := 16) (by omega) rfl σ
        have hml := nl 16 (2 + n + 1)
        generalize nrun (inB 16) (b.drop (i + (2 + n + 1))) = m at *
        have wa : IntKind.i64.wrap ((i : Int) + 2 + n + 1) = (i : Int) + 2 + n + 1 := w64z (by omega) (by omega)
        have wb : IntKind.i64.wrap (1 + (m : Int)) = 1 + m := w64z (by omega) (by omega)
        have wc : IntKind.i64.wrap ((i : Int) + 2 + n + (1 + m)) = (i : Int) + 2 + n + (1 + m) := w64z (by omega) (by omega)
        have wd : IntKind.i64.wrap ((n : Int) + m) = (n : Int) + m := w64z (by omega) (by omega)
        simp [w1, a1, hia, hld, g0', f120', w2, d2, wn, an, hp', d3, wa, wb, wc, wd]
        refine num_x hb hl hi (n + m) (2 + n + 1 + m) true (by omega) (by omega) (Z := (i : Int) + 2 + n + (1 + m)) (by omega) _ _ ?_ ?_ ?_ ?_ ?_ <;> simp
      · have hp' : ¬ ((hd b (i + (2 + n))).toNat : Int) = 46 := fun h => hp (q46.1 h)
        rw [if_neg hp]
        simp [w1, a1, hia, hld, g0', f120', w2, d2, wn, an, hp']
        refine num_x hb hl hi n (2 + n) false (by omega) (by omega) (Z := (i : Int) + 2 + n) (by omega) _ _ ?_ ?_ ?_ ?_ ?_ <;> simp
    · have f120' : ¬ (c1.toNat : Int) = 120 := fun h => f120 (q120.1 h)
      by_cases f88 : c1 = 88
      · have f88' := q88.2 f88
        rw [if_pos ⟨g0, by simp [f88]⟩]
        have d2 := fun σ => digits_ok hb hl (i + 2) 16 (by omega) (z := (i : Int) + 2) (y := 16) (by omega) rfl σ
        have hnl := nl 16 2
        rw [hdd 2]
        generalize nrun (inB 16) (b.drop (i + 2)) = n at *
        have wn : IntKind.i64.wrap ((i : Int) + 2 + n) = (i : Int) + 2 + n := w64z (by omega) (by omega)
        have an := fun σ => at_ok hb (i + (2 + n)) (z := (i : Int) + 2 + n) (by omega) σ
        have en : hd (b.drop i) (2 + n) = hd b (i + (2 + n)) := hd_drop _
        rw [en]
        have q46 : ((hd b (i + (2 + n))).toNat : Int) = 46 ↔ hd b (i + (2 + n)) = 46 := u8_eq (c := 46)
        by_cases hp : hd b (i + (2 + n)) = 46
        · have hp' := q46.2 hp
          have hlt : i + (2 + n) < b.length := hd_lt (by rw [hp]; decide)
          rw [if_pos hp, hdd]
          have d3 := fun σ => digits_ok hb hl (i + (2 + n + 1)) 16 (by omega) (z := (i : Int) + 2 + n + 1) (y := 16) (by omega) rfl σ
          have hml := nl 16 (2 + n + 1)
          generalize nrun (inB 16) (b.drop (i + (2 + n + 1))) = m at *
          have wa : IntKind.i64.wrap ((i : Int) + 2 + n + 1) = (i : Int) + 2 + n + 1 := w64z (by omega) (by omega)
          have wb : IntKind.i64.wrap (1 + (m : Int)) = 1 + m := w64z (by omega) (by omega)
          have wc : IntKind.i64.wrap ((i : Int) + 2 + n + (1 + m)) = (i : Int) + 2 + n + (1 + m) := w64z (by omega) (by omega)
          have wd : IntKind.i64.wrap ((n : Int) + m) = (n : Int) + m := w64z (by omega) (by omega)
          simp [w1, a1, hia, hld, g0', f88', w2, d2, wn, an, hp', d3, wa, wb, wc, wd]
          refine num_x hb hl hi (n + m) (2 + n + 1 + m) true (by omega) (by omega) (Z := (i : Int) + 2 + n + (1 + m)) (by omega) _ _ ?_ ?_ ?_ ?_ ?_ <;> simp
        · have hp' : ¬ ((hd b (i + (2 + n))).toNat : Int) = 46 := fun h => hp (q46.1 h)
          rw [if_neg hp]
          simp [w1, a1, hia, hld, g0', f88', w2, d2, wn, an, hp']
          refine num_x hb hl hi n (2 + n) false (by omega) (by omega) (Z := (i : Int) + 2 + n) (by omega) _ _ ?_ ?_ ?_ ?_ ?_ <;> simp
      · have f88' : ¬ (c1.toNat : Int) = 88 := fun h => f88 (q88.1 h)
        by_cases f111 : c1 = 111
        · have f111' := q111.2 f111
          rw [if_neg (by simp [f111]), if_pos ⟨g0, by simp [f111]⟩]
          have d2 := fun σ => digits_ok hb hl (i + 2) 8 (by omega) (z := (i : Int) + 2) (y := 8) (by omega) rfl σ
          have hnl := nl 8 2
          rw [show (if c1 = 98 ∨ c1 = 66 then 2 else 8) = 8 from by simp [f111], hdd 2]
          generalize nrun (inB 8) (b.drop (i + 2)) = n at *
          have wn : IntKind.i64.wrap ((i : Int) + 2 + n) = (i : Int) + 2 + n := w64z (by omega) (by omega)
          by_cases hn0 : n = 0
          · subst hn0
            simp [w1, a1, hia, hld, g0', f111', k48_23, w2, d2, resN]
          · rw [if_neg hn0]
            simp [w1, a1, hia, hld, g0', f111', k48_23, k48_27, w2, d2, hn0, wn]
            refine num_tail hb hl hi 2 (2 + n) (by omega) (Z := (i : Int) + 2 + n) (by omega) _ _ ?_ ?_ ?_ ?_ <;> simp
        · have f111' : ¬ (c1.toNat : Int) = 111 := fun h => f111 (q111.1 h)
          by_cases f79 : c1 = 79
          · have f79' := q79.2 f79
            rw [if_neg (by simp [f79]), if_pos ⟨g0, by simp [f79]⟩]
            have d2 := fun σ => digits_ok hb hl (i + 2) 8 (by omega) (z := (i : Int) + 2) (y := 8) (by omega) rfl σ
            have hnl := nl 8 2
            rw [show (if c1 = 98 ∨ c1 = 66 then 2 else 8) = 8 from by simp [f79], hdd 2]
            generalize nrun (inB 8) (b.drop (i + 2)) = n at *
            have wn : IntKind.i64.wrap ((i : Int) + 2 + n) = (i : Int) + 2 + n := w64z (by omega) (by omega)
            by_cases hn0 : n = 0
            · subst hn0
              simp [w1, a1, hia, hld, g0', f79', k48_23, w2, d2, resN]
            · rw [if_neg hn0]
              simp [w1, a1, hia, hld, g0', f79', k48_23, k48_27, w2, d2, hn0, wn]
              refine num_tail hb hl hi 2 (2 + n) (by omega) (Z := (i : Int) + 2 + n) (by omega) _ _ ?_ ?_ ?_ ?_ <;> simp
          · have f79' : ¬ (c1.toNat : Int) = 79 := fun h => f79 (q79.1 h)
            by_cases f98 : c1 = 98
            · have f98' := q98.2 f98
              rw [if_neg (by simp [f98]), if_pos ⟨g0, by simp [f98]⟩]
              have d2 := fun σ => digits_ok hb hl (i + 2) 2 (by omega) (z := (i : Int) + 2) (y := 2) (by omega) rfl σ
              have hnl := nl 2 2
              rw [show (if c1 = 98 ∨ c1 = 66 then 2 else 8) = 2 from by simp [f98], hdd 2]
              generalize nrun (inB 2) (b.drop (i + 2)) = n at *
              have wn : IntKind.i64.wrap ((i : Int) + 2 + n) = (i : Int) + 2 + n := w64z (by omega) (by omega)
              by_cases hn0 : n = 0
              · subst hn0
                simp [w1, a1, hia, hld, g0', f98', k48_23, w2, d2, resN]
              · rw [if_neg hn0]
                simp [w1, a1, hia, hld, g0', f98', k48_23, k48_27, w2, d2, hn0, wn]
                refine num_tail hb hl hi 2 (2 + n) (by omega) (Z := (i : Int) + 2 + n) (by omega) _ _ ?_ ?_ ?_ ?_ <;> simp
            · have f98' : ¬ (c1.toNat : Int) = 98 := fun h => f98 (q98.1 h)
              by_cases f66 : c1 = 66
              · have f66' := q66.2 f66
                rw [if_neg (by simp [f66]), if_pos ⟨g0, by simp [f66]⟩]
                have d2 := fun σ => digits_ok hb hl (i + 2) 2 (by omega) (z := (i : Int) + 2) (y := 2) (by omega) rfl σ
                have hnl := nl 2 2
                rw [show (if c1 = 98 ∨ c1 = 66 then 2 else 8) = 2 from by simp [f66], hdd 2]
                generalize nrun (inB 2) (b.drop (i + 2)) = n at *
                have wn : IntKind.i64.wrap ((i : Int) + 2 + n) = (i : Int) + 2 + n := w64z (by omega) (by omega)
                by_cases hn0 : n = 0
                · subst hn0
                  simp [w1, a1, hia, hld, g0', f66', k48_23, w2, d2, resN]
                · rw [if_neg hn0]
                  simp [w1, a1, hia, hld, g0', f66', k48_23, k48_27, w2, d2, hn0, wn]
                  refine num_tail hb hl hi 2 (2 + n) (by omega) (Z := (i : Int) + 2 + n) (by omega) _ _ ?_ ?_ ?_ ?_ <;> simp
              · have f66' : ¬ (c1.toNat : Int) = 66 := fun h => f66 (q66.1 h)
                rw [if_neg (by simp [f120, f88]), if_neg (by simp [f111, f79, f98, f66])]
                have d0 := fun σ => digits_ok hb hl i 10 (by omega) (z := (i : Int)) (y := 10) rfl rfl σ
                obtain ⟨n, hn⟩ : ∃ n, nrun (inB 10) (b.drop i) = n := ⟨_, rfl⟩
                have hnl := nl 10 0
                rw [Nat.add_zero, hn] at hnl
                rw [hn] at d0 ⊢
                have wn : IntKind.i64.wrap ((i : Int) + n) = (i : Int) + n := w64z (by omega) (by omega)
                have an := fun σ => at_ok hb (i + n) (z := (i : Int) + n) (by omega) σ
                have en : hd (b.drop i) n = hd b (i + n) := hd_drop n
                rw [en]
                have q46 : ((hd b (i + n)).toNat : Int) = 46 ↔ hd b (i + n) = 46 := u8_eq (c := 46)
                by_cases hp : hd b (i + n) = 46
                · have hp' := q46.2 hp
                  have hlt : i + n < b.length := hd_lt (by rw [hp]; decide)
                  rw [if_pos hp, hdd]
                  have d1 := fun σ => digits_ok hb hl (i + (n + 1)) 10 (by omega) (z := (i : Int) + n + 1) (y := 10) (by omega) rfl σ
                  have hml := nl 10 (n + 1)
                  generalize nrun (inB 10) (b.drop (i + (n + 1))) = m at *
                  have wa : IntKind.i64.wrap ((i : Int) + n + 1) = (i : Int) + n + 1 := w64z (by omega) (by omega)
                  have wb : IntKind.i64.wrap (1 + (m : Int)) = 1 + m := w64z (by omega) (by omega)
                  have wc : IntKind.i64.wrap ((i : Int) + n + (1 + m)) = (i : Int) + n + (1 + m) := w64z (by omega) (by omega)
                  simp [w1, a1, hia, hld, g0', f120', f88', f111', f79', f98', f66', d0, wn, an, hp', d1, wa, wb, wc]
                  refine num_p hb hl hi n (n + 1 + m) true (by omega) (by omega) (Z := (i : Int) + n + (1 + m)) (by omega) _ _ ?_ ?_ ?_ ?_ ?_ <;> simp
                · have hp' : ¬ ((hd b (i + n)).toNat : Int) = 46 := fun h => hp (q46.1 h)
                  rw [if_neg hp]
                  simp [w1, a1, hia, hld, g0', f120', f88', f111', f79', f98', f66', d0, wn, an, hp']
                  refine num_p hb hl hi n n false (by omega) (by omega) (Z := (i : Int) + n) (by omega) _ _ ?_ ?_ ?_ ?_ ?_ <;> simp
  · have g0' : ¬ (c0.toNat : Int) = 48 := fun h => g0 (q48.1 h)
    rw [if_neg (by simp [g0]), if_neg (by simp [g0])]
    have d0 := fun σ => digits_ok hb hl i 10 (by omega) (z := (i : Int)) (y := 10) rfl rfl σ
    obtain ⟨n, hn⟩ : ∃ n, nrun (inB 10) (b.drop i) = n := ⟨_, rfl⟩
    have hnl := nl 10 0
    rw [Nat.add_zero, hn] at hnl
    rw [hn] at d0 ⊢
    have wn : IntKind.i64.wrap ((i : Int) + n) = (i : Int) + n := w64z (by omega) (by omega)
    have an := fun σ => at_ok hb (i + n) (z := (i : Int) + n) (by omega) σ
    have en : hd (b.drop i) n = hd b (i + n) := hd_drop n
    rw [en]
    have q46 : ((hd b (i + n)).toNat : Int) = 46 ↔ hd b (i + n) = 46 := u8_eq (c := 46)
    by_cases hp : hd b (i + n) = 46
    · have hp' := q46.2 hp
      have hlt : i + n < b.length := hd_lt (by rw [hp]; decide)
      rw [if_pos hp, hdd]
      have d1 := fun σ => digits_ok hb hl (i + (n + 1)) 10 (by omega) (z := (i : Int) + n + 1) (y := 10) (by omega) rfl σ
      have hml := nl 10 (n + 1)
      generalize nrun (inB 10) (b.drop (i + (n + 1))) = m at *
      have wa : IntKind.i64.wrap ((i : Int) + n + 1) = (i : Int) + n + 1 := w64z (by omega) (by omega)
      have wb : IntKind.i64.wrap (1 + (m : Int)) = 1 + m := w64z (by omega) (by omega)
      have wc : IntKind.i64.wrap ((i : Int) + n + (1 + m)) = (i : Int) + n + (1 + m) := w64z (by omega) (by omega)
      simp [w1, a1, hia, hld, g0', d0, wn, an, hp', d1, wa, wb, wc]
      refine num_p hb hl hi n (n + 1 + m) true (by omega) (by omega) (Z := (i : Int) + n + (1 + m)) (by omega) _ _ ?_ ?_ ?_ ?_ ?_ <;> simp
    · have hp' : ¬ ((hd b (i + n)).toNat : Int) = 46 := fun h => hp (q46.1 h)
      rw [if_neg hp]
      simp [w1, a1, hia, hld, g0', d0, wn, an, hp']
      refine num_p hb hl hi n n false (by omega) (by omega) (Z := (i : Int) + n) (by omega) _ _ ?_ ?_ ?_ ?_ ?_ <;> simp
end
end Go.Proofs.YtolhjhjlfgfifaaGreatDoor.AM.Rd
end
section
set_option maxRecDepth 1000000
set_option linter.unusedVariables false
set_option linter.unusedSimpArgs false
namespace Go.Proofs.YtolhjhjlfgfifaaGreatDoor.AM.Rd
open Go.Proofs
def utfV (v : Nat) (l : List UInt8) : Nat := l.foldl (fun v c => v * 64 + c.toNat % 64) v
theorem utfV_snoc (v : Nat) (l : List UInt8) (c : UInt8) : utfV v (l ++ [c]) = utfV v l * 64 + c.toNat % 64 := by simp [utfV, List.foldl_append]
def contB (c : UInt8) : Bool := Nat.beq (c.toNat / 64) 2
def utfN (s : List UInt8) (n v least : Nat) : Nat :=
  if s.length < n then 0 else if ((s.drop 1).take (n - 1)).all contB = false then 0 else
  if utfV v ((s.drop 1).take (n - 1)) < least ∨ 1114111 < utfV v ((s.drop 1).take (n - 1)) ∨ (55296 ≤ utfV v ((s.drop 1).take (n - 1)) ∧ utfV v ((s.drop 1).take (n - 1)) < 57344) then 0 else n
def utfR (s : List UInt8) : Nat :=
  if (hd s 0).toNat < 128 then 1 else
  if 194 ≤ (hd s 0).toNat ∧ (hd s 0).toNat < 224 then utfN s 2 ((hd s 0).toNat % 32) 128 else
  if 224 ≤ (hd s 0).toNat ∧ (hd s 0).toNat < 240 then utfN s 3 ((hd s 0).toNat % 16) 2048 else
  if 240 ≤ (hd s 0).toNat ∧ (hd s 0).toNat < 245 then utfN s 4 ((hd s 0).toNat % 8) 65536 else 0
theorem utfV_lt (v : Nat) : ∀ (n : Nat) (l : List UInt8), l.length = n → utfV v l < (v + 1) * 64 ^ n
  | 0, l, h => by
    obtain rfl := List.length_eq_zero_iff.1 h
    simp [utfV]
  | n + 1, l, h => by
    have hne : l ≠ [] := by rintro rfl; simp at h
    rw [← List.dropLast_concat_getLast hne, utfV_snoc]
    have := utfV_lt v n l.dropLast (by rw [List.length_dropLast]; omega)
    have := Nat.mod_lt (l.getLast hne).toNat (show 64 > 0 by omega)
    rw [Nat.pow_succ, ← Nat.mul_assoc]
    omega
section
variable {b : List UInt8} {tb : Tree} (hb : IsSl byE b (.tr tb)) (hl : b.length ≤ 1000000) {i : Nat} (hi : i < b.length)
include hb hl hi
theorem utf_tail (n v least : Nat) (hn : n = 2 ∨ n = 3 ∨ n = 4) (hv : v < 32) (hleast : least ≤ 65536) (e L : List (Nat × V)) (h0 : look e 0 = some (.tr tb)) (h1 : look e 1 = some (nv .i64 i)) (h6 : look e 6 = some (nv .i64 n)) (h7 : look e 7 = some (nv .i64 v)) (h8 : look e 8 = some (nv .i64 least)) :
    wpc T k80_12 ⟨e, L, []⟩ (giv [.tmp 4] fun w σ => snap σ deepN w = some (.sc (.int .i64 (utfN (b.drop i) n v least : Nat)))) := by
  have hlen : ∀ σ, opLen 1 (.tr tb) σ = some (nv .i64 b.length) := fun σ => by_len hb
  have w1 : IntKind.i64.wrap ((i : Int) + n) = (i : Int) + n := w64z (by omega) (by omega)
  unfold utfN
  rw [List.length_drop]
  by_cases hshort : (b.length : Int) < (i : Int) + n
  · have : b.length - i < n := by omega
    simp [k80_12, h0, h1, h6, hlen, w1, hshort, this]
  · have hs' : ¬ b.length - i < n := by omega
    rw [if_neg hs']
    simp only [List.drop_drop]
    obtain ⟨RS, hRS⟩ : ∃ RS, (if ((b.drop (i + 1)).take (n - 1)).all contB = false then 0 else
      if utfV v ((b.drop (i + 1)).take (n - 1)) < least ∨ 1114111 < utfV v ((b.drop (i + 1)).take (n - 1)) ∨ (55296 ≤ utfV v ((b.drop (i + 1)).take (n - 1)) ∧ utfV v ((b.drop (i + 1)).take (n - 1)) < 57344) then 0 else n) = RS := ⟨_, rfl⟩
    rw [hRS]
    obtain ⟨I, hI⟩ : ∃ I : Nat → St → Prop, I = fun m s => m ≤ n - 1 ∧ ((b.drop (i + 1)).take m).all contB = true ∧ ∃ e L, s = ⟨e, L, []⟩ ∧ look e 0 = some (.tr tb) ∧ look e 1 = some (nv .i64 i) ∧ look e 6 = some (nv .i64 n) ∧ look e 7 = some (nv .i64 (utfV v ((b.drop (i + 1)).take m))) ∧ look e 8 = some (nv .i64 least) ∧ look e 9 = some (iv (1 + (m : Int))) := ⟨_, rfl⟩
    simp [k80_12, h0, h1, h6, hlen, w1, hshort, k80_15]
    refine wpc_up (n - 1) I (by rw [hI]; exact ⟨Nat.zero_le _, by simp, _, _, rfl, by simp [h0], by simp [h1], by simp [h6], by simp [h7, utfV], by simp [h8], by simp⟩) ?_
    intro m s hs
    rw [hI] at hs
    obtain ⟨hm, hall, e, L, rfl, h0, h1, h6, h7, h8, h9⟩ := hs
    have hvb := utfV_lt v m ((b.drop (i + 1)).take m) (by rw [List.length_take, List.length_drop]; omega)
    have hvb2 : utfV v ((b.drop (i + 1)).take m) < 8388608 := by
      have : 64 ^ m ≤ 64 ^ 3 := Nat.pow_le_pow_right (by omega) (by omega)
      have := Nat.mul_le_mul_left (v + 1) this
      omega
    by_cases hlast : m < n - 1
    · have hlt : (1 : Int) + m < n := by omega
      obtain ⟨c, hc⟩ := some_of (l := b) (i := i + 1 + m) (by omega)
      have hc' : (b.drop (i + 1))[m]? = some c := by simpa using hc
      have wi : IntKind.i64.wrap ((i : Int) + (1 + (m : Int))) = (i : Int) + (1 + (m : Int)) := w64z (by omega) (by omega)
      have hia := fun σ => by_iaZ (σ := σ) hb hc (z := (i : Int) + (1 + (m : Int))) (by omega) .i64
      have cl := c.toNat_lt
      have hq : opBin .other .quo (u8v c) (.tr (.sc (.int .u8 64))) = some (.tr (.sc (.int .u8 ((c.toNat / 64 : Nat) : Int)))) := by
        rw [bin_quo (h := by omega), IntKind.wrap_u8, Int.tdiv_eq_ediv_of_nonneg (by omega)]
        congr 4
        omega
      have hr : opBin .other .rem (u8v c) (.tr (.sc (.int .u8 64))) = some (.tr (.sc (.int .u8 ((c.toNat % 64 : Nat) : Int)))) := by
        rw [bin_rem (h := by omega), Int.tmod_eq_emod_of_nonneg (by omega)]
        congr 4
      simp only [Int.natCast_ediv, Int.natCast_emod, Int.cast_ofNat_Int] at hq hr
      by_cases hcb : (c.toNat : Int) / 64 = 2
      · obtain ⟨V0, hV0⟩ : ∃ V0, utfV v ((b.drop (i + 1)).take m) = V0 := ⟨_, rfl⟩
        rw [hV0] at h7 hvb2
        have hm64 : opBin .other .mul (nv .i64 V0) (iv 64) = some (iv ((V0 : Int) * 64)) := by
          show some (V.tr (.sc (.int .i64 (IntKind.i64.wrap ((V0 : Int) * 64))))) = _
          rw [w64z (by omega) (by omega)]
        have wr : IntKind.i64.wrap ((c.toNat : Int) % 64) = (c.toNat : Int) % 64 := w64z (by omega) (by omega)
        have ws : IntKind.i64.wrap ((V0 : Int) * 64 + (c.toNat : Int) % 64) = (V0 : Int) * 64 + (c.toNat : Int) % 64 := w64z (by omega) (by omega)
        have w9 : IntKind.i64.wrap ((1 : Int) + m + 1) = 1 + m + 1 := w64z (by omega) (by omega)
        simp [k80_17, k80_19, k80_22, k80_23, h0, h1, h6, h7, h9, hlt, wi, hia, by_ld hc, hq, hr, hcb, hm64, wr, ws, w9]
        refine ⟨hlast, ?_⟩
        rw [hI]
        refine ⟨by omega, ?_, _, _, rfl, by simp [h0], by simp [h1], by simp [h6], ?_, by simp [h8], by simp; omega⟩
        · rw [take_snoc hc', List.all_append, hall]
          simp [contB]
          omega
        · rw [take_snoc hc', utfV_snoc, hV0]
          simp
      · have hfalse : ((b.drop (i + 1)).take (n - 1)).all contB = false := by
          rw [List.all_eq_false]
          refine ⟨c, List.mem_of_getElem? (i := m) (by rw [List.getElem?_take, if_pos hlast]; exact hc'), ?_⟩
          simp [contB]
          omega
        rw [if_pos hfalse] at hRS
        subst hRS
        simp [k80_17, k80_19, h0, h1, h6, h9, hlt, wi, hia, by_ld hc, hq, hcb]
    · have hmn : m = n - 1 := by omega
      subst hmn
      have hlt : ¬ (1 : Int) + ((n - 1 : Nat) : Int) < n := by omega
      rw [if_neg (by rw [hall]; simp)] at hRS
      obtain ⟨V0, hV0⟩ : ∃ V0, utfV v ((b.drop (i + 1)).take (n - 1)) = V0 := ⟨_, rfl⟩
      rw [hV0] at h7 hRS
      subst hRS
      by_cases q1 : V0 < least
      · simp [k80_17, k80_24, h6, h7, h8, h9, hlt, q1]
      · by_cases q2 : 1114111 < V0
        · have q2' : (1114111 : Int) < (V0 : Int) := by omega
          simp [k80_17, k80_24, h6, h7, h8, h9, hlt, q1, q2, q2']
        · have q2' : ¬ (1114111 : Int) < (V0 : Int) := by omega
          by_cases q3 : 55296 ≤ V0
          · have q3' : (55296 : Int) ≤ (V0 : Int) := by omega
            by_cases q4 : V0 < 57344
            · have q4' : (V0 : Int) < 57344 := by omega
              simp [k80_17, k80_24, h6, h7, h8, h9, hlt, q1, q2, q2', q3, q3', q4, q4']
            · have q4' : ¬ (V0 : Int) < 57344 := by omega
              simp [k80_17, k80_24, k80_27, h6, h7, h8, h9, hlt, q1, q2, q2', q3, q3', q4, q4']
          · have q3' : ¬ (55296 : Int) ≤ (V0 : Int) := by omega
            simp [k80_17, k80_24, k80_27, h6, h7, h8, h9, hlt, q1, q2, q2', q3, q3']
end
end Go.Proofs.YtolhjhjlfgfifaaGreatDoor.AM.Rd
end
section
set_option maxRecDepth 1000000
set_option linter.unusedVariables false
set_option linter.unusedSimpArgs false
namespace Go.Proofs.YtolhjhjlfgfifaaGreatDoor.AM.Rd
open Go.Proofs
section
variable {b : List UInt8} {tb : Tree} (hb : IsSl byE b (.tr tb)) (hl : b.length ≤ 1000000) {i : Nat} (hi : i < b.length)
include hb hl hi
theorem utf_ok {z : Int} (hz : z = i) (σ : Store) : callL T 80 [.tr tb, iv z] σ = some (nv .i64 (utfR (b.drop i)), σ) := by
  subst hz
  suffices hh : ∃ t, (∀ σ, callL T 80 ([tb, .sc (.int .i64 (i : Int))].map .tr) σ = some (.tr t, σ)) ∧ t = .sc (.int .i64 (utfR (b.drop i) : Nat)) by
    obtain ⟨t, h, rfl⟩ := hh
    exact h σ
  refine call_iso T80 rfl rfl ?_
  obtain ⟨c, hc⟩ := some_of hi
  have ec : hd (b.drop i) 0 = c := by rw [hd_drop]; exact hd_of hc
  have hia := fun σ => by_ia (σ := σ) hb hc .i64
  have cl := c.toNat_lt
  have hr : ∀ m : Nat, 0 < m → m < 256 → opBin .other .rem (u8v c) (.tr (.sc (.int .u8 (m : Int)))) = some (.tr (.sc (.int .u8 ((c.toNat : Int) % (m : Int))))) := by
    intro m hm hm2
    rw [bin_rem (h := by omega), Int.tmod_eq_emod_of_nonneg (by omega)]
  have hr32 := hr 32 (by omega) (by omega)
  have hr16 := hr 16 (by omega) (by omega)
  have hr8 := hr 8 (by omega) (by omega)
  simp only [Int.cast_ofNat_Int] at hr32 hr16 hr8
  have m32 : IntKind.i64.wrap ((c.toNat : Int) % 32) = ((c.toNat % 32 : Nat) : Int) := by rw [w64z (by omega) (by omega)]; simp
  have m16 : IntKind.i64.wrap ((c.toNat : Int) % 16) = ((c.toNat % 16 : Nat) : Int) := by rw [w64z (by omega) (by omega)]; simp
  have m8 : IntKind.i64.wrap ((c.toNat : Int) % 8) = ((c.toNat % 8 : Nat) : Int) := by rw [w64z (by omega) (by omega)]; simp
  unfold utfR
  rw [ec]
  generalize hcn : c.toNat = x at *
  have done : ∀ n v least, (n = 2 ∨ n = 3 ∨ n = 4) → v < 32 → least ≤ 65536 → ∀ e L, look e 0 = some (.tr tb) → look e 1 = some (nv .i64 i) → look e 6 = some (nv .i64 n) → look e 7 = some (nv .i64 v) → look e 8 = some (nv .i64 least) → wpc T k80_12 ⟨e, L, []⟩ (giv [.tmp 4] fun w σ => snap σ deepN w = some (.sc (.int .i64 (utfN (b.drop i) n v least : Nat)))) := fun n v least h1 h2 h3 => utf_tail hb hl hi n v least h1 h2 h3
  by_cases g1 : x < 128
  · have g1' : (x : Int) < 128 := by omega
    simp [hia, by_ld hc, hcn, g1, g1']
  · have g1' : ¬ (x : Int) < 128 := by omega
    by_cases g2 : 194 ≤ x
    · have g2' : (194 : Int) ≤ x := by omega
      by_cases g3 : x < 224
      · have g3' : (x : Int) < 224 := by omega
        simp [hia, by_ld hc, hcn, g1, g1', g2, g2', g3, g3', hr32, m32]
        refine done 2 (x % 32) 128 (by omega) (by omega) (by omega) _ _ ?_ ?_ ?_ ?_ ?_ <;> simp
      · have g3' : ¬ (x : Int) < 224 := by omega
        have g4 : 224 ≤ x := by omega
        have g4' : (224 : Int) ≤ x := by omega
        by_cases g5 : x < 240
        · have g5' : (x : Int) < 240 := by omega
          simp [hia, by_ld hc, hcn, g1, g1', g2, g2', g3, g3', g4, g4', g5, g5', hr16, m16]
          refine done 3 (x % 16) 2048 (by omega) (by omega) (by omega) _ _ ?_ ?_ ?_ ?_ ?_ <;> simp
        · have g5' : ¬ (x : Int) < 240 := by omega
          have g6 : 240 ≤ x := by omega
          have g6' : (240 : Int) ≤ x := by omega
          by_cases g7 : x < 245
          · have g7' : (x : Int) < 245 := by omega
            simp [hia, by_ld hc, hcn, g1, g1', g2, g2', g3, g3', g4, g4', g5, g5', g6, g6', g7, g7', hr8, m8]
            refine done 4 (x % 8) 65536 (by omega) (by omega) (by omega) _ _ ?_ ?_ ?_ ?_ ?_ <;> simp
          · have g7' : ¬ (x : Int) < 245 := by omega
            simp [hia, by_ld hc, hcn, g1, g1', g2, g2', g3, g3', g4, g4', g5, g5', g6, g6', g7, g7']
    · have g2' : ¬ (194 : Int) ≤ x := by omega
      have g4 : ¬ 224 ≤ x := by omega
      have g4' : ¬ (224 : Int) ≤ x := by omega
      have g6 : ¬ 240 ≤ x := by omega
      have g6' : ¬ (240 : Int) ≤ x := by omega
      simp [hia, by_ld hc, hcn, g1, g1', g2, g2', g4, g4', g6, g6']
end
end Go.Proofs.YtolhjhjlfgfifaaGreatDoor.AM.Rd
end
section
set_option maxRecDepth 1000000
set_option linter.unusedVariables false
set_option linter.unusedSimpArgs false
namespace Go.Proofs.YtolhjhjlfgfifaaGreatDoor.AM.Rd
open Go.Proofs
def star : List UInt8 → Option Nat
  | [] => none
  | [_] => none
  | a :: b :: t => if a = 42 ∧ b = 47 then some 0 else (star (b :: t)).map (· + 1)
def isNl (c : UInt8) : Bool := c == 10
def commentR (s : List UInt8) : Option (Nat × Bool) :=
  if hd s 1 = 47 then some (nrun (fun c => !isNl c) s, false) else (star (s.drop 2)).map fun k => (k + 4, ((s.drop 2).take k).any isNl)
def resC : Option (Nat × Bool) → Tree
  | none => .tup [.sc (.int .i64 0), .sc (.bool false)]
  | some (n, l) => .tup [.sc (.int .i64 (n : Int)), .sc (.bool l)]
theorem star_short {t : List UInt8} {m : Nat} (h : t.length ≤ m + 1) : star (t.drop m) = none := by
  match e : t.drop m with
  | [] => rfl
  | [a] => rfl
  | a :: b :: r =>
    have := congrArg List.length e
    rw [List.length_drop] at this
    simp at this
    omega
theorem star_step {t : List UInt8} {m : Nat} {a b : UInt8} (ha : t[m]? = some a) (hb : t[m + 1]? = some b) : star (t.drop m) = if a = 42 ∧ b = 47 then some 0 else (star (t.drop (m + 1))).map (· + 1) := by
  have h1 := List.getElem?_eq_some_iff.1 ha
  have h2 := List.getElem?_eq_some_iff.1 hb
  obtain ⟨h1, rfl⟩ := h1
  obtain ⟨h2, rfl⟩ := h2
  rw [List.drop_eq_getElem_cons h1, List.drop_eq_getElem_cons h2]
  rfl
section
variable {b : List UInt8} {tb : Tree} (hb : IsSl byE b (.tr tb)) (hl : b.length ≤ 1000000) {i : Nat} (hi : i + 1 < b.length)
include hb hl hi
theorem comment_ok {z : Int} (hz : z = i) (σ : Store) : callL T 44 [.tr tb, iv z] σ = some (.tr (resC (commentR (b.drop i))), σ) := by
  subst hz
  suffices hh : ∃ t, (∀ σ, callL T 44 ([tb, .sc (.int .i64 (i : Int))].map .tr) σ = some (.tr t, σ)) ∧ t = resC (commentR (b.drop i)) by
    obtain ⟨t, h, rfl⟩ := hh
    exact h σ
  refine call_iso T44 rfl rfl ?_
  have hlen : ∀ σ, opLen 1 (.tr tb) σ = some (nv .i64 b.length) := fun σ => by_len hb
  obtain ⟨c1, hc1⟩ := some_of hi
  have ec : hd (b.drop i) 1 = c1 := by rw [hd_drop]; exact hd_of hc1
  have hia := fun σ => by_iaZ (σ := σ) hb hc1 (z := (i : Int) + 1) (by omega) .i64
  have w1 : IntKind.i64.wrap ((i : Int) + 1) = (i : Int) + 1 := w64z (by omega) (by omega)
  have w2 : IntKind.i64.wrap ((i : Int) + 2) = (i : Int) + 2 := w64z (by omega) (by omega)
  have q47 : (c1.toNat : Int) = 47 ↔ c1 = 47 := u8_eq (c := 47)
  unfold commentR
  rw [ec, List.drop_drop]
  by_cases g : c1 = 47
  · have g' := q47.2 g
    rw [if_pos g]
    obtain ⟨R, hR⟩ : ∃ R, nrun (fun c => !isNl c) (b.drop i) = R := ⟨_, rfl⟩
    have hRl : R ≤ b.length - i := by rw [← hR, ← List.length_drop]; exact nrun_le
    rw [hR]
    obtain ⟨I, hI⟩ : ∃ I : Nat → St → Prop, I = fun n s => n ≤ R ∧ ∃ e L, s = ⟨e, L, []⟩ ∧ look e 0 = some (.tr tb) ∧ look e 1 = some (nv .i64 i) ∧ look e 6 = some (iv ((i : Int) + n)) := ⟨_, rfl⟩
    simp [w1, hia, by_ld hc1, g']
    refine wpc_up R I (by rw [hI]; exact ⟨Nat.zero_le _, _, _, rfl, by simp, by simp, by simp⟩) ?_
    intro n s hs
    rw [hI] at hs
    obtain ⟨hn, e, L, rfl, h0, h1, h6⟩ := hs
    have wn : IntKind.i64.wrap ((i : Int) + n - i) = n := by rw [show (i : Int) + n - i = n by omega]; exact w64z (by omega) (by omega)
    by_cases hlt : i + n < b.length
    · obtain ⟨c, hc⟩ := some_of hlt
      have hlt' : (i : Int) + n < (b.length : Int) := by omega
      have hc' : (b.drop i)[n]? = some c := by simpa using hc
      have hia := fun σ => by_iaZ (σ := σ) hb hc (z := (i : Int) + n) (by omega) .i64
      have q10 : (c.toNat : Int) = 10 ↔ c = 10 := u8_eq (c := 10)
      by_cases hlast : n < R
      · obtain ⟨c2, h5, h6'⟩ := nrun_lt (p := fun c => !isNl c) (s := b.drop i) (n := n) (by omega)
        rw [hc'] at h5
        cases h5
        have g1 : ¬ (c.toNat : Int) = 10 := fun h => by
          rw [q10.1 h] at h6'
          simp [isNl] at h6'
        have hw2 : IntKind.i64.wrap ((i : Int) + n + 1) = (i : Int) + n + 1 := w64z (by omega) (by omega)
        simp [k44_4, k44_6, h0, h6, hlen, hlt', hia, by_ld hc, g1, hw2]
        refine ⟨hlast, ?_⟩
        rw [hI]
        exact ⟨by omega, _, _, rfl, by simp [h0], by simp [h1], by simp; omega⟩
      · have hn' : n = R := by omega
        subst hn'
        have h6' := nrun_at (p := fun c => !isNl c) (s := b.drop i) (c := c) (by rw [hR]; exact hc')
        have g1 : (c.toNat : Int) = 10 := q10.2 (by simpa [isNl] using h6')
        simp [k44_4, k44_7, h0, h1, h6, hlen, hlt', hia, by_ld hc, g1, wn, resC]
    · have hlt' : ¬ (i : Int) + n < (b.length : Int) := by omega
      have hn' : n = R := by omega
      subst hn'
      simp [k44_4, k44_7, h0, h1, h6, hlen, hlt', wn, resC]
  · have g' : ¬ (c1.toNat : Int) = 47 := fun h => g (q47.1 h)
    rw [if_neg g]
    obtain ⟨t, ht⟩ : ∃ t, b.drop (i + 2) = t := ⟨_, rfl⟩
    have htl : t.length = b.length - (i + 2) := by rw [← ht, List.length_drop]
    have htg : ∀ k, t[k]? = b[i + 2 + k]? := fun k => by rw [← ht, List.getElem?_drop]
    rw [ht]
    obtain ⟨RS, hRS⟩ : ∃ RS, resC ((star t).map fun k => (k + 4, (t.take k).any isNl)) = RS := ⟨_, rfl⟩
    rw [hRS]
    obtain ⟨I, hI⟩ : ∃ I : Nat → St → Prop, I = fun m s => m ≤ t.length ∧ star t = (star (t.drop m)).map (· + m) ∧ ∃ e L, s = ⟨e, L, []⟩ ∧ look e 0 = some (.tr tb) ∧ look e 1 = some (nv .i64 i) ∧ look e 7 = some (bv ((t.take m).any isNl)) ∧ look e 8 = some (iv ((i : Int) + 2 + m)) := ⟨_, rfl⟩
    simp [w1, hia, by_ld hc1, g', k44_8, w2]
    refine wpc_up t.length I (by rw [hI]; exact ⟨Nat.zero_le _, by simp, _, _, rfl, by simp, by simp, by simp, by simp⟩) ?_
    intro m s hs
    rw [hI] at hs
    obtain ⟨hm, hst, e, L, rfl, h0, h1, h7, h8⟩ := hs
    have wk : IntKind.i64.wrap ((i : Int) + 2 + m + 1) = (i : Int) + 2 + m + 1 := w64z (by omega) (by omega)
    by_cases hlt : m + 1 < t.length
    · have hlt' : (i : Int) + 2 + m + 1 < (b.length : Int) := by omega
      obtain ⟨x, hx⟩ := some_of (l := t) (i := m) (by omega)
      obtain ⟨y, hy⟩ := some_of (l := t) (i := m + 1) (by omega)
      have hx' : b[i + 2 + m]? = some x := by rw [← htg]; exact hx
      have hy' : b[i + 2 + (m + 1)]? = some y := by rw [← htg]; exact hy
      have ix := fun σ => by_iaZ (σ := σ) hb hx' (z := (i : Int) + 2 + m) (by omega) .i64
      have iy := fun σ => by_iaZ (σ := σ) hb hy' (z := (i : Int) + 2 + m + 1) (by omega) .i64
      have q42 : (x.toNat : Int) = 42 ↔ x = 42 := u8_eq (c := 42)
      have q47 : (y.toNat : Int) = 47 ↔ y = 47 := u8_eq (c := 47)
      have q10 : (x.toNat : Int) = 10 ↔ x = 10 := u8_eq (c := 10)
      have hstep := star_step hx hy
      by_cases gs : x = 42 ∧ y = 47
      · have g1 := q42.2 gs.1
        have g2 := q47.2 gs.2
        have hs2 : star t = some m := by rw [hst, hstep, if_pos gs]; simp
        have w4 : IntKind.i64.wrap ((i : Int) + 2 + m + 2) = (i : Int) + 2 + m + 2 := w64z (by omega) (by omega)
        have w5 : IntKind.i64.wrap ((i : Int) + 2 + m + 2 - i) = (m : Int) + 4 := by rw [show (i : Int) + 2 + m + 2 - i = m + 4 by omega]; exact w64z (by omega) (by omega)
        rw [hs2] at hRS
        subst hRS
        simp [k44_11, k44_13, h0, h1, h7, h8, hlen, wk, hlt', ix, iy, by_ld hx', by_ld hy', g1, g2, w4, w5, resC]
      · have hs2 : star t = (star (t.drop (m + 1))).map (· + (m + 1)) := by
          rw [hst, hstep, if_neg gs, Option.map_map]
          congr 1
          funext k
          simp
          omega
        have hany : (t.take (m + 1)).any isNl = ((t.take m).any isNl || x == 10) := by rw [take_snoc hx]; simp [isNl]
        have next : ∀ e' L', look e' 0 = some (.tr tb) → look e' 1 = some (nv .i64 i) → look e' 7 = some (bv ((t.take m).any isNl || x == 10)) → look e' 8 = some (iv ((i : Int) + 2 + m + 1)) → m < t.length ∧ I (m + 1) ⟨e', L', []⟩ := by
          intro e' L' q0 q1 q7 q8
          refine ⟨by omega, ?_⟩
          rw [hI]
          exact ⟨by omega, hs2, _, _, rfl, q0, q1, by rw [hany]; exact q7, by rw [q8, show (i : Int) + 2 + m + 1 = (i : Int) + 2 + ((m + 1 : Nat) : Int) by omega]⟩
        cases hA : (t.take m).any isNl with
        | true =>
          rw [hA] at h7 next
          by_cases g1 : x = 42
          · have g1' := q42.2 g1
            have g2' : ¬ (y.toNat : Int) = 47 := fun h => gs ⟨g1, q47.1 h⟩
            simp [k44_11, k44_13, k44_16, k44_17, h0, h7, h8, hlen, wk, hlt', ix, iy, by_ld hx', by_ld hy', g1', g2']
            refine next _ _ ?_ ?_ ?_ ?_ <;> simp [h0, h1]
          · have g1' : ¬ (x.toNat : Int) = 42 := fun h => g1 (q42.1 h)
            simp [k44_11, k44_13, k44_16, k44_17, h0, h7, h8, hlen, wk, hlt', ix, by_ld hx', g1']
            refine next _ _ ?_ ?_ ?_ ?_ <;> simp [h0, h1]
        | false =>
          rw [hA] at h7 next
          by_cases g1 : x = 42
          · have g1' := q42.2 g1
            have g2' : ¬ (y.toNat : Int) = 47 := fun h => gs ⟨g1, q47.1 h⟩
            simp [k44_11, k44_13, k44_16, k44_17, h0, h7, h8, hlen, wk, hlt', ix, iy, by_ld hx', by_ld hy', g1', g2']
            refine next _ _ ?_ ?_ ?_ ?_ <;> simp [h0, h1, g1]
          · have g1' : ¬ (x.toNat : Int) = 42 := fun h => g1 (q42.1 h)
            by_cases g3 : x = 10
            · have g3' := q10.2 g3
              have g1' : ¬ (10 : Int) = 42 := by omega
              simp [k44_11, k44_13, k44_16, k44_17, h0, h7, h8, hlen, wk, hlt', ix, by_ld hx', g3']
              refine next _ _ ?_ ?_ ?_ ?_ <;> simp [h0, h1, g3]
            · have g3' : ¬ (x.toNat : Int) = 10 := fun h => g3 (q10.1 h)
              simp [k44_11, k44_13, k44_16, k44_17, h0, h7, h8, hlen, wk, hlt', ix, by_ld hx', g1', g3']
              refine next _ _ ?_ ?_ ?_ ?_ <;> simp [h0, h1, g3]
    · have hlt' : ¬ (i : Int) + 2 + m + 1 < (b.length : Int) := by omega
      have hs2 : star t = none := by rw [hst, star_short (by omega)]; rfl
      rw [hs2] at hRS
      subst hRS
      simp [k44_11, k44_18, h0, h8, hlen, wk, hlt', resC]
end
end Go.Proofs.YtolhjhjlfgfifaaGreatDoor.AM.Rd
end
section
set_option maxRecDepth 1000000
set_option linter.unusedVariables false
set_option linter.unusedSimpArgs false
namespace Go.Proofs.YtolhjhjlfgfifaaGreatDoor.AM.Rd
open Go.Proofs
abbrev sv (l : List UInt8) : V := .tr (.sc (.string ⟨⟨l⟩⟩))
theorem by_elems {l : List UInt8} {v : V} (h : IsSl byE l v) (σ : Store) : elems σ 1 v = some ((l.flatMap byE).map .tr, l.length) := by
  rcases h with ⟨rfl, rfl⟩ | ⟨cap, rfl⟩
  · rfl
  · have : (l.flatMap byE).length = l.length * 1 := flat_len byE_len l
    simp only [elems, this, if_true]
theorem by_str {l : List UInt8} {v : V} (h : IsSl byE l v) (σ : Store) : opConv .bytesStr v σ = some (sv l, σ) := by
  have he := by_elems h σ
  rcases h with ⟨rfl, rfl⟩ | ⟨cap, rfl⟩
  · rfl
  · simp only [opConv, he, byE_bytes]
theorem by_cut {l : List UInt8} {tb : Tree} (h : IsSl byE l (.tr tb)) {lo hi : Nat} (h1 : lo ≤ hi) (h2 : hi ≤ l.length) {y z : Int} (hy : y = lo) (hz : z = hi) : ∃ t', (∀ σ, opSlice 1 (.tr tb) (some (iv y)) (some (iv z)) none σ = some (.tr t')) ∧ IsSl byE ((l.take hi).drop lo) (.tr t') := by
  subst hy hz
  obtain ⟨v', h3, h4⟩ := isSl_cut (σ := []) h byE_len (k := .i64) (k' := .i64) h1 h2
  obtain ⟨t', rfl⟩ : ∃ t', v' = .tr t' := by
    rcases h4 with ⟨_, rfl⟩ | ⟨_, rfl⟩
    · exact ⟨_, rfl⟩
    · exact ⟨_, rfl⟩
  refine ⟨t', fun σ => ?_, h4⟩
  rw [← h3]
  rcases h with ⟨rfl, h⟩ | ⟨cap, h⟩
  · cases h; rfl
  · cases h; rfl
theorem by_cut_lo {l : List UInt8} {tb : Tree} (h : IsSl byE l (.tr tb)) {lo : Nat} (h1 : lo ≤ l.length) {y : Int} (hy : y = lo) : ∃ t', (∀ σ, opSlice 1 (.tr tb) (some (iv y)) none none σ = some (.tr t')) ∧ IsSl byE (l.drop lo) (.tr t') := by
  subst hy
  obtain ⟨v', h3, h4⟩ := isSl_cut_lo (σ := []) h byE_len (k := .i64) h1
  obtain ⟨t', rfl⟩ : ∃ t', v' = .tr t' := by
    rcases h4 with ⟨_, rfl⟩ | ⟨_, rfl⟩
    · exact ⟨_, rfl⟩
    · exact ⟨_, rfl⟩
  refine ⟨t', fun σ => ?_, h4⟩
  rw [← h3]
  rcases h with ⟨rfl, h⟩ | ⟨cap, h⟩
  · cases h; rfl
  · cases h; rfl
def strT (l : List UInt8) : Tree := .sc (.string ⟨⟨l⟩⟩)
def opsR : List (List UInt8) := [[38, 94, 61], [38, 94], [38, 38], [38, 61], [43, 61], [45, 61], [42, 61], [47, 61], [37, 61], [124, 61], [94, 61], [124, 124], [61, 61], [33, 61], [60, 61], [62, 61], [58, 61], [43, 43], [45, 45], [43], [45], [42], [47], [37], [38], [124], [94], [60], [62], [33], [40], [41], [91], [93], [123], [125], [44], [46], [61], [126], [58]]
def opFind (ops : List (List UInt8)) (s : List UInt8) : Nat := match ops.find? (fun o => o.isPrefixOf s) with | some o => o.length | none => 0
theorem pre_take {o s : List UInt8} : o.isPrefixOf s = true ↔ o.length ≤ s.length ∧ s.take o.length = o := by
  rw [List.isPrefixOf_iff_prefix]
  constructor
  · rintro ⟨r, rfl⟩
    simp
  · rintro ⟨_, h⟩
    exact ⟨s.drop o.length, by conv => rhs; rw [← List.take_append_drop o.length s, h]⟩
section
variable {b : List UInt8} {tb : Tree} (hb : IsSl byE b (.tr tb)) (hl : b.length ≤ 1000000) {i : Nat} (hi : i < b.length)
include hb hl hi
theorem op_ok {z : Int} (hz : z = i) (σ : Store) : callL T 50 [.tr tb, iv z] σ = some (nv .i64 (opFind opsR (b.drop i)), σ) := by
  subst hz
  suffices hh : ∃ t, (∀ σ, callL T 50 ([tb, .sc (.int .i64 (i : Int))].map .tr) σ = some (.tr t, σ)) ∧ t = .sc (.int .i64 (opFind opsR (b.drop i) : Nat)) by
    obtain ⟨t, h, rfl⟩ := hh
    exact h σ
  refine call_iso T50 rfl rfl ?_
  have hlen : ∀ σ, opLen 1 (.tr tb) σ = some (nv .i64 b.length) := fun σ => by_len hb
  obtain ⟨W, hW⟩ : ∃ W : V, W = .tr (.row (opsR.map strT) 41 (some 41)) := ⟨_, rfl⟩
  have hbs : ∀ σ, opBslice false 41 1 [(.sc (.string ⟨⟨[]⟩⟩))] [(0, 1, (sv [38, 94, 61])), (1, 1, (sv [38, 94])), (2, 1, (sv [38, 38])), (3, 1, (sv [38, 61])), (4, 1, (sv [43, 61])), (5, 1, (sv [45, 61])), (6, 1, (sv [42, 61])), (7, 1, (sv [47, 61])), (8, 1, (sv [37, 61])), (9, 1, (sv [124, 61])), (10, 1, (sv [94, 61])), (11, 1, (sv [124, 124])), (12, 1, (sv [61, 61])), (13, 1, (sv [33, 61])), (14, 1, (sv [60, 61])), (15, 1, (sv [62, 61])), (16, 1, (sv [58, 61])), (17, 1, (sv [43, 43])), (18, 1, (sv [45, 45])), (19, 1, (sv [43])), (20, 1, (sv [45])), (21, 1, (sv [42])), (22, 1, (sv [47])), (23, 1, (sv [37])), (24, 1, (sv [38])), (25, 1, (sv [124])), (26, 1, (sv [94])), (27, 1, (sv [60])), (28, 1, (sv [62])), (29, 1, (sv [33])), (30, 1, (sv [40])), (31, 1, (sv [41])), (32, 1, (sv [91])), (33, 1, (sv [93])), (34, 1, (sv [123])), (35, 1, (sv [125])), (36, 1, (sv [44])), (37, 1, (sv [46])), (38, 1, (sv [61])), (39, 1, (sv [126])), (40, 1, (sv [58]))] σ = some (W, σ) := by
    intro σ
    rw [hW]
    rfl
  have hrw : Rw (opsR.map strT) W := by rw [hW]; exact .inr ⟨some 41, rfl⟩
  have hWl : ∀ σ, opLen 1 W σ = some (nv .i64 41) := fun σ => rw_len hrw
  obtain ⟨s, hs⟩ : ∃ s, b.drop i = s := ⟨_, rfl⟩
  have hsl : s.length = b.length - i := by rw [← hs, List.length_drop]
  rw [hs]
  obtain ⟨RS, hRS⟩ : ∃ RS : Nat, opFind opsR s = RS := ⟨_, rfl⟩
  rw [hRS]
  obtain ⟨I, hI⟩ : ∃ I : Nat → St → Prop, I = fun m st => m ≤ 41 ∧ opFind opsR s = opFind (opsR.drop m) s ∧ ∃ e L, st = ⟨e, L, []⟩ ∧ look e 0 = some (.tr tb) ∧ look e 1 = some (nv .i64 i) ∧ look e 5 = some W ∧ look e 6 = some (nv .i64 m) := ⟨_, rfl⟩
  simp [hbs]
  refine wpc_up 41 I (by rw [hI]; exact ⟨by omega, rfl, _, _, rfl, by simp, by simp, by simp, by simp⟩) ?_
  intro m st hst
  rw [hI] at hst
  obtain ⟨hm, hf, e, L, rfl, h0, h1, h5, h6⟩ := hst
  have wl : IntKind.i64.wrap ((b.length : Int) - i) = (b.length : Int) - i := w64z (by omega) (by omega)
  by_cases hlt : m < 41
  · have hlt' : (m : Int) < 41 := by omega
    obtain ⟨o, ho⟩ : ∃ o, opsR[m]? = some o := ⟨_, List.getElem?_eq_getElem (show m < opsR.length from hlt)⟩
    have hto : (opsR.map strT)[m]? = some (strT o) := by rw [List.getElem?_map, ho]; rfl
    have ho3 : o.length ≤ 3 := by
      have : ∀ o ∈ opsR, o.length ≤ 3 := by decide
      exact this o (List.mem_of_getElem? ho)
    have hdrop : opsR.drop m = o :: opsR.drop (m + 1) := by
      obtain ⟨h, rfl⟩ := List.getElem?_eq_some_iff.1 ho
      exact List.drop_eq_getElem_cons h
    have ia := fun σ => rw_iaddr (σ := σ) hrw hto .i64
    have ld : ∀ σ, opLoad 1 false (.tr (.rptr (opsR.map strT) m)) σ = some (sv o) := fun σ => rw_load (σ := σ) hto
    have ldt : opLdt 1 false (.tr (.rptr (opsR.map strT) m)) = some (sv o) := rw_ldt hto
    have ls : ∀ σ, opLen 0 (sv o) σ = some (nv .i64 o.length) := fun _ => rfl
    have w6 : IntKind.i64.wrap ((m : Int) + 1) = (m : Int) + 1 := w64z (by omega) (by omega)
    have wo : IntKind.i64.wrap ((i : Int) + o.length) = (i : Int) + o.length := w64z (by omega) (by omega)
    have hno : o.isPrefixOf s = false → opFind opsR s = opFind (opsR.drop (m + 1)) s := by
      intro hno
      rw [hf, hdrop]
      unfold opFind
      rw [List.find?_cons_of_neg (by simp [hno])]
    have next : o.isPrefixOf s = false → ∀ e' L', look e' 0 = some (.tr tb) → look e' 1 = some (nv .i64 i) → look e' 5 = some W → look e' 6 = some (iv ((m : Int) + 1)) → m < 41 ∧ I (m + 1) ⟨e', L', []⟩ := by
      intro hno' e' L' q0 q1 q5 q6
      refine ⟨hlt, ?_⟩
      rw [hI]
      exact ⟨by omega, hno hno', _, _, rfl, q0, q1, q5, by rw [q6]; simp⟩
    by_cases hfit : o.length ≤ s.length
    · have hfit' : (o.length : Int) ≤ (b.length : Int) - i := by omega
      obtain ⟨t', hcut, hsl'⟩ := by_cut hb (lo := i) (hi := i + o.length) (by omega) (by omega) (y := (i : Int)) (z := (i : Int) + o.length) rfl (by omega)
      have hcb : (b.take (i + o.length)).drop i = s.take o.length := by rw [← hs, List.drop_take]; congr 1; omega
      rw [hcb] at hsl'
      have hstr := by_str hsl'
      by_cases heq : s.take o.length = o
      · have hp : o.isPrefixOf s = true := pre_take.2 ⟨hfit, heq⟩
        have hres : opFind opsR s = o.length := by
          rw [hf, hdrop]
          unfold opFind
          rw [List.find?_cons_of_pos (by simpa using hp)]
        have hRS' : RS = o.length := by rw [← hRS, hres]
        subst hRS'
        simp [k50_3, k50_5, h0, h1, h5, h6, hWl, hlt', hlen, wl, ia, ld, ls, hfit', hcut, hstr, wo, bytesEq_iff', heq]
      · have hp : o.isPrefixOf s = false := by
          cases hp : o.isPrefixOf s with
          | false => rfl
          | true => exact absurd (pre_take.1 hp).2 heq
        simp [k50_3, k50_5, k50_8, h0, h1, h5, h6, hWl, hlt', hlen, wl, ia, ld, ls, hfit', hcut, hstr, wo, bytesEq_iff', heq, w6]
        refine next hp _ _ ?_ ?_ ?_ ?_ <;> simp [h0, h1, h5]
    · have hfit' : ¬ (o.length : Int) ≤ (b.length : Int) - i := by omega
      have hp : o.isPrefixOf s = false := by
        cases hp : o.isPrefixOf s with
        | false => rfl
        | true => exact absurd (pre_take.1 hp).1 hfit
      simp [k50_3, k50_5, k50_8, h0, h1, h5, h6, hWl, hlt', hlen, wl, ia, ld, ls, hfit', w6]
      refine next hp _ _ ?_ ?_ ?_ ?_ <;> simp [h0, h1, h5]
  · have hlt' : ¬ (m : Int) < 41 := by omega
    have hd0 : opsR.drop m = [] := List.drop_eq_nil_of_le (by show 41 ≤ m; omega)
    have hres : RS = 0 := by rw [← hRS, hf, hd0]; rfl
    subst hres
    simp [k50_3, k50_9, h5, h6, hWl, hlt']
end
end Go.Proofs.YtolhjhjlfgfifaaGreatDoor.AM.Rd
end
section
set_option maxRecDepth 1000000
set_option linter.unusedVariables false
set_option linter.unusedSimpArgs false
namespace Go.Proofs.YtolhjhjlfgfifaaGreatDoor.AM.Rd
open Go.Proofs
def wordsR : List (List UInt8) := [[98, 114, 101, 97, 107], [99, 97, 115, 101], [99, 104, 97, 110], [99, 111, 110, 115, 116], [99, 111, 110, 116, 105, 110, 117, 101], [100, 101, 102, 97, 117, 108, 116], [100, 101, 102, 101, 114], [101, 108, 115, 101], [102, 97, 108, 108, 116, 104, 114, 111, 117, 103, 104], [102, 111, 114], [102, 117, 110, 99], [103, 111], [103, 111, 116, 111], [105, 102], [105, 109, 112, 111, 114, 116], [105, 110, 116, 101, 114, 102, 97, 99, 101], [109, 97, 112], [112, 97, 99, 107, 97, 103, 101], [114, 97, 110, 103, 101], [114, 101, 116, 117, 114, 110], [115, 101, 108, 101, 99, 116], [115, 116, 114, 117, 99, 116], [115, 119, 105, 116, 99, 104], [116, 121, 112, 101], [118, 97, 114]]
def isWord (ws : List (List UInt8)) (s : List UInt8) : Bool := ws.any fun w => decide (w = s)
theorem rword_ok (s : List UInt8) (σ : Store) : callL T 47 [sv s] σ = some (bv (isWord wordsR s), σ) := by
  suffices hh : ∃ t, (∀ σ, callL T 47 ([Tree.sc (.string ⟨⟨s⟩⟩)].map .tr) σ = some (.tr t, σ)) ∧ t = .sc (.bool (isWord wordsR s)) by
    obtain ⟨t, h, rfl⟩ := hh
    exact h σ
  refine call_iso T47 rfl rfl ?_
  obtain ⟨W, hW⟩ : ∃ W : V, W = .tr (.row (wordsR.map strT) 25 (some 25)) := ⟨_, rfl⟩
  have hbs : ∀ σ, opBslice false 25 1 [(.sc (.string ⟨⟨[]⟩⟩))] [(0, 1, (sv [98, 114, 101, 97, 107])), (1, 1, (sv [99, 97, 115, 101])), (2, 1, (sv [99, 104, 97, 110])), (3, 1, (sv [99, 111, 110, 115, 116])), (4, 1, (sv [99, 111, 110, 116, 105, 110, 117, 101])), (5, 1, (sv [100, 101, 102, 97, 117, 108, 116])), (6, 1, (sv [100, 101, 102, 101, 114])), (7, 1, (sv [101, 108, 115, 101])), (8, 1, (sv [102, 97, 108, 108, 116, 104, 114, 111, 117, 103, 104])), (9, 1, (sv [102, 111, 114])), (10, 1, (sv [102, 117, 110, 99])), (11, 1, (sv [103, 111])), (12, 1, (sv [103, 111, 116, 111])), (13, 1, (sv [105, 102])), (14, 1, (sv [105, 109, 112, 111, 114, 116])), (15, 1, (sv [105, 110, 116, 101, 114, 102, 97, 99, 101])), (16, 1, (sv [109, 97, 112])), (17, 1, (sv [112, 97, 99, 107, 97, 103, 101])), (18, 1, (sv [114, 97, 110, 103, 101])), (19, 1, (sv [114, 101, 116, 117, 114, 110])), (20, 1, (sv [115, 101, 108, 101, 99, 116])), (21, 1, (sv [115, 116, 114, 117, 99, 116])), (22, 1, (sv [115, 119, 105, 116, 99, 104])), (23, 1, (sv [116, 121, 112, 101])), (24, 1, (sv [118, 97, 114]))] σ = some (W, σ) := by
    intro σ
    rw [hW]
    rfl
  have hrw : Rw (wordsR.map strT) W := by rw [hW]; exact .inr ⟨some 25, rfl⟩
  have hWl : ∀ σ, opLen 1 W σ = some (nv .i64 25) := fun σ => rw_len hrw
  obtain ⟨RS, hRS⟩ : ∃ RS : Bool, isWord wordsR s = RS := ⟨_, rfl⟩
  rw [hRS]
  obtain ⟨I, hI⟩ : ∃ I : Nat → St → Prop, I = fun m st => m ≤ 25 ∧ isWord wordsR s = isWord (wordsR.drop m) s ∧ ∃ e L, st = ⟨e, L, []⟩ ∧ look e 0 = some (sv s) ∧ look e 3 = some W ∧ look e 4 = some (nv .i64 m) := ⟨_, rfl⟩
  simp [hbs]
  refine wpc_up 25 I (by rw [hI]; exact ⟨by omega, rfl, _, _, rfl, by simp, by simp, by simp⟩) ?_
  intro m st hst
  rw [hI] at hst
  obtain ⟨hm, hf, e, L, rfl, h0, h3, h4⟩ := hst
  by_cases hlt : m < 25
  · have hlt' : (m : Int) < 25 := by omega
    obtain ⟨o, ho⟩ : ∃ o, wordsR[m]? = some o := ⟨_, List.getElem?_eq_getElem (show m < wordsR.length from hlt)⟩
    have hto : (wordsR.map strT)[m]? = some (strT o) := by rw [List.getElem?_map, ho]; rfl
    have hdrop : wordsR.drop m = o :: wordsR.drop (m + 1) := by
      obtain ⟨h, rfl⟩ := List.getElem?_eq_some_iff.1 ho
      exact List.drop_eq_getElem_cons h
    have ia := fun σ => rw_iaddr (σ := σ) hrw hto .i64
    have ld : ∀ σ, opLoad 1 false (.tr (.rptr (wordsR.map strT) m)) σ = some (sv o) := fun σ => rw_load (σ := σ) hto
    have ldt : opLdt 1 false (.tr (.rptr (wordsR.map strT) m)) = some (sv o) := rw_ldt hto
    have w6 : IntKind.i64.wrap ((m : Int) + 1) = (m : Int) + 1 := w64z (by omega) (by omega)
    by_cases heq : o = s
    · have hres : RS = true := by rw [← hRS, hf, hdrop]; simp [isWord, heq]
      subst hres
      simp [k47_3, k47_5, h0, h3, h4, hWl, hlt', ia, ld, bytesEq_iff', heq]
    · have hres : isWord wordsR s = isWord (wordsR.drop (m + 1)) s := by rw [hf, hdrop]; simp [isWord, heq]
      simp [k47_3, k47_5, k47_8, h0, h3, h4, hWl, hlt', ia, ld, bytesEq_iff', heq, w6]
      refine ⟨hlt, ?_⟩
      rw [hI]
      refine ⟨by omega, hres, _, _, rfl, ?_, ?_, ?_⟩ <;> simp [h0, h3]
  · have hlt' : ¬ (m : Int) < 25 := by omega
    have hd0 : wordsR.drop m = [] := List.drop_eq_nil_of_le (by show 25 ≤ m; omega)
    have hres : RS = false := by rw [← hRS, hf, hd0]; rfl
    subst hres
    simp [k47_3, k47_9, h3, h4, hWl, hlt']
structure Tk where
  kind : Nat
  text : List UInt8
  at_ : Nat
  deriving DecidableEq
def tkE (t : Tk) : List Tree := [.sc (.int .i64 (t.kind : Int)), .sc (.string ⟨⟨t.text⟩⟩), .sc (.int .i64 (t.at_ : Int))]
theorem tkE_len (t : Tk) : (tkE t).length = 3 := rfl
def endW : List (List UInt8) := [[98, 114, 101, 97, 107], [99, 111, 110, 116, 105, 110, 117, 101], [114, 101, 116, 117, 114, 110]]
def endO : List (List UInt8) := [[43, 43], [45, 45], [41], [93], [125]]
def endK (k : Nat) (x : List UInt8) : Bool := decide (k = 1) || decide (k = 2) || decide (k = 3) || decide (k = 4) || (decide (k = 6) && isWord endW x) || (decide (k = 5) && isWord endO x)
def endsR (l : List Tk) : Bool := match l.getLast? with | none => false | some t => endK t.kind t.text
theorem ends_tr {l : List Tk} {tl : Tree} (h : IsSl tkE l (.tr tl)) (hk : ∀ t ∈ l, t.kind ≤ 7) (hb : l.length < 2^62) (σ : Store) : callL T 51 [.tr tl] σ = some (bv (endsR l), σ) := by
  suffices hh : ∃ t, (∀ σ, callL T 51 ([tl].map .tr) σ = some (.tr t, σ)) ∧ t = .sc (.bool (endsR l)) by
    obtain ⟨t, h, rfl⟩ := hh
    exact h σ
  refine call_iso T51 rfl rfl ?_
  have hlen : ∀ σ, opLen 1 (.tr tl) σ = some (nv .i64 l.length) := fun σ => isSl_len h
  by_cases h0 : l = []
  · subst h0
    simp [hlen, endsR]
  · have hl0 : 0 < l.length := List.length_pos_iff.2 h0
    have hz : ¬ (l.length : Int) = 0 := by omega
    obtain ⟨x, hx⟩ : ∃ x, l[l.length - 1]? = some x := ⟨_, List.getElem?_eq_getElem (show l.length - 1 < l.length by omega)⟩
    have hlast : l.getLast? = some x := by rw [List.getLast?_eq_getElem?, hx]
    have hkx := hk x (List.mem_of_getElem? hx)
    obtain ⟨z, hzz⟩ : ∃ z : Int, z = ((l.length - 1 : Nat) : Int) := ⟨_, rfl⟩
    have w1 : IntKind.i64.wrap ((l.length : Int) - 1) = z := by rw [w64z (by omega) (by omega)]; omega
    have ia : ∀ σ, opIaddr 3 (.tr tl) (.tr (.sc (.int .i64 z))) σ = some (.tr (.rptr (l.flatMap tkE) ((l.length - 1) * 3))) := fun σ => by rw [hzz]; exact isSl_iaddr h tkE_len (by omega) hx
    have ld : ∀ σ, opLoad 3 true (.tr (.rptr (l.flatMap tkE) ((l.length - 1) * 3))) σ = ofCells true ((tkE x).map .tr) := fun σ => by rw [rptr_load0 tkE_len hx (by omega)]; rfl
    have hres : endsR l = endK x.kind x.text := by unfold endsR; rw [hlast]
    obtain ⟨RS, hRS⟩ : ∃ RS, endK x.kind x.text = RS := ⟨_, rfl⟩
    rw [hres, hRS]
    obtain ⟨W, hW, hWc⟩ : ∃ W, ofCells true ((tkE x).map .tr) = some W ∧ cellsOf W = (tkE x).map .tr := ⟨_, rfl, rfl⟩
    obtain ⟨CS, hCS⟩ : ∃ CS, CS = (tkE x).map V.tr := ⟨_, rfl⟩
    rw [hW] at ld
    have hst : opStore 3 (.ptr 0 0 0) W [.row [.tr (.sc (.int .i64 0)), .tr (.sc (.string ⟨⟨[]⟩⟩)), .tr (.sc (.int .i64 0))] 0] = some [.row CS 0] := by
      unfold opStore
      simp only [hWc, hCS]
      rfl
    have hf0 : opFaddr 0 (.ptr 0 0 0) = some (.ptr 0 0 0) := rfl
    have hf1 : opFaddr 1 (.ptr 0 0 0) = some (.ptr 0 0 1) := rfl
    have l0 : ∀ k : Nat, x.kind = k → opLoad 1 false (.ptr 0 0 0) [.row CS 0] = some (.tr (.sc (.int .i64 (k : Int)))) := by intro k hk; subst hk; rw [hCS]; rfl
    have l1 : opLoad 1 false (.ptr 0 0 1) [.row CS 0] = some (sv x.text) := by rw [hCS]; rfl
    have hcs : x.kind = 0 ∨ x.kind = 1 ∨ x.kind = 2 ∨ x.kind = 3 ∨ x.kind = 4 ∨ x.kind = 5 ∨ x.kind = 6 ∨ x.kind = 7 := by omega
    rcases hcs with hc | hc | hc | hc | hc | hc | hc | hc
    rotate_left 5
    · have l0' := l0 _ hc
      by_cases e1 : x.text = [43, 43]
      · have hr : RS = true := by rw [← hRS, hc, e1]; rfl
        subst hr
        simp [hlen, h0, w1, ia, ld, k51_3, k51_11, k51_19, hst, hf0, hf1, l0', l1, e1, bytesEq_iff']
      by_cases e2 : x.text = [45, 45]
      · have hr : RS = true := by rw [← hRS, hc, e2]; rfl
        subst hr
        simp [hlen, h0, w1, ia, ld, k51_3, k51_11, k51_19, hst, hf0, hf1, l0', l1, e2, bytesEq_iff']
      by_cases e3 : x.text = [41]
      · have hr : RS = true := by rw [← hRS, hc, e3]; rfl
        subst hr
        simp [hlen, h0, w1, ia, ld, k51_3, k51_11, k51_19, hst, hf0, hf1, l0', l1, e3, bytesEq_iff']
      by_cases e4 : x.text = [93]
      · have hr : RS = true := by rw [← hRS, hc, e4]; rfl
        subst hr
        simp [hlen, h0, w1, ia, ld, k51_3, k51_11, k51_19, hst, hf0, hf1, l0', l1, e4, bytesEq_iff']
      have hr : RS = decide (x.text = [125]) := by
        rw [← hRS, hc]
        simp [endK, isWord, endO, eq_comm (b := x.text)]
        simp [e1, e2, e3, e4]
      subst hr
      simp [hlen, h0, w1, ia, ld, k51_3, k51_11, k51_19, hst, hf0, hf1, l0', l1, e1, e2, e3, e4, bytesEq_iff']
    · have l0' := l0 _ hc
      by_cases e1 : x.text = [98, 114, 101, 97, 107]
      · have hr : RS = true := by rw [← hRS, hc, e1]; rfl
        subst hr
        simp [hlen, h0, w1, ia, ld, k51_3, k51_11, k51_19, hst, hf0, hf1, l0', l1, e1, bytesEq_iff']
      by_cases e2 : x.text = [99, 111, 110, 116, 105, 110, 117, 101]
      · have hr : RS = true := by rw [← hRS, hc, e2]; rfl
        subst hr
        simp [hlen, h0, w1, ia, ld, k51_3, k51_11, k51_19, hst, hf0, hf1, l0', l1, e2, bytesEq_iff']
      have hr : RS = decide (x.text = [114, 101, 116, 117, 114, 110]) := by
        rw [← hRS, hc]
        simp [endK, isWord, endW, eq_comm (b := x.text)]
        simp [e1, e2]
      subst hr
      simp [hlen, h0, w1, ia, ld, k51_3, k51_11, k51_19, hst, hf0, hf1, l0', l1, e1, e2, bytesEq_iff']
    all_goals
      have l0' := l0 _ hc
      have hr := hRS
      simp [hc, endK] at hr
      subst hr
      simp [hlen, h0, w1, ia, ld, k51_3, k51_11, k51_19, hst, hf0, l0']
end Go.Proofs.YtolhjhjlfgfifaaGreatDoor.AM.Rd
end
section
set_option maxRecDepth 1000000
set_option linter.unusedVariables false
set_option linter.unusedSimpArgs false
namespace Go.Proofs.YtolhjhjlfgfifaaGreatDoor.AM.Rd
open Go.Proofs
def rune8R (c : Nat) : List UInt8 :=
  if c < 128 then [.ofNat c] else if c < 2048 then [.ofNat (192 + c / 64), .ofNat (128 + c % 64)] else
  [.ofNat (224 + c / 4096), .ofNat (128 + c / 64 % 64), .ofNat (128 + c % 64)]
theorem rune8R_pos (c : Nat) : 0 < (rune8R c).length := by
  unfold rune8R
  split
  · simp
  · split <;> simp
def byT (l : List UInt8) : Tree := .row (l.flatMap byE) l.length (some l.length)
theorem byT_sl (l : List UInt8) : IsSl byE l (.tr (byT l)) := .inr ⟨_, rfl⟩
theorem bs1 {x : Int} {c : UInt8} (h : x = (c.toNat : Int)) (σ : Store) : opBslice false 1 1 [.sc (.int .u8 0)] [(0, 1, .tr (.sc (.int .u8 x)))] σ = some (.tr (byT [c]), σ) := by subst h; rfl
theorem bs2 {x y : Int} {c d : UInt8} (h : x = (c.toNat : Int)) (h' : y = (d.toNat : Int)) (σ : Store) : opBslice false 2 1 [.sc (.int .u8 0)] [(0, 1, .tr (.sc (.int .u8 x))), (1, 1, .tr (.sc (.int .u8 y)))] σ = some (.tr (byT [c, d]), σ) := by subst h; subst h'; rfl
theorem bs3 {x y z : Int} {c d e : UInt8} (h : x = (c.toNat : Int)) (h' : y = (d.toNat : Int)) (h'' : z = (e.toNat : Int)) (σ : Store) : opBslice false 3 1 [.sc (.int .u8 0)] [(0, 1, .tr (.sc (.int .u8 x))), (1, 1, .tr (.sc (.int .u8 y))), (2, 1, .tr (.sc (.int .u8 z)))] σ = some (.tr (byT [c, d, e]), σ) := by subst h; subst h'; subst h''; rfl
theorem of8 (x : Nat) : ((UInt8.ofNat x).toNat : Int) = (x : Int) % 256 := by rw [UInt8.toNat_ofNat']; simp
theorem rune8_ok (c : Nat) (hc : c < 65536) (σ : Store) : callL T 79 [nv .i64 c] σ = some (.tr (byT (rune8R c)), σ) := by
  suffices hh : ∃ t, (∀ σ, callL T 79 ([.sc (.int .i64 (c : Int))].map .tr) σ = some (.tr t, σ)) ∧ t = byT (rune8R c) by
    obtain ⟨t, h, rfl⟩ := hh
    exact h σ
  refine call_iso T79 rfl rfl ?_
  have q1 : opBin .other .quo (nv .i64 c) (iv 64) = some (iv ((c : Int) / 64)) := by
    rw [bin_quo (h := by omega), Int.tdiv_eq_ediv_of_nonneg (by omega), w64z (by omega) (by omega)]
  have q2 : opBin .other .quo (nv .i64 c) (iv 4096) = some (iv ((c : Int) / 4096)) := by
    rw [bin_quo (h := by omega), Int.tdiv_eq_ediv_of_nonneg (by omega), w64z (by omega) (by omega)]
  have m1 : opBin .other .rem (nv .i64 c) (iv 64) = some (iv ((c : Int) % 64)) := by
    rw [bin_rem (h := by omega), Int.tmod_eq_emod_of_nonneg (by omega)]
  have m2 : opBin .other .rem (iv ((c : Int) / 64)) (iv 64) = some (iv ((c : Int) / 64 % 64)) := by
    rw [bin_rem (h := by omega), Int.tmod_eq_emod_of_nonneg (by omega)]
  have a1 : IntKind.i64.wrap (192 + (c : Int) / 64) = 192 + (c : Int) / 64 := w64z (by omega) (by omega)
  have a2 : IntKind.i64.wrap (128 + (c : Int) % 64) = 128 + (c : Int) % 64 := w64z (by omega) (by omega)
  have a3 : IntKind.i64.wrap (224 + (c : Int) / 4096) = 224 + (c : Int) / 4096 := w64z (by omega) (by omega)
  have a4 : IntKind.i64.wrap (128 + (c : Int) / 64 % 64) = 128 + (c : Int) / 64 % 64 := w64z (by omega) (by omega)
  have t1 : (((192 + c / 64 : Nat) : Int)) = 192 + (c : Int) / 64 := by simp
  have t2 : (((128 + c % 64 : Nat) : Int)) = 128 + (c : Int) % 64 := by simp
  have t3 : (((224 + c / 4096 : Nat) : Int)) = 224 + (c : Int) / 4096 := by simp
  have t4 : (((128 + c / 64 % 64 : Nat) : Int)) = 128 + (c : Int) / 64 % 64 := by simp
  unfold rune8R
  by_cases h1 : c < 128
  · have h1' : (c : Int) < 128 := by omega
    have b := bs1 (x := IntKind.u8.wrap (c : Int)) (c := .ofNat c) (by rw [of8, IntKind.wrap_u8])
    simp [h1, h1', b]
  · have h1' : ¬ (c : Int) < 128 := by omega
    by_cases h2 : c < 2048
    · have h2' : (c : Int) < 2048 := by omega
      have b := bs2 (x := IntKind.u8.wrap (192 + (c : Int) / 64)) (y := IntKind.u8.wrap (128 + (c : Int) % 64)) (c := .ofNat (192 + c / 64)) (d := .ofNat (128 + c % 64)) (by rw [of8, t1, IntKind.wrap_u8]) (by rw [of8, t2, IntKind.wrap_u8])
      simp [h1, h1', h2, h2', b, q1, m1, a1, a2]
    · have h2' : ¬ (c : Int) < 2048 := by omega
      have b := bs3 (x := IntKind.u8.wrap (224 + (c : Int) / 4096)) (y := IntKind.u8.wrap (128 + (c : Int) / 64 % 64)) (z := IntKind.u8.wrap (128 + (c : Int) % 64)) (c := .ofNat (224 + c / 4096)) (d := .ofNat (128 + c / 64 % 64)) (e := .ofNat (128 + c % 64)) (by rw [of8, t3, IntKind.wrap_u8]) (by rw [of8, t4, IntKind.wrap_u8]) (by rw [of8, t2, IntKind.wrap_u8])
      simp [h1, h1', h2, h2', b, q1, q2, m1, m2, a2, a3, a4, k79_6]
end Go.Proofs.YtolhjhjlfgfifaaGreatDoor.AM.Rd
end
section
set_option maxRecDepth 1000000
set_option linter.unusedVariables false
set_option linter.unusedSimpArgs false
namespace Go.Proofs.YtolhjhjlfgfifaaGreatDoor.AM.Rd
open Go.Proofs
def hexN (l : List UInt8) : Nat := l.foldl (fun v c => 16 * v + (dv c).toNat) 0
theorem hexN_snoc (l : List UInt8) (c : UInt8) : hexN (l ++ [c]) = 16 * hexN l + (dv c).toNat := by simp [hexN, List.foldl_append]
def escR (s : List UInt8) : Option (Nat × List UInt8) :=
  if hd s 1 = 92 ∨ hd s 1 = 34 then some (2, [hd s 1]) else
  if hd s 1 = 110 then some (2, [10]) else
  if hd s 1 = 116 then some (2, [9]) else
  if hd s 1 = 120 then (if nrun (inB 16) (s.drop 2) < 2 then none else some (4, [.ofNat (hexN ((s.drop 2).take 2))])) else
  if hd s 1 = 117 then (if nrun (inB 16) (s.drop 2) < 4 then none else
    if 55296 ≤ hexN ((s.drop 2).take 4) ∧ hexN ((s.drop 2).take 4) < 57344 then none else some (6, rune8R (hexN ((s.drop 2).take 4)))) else none
def stepR (q : UInt8) (s : List UInt8) : Option (Nat × List UInt8) :=
  if q = 34 ∧ hd s 0 = 10 then none else if q = 34 ∧ hd s 0 = 92 then escR s else
  if utfR s = 0 then none else some (utfR s, if q ≠ 96 ∨ hd s 0 ≠ 13 then s.take (utfR s) else [])
def comb (n : Nat) (o : List UInt8) : Option (Nat × List UInt8) → Option (Nat × List UInt8) := Option.map fun r => (n + r.1, o ++ r.2)
def textF (q : UInt8) : Nat → List UInt8 → Option (Nat × List UInt8)
  | 0, _ => none
  | f + 1, s => if s = [] then none else if hd s 0 = q then some (1, []) else
    match stepR q s with | none => none | some (n, o) => comb n o (textF q f (s.drop n))
def textR (s : List UInt8) : Option (Nat × List UInt8) := comb 1 [] (textF (hd s 0) s.length (s.drop 1))
theorem hd_pos {s : List UInt8} {n : Nat} (h : hd s n ≠ 0) : n < s.length := by
  rcases Nat.lt_or_ge n s.length with h1 | h1
  · exact h1
  · exact absurd (hd_none h1) h
theorem nrun_le' {p : UInt8 → Bool} {s : List UInt8} {i n : Nat} (h : ¬ nrun p (s.drop i) < n) (hn : 0 < n) : i + n ≤ s.length := by
  have := nrun_le (p := p) (s := s.drop i)
  rw [List.length_drop] at this
  omega
theorem utfN_le {s : List UInt8} {n v l : Nat} (hn : 0 < n) : utfN s n v l ≤ s.length ∧ (utfN s n v l = 0 ∨ utfN s n v l = n) := by
  unfold utfN
  split
  · exact ⟨by omega, .inl rfl⟩
  · split
    · exact ⟨by omega, .inl rfl⟩
    · split
      · exact ⟨by omega, .inl rfl⟩
      · exact ⟨by omega, .inr rfl⟩
theorem utfR_le {s : List UInt8} (h : s ≠ []) : utfR s ≤ s.length := by
  have := List.length_pos_iff.2 h
  unfold utfR
  split
  · omega
  · split
    · exact (utfN_le (by omega)).1
    · split
      · exact (utfN_le (by omega)).1
      · split
        · exact (utfN_le (by omega)).1
        · omega
theorem rune8R_le (c : Nat) : (rune8R c).length ≤ 3 := by
  unfold rune8R
  split
  · simp
  · split <;> simp
theorem escR_le {s : List UInt8} {n : Nat} {o : List UInt8} (h : escR s = some (n, o)) : 2 ≤ n ∧ n ≤ s.length ∧ o.length ≤ n ∧ 0 < o.length := by
  unfold escR at h
  split at h
  · rename_i hc
    obtain ⟨rfl, rfl⟩ := Prod.mk.inj (Option.some.inj h)
    have := hd_pos (s := s) (n := 1) (by rcases hc with h | h <;> rw [h] <;> decide)
    refine ⟨by omega, by omega, ?_, ?_⟩ <;> simp
  split at h
  · rename_i hc
    obtain ⟨rfl, rfl⟩ := Prod.mk.inj (Option.some.inj h)
    have := hd_pos (s := s) (n := 1) (by rw [hc]; decide)
    refine ⟨by omega, by omega, ?_, ?_⟩ <;> simp
  split at h
  · rename_i hc
    obtain ⟨rfl, rfl⟩ := Prod.mk.inj (Option.some.inj h)
    have := hd_pos (s := s) (n := 1) (by rw [hc]; decide)
    refine ⟨by omega, by omega, ?_, ?_⟩ <;> simp
  split at h
  · split at h
    · cases h
    · rename_i hn
      obtain ⟨rfl, rfl⟩ := Prod.mk.inj (Option.some.inj h)
      have := nrun_le' hn (by omega)
      refine ⟨by omega, by omega, ?_, ?_⟩ <;> simp
  split at h
  · split at h
    · cases h
    · rename_i hn
      split at h
      · cases h
      · obtain ⟨rfl, rfl⟩ := Prod.mk.inj (Option.some.inj h)
        have := nrun_le' hn (by omega)
        have := rune8R_le (hexN ((s.drop 2).take 4))
        have := rune8R_pos (hexN ((s.drop 2).take 4))
        exact ⟨by omega, by omega, by omega, by omega⟩
  · cases h
theorem stepR_le {q : UInt8} {s : List UInt8} {n : Nat} {o : List UInt8} (hs : s ≠ []) (h : stepR q s = some (n, o)) : 1 ≤ n ∧ n ≤ s.length ∧ o.length ≤ n := by
  unfold stepR at h
  split at h
  · cases h
  split at h
  · have := escR_le h
    exact ⟨by omega, by omega, by omega⟩
  split at h
  · cases h
  · obtain ⟨rfl, rfl⟩ := Prod.mk.inj (Option.some.inj h)
    refine ⟨by omega, utfR_le hs, ?_⟩
    split
    · rw [List.length_take]; omega
    · simp
theorem textF_fuel {q : UInt8} : ∀ (f g : Nat) (s : List UInt8), s.length ≤ f → s.length ≤ g → textF q f s = textF q g s
  | 0, 0, s, _, _ => rfl
  | 0, g + 1, s, h, _ => by
    obtain rfl := List.length_eq_zero_iff.1 (show s.length = 0 by omega)
    simp [textF]
  | f + 1, 0, s, _, h => by
    obtain rfl := List.length_eq_zero_iff.1 (show s.length = 0 by omega)
    simp [textF]
  | f + 1, g + 1, s, h1, h2 => by
    unfold textF
    split
    · rfl
    · rename_i hs
      split
      · rfl
      · split
        · rfl
        · rename_i n o hst
          have := stepR_le hs hst
          rw [textF_fuel f g (s.drop n) (by rw [List.length_drop]; omega) (by rw [List.length_drop]; omega)]
def textG (q : UInt8) (s : List UInt8) : Option (Nat × List UInt8) := textF q s.length s
theorem textG_nil (q : UInt8) : textG q [] = none := rfl
theorem textG_end {q : UInt8} {s : List UInt8} (hs : s ≠ []) (h : hd s 0 = q) : textG q s = some (1, []) := by
  obtain ⟨a, s, rfl⟩ := List.exists_cons_of_ne_nil hs
  show textF q (s.length + 1) _ = _
  unfold textF
  rw [if_neg (by simp), if_pos h]
theorem textG_bad {q : UInt8} {s : List UInt8} (hs : s ≠ []) (h : hd s 0 ≠ q) (hn : stepR q s = none) : textG q s = none := by
  obtain ⟨a, s, rfl⟩ := List.exists_cons_of_ne_nil hs
  show textF q (s.length + 1) _ = _
  unfold textF
  rw [if_neg (by simp), if_neg h, hn]
theorem textG_step {q : UInt8} {s : List UInt8} {n : Nat} {o : List UInt8} (hs : s ≠ []) (h : hd s 0 ≠ q) (hn : stepR q s = some (n, o)) : textG q s = comb n o (textG q (s.drop n)) := by
  have := stepR_le hs hn
  obtain ⟨a, s, rfl⟩ := List.exists_cons_of_ne_nil hs
  show textF q (s.length + 1) _ = _
  unfold textF
  rw [if_neg (by simp), if_neg h, hn]
  simp only
  unfold textG
  congr 1
  refine textF_fuel _ _ _ ?_ (Nat.le_refl _)
  rw [List.length_drop]
  simp at this ⊢
  omega
theorem textR_G {s : List UInt8} (hs : s ≠ []) : textR s = comb 1 [] (textG (hd s 0) (s.drop 1)) := by
  have := List.length_pos_iff.2 hs
  unfold textR textG
  congr 1
  refine textF_fuel _ _ _ ?_ (Nat.le_refl _)
  rw [List.length_drop]
  omega
theorem comb_comb (n m : Nat) (o p : List UInt8) (r : Option (Nat × List UInt8)) : comb n o (comb m p r) = comb (n + m) (o ++ p) r := by
  cases r with
  | none => rfl
  | some r => simp [comb, Nat.add_assoc]
def OutP (o : List UInt8) (v : V) (σ : Store) : Prop := (o = [] ∧ v = nilSl ∧ σ = []) ∨ (0 < o.length ∧ ∃ g, v = .own 0 g 0 o.length 1 none ∧ σ = [.row (cK .u8 (o.map (·.toNat))) g])
def outT (o : List UInt8) : Tree := if o = [] then .sc (.slice none 0 0) else .row (o.flatMap byE) o.length none
theorem by_nE (l : List UInt8) : (l.map (·.toNat)).flatMap (nE .u8) = l.flatMap byE := by
  rw [List.flatMap_map]; rfl
theorem by_isSl {l : List UInt8} {v : V} (h : IsSl byE l v) : IsSl (nE .u8) (l.map (·.toNat)) v := by
  rcases h with ⟨rfl, rfl⟩ | ⟨cap, rfl⟩
  · exact .inl ⟨rfl, rfl⟩
  · refine .inr ⟨cap, ?_⟩
    rw [by_nE, List.length_map]
theorem out_app {o m : List UInt8} {v x : V} {σ : Store} (h : OutP o v σ) (hx : IsSl byE m x) (hm : 0 < m.length) (hl : o.length ≤ 1000000) (hl2 : m.length ≤ 1000000) : ∃ v' σ', opAppend 1 1 v x σ = some (v', σ') ∧ OutP (o ++ m) v' σ' := by
  have hx' := by_isSl hx
  have hml : (m.map (·.toNat)).length = m.length := List.length_map ..
  rcases h with ⟨rfl, rfl, rfl⟩ | ⟨h0, g, rfl, rfl⟩
  · have := app_nil (σ := []) (b := 1) hx' (by rw [hml]; exact hm) (room_ok (by omega) (by omega))
    refine ⟨_, _, this, .inr ⟨by simpa using hm, 0, ?_, ?_⟩⟩
    · simp
    · simp
  · have := app_own (σ := [.row (cK .u8 (o.map (·.toNat))) g]) (id := 0) (n := o.length) (b := 1) (l := o.map (·.toNat)) rfl (by simp) hx' (by rw [hml]; exact hm) (room_ok (by omega) (by omega)) (room_ok (by simpa using hl) (by omega))
    refine ⟨_, _, this, .inr ⟨by rw [List.length_append]; omega, g + 1, ?_, ?_⟩⟩
    · simp
    · simp
theorem out_snap {o : List UInt8} {v : V} {σ : Store} {d : Nat} (h : OutP o v σ) : snap σ (d + 1) v = some (outT o) := by
  rcases h with ⟨rfl, rfl, rfl⟩ | ⟨h0, g, rfl, rfl⟩
  · rfl
  · have := snap_own (σ := [.row (cK .u8 (o.map (·.toNat))) g]) (id := 0) (g := g) (d := d) (n := o.length) (cap := none) (l := o.map (·.toNat)) rfl (by simp)
    rw [this, by_nE, List.length_map]
    unfold outT
    rw [if_neg (by rintro rfl; simp at h0)]
end Go.Proofs.YtolhjhjlfgfifaaGreatDoor.AM.Rd
end
