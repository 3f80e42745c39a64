/- the reader: parts 26, 27, 28, 29, 30, 31, 32, 33, 35, 36, 37. -/
import Derived.Test.YtolhjhjlfgfifaaGreatDoorRd14
set_option linter.unusedSectionVars false
section
set_option maxRecDepth 1000000
set_option linter.unusedVariables false
set_option linter.unusedSimpArgs false
namespace Go.Proofs.YtolhjhjlfgfifaaGreatDoor.AM.Rd
open Go.Proofs
def okOr (n : Nat) : Bool := match opBin .other .or (.tr (.sc (.int .u8 (n : Int)))) (.tr (.sc (.int .u8 32))) with | some (.tr (.sc (.int .u8 z))) => z == ((UInt8.ofNat n ||| 32).toNat : Int) | _ => false
theorem or_all : (List.range 256).all okOr = true := by decide +kernel
theorem or32 (c : UInt8) : opBin .other .or (u8v c) (.tr (.sc (.int .u8 32))) = some (u8v (c ||| 32)) := by
  have h1 := List.all_eq_true.1 or_all c.toNat (by simpa using c.toNat_lt)
  unfold okOr at h1
  split at h1
  · rename_i z hz
    have h2 : z = ((UInt8.ofNat c.toNat ||| 32).toNat : Int) := by simpa using h1
    rw [UInt8.ofNat_toNat] at h2
    rw [hz, h2]
  · cases h1
theorem or32_eq : ∀ (c d : UInt8), (97 ≤ d ∧ d ≤ 122) → (c ||| 32 = d ↔ c = d ∨ c = d - 32) := by
  intro c d
  have key : ∀ n m : Fin 256, 97 ≤ m.val ∧ m.val ≤ 122 → (n.val ||| 32 = m.val ↔ n.val = m.val ∨ n.val = m.val - 32) := by decide +kernel
  intro hd
  have h := key ⟨c.toNat, c.toNat_lt⟩ ⟨d.toNat, d.toNat_lt⟩ ⟨by simpa [UInt8.le_iff_toNat_le] using hd.1, by simpa [UInt8.le_iff_toNat_le] using hd.2⟩
  have h2 : (97 : Nat) ≤ d.toNat := by simpa [UInt8.le_iff_toNat_le] using hd.1
  have e1 : (c ||| 32).toNat = c.toNat ||| 32 := by simp
  have e2 : (d - 32).toNat = d.toNat - 32 := by
    rw [UInt8.toNat_sub_of_le]
    · rfl
    · rw [UInt8.le_iff_toNat_le]; simp; omega
  rw [← UInt8.toNat_inj, ← UInt8.toNat_inj, ← UInt8.toNat_inj, e1, e2]
  exact h
def trim0 (s : List UInt8) : List UInt8 := s.dropWhile (fun b => b == 48)
theorem trim_ok (s : List UInt8) (σ : Store) : callL T 157 [sv s, .tr (.sc (.string ⟨⟨[48]⟩⟩))] σ = some (sv (trim0 s), σ) := by
  refine call_ext (k := 16) T157 rfl rfl ?_
  rfl
theorem decV_cons (c : UInt8) : ∀ (n : Nat) (l : List UInt8), l.length = n → decV (c :: l) = dv c * 10 ^ n + decV l
  | 0, l, h => by
    obtain rfl := List.length_eq_zero_iff.1 h
    simp [decV]
  | n + 1, l, h => by
    have hne : l ≠ [] := by rintro rfl; simp at h
    have ih := decV_cons c n l.dropLast (by rw [List.length_dropLast]; omega)
    rw [← List.dropLast_concat_getLast hne, ← List.cons_append, decV_snoc, decV_snoc, ih, Int.pow_succ]
    generalize (10 : Int) ^ n = q
    rw [Int.mul_add, Int.add_assoc]
    congr 1
    rw [← Int.mul_assoc, Int.mul_comm 10 (dv c), Int.mul_assoc, Int.mul_comm 10 q]
theorem decV_lt : ∀ (n : Nat) (l : List UInt8), l.length = n → (∀ c ∈ l, inB 10 c = true) → 0 ≤ decV l ∧ decV l < 10 ^ n
  | 0, l, h, _ => by
    obtain rfl := List.length_eq_zero_iff.1 h
    simp [decV]
  | n + 1, l, h, ha => by
    have hne : l ≠ [] := by rintro rfl; simp at h
    have h1 := decV_lt n l.dropLast (by rw [List.length_dropLast]; omega) (fun c hc => ha c (List.dropLast_subset l hc))
    have h2 := dig10 (ha _ (List.getLast_mem hne))
    rw [← List.dropLast_concat_getLast hne, decV_snoc, Int.pow_succ]
    omega
theorem trim_iff : ∀ (l : List UInt8), (∀ c ∈ l, inB 10 c = true) → ((trim0 l).length ≤ 3 ↔ decV l ≤ 999)
  | [], _ => by simp [trim0, decV]
  | c :: l, ha => by
    have hc := dig10 (ha c (by simp))
    have ih := trim_iff l (fun x hx => ha x (by simp [hx]))
    have hd := decV_cons c _ l rfl
    by_cases h48 : c = 48
    · subst h48
      have e : trim0 (48 :: l) = trim0 l := by simp [trim0]
      have z : dv 48 = 0 := rfl
      rw [e, ih, hd, z]
      simp
    · have e : trim0 (c :: l) = c :: l := by simp [trim0, h48]
      have hl := decV_lt _ l rfl (fun x hx => ha x (by simp [hx]))
      have hc1 : 1 ≤ dv c := by
        have : c.toNat ≠ 48 := fun h => h48 (by rw [← UInt8.toNat_inj]; exact h)
        omega
      rw [e, hd]
      constructor
      · intro h
        have h3 : l.length ≤ 2 := by simpa using h
        have hp := decV_lt _ (c :: l) rfl ha
        rw [hd] at hp
        have : (10 : Int) ^ (c :: l).length ≤ 10 ^ 3 := by
          have : (10 : Nat) ^ (c :: l).length ≤ 10 ^ 3 := Nat.pow_le_pow_right (by omega) (by simpa using h)
          exact_mod_cast this
        omega
      · intro h
        rcases Nat.lt_or_ge l.length 3 with h3 | h3
        · simp; omega
        · exfalso
          have h4 : (10 : Int) ^ 3 ≤ 10 ^ l.length := by
            have : (10 : Nat) ^ 3 ≤ 10 ^ l.length := Nat.pow_le_pow_right (by omega) h3
            exact_mod_cast this
          have h5 : 1 * (10 : Int) ^ l.length ≤ dv c * 10 ^ l.length := Int.mul_le_mul_of_nonneg_right hc1 (by omega)
          omega
end Go.Proofs.YtolhjhjlfgfifaaGreatDoor.AM.Rd
end
section
set_option maxRecDepth 1000000
set_option linter.unusedVariables false
set_option linter.unusedSimpArgs false
namespace Go.Proofs.YtolhjhjlfgfifaaGreatDoor.AM.Rd
open Go.Proofs
theorem cv36 (c : UInt8) (σ : Store) : callV (callL T) (.tr (.fn (.func 71) [] [])) [u8v c] σ = some (bv (inB 10 c), σ) := by
  rw [← isD_inB]
  exact decimal_ok c σ
section
variable {σ : Store} {id : Nat} {b : List UInt8} {a : Nat} {need : Bool} {l : List Tk} {bt lv : V}
theorem sexp_ok (h : SC σ id b a need l bt lv) (hl : b.length ≤ 1000000) (ha : a ≤ b.length) (m g : UInt8) (hmg : ∀ c : UInt8, c ||| 32 = m ↔ c = m ∨ c = g) (hm0 : m ≠ 0) (hg0 : g ≠ 0) :
    ∃ σ' a' has ok, callL T 136 [.ptr id 0 0, u8v m] σ = some (.tr (.tup [.sc (.bool has), .sc (.bool ok)]), σ') ∧ SC σ' id b a' need l bt lv ∧ a ≤ a' ∧ a' ≤ b.length ∧ (expoR (b.drop a) m g = 0 → has = false ∧ ok = true ∧ a' = a) ∧ (expoR (b.drop a) m g < 0 → has = true ∧ ok = false) ∧ (0 < expoR (b.drop a) m g → has = true ∧ ok = true ∧ (a' : Int) = a + expoR (b.drop a) m g) := by
  obtain ⟨X, hX⟩ : ∃ X, expoR (b.drop a) m g = X := ⟨_, rfl⟩
  rw [hX]
  suffices hh : ∃ v σ', callL T 136 [.ptr id 0 0, u8v m] σ = some (v, σ') ∧ (∃ a' has ok, v = .tr (.tup [.sc (.bool has), .sc (.bool ok)]) ∧ SC σ' id b a' need l bt lv ∧ a ≤ a' ∧ a' ≤ b.length ∧ (X = 0 → has = false ∧ ok = true ∧ a' = a) ∧ (X < 0 → has = true ∧ ok = false) ∧ (0 < X → has = true ∧ ok = true ∧ (a' : Int) = a + X)) by
    obtain ⟨v, σ', h, a', has, ok, rfl, h2⟩ := hh
    exact ⟨σ', a', has, ok, h, h2⟩
  obtain ⟨R, hR⟩ : ∃ R : V → Store → Prop, R = fun v σ' => (∃ a' has ok, v = .tr (.tup [.sc (.bool has), .sc (.bool ok)]) ∧ SC σ' id b a' need l bt lv ∧ a ≤ a' ∧ a' ≤ b.length ∧ (X = 0 → has = false ∧ ok = true ∧ a' = a) ∧ (X < 0 → has = true ∧ ok = false) ∧ (0 < X → has = true ∧ ok = true ∧ (a' : Int) = a + X)) := ⟨_, rfl⟩
  suffices hh : ∃ v σ', callL T 136 [.ptr id 0 0, u8v m] σ = some (v, σ') ∧ R v σ' by rwa [hR] at hh
  refine call_shared T136 rfl rfl ?_
  have ah := ahead_ok h hl (by omega) (k := 0) (by omega) (z := 0) rfl
  rw [Nat.add_zero] at ah
  have o0 := or32 (hd b a)
  have e0 : hd (b.drop a) 0 = hd b a := by rw [hd_drop]; rfl
  have e1 : hd (b.drop a) 1 = hd b (a + 1) := hd_drop 1
  by_cases hmark : hd b a ||| 32 = m
  · have hmz : ((hd b a ||| 32).toNat : Int) = (m.toNat : Int) := by rw [hmark]
    rw [hmark] at o0
    have hin : a < b.length := by
      refine hd_pos ?_
      rcases (hmg _).1 hmark with h | h <;> rw [h] <;> assumption
    obtain ⟨σ1, s1, hs1⟩ := sc_s1 h (a' := a + 1) (z := (a : Int) + 1) (by omega)
    have w1 : IntKind.i64.wrap ((a : Int) + 1) = (a : Int) + 1 := w64z (by omega) (by omega)
    have l1 := sc_l1 h
    have ah1 := ahead_ok hs1 hl (by omega) (k := 0) (by omega) (z := 0) rfl
    rw [Nat.add_zero] at ah1
    have hXs : X = expoR (b.drop a) m g := hX.symm
    unfold expoR at hXs
    rw [e0, e1, if_neg (by rcases (hmg _).1 hmark with h | h <;> simp [h])] at hXs
    have tail : ∀ (K : Nat) σ2, (K = 1 ∨ K = 2) → (if hd b (a + 1) = 43 ∨ hd b (a + 1) = 45 then 2 else 1) = K → a + K ≤ b.length → SC σ2 id b (a + K) need l bt lv → ∀ e L, look e 0 = some (.ptr id 0 0) →
        wpc T k136_7 ⟨e, L, σ2⟩ (giv [.tmp 4, .tmp 5] R) := by
      intro K σ2 hK hKe hKl hs2 e L h0
      rw [hKe] at hXs
      simp only [List.drop_drop] at hXs
      obtain ⟨σ3, hr, hs3⟩ := run_ok hs2 hl (inB 10) _ cv36 (by omega)
      obtain ⟨N, hN⟩ : ∃ N, nrun (inB 10) (b.drop (a + K)) = N := ⟨_, rfl⟩
      have hNl : N ≤ b.length - (a + K) := by rw [← hN, ← List.length_drop]; exact nrun_le
      rw [hN] at hr hs3 hXs
      have k1 := sc_l1 hs2
      have k0 := sc_l0 hs3
      have k2 := sc_l1 hs3
      obtain ⟨t', ht1, ht2⟩ := bv_cut hs3.2.1 (lo := a + K) (hi := a + K + N) (by omega) (by omega) (y := (a + K : Nat)) (z := (a + K + N : Nat)) rfl rfl
      rw [show a + K + N - (a + K) = N by omega] at ht2
      obtain ⟨D, hD⟩ : ∃ D, (b.drop (a + K)).take N = D := ⟨_, rfl⟩
      rw [hD] at ht2 hXs
      have hstr := ht2.1
      have htr := trim_ok D σ3
      have hdig : ∀ c ∈ D, inB 10 c = true := by
        intro c hc
        rw [← hD] at hc
        obtain ⟨j, hj⟩ := List.mem_iff_getElem?.1 hc
        rw [List.getElem?_take] at hj
        split at hj
        · rename_i hjN
          obtain ⟨c2, h5, h6⟩ := nrun_lt (p := inB 10) (s := b.drop (a + K)) (n := j) (by omega)
          rw [hj] at h5
          cases h5
          exact h6
        · cases hj
      have hti := trim_iff D hdig
      have hlen0 : ∀ σ, opLen 0 (sv (trim0 D)) σ = some (nv .i64 (trim0 D).length) := fun σ => rfl
      obtain ⟨TL', hTL⟩ : ∃ n, (trim0 D).length = n := ⟨_, rfl⟩
      rw [hTL] at hti hlen0
      by_cases hN0 : N = 0
      · have hX0 : X = -1 := by rw [hXs, if_pos hN0]
        have hNz : (0 < N) = False := by simp; exact hN0
        simp [k136_7, h0, sc_nc, sc_f, k1, k2, k0, hr, ht1, hstr, htr, hNz]
        rw [hR]
        exact ⟨a + K + N, true, false, rfl, hs3, by omega, by omega, by omega, fun _ => ⟨rfl, rfl⟩, by omega⟩
      · have hNz : 0 < N := by omega
        by_cases h3 : TL' ≤ 3
        · have hX1 : X = ((K + N : Nat) : Int) := by rw [hXs, if_neg hN0, if_neg (by have := hti.1 h3; omega)]
          have h3z : (TL' : Int) ≤ 3 := by omega
          simp [k136_7, h0, sc_nc, sc_f, k1, k2, k0, hr, ht1, hstr, htr, hlen0, hNz, h3z]
          rw [hR]
          exact ⟨a + K + N, true, true, rfl, hs3, by omega, by omega, by omega, by omega, fun _ => ⟨rfl, rfl, by omega⟩⟩
        · have hX1 : X = -1 := by
            rw [hXs, if_neg hN0, if_pos]
            have : ¬ decV D ≤ 999 := fun h => h3 (hti.2 h)
            omega
          have h3z : ¬ (TL' : Int) ≤ 3 := by omega
          simp [k136_7, h0, sc_nc, sc_f, k1, k2, k0, hr, ht1, hstr, htr, hlen0, hNz, h3z]
          rw [hR]
          exact ⟨a + K + N, true, false, rfl, hs3, by omega, by omega, by omega, fun _ => ⟨rfl, rfl⟩, by omega⟩
    have l1' := sc_l1 hs1
    by_cases c1 : hd b (a + 1) = 43
    · have c1z : ((hd b (a + 1)).toNat : Int) = 43 := by rw [c1]; rfl
      have c1n : (hd b (a + 1)).toNat = 43 := by omega
      have hin1 : a + 1 < b.length := hd_pos (by rw [c1]; decide)
      obtain ⟨σ2, s2, hs2⟩ := sc_s1 hs1 (a' := a + 2) (z := (a : Int) + 1 + 1) (by omega)
      have w2 : IntKind.i64.wrap ((a : Int) + 1 + 1) = (a : Int) + 1 + 1 := w64z (by omega) (by omega)
      simp [k136_3, sc_nc, sc_f, ah, o0, w1, w2, l1, l1', s1, s2, ah1, c1n]
      refine tail 2 σ2 (.inr rfl) (by rw [if_pos (.inl c1)]) (by omega) hs2 _ _ ?_
      simp
    · have c1z : ¬ ((hd b (a + 1)).toNat : Int) = 43 := fun h => c1 (u8_eq (c := 43) |>.1 h)
      have c1n : ¬ (hd b (a + 1)).toNat = 43 := by omega
      by_cases c2 : hd b (a + 1) = 45
      · have c2z : ((hd b (a + 1)).toNat : Int) = 45 := by rw [c2]; rfl
        have c2n : (hd b (a + 1)).toNat = 45 := by omega
        have hin1 : a + 1 < b.length := hd_pos (by rw [c2]; decide)
        obtain ⟨σ2, s2, hs2⟩ := sc_s1 hs1 (a' := a + 2) (z := (a : Int) + 1 + 1) (by omega)
        have w2 : IntKind.i64.wrap ((a : Int) + 1 + 1) = (a : Int) + 1 + 1 := w64z (by omega) (by omega)
        simp [k136_3, sc_nc, sc_f, ah, o0, w1, w2, l1, l1', s1, s2, ah1, c2n]
        refine tail 2 σ2 (.inr rfl) (by rw [if_pos (.inr c2)]) (by omega) hs2 _ _ ?_
        simp
      · have c2z : ¬ ((hd b (a + 1)).toNat : Int) = 45 := fun h => c2 (u8_eq (c := 45) |>.1 h)
        have c2n : ¬ (hd b (a + 1)).toNat = 45 := by omega
        simp [k136_3, sc_nc, sc_f, ah, o0, w1, l1, s1, ah1, c1z, c2z]
        refine tail 1 σ1 (.inl rfl) (by rw [if_neg (by simp [c1, c2])]) (by omega) hs1 _ _ ?_
        simp
  · have hmz : ¬ ((hd b a ||| 32).toNat : Int) = (m.toNat : Int) := fun h => hmark (u8_eq.1 h)
    have hX0 : X = 0 := by
      rw [← hX]
      unfold expoR
      rw [e0, if_pos]
      have := fun h => hmark ((hmg (hd b a)).2 h)
      exact ⟨fun h => this (.inl h), fun h => this (.inr h)⟩
    have hmn : ¬ (hd b a ||| 32).toNat = m.toNat := by omega
    obtain ⟨oc, hoc⟩ : ∃ oc, hd b a ||| 32 = oc := ⟨_, rfl⟩
    rw [hoc] at o0 hmz hmn
    simp [k136_3, ah, o0, hmz]
    rw [hR]
    exact ⟨a, false, true, rfl, h, by omega, ha, fun _ => ⟨rfl, rfl, rfl⟩, by omega, by omega⟩
end
end Go.Proofs.YtolhjhjlfgfifaaGreatDoor.AM.Rd
end
section
set_option maxRecDepth 1000000
set_option linter.unusedVariables false
set_option linter.unusedSimpArgs false
namespace Go.Proofs.YtolhjhjlfgfifaaGreatDoor.AM.Rd
open Go.Proofs
def plainR (s : List UInt8) (n k : Nat) (pt : Bool) : Option (Nat × Nat) :=
  if expoR (s.drop k) 101 69 < 0 then none else
  if ¬ (pt = true ∨ 0 < expoR (s.drop k) 101 69) ∧ 1 < n ∧ hd s 0 = 48 then none else some (if pt = true ∨ 0 < expoR (s.drop k) 101 69 then 3 else 2, k + (expoR (s.drop k) 101 69).toNat)
theorem numP_plain (s : List UInt8) (n k : Nat) (pt : Bool) : numP s n k pt = match plainR s n k pt with | none => none | some (kd, k') => numFin s kd k' := by
  unfold numP plainR
  split
  · rfl
  · split <;> rfl
def plainS (s : List UInt8) : Option (Nat × Nat) :=
  if hd s (nrun (inB 10) s) = 46 then plainR s (nrun (inB 10) s) (nrun (inB 10) s + 1 + nrun (inB 10) (s.drop (nrun (inB 10) s + 1))) true
  else plainR s (nrun (inB 10) s) (nrun (inB 10) s) false
section
variable {σ : Store} {id : Nat} {b : List UInt8} {a : Nat} {need : Bool} {l : List Tk} {bt lv : V}
def NumA (id : Nat) (b : List UInt8) (a : Nat) (need : Bool) (l : List Tk) (bt lv : V) (r : Option (Nat × Nat)) (v : V) (σ' : Store) : Prop :=
  ∃ (a' kind : Nat) (ok : Bool), v = .tr (.tup [.sc (.int .i64 (kind : Int)), .sc (.bool ok)]) ∧ SC σ' id b a' need l bt lv ∧ a' ≤ b.length ∧ (match r with | none => ok = false | some (kd, k) => ok = true ∧ kind = kd ∧ a' = a + k)
theorem or101 : ∀ c : UInt8, c ||| 32 = 101 ↔ c = 101 ∨ c = 69 := fun c => or32_eq c 101 (by decide)
theorem or112 : ∀ c : UInt8, c ||| 32 = 112 ↔ c = 112 ∨ c = 80 := fun c => or32_eq c 112 (by decide)
theorem splain_ok (h : SC σ id b a need l bt lv) (hl : b.length ≤ 1000000) (hin : a < b.length) (hfirst : inB 10 (hd b a) = true ∨ (hd b a = 46 ∧ inB 10 (hd b (a + 1)) = true)) :
    ∃ v σ', callL T 110 [.ptr id 0 0] σ = some (v, σ') ∧ NumA id b a need l bt lv (plainS (b.drop a)) v σ' := by
  obtain ⟨RES, hRES⟩ : ∃ r, plainS (b.drop a) = r := ⟨_, rfl⟩
  rw [hRES]
  obtain ⟨R, hR⟩ : ∃ R : V → Store → Prop, R = NumA id b a need l bt lv RES := ⟨_, rfl⟩
  rw [← hR]
  refine call_shared T110 rfl rfl ?_
  have l1 := sc_l1 h
  obtain ⟨σ1, r1, hs1⟩ := run_ok h hl (inB 10) _ cv36 (by omega)
  obtain ⟨N, hN⟩ : ∃ N, nrun (inB 10) (b.drop a) = N := ⟨_, rfl⟩
  have hNl : N ≤ b.length - a := by rw [← hN, ← List.length_drop]; exact nrun_le
  rw [hN] at r1 hs1
  obtain ⟨c, hc⟩ := some_of hin
  have hca : hd b a = c := hd_of hc
  have ec : hd (b.drop a) 0 = c := by rw [hd_drop]; exact hca
  have n0 := sc_l0 hs1
  have n1 := sc_l1 hs1
  obtain ⟨p, hp1, hp2⟩ := bv_at hs1.2.1 hc (z := (a : Int)) rfl
  have ah1 := ahead_ok hs1 hl (by omega) (k := 0) (by omega) (z := 0) rfl
  rw [Nat.add_zero] at ah1
  have hdk : hd (b.drop a) N = hd b (a + N) := hd_drop N
  obtain ⟨d, hd0⟩ : ∃ d, hd b (a + N) = d := ⟨_, rfl⟩
  rw [hd0] at ah1 hdk
  unfold plainS at hRES
  rw [hN, hdk, List.drop_drop] at hRES
  obtain ⟨wh, hwh⟩ : ∃ w : Bool, w = (decide (N = 1) || !decide (c = 48)) := ⟨_, rfl⟩
  have tail : ∀ (σ2 : Store) (n k : Nat) (pt : Bool), k ≤ b.length - a → n ≤ b.length → SC σ2 id b (a + k) need l bt lv → RES = plainR (b.drop a) N k pt → (pt = true → 0 < n) → (pt = false → n = N ∧ 0 < N) → ∀ e L, look e 0 = some (.ptr id 0 0) → look e 5 = some (nv .i64 n) → look e 6 = some (bv wh) → look e 7 = some (bv pt) → wpc T k110_7 ⟨e, L, σ2⟩ (giv [.tmp 2, .tmp 3] R) := by
    intro σ2 n k pt hk hnl hs2 hRES hp hnp e L h0 h5 h6 h7
    obtain ⟨σ3, a', has, ok, hcall, hs3, ha1, ha2, hz, hneg, hpos⟩ := sexp_ok hs2 hl (by omega) 101 69 or101 (by decide) (by decide)
    unfold plainR at hRES
    rw [List.drop_drop, ec] at hRES
    obtain ⟨X, hX⟩ : ∃ X, expoR (b.drop (a + k)) 101 69 = X := ⟨_, rfl⟩
    rw [hX] at hz hneg hpos hRES
    have hcall' : callL T 136 [.ptr id 0 0, .tr (.sc (.int .u8 101))] σ2 = some (.tr (.tup [.sc (.bool has), .sc (.bool ok)]), σ3) := hcall
    rcases Int.lt_trichotomy X 0 with hx | hx | hx
    · obtain ⟨rfl, rfl⟩ := hneg hx
      rw [if_pos hx] at hRES
      cases pt <;> simp [k110_7, h0, h7, hcall', opExtract] <;> (rw [hR, hRES]; exact ⟨a', 3, false, rfl, hs3, ha2, rfl⟩)
    · obtain ⟨rfl, rfl, rfl⟩ := hz hx
      rw [if_neg (by omega), hx] at hRES
      cases pt with
      | true =>
        have hn : 0 < n := hp rfl
        rw [if_neg (by simp), if_pos (.inl rfl)] at hRES
        simp [k110_7, h0, h5, h7, hcall', opExtract, hn]
        rw [hR, hRES]
        exact ⟨a + k, 3, true, rfl, hs3, ha2, rfl, rfl, by simp⟩
      | false =>
        obtain ⟨rfl, hn⟩ := hnp rfl
        simp [k110_7, k110_11, h0, h6, h7, hcall', opExtract]
        rw [hR]
        by_cases hbad : 1 < n ∧ c = 48
        · have hw : wh = false := by
            have h1 := hbad.1
            have h2 : decide (n = 1) = false := decide_eq_false (by omega)
            rw [hwh, hbad.2, h2]
            rfl
          subst hw
          rw [if_pos ⟨by simp, hbad⟩] at hRES
          rw [hRES]
          exact ⟨a + k, 2, false, rfl, hs3, ha2, rfl⟩
        · have hw : wh = true := by
            rw [hwh]
            by_cases h48 : c = 48
            · have : n = 1 := by
                have h3 : ¬ 1 < n := fun h => hbad ⟨h, h48⟩
                omega
              simp [this]
            · simp [h48]
          subst hw
          rw [if_neg (fun h => hbad h.2), if_neg (by simp)] at hRES
          rw [hRES]
          exact ⟨a + k, 2, true, rfl, hs3, ha2, rfl, rfl, by simp⟩
    · obtain ⟨rfl, rfl, hpe⟩ := hpos hx
      rw [if_neg (by omega), if_neg (fun h => h.1 (.inr hx)), if_pos (.inr hx)] at hRES
      have hn : 0 < n := by cases pt with | true => exact hp rfl | false => have := hnp rfl; omega
      cases pt <;> simp [k110_7, h0, h5, h7, hcall', opExtract, hn] <;> (rw [hR, hRES]; exact ⟨a', 3, true, rfl, hs3, ha2, rfl, rfl, by omega⟩)
  have hN1 : d = 46 ∨ 0 < N := by
    rcases Nat.eq_zero_or_pos N with h0 | h0
    · left
      have h00 : (b.drop a)[0]? = some c := by simpa using hc
      have hf := nrun_at (p := inB 10) (s := b.drop a) (c := c) (by rw [hN, h0]; exact h00)
      rcases hfirst with h | h
      · rw [hca, hf] at h; cases h
      · rw [← hd0, h0]; exact h.1
    · exact .inr h0
  have hcase : ∀ (P : Prop), (N = 1 → P) → (¬ N = 1 → c = 48 → P) → (¬ N = 1 → ¬ c = 48 → P) → P := by
    intro P p1 p2 p3
    by_cases g1 : N = 1
    · exact p1 g1
    · by_cases g2 : c = 48
      · exact p2 g1 g2
      · exact p3 g1 g2
  have hq3 : opIaddr 1 bt (nv .i64 a) σ1 = some p := hp1
  by_cases hd46 : d = 46
  · rw [if_pos hd46] at hRES
    have dz : (d.toNat : Int) = 46 := by rw [hd46]; rfl
    have dn : d.toNat = 46 := by omega
    have hpt : a + N < b.length := hd_pos (by rw [hd0, hd46]; decide)
    obtain ⟨σ2, s1, hs2⟩ := sc_s1 hs1 (a' := a + N + 1) (z := (a : Int) + N + 1) (by omega)
    obtain ⟨σ3, r2, hs3⟩ := run_ok hs2 hl (inB 10) _ cv36 (by omega)
    obtain ⟨M, hM⟩ : ∃ M, nrun (inB 10) (b.drop (a + N + 1)) = M := ⟨_, rfl⟩
    have hMl : M ≤ b.length - (a + N + 1) := by rw [← hM, ← List.length_drop]; exact nrun_le
    rw [hM] at r2 hs3
    rw [show a + (N + 1) = a + N + 1 by omega, hM] at hRES
    have w1 : IntKind.i64.wrap ((a : Int) + N + 1) = (a : Int) + N + 1 := w64z (by omega) (by omega)
    have w2 : IntKind.i64.wrap ((N : Int) + M) = (N : Int) + M := w64z (by omega) (by omega)
    have hs3' : SC σ3 id b (a + (N + 1 + M)) need l bt lv := by rw [show a + (N + 1 + M) = a + N + 1 + M by omega]; exact hs3
    have hnm : 0 < N + M := by
      rcases Nat.eq_zero_or_pos N with h0 | h0
      · rcases hfirst with h | h
        · rw [hca] at h
          have h00 : (b.drop a)[0]? = some c := by simpa using hc
          have hf := nrun_at (p := inB 10) (s := b.drop a) (c := c) (by rw [hN, h0]; exact h00)
          rw [hf] at h; cases h
        · rcases Nat.eq_zero_or_pos M with m0 | m0
          · have hlt : a + 1 < b.length := hd_pos (by
              intro h1
              rw [h1] at h
              exact absurd h.2 (by decide))
            obtain ⟨x, hx⟩ := some_of hlt
            have h00 : (b.drop (a + N + 1))[0]? = some x := by rw [h0]; simpa using hx
            have hf := nrun_at (p := inB 10) (s := b.drop (a + N + 1)) (c := x) (by rw [hM, m0]; exact h00)
            rw [hd_of hx, hf] at h
            cases h.2
          · omega
      · omega
    have fin := fun e L g0 g5 g6 g7 => tail σ3 (N + M) (N + 1 + M) true (by omega) (by omega) hs3' hRES.symm (fun _ => hnm) (fun h => by cases h) e L g0 g5 g6 g7
    clear tail
    refine hcase _ (fun g1 => ?_) (fun g1 g2 => ?_) (fun g1 g2 => ?_)
    · have hw : wh = true := by rw [hwh]; simp [g1]
      subst hw
      have g1z : (N : Int) = 1 := by omega
      have g1e : (N = 1) = True := by simp [g1]
      have g1f : ((N : Int) = 1) = True := by simp [g1]
      simp [sc_nc, sc_f, l1, r1, n1, ah1, dn, s1, r2, w1, w2, g1f]
      refine fin _ _ ?_ ?_ ?_ ?_ <;> simp
    · have hw : wh = false := by rw [hwh]; simp [g1, g2]
      subst hw
      have g1z : ¬ (N : Int) = 1 := by omega
      have g2z : (c.toNat : Int) = 48 := by rw [g2]; rfl
      have g2n : c.toNat = 48 := by omega
      simp [sc_nc, sc_f, l1, r1, n0, n1, hq3, hp2, ah1, dn, s1, r2, w1, w2, g1z, g2n]
      refine fin _ _ ?_ ?_ ?_ ?_ <;> simp
    · have hw : wh = true := by rw [hwh]; simp [g2]
      subst hw
      have g1z : ¬ (N : Int) = 1 := by omega
      have g2z : ¬ (c.toNat : Int) = 48 := fun h => g2 (u8_eq (c := 48) |>.1 h)
      have g2n : ¬ c.toNat = 48 := by omega
      simp [sc_nc, sc_f, l1, r1, n0, n1, hq3, hp2, ah1, dn, s1, r2, w1, w2, g1z, g2z]
      refine fin _ _ ?_ ?_ ?_ ?_ <;> simp
  · rw [if_neg hd46] at hRES
    have dz : ¬ (d.toNat : Int) = 46 := fun h => hd46 (u8_eq (c := 46) |>.1 h)
    have dn : ¬ d.toNat = 46 := by omega
    have hN0 : 0 < N := hN1.resolve_left hd46
    have fin := fun e L g0 g5 g6 g7 => tail σ1 N N false (by omega) (by omega) hs1 hRES.symm (fun h => by cases h) (fun _ => ⟨rfl, hN0⟩) e L g0 g5 g6 g7
    clear tail
    refine hcase _ (fun g1 => ?_) (fun g1 g2 => ?_) (fun g1 g2 => ?_)
    · have hw : wh = true := by rw [hwh]; simp [g1]
      subst hw
      have g1e : (N = 1) = True := by simp [g1]
      have g1f : ((N : Int) = 1) = True := by simp [g1]
      simp [sc_nc, sc_f, l1, r1, ah1, dz, g1f]
      refine fin _ _ ?_ ?_ ?_ ?_ <;> simp
    · have hw : wh = false := by rw [hwh]; simp [g1, g2]
      subst hw
      have g1z : ¬ (N : Int) = 1 := by omega
      have g2z : (c.toNat : Int) = 48 := by rw [g2]; rfl
      have g2n : c.toNat = 48 := by omega
      simp [sc_nc, sc_f, l1, r1, n0, hq3, hp2, ah1, dz, g1z, g2n]
      refine fin _ _ ?_ ?_ ?_ ?_ <;> simp
    · have hw : wh = true := by rw [hwh]; simp [g2]
      subst hw
      have g1z : ¬ (N : Int) = 1 := by omega
      have g2z : ¬ (c.toNat : Int) = 48 := fun h => g2 (u8_eq (c := 48) |>.1 h)
      have g2n : ¬ c.toNat = 48 := by omega
      simp [sc_nc, sc_f, l1, r1, n0, hq3, hp2, ah1, dz, g1z, g2z]
      refine fin _ _ ?_ ?_ ?_ ?_ <;> simp
end
end Go.Proofs.YtolhjhjlfgfifaaGreatDoor.AM.Rd
end
section
set_option maxRecDepth 1000000
set_option linter.unusedVariables false
set_option linter.unusedSimpArgs false
namespace Go.Proofs.YtolhjhjlfgfifaaGreatDoor.AM.Rd
open Go.Proofs
theorem cv57 (c : UInt8) (σ : Store) : callV (callL T) (.tr (.fn (.func 139) [] [])) [u8v c] σ = some (bv (inB 16 c), σ) := hex_ok c σ
theorem cv71 (c : UInt8) (σ : Store) : callV (callL T) (.tr (.fn (.func 137) [] [])) [u8v c] σ = some (bv (inB 8 c), σ) := octal_ok c σ
theorem cv72 (c : UInt8) (σ : Store) : callV (callL T) (.tr (.fn (.func 138) [] [])) [u8v c] σ = some (bv (inB 2 c), σ) := binary_ok c σ
def hexR (s : List UInt8) (n k : Nat) (pt : Bool) : Option (Nat × Nat) :=
  if n = 0 ∨ expoR (s.drop k) 112 80 < 0 ∨ (expoR (s.drop k) 112 80 = 0 ∧ pt = true) then none else some (if pt = true ∨ 0 < expoR (s.drop k) 112 80 then 3 else 2, k + (expoR (s.drop k) 112 80).toNat)
theorem numX_hex (s : List UInt8) (n k : Nat) (pt : Bool) : numX s n k pt = match hexR s n k pt with | none => none | some (kd, k') => numFin s kd k' := by
  unfold numX hexR
  split <;> rfl
def prefS (s : List UInt8) : Option (Nat × Nat) :=
  if hd s 1 = 111 ∨ hd s 1 = 79 then (if nrun (inB 8) (s.drop 2) = 0 then none else some (2, 2 + nrun (inB 8) (s.drop 2))) else
  if hd s 1 = 98 ∨ hd s 1 = 66 then (if nrun (inB 2) (s.drop 2) = 0 then none else some (2, 2 + nrun (inB 2) (s.drop 2))) else
  if hd s (2 + nrun (inB 16) (s.drop 2)) = 46 then hexR s (nrun (inB 16) (s.drop 2) + nrun (inB 16) (s.drop (2 + nrun (inB 16) (s.drop 2) + 1))) (2 + nrun (inB 16) (s.drop 2) + 1 + nrun (inB 16) (s.drop (2 + nrun (inB 16) (s.drop 2) + 1))) true
  else hexR s (nrun (inB 16) (s.drop 2)) (2 + nrun (inB 16) (s.drop 2)) false
def isPref (s : List UInt8) : Prop := hd s 0 = 48 ∧ (hd s 1 = 120 ∨ hd s 1 = 88 ∨ hd s 1 = 111 ∨ hd s 1 = 79 ∨ hd s 1 = 98 ∨ hd s 1 = 66)
theorem numberR_two (s : List UInt8) : (isPref s → numberR s = match prefS s with | none => none | some (kd, k) => numFin s kd k) ∧ (¬ isPref s → numberR s = match plainS s with | none => none | some (kd, k) => numFin s kd k) := by
  constructor
  · intro h
    unfold numberR prefS
    by_cases hx : hd s 1 = 120 ∨ hd s 1 = 88
    · have no : ¬ (hd s 1 = 111 ∨ hd s 1 = 79) := by rcases hx with h | h <;> rw [h] <;> decide
      have nb : ¬ (hd s 1 = 98 ∨ hd s 1 = 66) := by rcases hx with h | h <;> rw [h] <;> decide
      rw [if_pos ⟨h.1, hx⟩, if_neg no, if_neg nb]
      by_cases h46 : hd s (2 + nrun (inB 16) (s.drop 2)) = 46
      · rw [if_pos h46, if_pos h46, numX_hex]
      · rw [if_neg h46, if_neg h46, numX_hex]
    · rw [if_neg (fun h => hx h.2)]
      have h1 : hd s 1 = 111 ∨ hd s 1 = 79 ∨ hd s 1 = 98 ∨ hd s 1 = 66 := by
        rcases h.2 with h | h | h
        · exact absurd (.inl h) hx
        · exact absurd (.inr h) hx
        · exact h
      rw [if_pos ⟨h.1, h1⟩]
      by_cases ho : hd s 1 = 111 ∨ hd s 1 = 79
      · rw [if_neg (show ¬ (hd s 1 = 98 ∨ hd s 1 = 66) by rcases ho with h | h <;> rw [h] <;> decide), if_pos ho]
        by_cases h0 : nrun (inB 8) (s.drop 2) = 0
        · rw [if_pos h0, if_pos h0]
        · rw [if_neg h0, if_neg h0]
      · have hb : hd s 1 = 98 ∨ hd s 1 = 66 := by
          rcases h1 with h | h | h
          · exact absurd (.inl h) ho
          · exact absurd (.inr h) ho
          · exact h
        rw [if_pos hb, if_neg ho, if_pos hb]
        by_cases h0 : nrun (inB 2) (s.drop 2) = 0
        · rw [if_pos h0, if_pos h0]
        · rw [if_neg h0, if_neg h0]
  · intro h
    unfold numberR plainS
    rw [if_neg (fun g => h ⟨g.1, by rcases g.2 with h | h <;> simp [h]⟩), if_neg (fun g => h ⟨g.1, by rcases g.2 with h | h | h | h <;> simp [h]⟩)]
    by_cases h46 : hd s (nrun (inB 10) s) = 46
    · rw [if_pos h46, if_pos h46, numP_plain]
      all_goals rfl
    · rw [if_neg h46, if_neg h46, numP_plain]
      all_goals rfl
section
variable {σ : Store} {id : Nat} {b : List UInt8} {a : Nat} {need : Bool} {l : List Tk} {bt lv : V}
theorem spref_ok (h : SC σ id b a need l bt lv) (hl : b.length ≤ 1000000) (hp : isPref (b.drop a)) :
    ∃ v σ', callL T 111 [.ptr id 0 0] σ = some (v, σ') ∧ NumA id b a need l bt lv (prefS (b.drop a)) v σ' := by
  obtain ⟨RES, hRES⟩ : ∃ r, prefS (b.drop a) = r := ⟨_, rfl⟩
  rw [hRES]
  obtain ⟨R, hR⟩ : ∃ R : V → Store → Prop, R = NumA id b a need l bt lv RES := ⟨_, rfl⟩
  rw [← hR]
  refine call_shared T111 rfl rfl ?_
  obtain ⟨d, hd0⟩ : ∃ d, hd b (a + 1) = d := ⟨_, rfl⟩
  have ed : hd (b.drop a) 1 = d := by rw [hd_drop]; exact hd0
  have hd1 := hp.2
  rw [ed] at hd1
  have hin1 : a + 1 < b.length := hd_pos (by rw [hd0]; rcases hd1 with h | h | h | h | h | h <;> rw [h] <;> decide)
  have ah0 := ahead_ok h hl (by omega) (k := 1) (by omega) (z := 1) rfl
  rw [hd0] at ah0
  have o0 := or32 d
  have l1 := sc_l1 h
  obtain ⟨σ1, s1, hs1⟩ := sc_s1 h (a' := a + 2) (z := (a : Int) + 2) (by omega)
  have w1 : IntKind.i64.wrap ((a : Int) + 2) = (a : Int) + 2 := w64z (by omega) (by omega)
  unfold prefS at hRES
  rw [ed] at hRES
  simp only [List.drop_drop, hd_drop] at hRES
  by_cases ho : d = 111 ∨ d = 79
  · rw [if_pos ho] at hRES
    have ho2 : d ||| 32 = 111 := (or32_eq d 111 (by decide)).2 ho
    rw [ho2] at o0
    obtain ⟨σ2, r2, hs2⟩ := run_ok hs1 hl (inB 8) _ cv71 (by omega)
    obtain ⟨N, hN⟩ : ∃ N, nrun (inB 8) (b.drop (a + 2)) = N := ⟨_, rfl⟩
    have hNl : N ≤ b.length - (a + 2) := by rw [← hN, ← List.length_drop]; exact nrun_le
    rw [hN] at r2 hs2 hRES
    by_cases hN0 : N = 0
    · rw [if_pos hN0] at hRES
      have hNz : (0 < N) = False := by simp; exact hN0
      simp [sc_nc, sc_f, ah0, o0, l1, w1, s1, r2, hNz]
      rw [hR, ← hRES]
      exact ⟨a + 2 + N, 2, false, rfl, hs2, by omega, rfl⟩
    · rw [if_neg hN0] at hRES
      have hNz : (0 < N) = True := by simp; omega
      simp [sc_nc, sc_f, ah0, o0, l1, w1, s1, r2, hNz]
      rw [hR, ← hRES]
      exact ⟨a + 2 + N, 2, true, rfl, hs2, by omega, rfl, rfl, by omega⟩
  rw [if_neg ho] at hRES
  have ho2 : ¬ d ||| 32 = 111 := fun h => ho ((or32_eq d 111 (by decide)).1 h)
  have ho3 : ¬ ((d ||| 32).toNat : Int) = 111 := fun h => ho2 (u8_eq (c := 111) |>.1 h)
  by_cases hb2 : d = 98 ∨ d = 66
  · rw [if_pos hb2] at hRES
    have hb3 : d ||| 32 = 98 := (or32_eq d 98 (by decide)).2 hb2
    rw [hb3] at o0
    obtain ⟨σ2, r2, hs2⟩ := run_ok hs1 hl (inB 2) _ cv72 (by omega)
    obtain ⟨N, hN⟩ : ∃ N, nrun (inB 2) (b.drop (a + 2)) = N := ⟨_, rfl⟩
    have hNl : N ≤ b.length - (a + 2) := by rw [← hN, ← List.length_drop]; exact nrun_le
    rw [hN] at r2 hs2 hRES
    by_cases hN0 : N = 0
    · rw [if_pos hN0] at hRES
      have hNz : (0 < N) = False := by simp; exact hN0
      simp [sc_nc, sc_f, ah0, o0, l1, w1, s1, r2, hNz]
      rw [hR, ← hRES]
      exact ⟨a + 2 + N, 2, false, rfl, hs2, by omega, rfl⟩
    · rw [if_neg hN0] at hRES
      have hNz : (0 < N) = True := by simp; omega
      simp [sc_nc, sc_f, ah0, o0, l1, w1, s1, r2, hNz]
      rw [hR, ← hRES]
      exact ⟨a + 2 + N, 2, true, rfl, hs2, by omega, rfl, rfl, by omega⟩
  rw [if_neg hb2] at hRES
  have hb3 : ¬ d ||| 32 = 98 := fun h => hb2 ((or32_eq d 98 (by decide)).1 h)
  have hb4 : ¬ ((d ||| 32).toNat : Int) = 98 := fun h => hb3 (u8_eq (c := 98) |>.1 h)
  obtain ⟨x, hx⟩ : ∃ x, d ||| 32 = x := ⟨_, rfl⟩
  rw [hx] at o0 ho3 hb4
  have ho4 : ¬ x.toNat = 111 := by omega
  have hb5 : ¬ x.toNat = 98 := by omega
  obtain ⟨σ2, r2, hs2⟩ := run_ok hs1 hl (inB 16) _ cv57 (by omega)
  obtain ⟨N, hN⟩ : ∃ N, nrun (inB 16) (b.drop (a + 2)) = N := ⟨_, rfl⟩
  have hNl : N ≤ b.length - (a + 2) := by rw [← hN, ← List.length_drop]; exact nrun_le
  rw [hN] at r2 hs2 hRES
  have ah2 := ahead_ok hs2 hl (by omega) (k := 0) (by omega) (z := 0) rfl
  rw [Nat.add_zero] at ah2
  obtain ⟨q, hq0⟩ : ∃ q, hd b (a + 2 + N) = q := ⟨_, rfl⟩
  rw [hq0] at ah2
  rw [show a + (2 + N) = a + 2 + N by omega, hq0] at hRES
  have n1 := sc_l1 hs2
  have tail : ∀ (σ3 : Store) (n k : Nat) (pt : Bool), a + k ≤ b.length → SC σ3 id b (a + k) need l bt lv → RES = hexR (b.drop a) n k pt → ∀ e L, look e 0 = some (.ptr id 0 0) → look e 5 = some (nv .i64 n) → look e 6 = some (bv pt) → wpc T k111_14 ⟨e, L, σ3⟩ (giv [.tmp 2, .tmp 3] R) := by
    intro σ3 n k pt hk hs3 hRES e L h0 h5 h6
    obtain ⟨σ4, a', has, ok, hcall, hs4, ha1, ha2, hz, hneg, hpos⟩ := sexp_ok hs3 hl hk 112 80 or112 (by decide) (by decide)
    unfold hexR at hRES
    rw [List.drop_drop] at hRES
    obtain ⟨X, hX⟩ : ∃ X, expoR (b.drop (a + k)) 112 80 = X := ⟨_, rfl⟩
    rw [hX] at hz hneg hpos hRES
    have hcall' : callL T 136 [.ptr id 0 0, .tr (.sc (.int .u8 112))] σ3 = some (.tr (.tup [.sc (.bool has), .sc (.bool ok)]), σ4) := hcall
    rcases Int.lt_trichotomy X 0 with hx | hx | hx
    · obtain ⟨rfl, rfl⟩ := hneg hx
      rw [if_pos (.inr (.inl hx))] at hRES
      simp [k111_14, h0, hcall', opExtract]
      rw [hR, hRES]
      exact ⟨a', 3, false, rfl, hs4, ha2, rfl⟩
    · obtain ⟨rfl, rfl, rfl⟩ := hz hx
      by_cases hn0 : n = 0
      · rw [if_pos (.inl hn0)] at hRES
        have hnz : (0 < n) = False := by simp; exact hn0
        simp [k111_14, k111_18, h0, h5, hcall', opExtract, hnz]
        rw [hR, hRES]
        exact ⟨a + k, 2, false, rfl, hs4, ha2, rfl⟩
      · have hnz : (0 < n) = True := by simp; omega
        cases pt with
        | true =>
          rw [if_pos (.inr (.inr ⟨hx, rfl⟩))] at hRES
          simp [k111_14, k111_18, h0, h5, h6, hcall', opExtract, hnz]
          rw [hR, hRES]
          exact ⟨a + k, 2, false, rfl, hs4, ha2, rfl⟩
        | false =>
          rw [if_neg (by rw [hx]; simp [hn0]), if_neg (by rw [hx]; simp), hx] at hRES
          simp [k111_14, k111_18, h0, h5, h6, hcall', opExtract, hnz]
          rw [hR, hRES]
          exact ⟨a + k, 2, true, rfl, hs4, ha2, rfl, rfl, by simp⟩
    · obtain ⟨rfl, rfl, hpe⟩ := hpos hx
      by_cases hn0 : n = 0
      · rw [if_pos (.inl hn0)] at hRES
        have hnz : (0 < n) = False := by simp; exact hn0
        simp [k111_14, h0, h5, hcall', opExtract, hnz]
        rw [hR, hRES]
        exact ⟨a', 3, false, rfl, hs4, ha2, rfl⟩
      · have hnz : (0 < n) = True := by simp; omega
        rw [if_neg (by rintro (h | h | h) <;> omega), if_pos (.inr hx)] at hRES
        simp [k111_14, h0, h5, hcall', opExtract, hnz]
        rw [hR, hRES]
        exact ⟨a', 3, true, rfl, hs4, ha2, rfl, rfl, by omega⟩
  by_cases hq46 : q = 46
  · rw [if_pos hq46] at hRES
    have qz : (q.toNat : Int) = 46 := by rw [hq46]; rfl
    have qn : q.toNat = 46 := by omega
    have hin2 : a + 2 + N < b.length := hd_pos (by rw [hq0, hq46]; decide)
    obtain ⟨σ3, s3, hs3⟩ := sc_s1 hs2 (a' := a + 2 + N + 1) (z := (a : Int) + 2 + N + 1) (by omega)
    obtain ⟨σ4, r4, hs4⟩ := run_ok hs3 hl (inB 16) _ cv57 (by omega)
    obtain ⟨M, hM⟩ : ∃ M, nrun (inB 16) (b.drop (a + 2 + N + 1)) = M := ⟨_, rfl⟩
    have hMl : M ≤ b.length - (a + 2 + N + 1) := by rw [← hM, ← List.length_drop]; exact nrun_le
    rw [hM] at r4 hs4
    rw [show a + (2 + N + 1) = a + 2 + N + 1 by omega, hM] at hRES
    have w2 : IntKind.i64.wrap ((a : Int) + 2 + N + 1) = (a : Int) + 2 + N + 1 := w64z (by omega) (by omega)
    have w3 : IntKind.i64.wrap ((N : Int) + M) = (N : Int) + M := w64z (by omega) (by omega)
    have hs4' : SC σ4 id b (a + (2 + N + 1 + M)) need l bt lv := by rw [show a + (2 + N + 1 + M) = a + 2 + N + 1 + M by omega]; exact hs4
    have fin := fun e L g0 g5 g6 => tail σ4 (N + M) (2 + N + 1 + M) true (by omega) hs4' hRES.symm e L g0 g5 g6
    clear tail
    simp [k111_9, sc_nc, sc_f, ah0, o0, ho3, hb4, l1, w1, s1, r2, ah2, qn, n1, w2, s3, r4, w3]
    refine fin _ _ ?_ ?_ ?_ <;> simp
  · rw [if_neg hq46] at hRES
    have qz : ¬ (q.toNat : Int) = 46 := fun h => hq46 (u8_eq (c := 46) |>.1 h)
    have qn : ¬ q.toNat = 46 := by omega
    have hs2' : SC σ2 id b (a + (2 + N)) need l bt lv := by rw [show a + (2 + N) = a + 2 + N by omega]; exact hs2
    have fin := fun e L g0 g5 g6 => tail σ2 N (2 + N) false (by omega) hs2' hRES.symm e L g0 g5 g6
    clear tail
    simp [k111_9, sc_nc, sc_f, ah0, o0, ho3, hb4, l1, w1, s1, r2, ah2, qz]
    refine fin _ _ ?_ ?_ ?_ <;> simp
end
end Go.Proofs.YtolhjhjlfgfifaaGreatDoor.AM.Rd
end
section
set_option maxRecDepth 1000000
set_option linter.unusedVariables false
set_option linter.unusedSimpArgs false
namespace Go.Proofs.YtolhjhjlfgfifaaGreatDoor.AM.Rd
open Go.Proofs
section
variable {σ : Store} {id : Nat} {b : List UInt8} {a : Nat} {need : Bool} {l : List Tk} {bt lv : V}
theorem snum_ok (h : SC σ id b a need l bt lv) (hl : b.length ≤ 1000000) (hll : l.length ≤ 3000000) (hin : a < b.length) (hfirst : inB 10 (hd b a) = true ∨ (hd b a = 46 ∧ inB 10 (hd b (a + 1)) = true)) :
    ∃ r σ', callL T 73 [.ptr id 0 0] σ = some (bv r, σ') ∧ (match numberR (b.drop a) with | none => r = false | some (kd, n) => r = true ∧ ∃ lv', SC σ' id b (a + n) need (l ++ [⟨kd, (b.drop a).take n, a⟩]) bt lv') := by
  obtain ⟨RES, hRES⟩ : ∃ r, numberR (b.drop a) = r := ⟨_, rfl⟩
  rw [hRES]
  obtain ⟨R, hR⟩ : ∃ R : V → Store → Prop, R = fun v σ' => ∃ r, v = bv r ∧ (match RES with | none => r = false | some (kd, n) => r = true ∧ ∃ lv', SC σ' id b (a + n) need (l ++ [⟨kd, (b.drop a).take n, a⟩]) bt lv') := ⟨_, rfl⟩
  suffices hh : ∃ v σ', callL T 73 [.ptr id 0 0] σ = some (v, σ') ∧ R v σ' by
    obtain ⟨v, σ', h1, h2⟩ := hh
    rw [hR] at h2
    obtain ⟨r, rfl, h3⟩ := h2
    exact ⟨r, σ', h1, h3⟩
  refine call_shared T73 rfl rfl ?_
  have l0 := sc_l0 h
  have l1 := sc_l1 h
  obtain ⟨c, hc⟩ := some_of hin
  have hca : hd b a = c := hd_of hc
  obtain ⟨p, hp1, hp2⟩ := bv_at h.2.1 hc (z := (a : Int)) rfl
  obtain ⟨d, hd0⟩ : ∃ d, hd b (a + 1) = d := ⟨_, rfl⟩
  have ah0 := ahead_ok h hl (by omega) (k := 1) (by omega) (z := 1) rfl
  rw [hd0] at ah0
  have o0 := or32 d
  have tail : ∀ (f : Nat) (r : Option (Nat × Nat)), (∃ v σ', callL T f [.ptr id 0 0] σ = some (v, σ') ∧ NumA id b a need l bt lv r v σ') → RES = (match r with | none => none | some (kd, k) => numFin (b.drop a) kd k) → ∀ e L, look e 0 = some (.ptr id 0 0) → look e 3 = some (nv .i64 a) → look e 4 = some (.fn (.func f) [.ptr id 0 0] []) → wpc T k73_5 ⟨e, L, σ⟩ (giv [.tmp 2] R) := by
    intro f r hcall hres e L g0 g3 g4
    obtain ⟨v, σ1, hcall, a', kind, ok, rfl, hs1, ha', hr⟩ := hcall
    have hcv : callV (callL T) (.fn (.func f) [.ptr id 0 0] []) [] σ = some (.tr (.tup [.sc (.int .i64 (kind : Int)), .sc (.bool ok)]), σ1) := hcall
    have ah := ahead_ok hs1 hl (by omega) (k := 0) (by omega) (z := 0) rfl
    rw [Nat.add_zero] at ah
    obtain ⟨x, hx⟩ : ∃ x, hd b a' = x := ⟨_, rfl⟩
    rw [hx] at ah
    have le := letter_ok x σ1
    have de := decimal_ok x σ1
    cases r with
    | none =>
      simp only at hr hres
      subst hr
      simp [k73_5, g0, g4, hcv, opExtract, ah]
      rw [hR, hres]
      exact ⟨false, rfl, rfl⟩
    | some kk =>
      obtain ⟨kd, k⟩ := kk
      simp only at hr hres
      obtain ⟨rfl, rfl, rfl⟩ := hr
      unfold numFin at hres
      rw [hd_drop, hx] at hres
      unfold badTail at hres
      cases hL : isL x with
      | true =>
        rw [hL] at le hres
        rw [if_pos (by simp)] at hres
        simp [k73_5, g0, g4, hcv, opExtract, ah, le]
        rw [hR, hres]
        exact ⟨false, rfl, rfl⟩
      | false =>
        cases hD : isD x with
        | true =>
          rw [hL] at le hres
          rw [hD] at de hres
          rw [if_pos (by simp)] at hres
          simp [k73_5, g0, g4, hcv, opExtract, ah, le, de]
          rw [hR, hres]
          exact ⟨false, rfl, rfl⟩
        | false =>
          rw [hL] at le hres
          rw [hD] at de hres
          by_cases h46 : x = 46
          · have xz : (x.toNat : Int) = 46 := by rw [h46]; rfl
            have xn : x.toNat = 46 := by omega
            rw [if_pos (by simp [h46])] at hres
            simp [k73_5, g0, g4, hcv, opExtract, ah, le, de, xn]
            rw [hR, hres]
            exact ⟨false, rfl, rfl⟩
          · have xz : ¬ (x.toNat : Int) = 46 := fun h => h46 (u8_eq (c := 46) |>.1 h)
            have xn : ¬ x.toNat = 46 := by omega
            rw [if_neg (by simp [h46])] at hres
            obtain ⟨σ2, lv', hput, hs2⟩ := put_ok hs1 (kind := kind) (i := a) (by omega) ha' hll (z := (a : Int)) rfl
            rw [show a + k - a = k by omega] at hs2
            simp [k73_5, k73_10, g0, g3, g4, hcv, opExtract, ah, le, de, xz, hput]
            rw [hR, hres]
            exact ⟨true, rfl, rfl, lv', hs2⟩
  have ec : hd (b.drop a) 0 = c := by rw [hd_drop]; exact hca
  have ed : hd (b.drop a) 1 = d := by rw [hd_drop]; exact hd0
  have two := numberR_two (b.drop a)
  have hp3 : opIaddr 1 bt (nv .i64 a) σ = some p := hp1
  obtain ⟨x, hx⟩ : ∃ x, d ||| 32 = x := ⟨_, rfl⟩
  have x120 := or32_eq d 120 (by decide)
  have x111 := or32_eq d 111 (by decide)
  have x98 := or32_eq d 98 (by decide)
  rw [hx] at o0 x120 x111 x98
  by_cases hpr : isPref (b.drop a)
  · have fin := fun e L g0 g3 g4 => tail 111 _ (spref_ok h hl hpr) (by rw [← hRES]; exact two.1 hpr) e L g0 g3 g4
    clear tail
    have h48 : c = 48 := by rw [← ec]; exact hpr.1
    have h2 := hpr.2
    rw [ed] at h2
    have cz : (c.toNat : Int) = 48 := by rw [h48]; rfl
    have cn : c.toNat = 48 := by omega
    have hxx : x = 120 ∨ x = 111 ∨ x = 98 := by
      rcases h2 with h | h | h | h | h | h
      · exact .inl (x120.2 (.inl h))
      · exact .inl (x120.2 (.inr h))
      · exact .inr (.inl (x111.2 (.inl h)))
      · exact .inr (.inl (x111.2 (.inr h)))
      · exact .inr (.inr (x98.2 (.inl h)))
      · exact .inr (.inr (x98.2 (.inr h)))
    rcases hxx with hxx | hxx | hxx
    all_goals
      rw [hxx] at o0
      simp [sc_nc, sc_f, l0, l1, ah0, o0, hp3, hp2, cn]
      refine fin _ _ ?_ ?_ ?_ <;> simp
  · have fin := fun e L g0 g3 g4 => tail 110 _ (splain_ok h hl hin hfirst) (by rw [← hRES]; exact two.2 hpr) e L g0 g3 g4
    clear tail
    by_cases h48 : c = 48
    · have cz : (c.toNat : Int) = 48 := by rw [h48]; rfl
      have cn : c.toNat = 48 := by omega
      have hno : ¬ (d = 120 ∨ d = 88 ∨ d = 111 ∨ d = 79 ∨ d = 98 ∨ d = 66) := fun h => hpr ⟨by rw [ec]; exact h48, by rw [ed]; exact h⟩
      have y1 : ¬ x = 120 := fun h => by rcases x120.1 h with h | h <;> exact hno (by simp [h])
      have y2 : ¬ x = 111 := fun h => by rcases x111.1 h with h | h <;> exact hno (by simp [h])
      have y3 : ¬ x = 98 := fun h => by rcases x98.1 h with h | h <;> exact hno (by simp [h])
      have z1 : ¬ (x.toNat : Int) = 120 := fun h => y1 (u8_eq (c := 120) |>.1 h)
      have z2 : ¬ (x.toNat : Int) = 111 := fun h => y2 (u8_eq (c := 111) |>.1 h)
      have z3 : ¬ (x.toNat : Int) = 98 := fun h => y3 (u8_eq (c := 98) |>.1 h)
      have m1 : ¬ x.toNat = 120 := by omega
      have m2 : ¬ x.toNat = 111 := by omega
      have m3 : ¬ x.toNat = 98 := by omega
      simp [sc_nc, sc_f, l0, l1, ah0, o0, hp3, hp2, cn, z1, z2, z3]
      refine fin _ _ ?_ ?_ ?_ <;> simp
    · have cz : ¬ (c.toNat : Int) = 48 := fun h => h48 (u8_eq (c := 48) |>.1 h)
      have cn : ¬ c.toNat = 48 := by omega
      simp [sc_nc, sc_f, l0, l1, ah0, o0, hp3, hp2, cz]
      refine fin _ _ ?_ ?_ ?_ <;> simp
end
end Go.Proofs.YtolhjhjlfgfifaaGreatDoor.AM.Rd
end
section
set_option maxRecDepth 1000000
set_option linter.unusedVariables false
set_option linter.unusedSimpArgs false
namespace Go.Proofs.YtolhjhjlfgfifaaGreatDoor.AM.Rd
open Go.Proofs
theorem all256 {p : UInt8 → Bool} (h : (List.range 256).all (fun n => p (UInt8.ofNat n)) = true) (c : UInt8) : p c = true := by
  have h1 := List.all_eq_true.1 h c.toNat (by simpa using c.toNat_lt)
  simpa using h1
theorem dv13 (c : UInt8) : (!(inB 16 c) || ((decide (dv c = 13)) == (decide (c ||| 32 = 100)))) = true := all256 (p := fun c => !(inB 16 c) || ((decide (dv c = 13)) == (decide (c ||| 32 = 100)))) (by decide +kernel) c
theorem dv8 (c : UInt8) : (!(inB 16 c) || ((decide (8 ≤ dv c)) == (decide (56 ≤ c.toNat)))) = true := all256 (p := fun c => !(inB 16 c) || ((decide (8 ≤ dv c)) == (decide (56 ≤ c.toNat)))) (by decide +kernel) c
theorem surr {c d e f : UInt8} (hc : inB 16 c = true) (hd : inB 16 d = true) (he : inB 16 e = true) (hf : inB 16 f = true) : (55296 ≤ hexN [c, d, e, f] ∧ hexN [c, d, e, f] < 57344) ↔ (c ||| 32 = 100 ∧ 56 ≤ d.toNat) := by
  have h1 := dv13 c
  have h2 := dv8 d
  rw [hc] at h1
  rw [hd] at h2
  simp at h1 h2
  have b1 := inB_dv hc
  have b2 := inB_dv hd
  have b3 := inB_dv he
  have b4 := inB_dv hf
  rw [← h1, ← h2]
  have hv : hexN [c, d, e, f] = 4096 * (dv c).toNat + 256 * (dv d).toNat + 16 * (dv e).toNat + (dv f).toNat := by
    simp [hexN]
    omega
  rw [hv]
  omega
def escL (t : List UInt8) : Option Nat :=
  if hd t 0 = 92 ∨ hd t 0 = 34 ∨ hd t 0 = 110 ∨ hd t 0 = 116 then some 1 else
  if hd t 0 = 120 then (if nrun (inB 16) (t.drop 1) < 2 then none else some 3) else
  if hd t 0 = 117 then (if nrun (inB 16) (t.drop 1) < 4 then none else if hd t 1 ||| 32 = 100 ∧ 56 ≤ (hd t 2).toNat then none else some 5) else none
end Go.Proofs.YtolhjhjlfgfifaaGreatDoor.AM.Rd
end
section
set_option maxRecDepth 1000000
set_option linter.unusedVariables false
set_option linter.unusedSimpArgs false
namespace Go.Proofs.YtolhjhjlfgfifaaGreatDoor.AM.Rd
open Go.Proofs
section
variable {σ : Store} {id : Nat} {b : List UInt8} {a : Nat} {need : Bool} {l : List Tk} {bt lv : V}
theorem esc_tail (h : SC σ id b a need l bt lv) (hl : b.length ≤ 1000000) (hin : a < b.length) {n : Nat} (hn : n = 0 ∨ n = 2 ∨ n = 4) (e L : List (Nat × V)) (h0 : look e 0 = some (.ptr id 0 0)) (h3 : look e 3 = some (nv .i64 n)) {P : Out → St → Prop}
    (hbad : (nrun (inB 16) (b.drop (a + 1)) < n ∨ (n = 4 ∧ hd b (a + 1) ||| 32 = 100 ∧ 56 ≤ (hd b (a + 2)).toNat)) → ∀ e' L' σ', look e' 2 = some (bv false) → P .ret ⟨e', L', σ'⟩)
    (hgood : n ≤ nrun (inB 16) (b.drop (a + 1)) → ¬ (n = 4 ∧ hd b (a + 1) ||| 32 = 100 ∧ 56 ≤ (hd b (a + 2)).toNat) → ∀ e' L' σ', look e' 2 = some (bv true) → SC σ' id b (a + 1 + n) need l bt lv → P .ret ⟨e', L', σ'⟩) :
    wpc T k112_14 ⟨e, L, σ⟩ P := by
  have l1 := sc_l1 h
  obtain ⟨σ1, s1, hs1⟩ := sc_s1 h (a' := a + 1) (z := (a : Int) + 1) (by omega)
  have w1 : IntKind.i64.wrap ((a : Int) + 1) = (a : Int) + 1 := w64z (by omega) (by omega)
  obtain ⟨R, hR⟩ : ∃ R, nrun (inB 16) (b.drop (a + 1)) = R := ⟨_, rfl⟩
  have hRl : R ≤ b.length - (a + 1) := by rw [← hR, ← List.length_drop]; exact nrun_le
  rw [hR] at hbad hgood
  obtain ⟨I, hI⟩ : ∃ I : Nat → St → Prop, I = fun m st => m ≤ n ∧ m ≤ R ∧ ∃ e L, st = ⟨e, L, σ1⟩ ∧ look e 0 = some (.ptr id 0 0) ∧ look e 3 = some (nv .i64 n) ∧ look e 23 = some (nv .i64 n) ∧ look e 24 = some (nv .i64 m) := ⟨_, rfl⟩
  simp [k112_14, h0, h3, sc_nc, sc_f, l1, w1, s1]
  refine wpc_up n I (by rw [hI]; refine ⟨by omega, by omega, _, _, rfl, ?_, ?_, ?_, ?_⟩ <;> simp [h0, h3]) ?_
  intro m st hst
  rw [hI] at hst
  obtain ⟨hm, hmR, e, L, rfl, h0, h3, h23, h24⟩ := hst
  by_cases hmn : m < n
  · have hmz : (m : Int) < n := by omega
    have w2 : IntKind.i64.wrap ((m : Int) + 1) = (m : Int) + 1 := w64z (by omega) (by omega)
    have ah := ahead_ok hs1 hl (by omega) (k := m) (by omega) (z := (m : Int)) rfl
    obtain ⟨x, hx⟩ : ∃ x, hd b (a + 1 + m) = x := ⟨_, rfl⟩
    rw [hx] at ah
    have hh := hex_ok x σ1
    have hxh : inB 16 x = decide (m < R) := by
      by_cases hmR2 : m < R
      · obtain ⟨c2, h5, h6⟩ := nrun_lt (p := inB 16) (s := b.drop (a + 1)) (n := m) (by omega)
        rw [List.getElem?_drop] at h5
        rw [← hx, hd_of h5, h6, decide_eq_true hmR2]
      · have hmR3 : m = R := by omega
        rw [decide_eq_false hmR2]
        rcases Nat.lt_or_ge (a + 1 + m) b.length with h7 | h7
        · obtain ⟨c2, h5⟩ := some_of h7
          rw [← hx, hd_of h5]
          refine nrun_at (p := inB 16) (s := b.drop (a + 1)) (c := c2) ?_
          rw [hR, ← hmR3, List.getElem?_drop, h5]
        · rw [← hx, hd_none h7]
          rfl
    rw [hxh] at hh
    by_cases hmR2 : m < R
    · rw [decide_eq_true hmR2] at hh
      simp [k112_17, k112_19, k112_23, h0, h23, h24, hmn, hmz, ah, hh, w2]
      rw [hI]
      refine ⟨by omega, by omega, _, _, rfl, ?_, ?_, ?_, ?_⟩ <;> simp [h0, h3, h23]
    · rw [decide_eq_false hmR2] at hh
      simp [k112_17, k112_19, h0, h23, h24, hmn, hmz, ah, hh]
      refine hbad (.inl (by omega)) _ _ _ ?_
      simp
  · obtain rfl : m = n := by omega
    have ah0 := ahead_ok hs1 hl (by omega) (k := 0) (by omega) (z := 0) rfl
    have ah1 := ahead_ok hs1 hl (by omega) (k := 1) (by omega) (z := 1) rfl
    rw [Nat.add_zero] at ah0
    rw [show a + 1 + 1 = a + 2 by omega] at ah1
    obtain ⟨x, hx⟩ : ∃ x, hd b (a + 1) = x := ⟨_, rfl⟩
    obtain ⟨y, hy⟩ : ∃ y, hd b (a + 2) = y := ⟨_, rfl⟩
    rw [hx] at ah0
    rw [hy] at ah1
    rw [hx, hy] at hbad hgood
    have o0 := or32 x
    obtain ⟨z, hz⟩ : ∃ z, x ||| 32 = z := ⟨_, rfl⟩
    rw [hz] at o0 hbad hgood
    have n1 := sc_l1 hs1
    obtain ⟨σ2, s2, hs2⟩ := sc_s1 hs1 (a' := a + 1 + m) (z := (a : Int) + 1 + m) (by omega)
    have w3 : IntKind.i64.wrap ((a : Int) + 1 + m) = (a : Int) + 1 + m := w64z (by omega) (by omega)
    by_cases h4 : m = 4
    · have h4z : ((m : Int) = 4) = True := by simp; omega
      have h4e : (m = 4) = True := by simp [h4]
      by_cases hz100 : z = 100
      · have z1 : (z.toNat : Int) = 100 := by rw [hz100]; rfl
        have z2 : z.toNat = 100 := by omega
        by_cases hy56 : 56 ≤ y.toNat
        · have y1 : (56 : Int) ≤ (y.toNat : Int) := by omega
          simp [k112_17, k112_24, h0, h3, h23, h24, h4z, ah0, ah1, o0, z2, y1]
          refine hbad (.inr ⟨h4, hz100, hy56⟩) _ _ _ ?_
          simp
        · have y1 : ¬ (56 : Int) ≤ (y.toNat : Int) := by omega
          simp [k112_17, k112_24, k112_27, h0, h3, h23, h24, h4z, ah0, ah1, o0, z2, y1, sc_nc, sc_f, n1, w3, s2]
          refine hgood (by omega) (fun h => hy56 h.2.2) _ _ _ ?_ hs2
          simp
      · have z1 : ¬ (z.toNat : Int) = 100 := fun h => hz100 (u8_eq (c := 100) |>.1 h)
        have z2 : ¬ z.toNat = 100 := by omega
        simp [k112_17, k112_24, k112_27, h0, h3, h23, h24, h4z, ah0, o0, z1, sc_nc, sc_f, n1, w3, s2]
        refine hgood (by omega) (fun h => hz100 h.2.1) _ _ _ ?_ hs2
        simp
    · have h4z : ((m : Int) = 4) = False := by simp; omega
      have h4e : (m = 4) = False := by simp [h4]
      simp [k112_17, k112_24, k112_27, h0, h3, h23, h24, h4z, sc_nc, sc_f, n1, w3, s2]
      refine hgood (by omega) (fun h => h4 h.1) _ _ _ ?_ hs2
      simp
end
end Go.Proofs.YtolhjhjlfgfifaaGreatDoor.AM.Rd
end
section
set_option maxRecDepth 1000000
set_option linter.unusedVariables false
set_option linter.unusedSimpArgs false
namespace Go.Proofs.YtolhjhjlfgfifaaGreatDoor.AM.Rd
open Go.Proofs
section
variable {σ : Store} {id : Nat} {b : List UInt8} {a : Nat} {need : Bool} {l : List Tk} {bt lv : V}
theorem sesc_ok (h : SC σ id b a need l bt lv) (hl : b.length ≤ 1000000) (ha : a ≤ b.length) :
    ∃ r σ', callL T 112 [.ptr id 0 0] σ = some (bv r, σ') ∧ (match escL (b.drop a) with | none => r = false | some n => r = true ∧ SC σ' id b (a + n) need l bt lv) := by
  obtain ⟨RES, hRES⟩ : ∃ r, escL (b.drop a) = r := ⟨_, rfl⟩
  rw [hRES]
  obtain ⟨R, hR⟩ : ∃ R : V → Store → Prop, R = fun v σ' => ∃ r, v = bv r ∧ (match RES with | none => r = false | some n => r = true ∧ SC σ' id b (a + n) need l bt lv) := ⟨_, rfl⟩
  suffices hh : ∃ v σ', callL T 112 [.ptr id 0 0] σ = some (v, σ') ∧ R v σ' by
    obtain ⟨v, σ', h1, h2⟩ := hh
    rw [hR] at h2
    obtain ⟨r, rfl, h3⟩ := h2
    exact ⟨r, σ', h1, h3⟩
  refine call_shared T112 rfl rfl ?_
  have ah := ahead_ok h hl (by omega) (k := 0) (by omega) (z := 0) rfl
  rw [Nat.add_zero] at ah
  obtain ⟨c, hc⟩ : ∃ c, hd b a = c := ⟨_, rfl⟩
  rw [hc] at ah
  have ec : hd (b.drop a) 0 = c := by rw [hd_drop]; exact hc
  have e1 : hd (b.drop a) 1 = hd b (a + 1) := hd_drop 1
  have e2 : hd (b.drop a) 2 = hd b (a + 2) := hd_drop 2
  unfold escL at hRES
  rw [ec, e1, e2, List.drop_drop] at hRES
  by_cases c92 : c = 92
  · have z : (c.toNat : Int) = 92 := by rw [c92]; rfl
    have zn : c.toNat = 92 := by omega
    have hin : a < b.length := hd_pos (by rw [hc, c92]; decide)
    rw [if_pos (by simp [c92])] at hRES
    simp [ah, zn, k112_8]
    refine esc_tail h hl hin (n := 0) (.inl rfl) _ _ ?_ ?_ ?_ ?_
    · simp
    · simp
    · intro hb; omega
    · intro _ _ e' L' σ' h2 hs
      simp [h2]
      rw [hR, ← hRES]
      exact ⟨true, rfl, rfl, hs⟩
  have z92 : ¬ (c.toNat : Int) = 92 := fun h => c92 (u8_eq (c := 92) |>.1 h)
  have n92 : ¬ c.toNat = 92 := by omega
  by_cases c34 : c = 34
  · have z : (c.toNat : Int) = 34 := by rw [c34]; rfl
    have zn : c.toNat = 34 := by omega
    have hin : a < b.length := hd_pos (by rw [hc, c34]; decide)
    rw [if_pos (by simp [c34])] at hRES
    simp [ah, zn, k112_8]
    refine esc_tail h hl hin (n := 0) (.inl rfl) _ _ ?_ ?_ ?_ ?_
    · simp
    · simp
    · intro hb; omega
    · intro _ _ e' L' σ' h2 hs
      simp [h2]
      rw [hR, ← hRES]
      exact ⟨true, rfl, rfl, hs⟩
  have z34 : ¬ (c.toNat : Int) = 34 := fun h => c34 (u8_eq (c := 34) |>.1 h)
  have n34 : ¬ c.toNat = 34 := by omega
  by_cases c110 : c = 110
  · have z : (c.toNat : Int) = 110 := by rw [c110]; rfl
    have zn : c.toNat = 110 := by omega
    have hin : a < b.length := hd_pos (by rw [hc, c110]; decide)
    rw [if_pos (by simp [c110])] at hRES
    simp [ah, zn, k112_8]
    refine esc_tail h hl hin (n := 0) (.inl rfl) _ _ ?_ ?_ ?_ ?_
    · simp
    · simp
    · intro hb; omega
    · intro _ _ e' L' σ' h2 hs
      simp [h2]
      rw [hR, ← hRES]
      exact ⟨true, rfl, rfl, hs⟩
  have z110 : ¬ (c.toNat : Int) = 110 := fun h => c110 (u8_eq (c := 110) |>.1 h)
  have n110 : ¬ c.toNat = 110 := by omega
  by_cases c116 : c = 116
  · have z : (c.toNat : Int) = 116 := by rw [c116]; rfl
    have zn : c.toNat = 116 := by omega
    have hin : a < b.length := hd_pos (by rw [hc, c116]; decide)
    rw [if_pos (by simp [c116])] at hRES
    simp [ah, zn, k112_8]
    refine esc_tail h hl hin (n := 0) (.inl rfl) _ _ ?_ ?_ ?_ ?_
    · simp
    · simp
    · intro hb; omega
    · intro _ _ e' L' σ' h2 hs
      simp [h2]
      rw [hR, ← hRES]
      exact ⟨true, rfl, rfl, hs⟩
  have z116 : ¬ (c.toNat : Int) = 116 := fun h => c116 (u8_eq (c := 116) |>.1 h)
  have n116 : ¬ c.toNat = 116 := by omega
  rw [if_neg (by simp [c92, c34, c110, c116])] at hRES
  by_cases c120 : c = 120
  · have z : (c.toNat : Int) = 120 := by rw [c120]; rfl
    have zn : c.toNat = 120 := by omega
    have hin : a < b.length := hd_pos (by rw [hc, c120]; decide)
    rw [if_pos c120] at hRES
    simp [ah, zn, k112_8]
    refine esc_tail h hl hin (n := 2) (.inr (.inl rfl)) _ _ ?_ ?_ ?_ ?_
    · simp
    · simp
    · intro hb e' L' σ' h2
      rw [if_pos (by rcases hb with h | h <;> omega)] at hRES
      simp [h2]
      rw [hR, ← hRES]
      exact ⟨false, rfl, rfl⟩
    · intro hg _ e' L' σ' h2 hs
      rw [if_neg (by omega)] at hRES
      simp [h2]
      rw [hR, ← hRES]
      exact ⟨true, rfl, rfl, hs⟩
  have z120 : ¬ (c.toNat : Int) = 120 := fun h => c120 (u8_eq (c := 120) |>.1 h)
  have n120 : ¬ c.toNat = 120 := by omega
  rw [if_neg c120] at hRES
  by_cases c117 : c = 117
  · have z : (c.toNat : Int) = 117 := by rw [c117]; rfl
    have zn : c.toNat = 117 := by omega
    have hin : a < b.length := hd_pos (by rw [hc, c117]; decide)
    rw [if_pos c117] at hRES
    simp [ah, zn, k112_8]
    refine esc_tail h hl hin (n := 4) (.inr (.inr rfl)) _ _ ?_ ?_ ?_ ?_
    · simp
    · simp
    · intro hb e' L' σ' h2
      have hn : RES = none := by
        rw [← hRES]
        rcases hb with h | h
        · rw [if_pos h]
        · split
          · rfl
          · rw [if_pos h.2]
      simp [h2]
      rw [hR, hn]
      exact ⟨false, rfl, rfl⟩
    · intro hg hg2 e' L' σ' h2 hs
      rw [if_neg (by omega), if_neg (fun h => hg2 ⟨rfl, h⟩)] at hRES
      simp [h2]
      rw [hR, ← hRES]
      exact ⟨true, rfl, rfl, hs⟩
  have z117 : ¬ (c.toNat : Int) = 117 := fun h => c117 (u8_eq (c := 117) |>.1 h)
  have n117 : ¬ c.toNat = 117 := by omega
  rw [if_neg c117] at hRES
  simp [ah, k112_8, z92, z34, z110, z116, z120, z117]
  rw [hR, ← hRES]
  exact ⟨false, rfl, rfl⟩
end
end Go.Proofs.YtolhjhjlfgfifaaGreatDoor.AM.Rd
end
section
set_option maxRecDepth 1000000
set_option linter.unusedVariables false
set_option linter.unusedSimpArgs false
namespace Go.Proofs.YtolhjhjlfgfifaaGreatDoor.AM.Rd
open Go.Proofs
theorem cont_iff' (c : UInt8) : contB c = decide (c.toNat / 64 = 2) := by
  unfold contB
  rw [Bool.eq_iff_iff]
  simp
def bad8 (l v : Nat) : Prop := v < l ∨ 1114111 < v ∨ (55296 ≤ v ∧ v < 57344)
instance (l v : Nat) : Decidable (bad8 l v) := by unfold bad8; infer_instance
theorem utfN_2 (a : UInt8) (r : List UInt8) (v l : Nat) : utfN (a :: r) 2 v l = if 1 < r.length + 1 ∧ (r.getD 0 0).toNat / 64 = 2 ∧ ¬ bad8 l (v * 64 + (r.getD 0 0).toNat % 64) then 2 else 0 := by
  match r with
  | [] => simp [utfN]
  | b :: r =>
    simp only [utfN, List.length_cons, List.drop_succ_cons, List.drop_zero, List.take_succ_cons, List.take_zero, List.all_cons, List.all_nil, Bool.and_true, cont_iff', utfV, List.foldl_cons, List.foldl_nil, List.getD_cons_zero]
    rw [if_neg (by omega)]
    by_cases h : b.toNat / 64 = 2
    · simp only [h, decide_true, Bool.true_eq_false, if_false, true_and]
      unfold bad8
      by_cases h2 : v * 64 + b.toNat % 64 < l ∨ 1114111 < v * 64 + b.toNat % 64 ∨ (55296 ≤ v * 64 + b.toNat % 64 ∧ v * 64 + b.toNat % 64 < 57344)
      · rw [if_pos h2, if_neg (fun g => g.2 h2)]
      · rw [if_neg h2, if_pos ⟨by omega, h2⟩]
    · simp [h]
theorem utfN_3 (a : UInt8) (r : List UInt8) (v l : Nat) : utfN (a :: r) 3 v l = if (1 < r.length + 1 ∧ (r.getD 0 0).toNat / 64 = 2) ∧ (2 < r.length + 1 ∧ (r.getD 1 0).toNat / 64 = 2) ∧ ¬ bad8 l ((v * 64 + (r.getD 0 0).toNat % 64) * 64 + (r.getD 1 0).toNat % 64) then 3 else 0 := by
  match r with
  | [] => simp [utfN]
  | [b] => simp [utfN]
  | b :: c :: r =>
    simp only [utfN, List.length_cons, List.drop_succ_cons, List.drop_zero, List.take_succ_cons, List.take_zero, List.all_cons, List.all_nil, Bool.and_true, cont_iff', utfV, List.foldl_cons, List.foldl_nil, List.getD_cons_zero, List.getD_cons_succ]
    rw [if_neg (by omega)]
    obtain ⟨V, hV⟩ : ∃ V, (v * 64 + b.toNat % 64) * 64 + c.toNat % 64 = V := ⟨_, rfl⟩
    rw [hV]
    by_cases h : b.toNat / 64 = 2
    · by_cases h' : c.toNat / 64 = 2
      · simp only [h, h', decide_true, Bool.and_self, Bool.true_eq_false, if_false]
        unfold bad8
        by_cases h2 : V < l ∨ 1114111 < V ∨ (55296 ≤ V ∧ V < 57344)
        · rw [if_pos h2, if_neg (fun g => g.2.2 h2)]
        · rw [if_neg h2, if_pos ⟨⟨by omega, trivial⟩, ⟨by omega, trivial⟩, h2⟩]
      · simp [h, h']
    · simp [h]
theorem utfN_4 (a : UInt8) (r : List UInt8) (v l : Nat) : utfN (a :: r) 4 v l = if (1 < r.length + 1 ∧ (r.getD 0 0).toNat / 64 = 2) ∧ (2 < r.length + 1 ∧ (r.getD 1 0).toNat / 64 = 2) ∧ (3 < r.length + 1 ∧ (r.getD 2 0).toNat / 64 = 2) ∧ ¬ bad8 l (((v * 64 + (r.getD 0 0).toNat % 64) * 64 + (r.getD 1 0).toNat % 64) * 64 + (r.getD 2 0).toNat % 64) then 4 else 0 := by
  match r with
  | [] => simp [utfN]
  | [b] => simp [utfN]
  | [b, c] => simp [utfN]
  | b :: c :: d :: r =>
    simp only [utfN, List.length_cons, List.drop_succ_cons, List.drop_zero, List.take_succ_cons, List.take_zero, List.all_cons, List.all_nil, Bool.and_true, cont_iff', utfV, List.foldl_cons, List.foldl_nil, List.getD_cons_zero, List.getD_cons_succ]
    rw [if_neg (by omega)]
    obtain ⟨V, hV⟩ : ∃ V, ((v * 64 + b.toNat % 64) * 64 + c.toNat % 64) * 64 + d.toNat % 64 = V := ⟨_, rfl⟩
    rw [hV]
    by_cases h : b.toNat / 64 = 2
    · by_cases h' : c.toNat / 64 = 2
      · by_cases h'' : d.toNat / 64 = 2
        · simp only [h, h', h'', decide_true, Bool.and_self, Bool.true_eq_false, if_false]
          unfold bad8
          by_cases h2 : V < l ∨ 1114111 < V ∨ (55296 ≤ V ∧ V < 57344)
          · rw [if_pos h2, if_neg (fun g => g.2.2.2 h2)]
          · rw [if_neg h2, if_pos ⟨⟨by omega, trivial⟩, ⟨by omega, trivial⟩, ⟨by omega, trivial⟩, h2⟩]
        · simp [h, h', h'']
      · simp [h, h']
    · simp [h]
end Go.Proofs.YtolhjhjlfgfifaaGreatDoor.AM.Rd
end
section
set_option maxRecDepth 1000000
set_option maxHeartbeats 1000000
set_option linter.unusedVariables false
set_option linter.unusedSimpArgs false
namespace Go.Proofs.YtolhjhjlfgfifaaGreatDoor.AM.Rd
open Go.Proofs
theorem dec_num (n x y z w : Nat) (hx : x < 256) (u : Nat) (hu : u = if x < 128 then 1 else
  if 194 ≤ x ∧ x < 224 then (if 1 < n ∧ y / 64 = 2 ∧ ¬ bad8 128 (x % 32 * 64 + y % 64) then 2 else 0) else
  if 224 ≤ x ∧ x < 240 then (if (1 < n ∧ y / 64 = 2) ∧ (2 < n ∧ z / 64 = 2) ∧ ¬ bad8 2048 ((x % 16 * 64 + y % 64) * 64 + z % 64) then 3 else 0) else
  if 240 ≤ x ∧ x < 245 then (if (1 < n ∧ y / 64 = 2) ∧ (2 < n ∧ z / 64 = 2) ∧ (3 < n ∧ w / 64 = 2) ∧ ¬ bad8 65536 (((x % 8 * 64 + y % 64) * 64 + z % 64) * 64 + w % 64) then 4 else 0) else 0) :
    (u = 0 ↔ (Lib.decodeN n x y z w).1 = 65533 ∧ (Lib.decodeN n x y z w).2 < 3) ∧ (u ≠ 0 → (Lib.decodeN n x y z w).2 = u) := by
  unfold bad8 at hu
  unfold Lib.decodeN
  by_cases h1 : x < 128
  · rw [if_pos h1] at hu ⊢
    subst hu
    refine ⟨⟨fun h => by omega, fun h => ?_⟩, fun _ => rfl⟩
    have := h.1
    simp only at this
    omega
  · rw [if_neg h1] at hu ⊢
    obtain ⟨A, hA⟩ : ∃ A, x % 32 * 64 + y % 64 = A := ⟨_, rfl⟩
    obtain ⟨B, hB⟩ : ∃ B, x % 16 * 4096 + y % 64 * 64 + z % 64 = B := ⟨_, rfl⟩
    obtain ⟨C, hC⟩ : ∃ C, x % 8 * 262144 + y % 64 * 4096 + z % 64 * 64 + w % 64 = C := ⟨_, rfl⟩
    have hB' : (x % 16 * 64 + y % 64) * 64 + z % 64 = B := by omega
    have hC' : ((x % 8 * 64 + y % 64) * 64 + z % 64) * 64 + w % 64 = C := by omega
    rw [hA, hB', hC'] at hu
    rw [hA, hB, hC]
    have bA : A < 2048 := by omega
    have bB : B < 65536 := by omega
    by_cases k2 : x / 32 = 6
    · have n3 : ¬ (224 ≤ x ∧ x < 240) := by omega
      have n4 : ¬ (240 ≤ x ∧ x < 245) := by omega
      have m3 : ¬ x / 16 = 14 := by omega
      have m4 : ¬ x / 8 = 30 := by omega
      rw [if_neg n3, if_neg n4] at hu
      by_cases c1 : 1 < n ∧ y / 64 = 2
      · rw [if_pos ⟨k2, c1⟩]
        by_cases hx2 : 194 ≤ x ∧ x < 224
        · rw [if_pos hx2, if_pos ⟨c1.1, c1.2, by omega⟩] at hu
          rw [if_pos (by omega)]
          subst hu
          simp
          omega
        · rw [if_neg hx2] at hu
          rw [if_neg (by omega)]
          subst hu
          simp
      · rw [if_neg (fun h => c1 h.2), if_neg (fun h => m3 h.1), if_neg (fun h => m4 h.1)]
        have : u = 0 := by
          rw [hu]
          split
          · rw [if_neg (fun h => c1 ⟨h.1, h.2.1⟩)]
          · rfl
        subst this
        simp
    · by_cases k3 : x / 16 = 14
      · have n2 : ¬ (194 ≤ x ∧ x < 224) := by omega
        have n3 : 224 ≤ x ∧ x < 240 := by omega
        have m4 : ¬ x / 8 = 30 := by omega
        rw [if_neg n2, if_pos n3] at hu
        rw [if_neg (fun h => k2 h.1)]
        by_cases c : (1 < n ∧ y / 64 = 2) ∧ (2 < n ∧ z / 64 = 2)
        · rw [if_pos ⟨k3, c⟩]
          by_cases g : ¬ (B < 2048 ∨ 1114111 < B ∨ (55296 ≤ B ∧ B < 57344))
          · rw [if_pos ⟨c.1, c.2, g⟩] at hu
            rw [if_pos (by omega)]
            subst hu
            simp
          · rw [if_neg (fun h => g h.2.2)] at hu
            rw [if_neg (by omega)]
            subst hu
            simp
        · rw [if_neg (fun h => c h.2), if_neg (fun h => m4 h.1)]
          rw [if_neg (fun h => c ⟨h.1, h.2.1⟩)] at hu
          subst hu
          simp
      · have n2 : ¬ (194 ≤ x ∧ x < 224) := by omega
        have n3 : ¬ (224 ≤ x ∧ x < 240) := by omega
        rw [if_neg n2, if_neg n3] at hu
        rw [if_neg (fun h => k2 h.1), if_neg (fun h => k3 h.1)]
        by_cases k4 : x / 8 = 30
        · by_cases c : (1 < n ∧ y / 64 = 2) ∧ (2 < n ∧ z / 64 = 2) ∧ (3 < n ∧ w / 64 = 2)
          · rw [if_pos ⟨k4, c⟩]
            by_cases g : ¬ (C < 65536 ∨ 1114111 < C ∨ (55296 ≤ C ∧ C < 57344))
            · rw [if_pos (by omega), if_pos ⟨c.1, c.2.1, c.2.2, g⟩] at hu
              rw [if_pos (by omega)]
              subst hu
              simp
            · have hu0 : u = 0 := by
                rw [hu]
                split
                · rw [if_neg (fun h => g h.2.2.2)]
                · rfl
              rw [if_neg (by omega)]
              subst hu0
              simp
          · have hu0 : u = 0 := by
              rw [hu]
              split
              · rw [if_neg (fun h => c ⟨h.1, h.2.1, h.2.2.1⟩)]
              · rfl
            rw [if_neg (fun h => c h.2)]
            subst hu0
            simp
        · rw [if_neg (by omega)] at hu
          rw [if_neg (fun h => k4 h.1)]
          subst hu
          simp
theorem dec_utf {s : List UInt8} (hs : s ≠ []) : (utfR s = 0 ↔ (decL s).1 = 65533 ∧ (decL s).2 < 3) ∧ (utfR s ≠ 0 → (decL s).2 = utfR s) := by
  obtain ⟨a, r, rfl⟩ := List.exists_cons_of_ne_nil hs
  refine dec_num (r.length + 1) a.toNat (r.getD 0 0).toNat (r.getD 1 0).toNat (r.getD 2 0).toNat a.toNat_lt (utfR (a :: r)) ?_
  unfold utfR
  simp only [hd, List.getD_cons_zero, utfN_2, utfN_3, utfN_4]
end Go.Proofs.YtolhjhjlfgfifaaGreatDoor.AM.Rd
end
section
set_option maxRecDepth 1000000
set_option linter.unusedVariables false
set_option linter.unusedSimpArgs false
namespace Go.Proofs.YtolhjhjlfgfifaaGreatDoor.AM.Rd
open Go.Proofs
theorem esc_len (s : List UInt8) : (escR s).map (·.1) = (escL (s.drop 1)).map (· + 1) := by
  have e1 : hd (s.drop 1) 0 = hd s 1 := hd_drop 0
  have e2 : hd (s.drop 1) 1 = hd s 2 := hd_drop 1
  have e3 : hd (s.drop 1) 2 = hd s 3 := hd_drop 2
  unfold escR escL
  rw [e1, e2, e3, List.drop_drop]
  by_cases h1 : hd s 1 = 92 ∨ hd s 1 = 34
  · rw [if_pos h1, if_pos (by rcases h1 with h | h <;> simp [h])]
    rfl
  rw [if_neg h1]
  by_cases h2 : hd s 1 = 110
  · rw [if_pos h2, if_pos (by simp [h2])]; rfl
  rw [if_neg h2]
  by_cases h3 : hd s 1 = 116
  · rw [if_pos h3, if_pos (by simp [h3])]; rfl
  have hno : ¬ (hd s 1 = 92 ∨ hd s 1 = 34 ∨ hd s 1 = 110 ∨ hd s 1 = 116) := by simp only [not_or] at h1 ⊢; exact ⟨h1.1, h1.2, h2, h3⟩
  rw [if_neg h3, if_neg hno]
  simp only [Nat.reduceAdd]
  by_cases h4 : hd s 1 = 120
  · rw [if_pos h4, if_pos h4]
    split <;> rfl
  rw [if_neg h4, if_neg h4]
  by_cases h5 : hd s 1 = 117
  · rw [if_pos h5, if_pos h5]
    by_cases h6 : nrun (inB 16) (s.drop 2) < 4
    · rw [if_pos h6, if_pos h6]; rfl
    · rw [if_neg h6, if_neg h6]
      have hr : ∀ m, m < 4 → ∃ c, (s.drop 2)[m]? = some c ∧ inB 16 c = true := fun m hm => nrun_lt (by omega)
      obtain ⟨c, c1, c2⟩ := hr 0 (by omega)
      obtain ⟨d, d1, d2⟩ := hr 1 (by omega)
      obtain ⟨e, f1, f2⟩ := hr 2 (by omega)
      obtain ⟨f, g1, g2⟩ := hr 3 (by omega)
      have ht : (s.drop 2).take 4 = [c, d, e, f] := by
        obtain ⟨t, hts⟩ : ∃ t, s.drop 2 = t := ⟨_, rfl⟩
        rw [hts] at c1 d1 f1 g1 ⊢
        match t with
        | [] => simp at c1
        | [_] => simp at d1
        | [_, _] => simp at f1
        | [_, _, _] => simp at g1
        | _ :: _ :: _ :: _ :: _ => simp at c1 d1 f1 g1; simp [c1, d1, f1, g1]
      have hc : hd s 2 = c := by have := hd_of c1; rw [hd_drop] at this; exact this
      have hd' : hd s 3 = d := by have := hd_of d1; rw [hd_drop] at this; exact this
      rw [ht, hc, hd']
      have := surr c2 d2 f2 g2
      by_cases h7 : c ||| 32 = 100 ∧ 56 ≤ d.toNat
      · rw [if_pos (this.2 h7), if_pos h7]; rfl
      · rw [if_neg (fun h => h7 (this.1 h)), if_neg h7]; rfl
  · rw [if_neg h5, if_neg h5]; rfl
theorem decode_ok {s : List UInt8} {v : V} {σ : Store} (hv : Bs σ v s) (h0 : 0 < s.length) (hs : s.length ≤ 1000000) : callL T 113 [v] σ = some (.tr (.tup [.sc (.int .i32 ((decL s).1 : Int)), .sc (.int .i64 ((decL s).2 : Int))]), σ) := by
  refine call_ext (k := 15) T113 rfl rfl ?_
  have h3 := hv.2.1 [] [] rfl
  unfold extV argsOf
  have b1 : Nat.blt 15 5 = false := rfl
  have b2 : Nat.blt 15 11 = false := rfl
  have b3 : Nat.blt 15 16 = true := rfl
  simp only [b1, b2, b3, h3]
  have b4 : (Nat.blt 0 s.length && Nat.blt s.length 4294967281) = true := by
    rw [Bool.and_eq_true, Nat.blt_eq, Nat.blt_eq]
    omega
  unfold extS
  simp only [b4, if_true, extR]
  rfl
theorem dropne {b : List UInt8} {k : Nat} (h : k < b.length) : b.drop k ≠ [] := by
  intro h
  have := congrArg List.length h
  rw [List.length_drop] at this
  simp at this
  omega
section
variable {σ : Store} {id : Nat} {b : List UInt8} {a : Nat} {need : Bool} {l : List Tk} {bt lv : V}
theorem quoted_ok (h : SC σ id b a need l bt lv) (hl : b.length ≤ 1000000) (ha : a < b.length) :
    ∃ r σ', callL T 74 [.ptr id 0 0] σ = some (bv r, σ') ∧ (match textR (b.drop a) with | none => r = false | some (n, _) => r = true ∧ SC σ' id b (a + n) need l bt lv) := by
  obtain ⟨RES, hRES⟩ : ∃ r, textR (b.drop a) = r := ⟨_, rfl⟩
  rw [hRES]
  obtain ⟨R, hR⟩ : ∃ R : V → Store → Prop, R = fun v σ' => ∃ r, v = bv r ∧ (match RES with | none => r = false | some (n, _) => r = true ∧ SC σ' id b (a + n) need l bt lv) := ⟨_, rfl⟩
  suffices hh : ∃ v σ', callL T 74 [.ptr id 0 0] σ = some (v, σ') ∧ R v σ' by
    obtain ⟨v, σ', h1, h2⟩ := hh
    rw [hR] at h2
    obtain ⟨r, rfl, h3⟩ := h2
    exact ⟨r, σ', h1, h3⟩
  refine call_shared T74 rfl rfl ?_
  obtain ⟨q, hq⟩ := some_of ha
  have eq0 : hd (b.drop a) 0 = q := by rw [hd_drop]; exact hd_of hq
  rw [textR_G (dropne ha), eq0, List.drop_drop] at hRES
  have l0 := sc_l0 h
  have l1 := sc_l1 h
  obtain ⟨p, hp1, hp2⟩ := bv_at h.2.1 hq (z := (a : Int)) rfl
  have w1 : IntKind.i64.wrap ((a : Int) + 1) = (a : Int) + 1 := w64z (by omega) (by omega)
  obtain ⟨σ1, s1, hs1⟩ := sc_s1 h (a' := a + 1) (z := (a : Int) + 1) (by omega)
  obtain ⟨I, hI⟩ : ∃ I : Nat → St → Prop, I = fun m st => ∃ k o e L σ', st = ⟨e, L, σ'⟩ ∧ a + 1 + m ≤ k ∧ k ≤ b.length ∧ SC σ' id b k need l bt lv ∧ RES = comb (k - a) o (textG q (b.drop k)) ∧ look e 0 = some (.ptr id 0 0) ∧ look e 3 = some (u8v q) := ⟨_, rfl⟩
  simp [sc_nc, sc_f, l0, l1, hp1, hp2, w1, s1]
  refine wpc_up b.length I (by rw [hI]; exact ⟨a + 1, [], _, _, σ1, rfl, by omega, by omega, hs1, by rw [← hRES, show a + 1 - a = 1 by omega], by simp, by simp⟩) ?_
  clear l0 l1 hp1 hp2 w1 s1 hs1 hRES
  intro m st hst
  rw [hI] at hst
  obtain ⟨k, o, e, L, σ', rfl, hk1, hk2, hs, hRES, h0, h3⟩ := hst
  have l0 := sc_l0 hs
  have l1 := sc_l1 hs
  have hlen := bv_len hs.2.1
  by_cases hlt : k < b.length
  · have hltz : (k : Int) < b.length := by omega
    obtain ⟨c, hc⟩ := some_of hlt
    have ec : hd (b.drop k) 0 = c := by rw [hd_drop]; exact hd_of hc
    have hnek := dropne hlt
    obtain ⟨p, hp1, hp2⟩ := bv_at hs.2.1 hc (z := (k : Int)) rfl
    have w1 : IntKind.i64.wrap ((k : Int) + 1) = (k : Int) + 1 := w64z (by omega) (by omega)
    obtain ⟨σ1, s1, hs1⟩ := sc_s1 hs (a' := k + 1) (z := (k : Int) + 1) (by omega)
    have c10 : ((c.toNat : Int) = 10 ↔ c = 10) := u8_eq (c := 10)
    have c92 : ((c.toNat : Int) = 92 ↔ c = 92) := u8_eq (c := 92)
    have q34 : ((q.toNat : Int) = 34 ↔ q = 34) := u8_eq (c := 34)
    by_cases hcq : c = q
    · subst hcq
      have hr : RES = some (k + 1 - a, o) := by
        rw [hRES, textG_end hnek ec, show k + 1 - a = k - a + 1 by omega]
        simp [comb]
      simp [k74_3, k74_5, sc_nc, sc_f, h0, h3, l0, l1, hlen, hltz, hp1, hp2, w1, s1]
      rw [hR, hr]
      refine ⟨true, rfl, rfl, ?_⟩
      rw [show a + (k + 1 - a) = k + 1 by omega]
      exact hs1
    have hcqz : ¬ (c.toNat : Int) = (q.toNat : Int) := fun h => hcq (u8_eq.1 h)
    have hcqn : ¬ c.toNat = q.toNat := fun h => hcq (UInt8.toNat_inj.1 h)
    have bad : stepR q (b.drop k) = none → RES = none := by
      intro h
      rw [hRES, textG_bad hnek (by rw [ec]; exact hcq) h]
      rfl
    have next : ∀ n o' e' L' σ', stepR q (b.drop k) = some (n, o') → SC σ' id b (k + n) need l bt lv → look e' 0 = some (.ptr id 0 0) → look e' 3 = some (u8v q) → m < b.length ∧ I (m + 1) ⟨e', L', σ'⟩ := by
      intro n o' e' L' σ' hst hs' g0 g3
      have hle := stepR_le hnek hst
      rw [List.length_drop] at hle
      refine ⟨by omega, ?_⟩
      rw [hI]
      refine ⟨k + n, o ++ o', e', L', σ', rfl, by omega, by omega, hs', ?_, g0, g3⟩
      rw [hRES, textG_step hnek (by rw [ec]; exact hcq) hst, comb_comb, List.drop_drop, show k - a + n = k + n - a by omega]
    clear hRES
    by_cases hcase : q = 34 ∧ (c = 10 ∨ c = 92)
    · obtain ⟨hq, hc⟩ := hcase
      have hqz := q34.2 hq
      have hqn : q.toNat = 34 := by omega
      by_cases hc10 : c = 10
      · have hcz := c10.2 hc10
        have hcn : c.toNat = 10 := by omega
        have hr := bad (by unfold stepR; rw [ec, if_pos ⟨hq, hc10⟩])
        have hz : ¬ (10 : Int) = 34 := by omega
        simp [k74_3, k74_5, sc_nc, sc_f, h0, h3, l0, l1, hlen, hltz, hp1, hp2, hcn, hqn]
        rw [hR, hr]
        exact ⟨false, rfl, rfl⟩
      · have hc92 : c = 92 := by rcases hc with h | h; exact absurd h hc10; exact h
        have hcz := c92.2 hc92
        have hcn : c.toNat = 92 := by omega
        have hst : stepR q (b.drop k) = escR (b.drop k) := by
          unfold stepR
          rw [ec, if_neg (fun h => hc10 h.2), if_pos ⟨hq, hc92⟩]
        have hel := esc_len (b.drop k)
        rw [List.drop_drop] at hel
        obtain ⟨r, σ2, hcall, hres⟩ := sesc_ok hs1 hl (by omega)
        cases hE : escL (b.drop (k + 1)) with
        | none =>
          rw [hE] at hel hres
          have hr := bad (by rw [hst]; simpa using hel)
          subst hres
          simp [k74_3, k74_5, sc_nc, sc_f, h0, h3, l0, l1, hlen, hltz, hp1, hp2, hcn, hqn, w1, s1, hcall]
          rw [hR, hr]
          exact ⟨false, rfl, rfl⟩
        | some n =>
          rw [hE] at hel hres
          obtain ⟨rfl, hs2⟩ := hres
          cases hER : escR (b.drop k) with
          | none => rw [hER] at hel; cases hel
          | some x =>
            obtain ⟨n', o'⟩ := x
            rw [hER] at hel hst
            simp at hel
            subst hel
            simp [k74_3, k74_5, sc_nc, sc_f, h0, h3, l0, l1, hlen, hltz, hp1, hp2, hcn, hqn, w1, s1, hcall]
            refine next _ _ _ _ _ hst (by rw [show k + (n + 1) = k + 1 + n by omega]; exact hs2) ?_ ?_ <;> simp [h0, h3]
    · have hst : stepR q (b.drop k) = if utfR (b.drop k) = 0 then none else some (utfR (b.drop k), if q ≠ 96 ∨ c ≠ 13 then (b.drop k).take (utfR (b.drop k)) else []) := by
        unfold stepR
        rw [ec, if_neg (fun h => hcase ⟨h.1, .inl h.2⟩), if_neg (fun h => hcase ⟨h.1, .inr h.2⟩)]
      have main : ((q.toNat : Int) = 34 ∧ q.toNat = 34 ∧ ¬ (c.toNat : Int) = 10 ∧ ¬ c.toNat = 10 ∧ ¬ (c.toNat : Int) = 92 ∧ ¬ c.toNat = 92 ∧ ¬ (c.toNat : Int) = 34 ∧ ¬ c.toNat = 34) ∨ (¬ (q.toNat : Int) = 34 ∧ ¬ q.toNat = 34 ∧ (c.toNat : Int) = 10 ∧ c.toNat = 10 ∧ ¬ (10 : Int) = q.toNat ∧ ¬ 10 = q.toNat) ∨ (¬ (q.toNat : Int) = 34 ∧ ¬ q.toNat = 34 ∧ (c.toNat : Int) = 92 ∧ c.toNat = 92 ∧ ¬ (92 : Int) = q.toNat ∧ ¬ 92 = q.toNat) ∨ (¬ (q.toNat : Int) = 34 ∧ ¬ q.toNat = 34 ∧ ¬ (c.toNat : Int) = 10 ∧ ¬ c.toNat = 10 ∧ ¬ (c.toNat : Int) = 92 ∧ ¬ c.toNat = 92) := by
        by_cases g1 : q = 34
        · have g2 : ¬ c = 10 := fun h => hcase ⟨g1, .inl h⟩
          have g3 : ¬ c = 92 := fun h => hcase ⟨g1, .inr h⟩
          have := q34.2 g1
          have e1 : ¬ (c.toNat : Int) = 10 := fun h => g2 (c10.1 h)
          have e2 : ¬ (c.toNat : Int) = 92 := fun h => g3 (c92.1 h)
          left; omega
        · have e0 : ¬ (q.toNat : Int) = 34 := fun h => g1 (q34.1 h)
          omega
      obtain ⟨v', hv'⟩ := bv_rest hs.2.1 (lo := k) (by omega) (y := (k : Int)) rfl
      have hv1 := hv' σ' hs.2.1
      have hdec := decode_ok hv1.2 (by rw [List.length_drop]; omega) (by rw [List.length_drop]; omega)
      have hsl := hv1.1
      have hu := dec_utf hnek
      have hule := utfR_le hnek
      rw [List.length_drop] at hule
      obtain ⟨D1, hD1⟩ : ∃ x, (decL (b.drop k)).1 = x := ⟨_, rfl⟩
      obtain ⟨D2, hD2⟩ : ∃ x, (decL (b.drop k)).2 = x := ⟨_, rfl⟩
      obtain ⟨N, hN⟩ : ∃ x, utfR (b.drop k) = x := ⟨_, rfl⟩
      rw [hD1, hD2] at hdec hu
      rw [hN] at hu hst hule
      have hnil : ¬ ((65533 : Int) = 65533 → ¬ ((D2 : Int) < 3)) ↔ (D2 : Int) < 3 := by simp
      by_cases hN0 : N = 0
      · rw [if_pos hN0] at hst
        have hr := bad hst
        obtain ⟨u1, u2⟩ := hu.1.1 hN0
        have z1 : (D1 : Int) = 65533 := by omega
        have z2 : (D2 : Int) < 3 := by omega
        rcases main with hm | hm | hm | hm
        all_goals
          simp [k74_3, k74_5, sc_nc, sc_f, h0, h3, l0, l1, hlen, hltz, hp1, hp2, hcqz, hm, hsl, hdec, opExtract, z2, u1]
          rw [hR, hr]
          exact ⟨false, rfl, rfl⟩
      · rw [if_neg hN0] at hst
        have u2 := hu.2 hN0
        subst u2
        have hno : ¬ (D1 = 65533 ∧ D2 < 3) := fun h => hN0 (hu.1.2 h)
        have w2 : IntKind.i64.wrap ((k : Int) + D2) = (k : Int) + D2 := w64z (by omega) (by omega)
        obtain ⟨σ2, s2, hs2⟩ := sc_s1 hs (a' := k + D2) (z := (k : Int) + D2) (by omega)
        by_cases d1 : D1 = 65533
        · have d2 : ¬ D2 < 3 := fun h => hno ⟨d1, h⟩
          have z1 : (D1 : Int) = 65533 := by omega
          have z2 : ¬ (D2 : Int) < 3 := by omega
          rcases main with hm | hm | hm | hm
          all_goals
            simp [k74_3, k74_5, k74_23, sc_nc, sc_f, h0, h3, l0, l1, hlen, hltz, hp1, hp2, hcqz, hm, hsl, hdec, opExtract, z2, d1, w2, s2]
            refine next _ _ _ _ _ hst hs2 ?_ ?_ <;> simp [h0, h3]
        · have z1 : ¬ (D1 : Int) = 65533 := by omega
          rcases main with hm | hm | hm | hm
          all_goals
            simp [k74_3, k74_5, k74_23, sc_nc, sc_f, h0, h3, l0, l1, hlen, hltz, hp1, hp2, hcqz, hm, hsl, hdec, opExtract, z1, w2, s2]
            refine next _ _ _ _ _ hst hs2 ?_ ?_ <;> simp [h0, h3]
  · have hltz : ¬ (k : Int) < b.length := by omega
    have hr : RES = none := by rw [hRES, List.drop_eq_nil_of_le (by omega), textG_nil]; rfl
    simp [k74_3, k74_24, sc_nc, sc_f, h0, l0, l1, hlen, hltz]
    rw [hR, hr]
    exact ⟨false, rfl, rfl⟩
end
end Go.Proofs.YtolhjhjlfgfifaaGreatDoor.AM.Rd
end
