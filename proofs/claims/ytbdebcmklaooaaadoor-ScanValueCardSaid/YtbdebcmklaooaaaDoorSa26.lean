/- the scanner: parts 26, 27, 28, 29, 30, 31, 32, 33, 35, 36, 37. -/
import Derived.Test.YtbdebcmklaooaaaDoorSa14
section
set_option maxRecDepth 1000000
set_option linter.unusedVariables false
set_option linter.unusedSimpArgs false
namespace Go.Proofs.YtbdebcmklaooaaaDoor.AM.Sa
open Go.Proofs
def okOr (n : Nat) : Bool := match opBin .other .or (.tr (.sc (.int .u8 (n : Int)))) (.tr (.sc (.int .u8 32))) with | some (.tr (.sc (.int .u8 z))) => z == ((UInt8.ofNat n ||| 32).toNat : Int) | _ => false
theorem or_all : (List.range 256).all okOr = true := by decide +kernel
theorem or32 (c : UInt8) : opBin .other .or (u8v c) (.tr (.sc (.int .u8 32))) = some (u8v (c ||| 32)) := by
  have h1 := List.all_eq_true.1 or_all c.toNat (by simpa using c.toNat_lt)
  unfold okOr at h1
  split at h1
  · rename_i z hz
    have h2 : z = ((UInt8.ofNat c.toNat ||| 32).toNat : Int) := by simpa using h1
    rw [UInt8.ofNat_toNat] at h2
    rw [hz, h2]
  · cases h1
end Go.Proofs.YtbdebcmklaooaaaDoor.AM.Sa
end
section
set_option maxRecDepth 1000000
set_option linter.unusedVariables false
set_option linter.unusedSimpArgs false
namespace Go.Proofs.YtbdebcmklaooaaaDoor.AM.Sa
open Go.Proofs
section
variable {σ : Store} {id : Nat} {b : List UInt8} {a : Nat} {need : Bool} {l : List Tk} {bt lv : V}
end
end Go.Proofs.YtbdebcmklaooaaaDoor.AM.Sa
end
section
set_option maxRecDepth 1000000
set_option linter.unusedVariables false
set_option linter.unusedSimpArgs false
namespace Go.Proofs.YtbdebcmklaooaaaDoor.AM.Sa
open Go.Proofs
section
variable {σ : Store} {id : Nat} {b : List UInt8} {a : Nat} {need : Bool} {l : List Tk} {bt lv : V}
end
end Go.Proofs.YtbdebcmklaooaaaDoor.AM.Sa
end
section
set_option maxRecDepth 1000000
set_option linter.unusedVariables false
set_option linter.unusedSimpArgs false
namespace Go.Proofs.YtbdebcmklaooaaaDoor.AM.Sa
open Go.Proofs
section
variable {σ : Store} {id : Nat} {b : List UInt8} {a : Nat} {need : Bool} {l : List Tk} {bt lv : V}
end
end Go.Proofs.YtbdebcmklaooaaaDoor.AM.Sa
end
section
set_option maxRecDepth 1000000
set_option linter.unusedVariables false
set_option linter.unusedSimpArgs false
namespace Go.Proofs.YtbdebcmklaooaaaDoor.AM.Sa
open Go.Proofs
section
variable {σ : Store} {id : Nat} {b : List UInt8} {a : Nat} {need : Bool} {l : List Tk} {bt lv : V}
end
end Go.Proofs.YtbdebcmklaooaaaDoor.AM.Sa
end
section
set_option maxRecDepth 1000000
set_option linter.unusedVariables false
set_option linter.unusedSimpArgs false
namespace Go.Proofs.YtbdebcmklaooaaaDoor.AM.Sa
open Go.Proofs
theorem all256 {p : UInt8 → Bool} (h : (List.range 256).all (fun n => p (UInt8.ofNat n)) = true) (c : UInt8) : p c = true := by
  have h1 := List.all_eq_true.1 h c.toNat (by simpa using c.toNat_lt)
  simpa using h1
theorem dv13 (c : UInt8) : (!(inB 16 c) || ((decide (dv c = 13)) == (decide (c ||| 32 = 100)))) = true := all256 (p := fun c => !(inB 16 c) || ((decide (dv c = 13)) == (decide (c ||| 32 = 100)))) (by decide +kernel) c
theorem dv8 (c : UInt8) : (!(inB 16 c) || ((decide (8 ≤ dv c)) == (decide (56 ≤ c.toNat)))) = true := all256 (p := fun c => !(inB 16 c) || ((decide (8 ≤ dv c)) == (decide (56 ≤ c.toNat)))) (by decide +kernel) c
/-- A surrogate, by its first two digits. -/
theorem surr {c d e f : UInt8} (hc : inB 16 c = true) (hd : inB 16 d = true) (he : inB 16 e = true) (hf : inB 16 f = true) : (55296 ≤ hexN [c, d, e, f] ∧ hexN [c, d, e, f] < 57344) ↔ (c ||| 32 = 100 ∧ 56 ≤ d.toNat) := by
  have h1 := dv13 c
  have h2 := dv8 d
  rw [hc] at h1
  rw [hd] at h2
  simp at h1 h2
  have b1 := inB_dv hc
  have b2 := inB_dv hd
  have b3 := inB_dv he
  have b4 := inB_dv hf
  rw [← h1, ← h2]
  have hv : hexN [c, d, e, f] = 4096 * (dv c).toNat + 256 * (dv d).toNat + 16 * (dv e).toNat + (dv f).toNat := by
    simp [hexN]
    omega
  rw [hv]
  omega
/-- What stands behind a stroke: its length. -/
def escL (t : List UInt8) : Option Nat :=
  if hd t 0 = 92 ∨ hd t 0 = 34 ∨ hd t 0 = 110 ∨ hd t 0 = 116 then some 1 else
  if hd t 0 = 120 then (if nrun (inB 16) (t.drop 1) < 2 then none else some 3) else
  if hd t 0 = 117 then (if nrun (inB 16) (t.drop 1) < 4 then none else if hd t 1 ||| 32 = 100 ∧ 56 ≤ (hd t 2).toNat then none else some 5) else none
end Go.Proofs.YtbdebcmklaooaaaDoor.AM.Sa
end
section
set_option maxRecDepth 1000000
set_option linter.unusedVariables false
set_option linter.unusedSimpArgs false
namespace Go.Proofs.YtbdebcmklaooaaaDoor.AM.Sa
open Go.Proofs
section
variable {σ : Store} {id : Nat} {b : List UInt8} {a : Nat} {need : Bool} {l : List Tk} {bt lv : V}
/-- Behind the letter: so many digits. -/
theorem esc_tail (h : SC σ id b a need l bt lv) (hl : b.length ≤ 1000000) (hin : a < b.length) {n : Nat} (hn : n = 0 ∨ n = 2 ∨ n = 4) (e L : List (Nat × V)) (h0 : look e 0 = some (.ptr id 0 0)) (h3 : look e 3 = some (nv .i64 n)) {P : Out → St → Prop}
    (hbad : (nrun (inB 16) (b.drop (a + 1)) < n ∨ (n = 4 ∧ hd b (a + 1) ||| 32 = 100 ∧ 56 ≤ (hd b (a + 2)).toNat)) → ∀ e' L' σ', look e' 2 = some (bv false) → P .ret ⟨e', L', σ'⟩)
    (hgood : n ≤ nrun (inB 16) (b.drop (a + 1)) → ¬ (n = 4 ∧ hd b (a + 1) ||| 32 = 100 ∧ 56 ≤ (hd b (a + 2)).toNat) → ∀ e' L' σ', look e' 2 = some (bv true) → SC σ' id b (a + 1 + n) need l bt lv → P .ret ⟨e', L', σ'⟩) :
    wpc T k45_14 ⟨e, L, σ⟩ P := by
  have l1 := sc_l1 h
  obtain ⟨σ1, s1, hs1⟩ := sc_s1 h (a' := a + 1) (z := (a : Int) + 1) (by omega)
  have w1 : IntKind.i64.wrap ((a : Int) + 1) = (a : Int) + 1 := w64z (by omega) (by omega)
  obtain ⟨R, hR⟩ : ∃ R, nrun (inB 16) (b.drop (a + 1)) = R := ⟨_, rfl⟩
  have hRl : R ≤ b.length - (a + 1) := by rw [← hR, ← List.length_drop]; exact nrun_le
  rw [hR] at hbad hgood
  obtain ⟨I, hI⟩ : ∃ I : Nat → St → Prop, I = fun m st => m ≤ n ∧ m ≤ R ∧ ∃ e L, st = ⟨e, L, σ1⟩ ∧ look e 0 = some (.ptr id 0 0) ∧ look e 3 = some (nv .i64 n) ∧ look e 23 = some (nv .i64 n) ∧ look e 24 = some (nv .i64 m) := ⟨_, rfl⟩
  simp [k45_14, h0, h3, sc_nc, sc_f, l1, w1, s1]
  refine wpc_up n I (by rw [hI]; refine ⟨by omega, by omega, _, _, rfl, ?_, ?_, ?_, ?_⟩ <;> simp [h0, h3]) ?_
  intro m st hst
  rw [hI] at hst
  obtain ⟨hm, hmR, e, L, rfl, h0, h3, h23, h24⟩ := hst
  by_cases hmn : m < n
  · have hmz : (m : Int) < n := by omega
    have w2 : IntKind.i64.wrap ((m : Int) + 1) = (m : Int) + 1 := w64z (by omega) (by omega)
    have ah := ahead_ok hs1 hl (by omega) (k := m) (by omega) (z := (m : Int)) rfl
    obtain ⟨x, hx⟩ : ∃ x, hd b (a + 1 + m) = x := ⟨_, rfl⟩
    rw [hx] at ah
    have hh := hex_ok x σ1
    have hxh : inB 16 x = decide (m < R) := by
      by_cases hmR2 : m < R
      · obtain ⟨c2, h5, h6⟩ := nrun_lt (p := inB 16) (s := b.drop (a + 1)) (n := m) (by omega)
        rw [List.getElem?_drop] at h5
        rw [← hx, hd_of h5, h6, decide_eq_true hmR2]
      · have hmR3 : m = R := by omega
        rw [decide_eq_false hmR2]
        rcases Nat.lt_or_ge (a + 1 + m) b.length with h7 | h7
        · obtain ⟨c2, h5⟩ := some_of h7
          rw [← hx, hd_of h5]
          refine nrun_at (p := inB 16) (s := b.drop (a + 1)) (c := c2) ?_
          rw [hR, ← hmR3, List.getElem?_drop, h5]
        · rw [← hx, hd_none h7]
          rfl
    rw [hxh] at hh
    by_cases hmR2 : m < R
    · rw [decide_eq_true hmR2] at hh
      simp [k45_17, k45_19, k45_23, h0, h3, h23, h24, hmn, hmz, ah, hh, w2]
      rw [hI]
      refine ⟨by omega, by omega, _, _, rfl, ?_, ?_, ?_, ?_⟩ <;> simp [h0, h3, h23]
    · rw [decide_eq_false hmR2] at hh
      simp [k45_17, k45_19, h0, h3, h23, h24, hmn, hmz, ah, hh]
      refine hbad (.inl (by omega)) _ _ _ ?_
      simp
  · obtain rfl : m = n := by omega
    have ah0 := ahead_ok hs1 hl (by omega) (k := 0) (by omega) (z := 0) rfl
    have ah1 := ahead_ok hs1 hl (by omega) (k := 1) (by omega) (z := 1) rfl
    rw [Nat.add_zero] at ah0
    rw [show a + 1 + 1 = a + 2 by omega] at ah1
    obtain ⟨x, hx⟩ : ∃ x, hd b (a + 1) = x := ⟨_, rfl⟩
    obtain ⟨y, hy⟩ : ∃ y, hd b (a + 2) = y := ⟨_, rfl⟩
    rw [hx] at ah0
    rw [hy] at ah1
    rw [hx, hy] at hbad hgood
    have o0 := or32 x
    obtain ⟨z, hz⟩ : ∃ z, x ||| 32 = z := ⟨_, rfl⟩
    rw [hz] at o0 hbad hgood
    have n1 := sc_l1 hs1
    obtain ⟨σ2, s2, hs2⟩ := sc_s1 hs1 (a' := a + 1 + m) (z := (a : Int) + 1 + m) (by omega)
    have w3 : IntKind.i64.wrap ((a : Int) + 1 + m) = (a : Int) + 1 + m := w64z (by omega) (by omega)
    by_cases h4 : m = 4
    · have h4z : ((m : Int) = 4) = True := by simp; omega
      have h4e : (m = 4) = True := by simp [h4]
      by_cases hz100 : z = 100
      · have z1 : (z.toNat : Int) = 100 := by rw [hz100]; rfl
        have z2 : z.toNat = 100 := by omega
        by_cases hy56 : 56 ≤ y.toNat
        · have y1 : (56 : Int) ≤ (y.toNat : Int) := by omega
          simp [k45_17, k45_24, h0, h3, h23, h24, h4z, h4e, ah0, ah1, o0, z1, z2, hy56, y1]
          refine hbad (.inr ⟨h4, hz100, hy56⟩) _ _ _ ?_
          simp
        · have y1 : ¬ (56 : Int) ≤ (y.toNat : Int) := by omega
          simp [k45_17, k45_24, k45_27, h0, h3, h23, h24, h4z, h4e, ah0, ah1, o0, z1, z2, hy56, y1, sc_nc, sc_f, n1, w3, s2]
          refine hgood (by omega) (fun h => hy56 h.2.2) _ _ _ ?_ hs2
          simp
      · have z1 : ¬ (z.toNat : Int) = 100 := fun h => hz100 (u8_eq (c := 100) |>.1 h)
        have z2 : ¬ z.toNat = 100 := by omega
        simp [k45_17, k45_24, k45_27, h0, h3, h23, h24, h4z, h4e, ah0, ah1, o0, z1, z2, sc_nc, sc_f, n1, w3, s2]
        refine hgood (by omega) (fun h => hz100 h.2.1) _ _ _ ?_ hs2
        simp
    · have h4z : ((m : Int) = 4) = False := by simp; omega
      have h4e : (m = 4) = False := by simp [h4]
      simp [k45_17, k45_24, k45_27, h0, h3, h23, h24, h4z, h4e, sc_nc, sc_f, n1, w3, s2]
      refine hgood (by omega) (fun h => h4 h.1) _ _ _ ?_ hs2
      simp
end
end Go.Proofs.YtbdebcmklaooaaaDoor.AM.Sa
end
section
set_option maxRecDepth 1000000
set_option linter.unusedVariables false
set_option linter.unusedSimpArgs false
namespace Go.Proofs.YtbdebcmklaooaaaDoor.AM.Sa
open Go.Proofs
section
variable {σ : Store} {id : Nat} {b : List UInt8} {a : Nat} {need : Bool} {l : List Tk} {bt lv : V}
/-- The scanner's escape, behind the stroke. -/
theorem sesc_ok (h : SC σ id b a need l bt lv) (hl : b.length ≤ 1000000) (ha : a ≤ b.length) :
    ∃ r σ', callL T 45 [.ptr id 0 0] σ = some (bv r, σ') ∧ (match escL (b.drop a) with | none => r = false | some n => r = true ∧ SC σ' id b (a + n) need l bt lv) := by
  obtain ⟨RES, hRES⟩ : ∃ r, escL (b.drop a) = r := ⟨_, rfl⟩
  rw [hRES]
  obtain ⟨R, hR⟩ : ∃ R : V → Store → Prop, R = fun v σ' => ∃ r, v = bv r ∧ (match RES with | none => r = false | some n => r = true ∧ SC σ' id b (a + n) need l bt lv) := ⟨_, rfl⟩
  suffices hh : ∃ v σ', callL T 45 [.ptr id 0 0] σ = some (v, σ') ∧ R v σ' by
    obtain ⟨v, σ', h1, h2⟩ := hh
    rw [hR] at h2
    obtain ⟨r, rfl, h3⟩ := h2
    exact ⟨r, σ', h1, h3⟩
  refine call_shared T45 rfl rfl ?_
  have ah := ahead_ok h hl (by omega) (k := 0) (by omega) (z := 0) rfl
  rw [Nat.add_zero] at ah
  obtain ⟨c, hc⟩ : ∃ c, hd b a = c := ⟨_, rfl⟩
  rw [hc] at ah
  have ec : hd (b.drop a) 0 = c := by rw [hd_drop]; exact hc
  have e1 : hd (b.drop a) 1 = hd b (a + 1) := hd_drop 1
  have e2 : hd (b.drop a) 2 = hd b (a + 2) := hd_drop 2
  unfold escL at hRES
  rw [ec, e1, e2, List.drop_drop] at hRES
  by_cases c92 : c = 92
  · have z : (c.toNat : Int) = 92 := by rw [c92]; rfl
    have zn : c.toNat = 92 := by omega
    have hin : a < b.length := hd_pos (by rw [hc, c92]; decide)
    rw [if_pos (by simp [c92])] at hRES
    simp [ah, z, zn, k45_8]
    refine esc_tail h hl hin (n := 0) (.inl rfl) _ _ ?_ ?_ ?_ ?_
    · simp
    · simp
    · intro hb; omega
    · intro _ _ e' L' σ' h2 hs
      simp [h2]
      rw [hR, ← hRES]
      exact ⟨true, rfl, rfl, hs⟩
  have z92 : ¬ (c.toNat : Int) = 92 := fun h => c92 (u8_eq (c := 92) |>.1 h)
  have n92 : ¬ c.toNat = 92 := by omega
  by_cases c34 : c = 34
  · have z : (c.toNat : Int) = 34 := by rw [c34]; rfl
    have zn : c.toNat = 34 := by omega
    have hin : a < b.length := hd_pos (by rw [hc, c34]; decide)
    rw [if_pos (by simp [c34])] at hRES
    simp [ah, z, zn, k45_8, z92, n92]
    refine esc_tail h hl hin (n := 0) (.inl rfl) _ _ ?_ ?_ ?_ ?_
    · simp
    · simp
    · intro hb; omega
    · intro _ _ e' L' σ' h2 hs
      simp [h2]
      rw [hR, ← hRES]
      exact ⟨true, rfl, rfl, hs⟩
  have z34 : ¬ (c.toNat : Int) = 34 := fun h => c34 (u8_eq (c := 34) |>.1 h)
  have n34 : ¬ c.toNat = 34 := by omega
  by_cases c110 : c = 110
  · have z : (c.toNat : Int) = 110 := by rw [c110]; rfl
    have zn : c.toNat = 110 := by omega
    have hin : a < b.length := hd_pos (by rw [hc, c110]; decide)
    rw [if_pos (by simp [c110])] at hRES
    simp [ah, z, zn, k45_8, z92, n92, z34, n34]
    refine esc_tail h hl hin (n := 0) (.inl rfl) _ _ ?_ ?_ ?_ ?_
    · simp
    · simp
    · intro hb; omega
    · intro _ _ e' L' σ' h2 hs
      simp [h2]
      rw [hR, ← hRES]
      exact ⟨true, rfl, rfl, hs⟩
  have z110 : ¬ (c.toNat : Int) = 110 := fun h => c110 (u8_eq (c := 110) |>.1 h)
  have n110 : ¬ c.toNat = 110 := by omega
  by_cases c116 : c = 116
  · have z : (c.toNat : Int) = 116 := by rw [c116]; rfl
    have zn : c.toNat = 116 := by omega
    have hin : a < b.length := hd_pos (by rw [hc, c116]; decide)
    rw [if_pos (by simp [c116])] at hRES
    simp [ah, z, zn, k45_8, z92, n92, z34, n34, z110, n110]
    refine esc_tail h hl hin (n := 0) (.inl rfl) _ _ ?_ ?_ ?_ ?_
    · simp
    · simp
    · intro hb; omega
    · intro _ _ e' L' σ' h2 hs
      simp [h2]
      rw [hR, ← hRES]
      exact ⟨true, rfl, rfl, hs⟩
  have z116 : ¬ (c.toNat : Int) = 116 := fun h => c116 (u8_eq (c := 116) |>.1 h)
  have n116 : ¬ c.toNat = 116 := by omega
  rw [if_neg (by simp [c92, c34, c110, c116])] at hRES
  by_cases c120 : c = 120
  · have z : (c.toNat : Int) = 120 := by rw [c120]; rfl
    have zn : c.toNat = 120 := by omega
    have hin : a < b.length := hd_pos (by rw [hc, c120]; decide)
    rw [if_pos c120] at hRES
    simp [ah, z, zn, k45_8, z92, n92, z34, n34, z110, n110, z116, n116]
    refine esc_tail h hl hin (n := 2) (.inr (.inl rfl)) _ _ ?_ ?_ ?_ ?_
    · simp
    · simp
    · intro hb e' L' σ' h2
      rw [if_pos (by rcases hb with h | h <;> omega)] at hRES
      simp [h2]
      rw [hR, ← hRES]
      exact ⟨false, rfl, rfl⟩
    · intro hg _ e' L' σ' h2 hs
      rw [if_neg (by omega)] at hRES
      simp [h2]
      rw [hR, ← hRES]
      exact ⟨true, rfl, rfl, hs⟩
  have z120 : ¬ (c.toNat : Int) = 120 := fun h => c120 (u8_eq (c := 120) |>.1 h)
  have n120 : ¬ c.toNat = 120 := by omega
  rw [if_neg c120] at hRES
  by_cases c117 : c = 117
  · have z : (c.toNat : Int) = 117 := by rw [c117]; rfl
    have zn : c.toNat = 117 := by omega
    have hin : a < b.length := hd_pos (by rw [hc, c117]; decide)
    rw [if_pos c117] at hRES
    simp [ah, z, zn, k45_8, z92, n92, z34, n34, z110, n110, z116, n116, z120, n120]
    refine esc_tail h hl hin (n := 4) (.inr (.inr rfl)) _ _ ?_ ?_ ?_ ?_
    · simp
    · simp
    · intro hb e' L' σ' h2
      have hn : RES = none := by
        rw [← hRES]
        rcases hb with h | h
        · rw [if_pos h]
        · split
          · rfl
          · rw [if_pos h.2]
      simp [h2]
      rw [hR, hn]
      exact ⟨false, rfl, rfl⟩
    · intro hg hg2 e' L' σ' h2 hs
      rw [if_neg (by omega), if_neg (fun h => hg2 ⟨rfl, h⟩)] at hRES
      simp [h2]
      rw [hR, ← hRES]
      exact ⟨true, rfl, rfl, hs⟩
  have z117 : ¬ (c.toNat : Int) = 117 := fun h => c117 (u8_eq (c := 117) |>.1 h)
  have n117 : ¬ c.toNat = 117 := by omega
  rw [if_neg c117] at hRES
  simp [ah, k45_8, z92, n92, z34, n34, z110, n110, z116, n116, z120, n120, z117, n117]
  rw [hR, ← hRES]
  exact ⟨false, rfl, rfl⟩
end
end Go.Proofs.YtbdebcmklaooaaaDoor.AM.Sa
end
section
set_option maxRecDepth 1000000
set_option linter.unusedVariables false
set_option linter.unusedSimpArgs false
namespace Go.Proofs.YtbdebcmklaooaaaDoor.AM.Sa
open Go.Proofs
theorem cont_iff' (c : UInt8) : contB c = decide (c.toNat / 64 = 2) := by
  unfold contB
  rw [Bool.eq_iff_iff]
  simp
def bad8 (l v : Nat) : Prop := v < l ∨ 1114111 < v ∨ (55296 ≤ v ∧ v < 57344)
instance (l v : Nat) : Decidable (bad8 l v) := by unfold bad8; infer_instance
theorem utfN_2 (a : UInt8) (r : List UInt8) (v l : Nat) : utfN (a :: r) 2 v l = if 1 < r.length + 1 ∧ (r.getD 0 0).toNat / 64 = 2 ∧ ¬ bad8 l (v * 64 + (r.getD 0 0).toNat % 64) then 2 else 0 := by
  match r with
  | [] => simp [utfN]
  | b :: r =>
    simp only [utfN, List.length_cons, List.drop_succ_cons, List.drop_zero, List.take_succ_cons, List.take_zero, List.all_cons, List.all_nil, Bool.and_true, cont_iff', utfV, List.foldl_cons, List.foldl_nil, List.getD_cons_zero]
    rw [if_neg (by omega)]
    by_cases h : b.toNat / 64 = 2
    · simp only [h, decide_true, Bool.true_eq_false, if_false, true_and]
      unfold bad8
      by_cases h2 : v * 64 + b.toNat % 64 < l ∨ 1114111 < v * 64 + b.toNat % 64 ∨ (55296 ≤ v * 64 + b.toNat % 64 ∧ v * 64 + b.toNat % 64 < 57344)
      · rw [if_pos h2, if_neg (fun g => g.2 h2)]
      · rw [if_neg h2, if_pos ⟨by omega, h2⟩]
    · simp [h]
theorem utfN_3 (a : UInt8) (r : List UInt8) (v l : Nat) : utfN (a :: r) 3 v l = if (1 < r.length + 1 ∧ (r.getD 0 0).toNat / 64 = 2) ∧ (2 < r.length + 1 ∧ (r.getD 1 0).toNat / 64 = 2) ∧ ¬ bad8 l ((v * 64 + (r.getD 0 0).toNat % 64) * 64 + (r.getD 1 0).toNat % 64) then 3 else 0 := by
  match r with
  | [] => simp [utfN]
  | [b] => simp [utfN]
  | b :: c :: r =>
    simp only [utfN, List.length_cons, List.drop_succ_cons, List.drop_zero, List.take_succ_cons, List.take_zero, List.all_cons, List.all_nil, Bool.and_true, cont_iff', utfV, List.foldl_cons, List.foldl_nil, List.getD_cons_zero, List.getD_cons_succ]
    rw [if_neg (by omega)]
    obtain ⟨V, hV⟩ : ∃ V, (v * 64 + b.toNat % 64) * 64 + c.toNat % 64 = V := ⟨_, rfl⟩
    rw [hV]
    by_cases h : b.toNat / 64 = 2
    · by_cases h' : c.toNat / 64 = 2
      · simp only [h, h', decide_true, Bool.and_self, Bool.true_eq_false, if_false]
        unfold bad8
        by_cases h2 : V < l ∨ 1114111 < V ∨ (55296 ≤ V ∧ V < 57344)
        · rw [if_pos h2, if_neg (fun g => g.2.2 h2)]
        · rw [if_neg h2, if_pos ⟨⟨by omega, trivial⟩, ⟨by omega, trivial⟩, h2⟩]
      · simp [h, h']
    · simp [h]
theorem utfN_4 (a : UInt8) (r : List UInt8) (v l : Nat) : utfN (a :: r) 4 v l = if (1 < r.length + 1 ∧ (r.getD 0 0).toNat / 64 = 2) ∧ (2 < r.length + 1 ∧ (r.getD 1 0).toNat / 64 = 2) ∧ (3 < r.length + 1 ∧ (r.getD 2 0).toNat / 64 = 2) ∧ ¬ bad8 l (((v * 64 + (r.getD 0 0).toNat % 64) * 64 + (r.getD 1 0).toNat % 64) * 64 + (r.getD 2 0).toNat % 64) then 4 else 0 := by
  match r with
  | [] => simp [utfN]
  | [b] => simp [utfN]
  | [b, c] => simp [utfN]
  | b :: c :: d :: r =>
    simp only [utfN, List.length_cons, List.drop_succ_cons, List.drop_zero, List.take_succ_cons, List.take_zero, List.all_cons, List.all_nil, Bool.and_true, cont_iff', utfV, List.foldl_cons, List.foldl_nil, List.getD_cons_zero, List.getD_cons_succ]
    rw [if_neg (by omega)]
    obtain ⟨V, hV⟩ : ∃ V, ((v * 64 + b.toNat % 64) * 64 + c.toNat % 64) * 64 + d.toNat % 64 = V := ⟨_, rfl⟩
    rw [hV]
    by_cases h : b.toNat / 64 = 2
    · by_cases h' : c.toNat / 64 = 2
      · by_cases h'' : d.toNat / 64 = 2
        · simp only [h, h', h'', decide_true, Bool.and_self, Bool.true_eq_false, if_false]
          unfold bad8
          by_cases h2 : V < l ∨ 1114111 < V ∨ (55296 ≤ V ∧ V < 57344)
          · rw [if_pos h2, if_neg (fun g => g.2.2.2 h2)]
          · rw [if_neg h2, if_pos ⟨⟨by omega, trivial⟩, ⟨by omega, trivial⟩, ⟨by omega, trivial⟩, h2⟩]
        · simp [h, h', h'']
      · simp [h, h']
    · simp [h]
end Go.Proofs.YtbdebcmklaooaaaDoor.AM.Sa
end
section
set_option maxRecDepth 1000000
set_option maxHeartbeats 1000000
set_option linter.unusedVariables false
set_option linter.unusedSimpArgs false
namespace Go.Proofs.YtbdebcmklaooaaaDoor.AM.Sa
open Go.Proofs
theorem dec_num (n x y z w : Nat) (hx : x < 256) (u : Nat) (hu : u = if x < 128 then 1 else
  if 194 ≤ x ∧ x < 224 then (if 1 < n ∧ y / 64 = 2 ∧ ¬ bad8 128 (x % 32 * 64 + y % 64) then 2 else 0) else
  if 224 ≤ x ∧ x < 240 then (if (1 < n ∧ y / 64 = 2) ∧ (2 < n ∧ z / 64 = 2) ∧ ¬ bad8 2048 ((x % 16 * 64 + y % 64) * 64 + z % 64) then 3 else 0) else
  if 240 ≤ x ∧ x < 245 then (if (1 < n ∧ y / 64 = 2) ∧ (2 < n ∧ z / 64 = 2) ∧ (3 < n ∧ w / 64 = 2) ∧ ¬ bad8 65536 (((x % 8 * 64 + y % 64) * 64 + z % 64) * 64 + w % 64) then 4 else 0) else 0) :
    (u = 0 ↔ (Lib.decodeN n x y z w).1 = 65533 ∧ (Lib.decodeN n x y z w).2 < 3) ∧ (u ≠ 0 → (Lib.decodeN n x y z w).2 = u) := by
  unfold bad8 at hu
  unfold Lib.decodeN
  by_cases h1 : x < 128
  · rw [if_pos h1] at hu ⊢
    subst hu
    refine ⟨⟨fun h => by omega, fun h => ?_⟩, fun _ => rfl⟩
    have := h.1
    simp only at this
    omega
  · rw [if_neg h1] at hu ⊢
    obtain ⟨A, hA⟩ : ∃ A, x % 32 * 64 + y % 64 = A := ⟨_, rfl⟩
    obtain ⟨B, hB⟩ : ∃ B, x % 16 * 4096 + y % 64 * 64 + z % 64 = B := ⟨_, rfl⟩
    obtain ⟨C, hC⟩ : ∃ C, x % 8 * 262144 + y % 64 * 4096 + z % 64 * 64 + w % 64 = C := ⟨_, rfl⟩
    have hB' : (x % 16 * 64 + y % 64) * 64 + z % 64 = B := by omega
    have hC' : ((x % 8 * 64 + y % 64) * 64 + z % 64) * 64 + w % 64 = C := by omega
    rw [hA, hB', hC'] at hu
    rw [hA, hB, hC]
    have bA : A < 2048 := by omega
    have bB : B < 65536 := by omega
    by_cases k2 : x / 32 = 6
    · have n3 : ¬ (224 ≤ x ∧ x < 240) := by omega
      have n4 : ¬ (240 ≤ x ∧ x < 245) := by omega
      have m3 : ¬ x / 16 = 14 := by omega
      have m4 : ¬ x / 8 = 30 := by omega
      rw [if_neg n3, if_neg n4] at hu
      by_cases c1 : 1 < n ∧ y / 64 = 2
      · rw [if_pos ⟨k2, c1⟩]
        by_cases hx2 : 194 ≤ x ∧ x < 224
        · rw [if_pos hx2, if_pos ⟨c1.1, c1.2, by omega⟩] at hu
          rw [if_pos (by omega)]
          subst hu
          simp
          omega
        · rw [if_neg hx2] at hu
          rw [if_neg (by omega)]
          subst hu
          simp
      · rw [if_neg (fun h => c1 h.2), if_neg (fun h => m3 h.1), if_neg (fun h => m4 h.1)]
        have : u = 0 := by
          rw [hu]
          split
          · rw [if_neg (fun h => c1 ⟨h.1, h.2.1⟩)]
          · rfl
        subst this
        simp
    · by_cases k3 : x / 16 = 14
      · have n2 : ¬ (194 ≤ x ∧ x < 224) := by omega
        have n3 : 224 ≤ x ∧ x < 240 := by omega
        have m4 : ¬ x / 8 = 30 := by omega
        rw [if_neg n2, if_pos n3] at hu
        rw [if_neg (fun h => k2 h.1)]
        by_cases c : (1 < n ∧ y / 64 = 2) ∧ (2 < n ∧ z / 64 = 2)
        · rw [if_pos ⟨k3, c⟩]
          by_cases g : ¬ (B < 2048 ∨ 1114111 < B ∨ (55296 ≤ B ∧ B < 57344))
          · rw [if_pos ⟨c.1, c.2, g⟩] at hu
            rw [if_pos (by omega)]
            subst hu
            simp
          · rw [if_neg (fun h => g h.2.2)] at hu
            rw [if_neg (by omega)]
            subst hu
            simp
        · rw [if_neg (fun h => c h.2), if_neg (fun h => m4 h.1)]
          rw [if_neg (fun h => c ⟨h.1, h.2.1⟩)] at hu
          subst hu
          simp
      · have n2 : ¬ (194 ≤ x ∧ x < 224) := by omega
        have n3 : ¬ (224 ≤ x ∧ x < 240) := by omega
        rw [if_neg n2, if_neg n3] at hu
        rw [if_neg (fun h => k2 h.1), if_neg (fun h => k3 h.1)]
        by_cases k4 : x / 8 = 30
        · by_cases c : (1 < n ∧ y / 64 = 2) ∧ (2 < n ∧ z / 64 = 2) ∧ (3 < n ∧ w / 64 = 2)
          · rw [if_pos ⟨k4, c⟩]
            by_cases g : ¬ (C < 65536 ∨ 1114111 < C ∨ (55296 ≤ C ∧ C < 57344))
            · rw [if_pos (by omega), if_pos ⟨c.1, c.2.1, c.2.2, g⟩] at hu
              rw [if_pos (by omega)]
              subst hu
              simp
            · have hu0 : u = 0 := by
                rw [hu]
                split
                · rw [if_neg (fun h => g h.2.2.2)]
                · rfl
              rw [if_neg (by omega)]
              subst hu0
              simp
          · have hu0 : u = 0 := by
              rw [hu]
              split
              · rw [if_neg (fun h => c ⟨h.1, h.2.1, h.2.2.1⟩)]
              · rfl
            rw [if_neg (fun h => c h.2)]
            subst hu0
            simp
        · rw [if_neg (by omega)] at hu
          rw [if_neg (fun h => k4 h.1)]
          subst hu
          simp
theorem dec_utf {s : List UInt8} (hs : s ≠ []) : (utfR s = 0 ↔ (decL s).1 = 65533 ∧ (decL s).2 < 3) ∧ (utfR s ≠ 0 → (decL s).2 = utfR s) := by
  obtain ⟨a, r, rfl⟩ := List.exists_cons_of_ne_nil hs
  refine dec_num (r.length + 1) a.toNat (r.getD 0 0).toNat (r.getD 1 0).toNat (r.getD 2 0).toNat a.toNat_lt (utfR (a :: r)) ?_
  unfold utfR
  simp only [hd, List.getD_cons_zero, utfN_2, utfN_3, utfN_4]
end Go.Proofs.YtbdebcmklaooaaaDoor.AM.Sa
end
section
set_option maxRecDepth 1000000
set_option linter.unusedVariables false
set_option linter.unusedSimpArgs false
namespace Go.Proofs.YtbdebcmklaooaaaDoor.AM.Sa
open Go.Proofs
/-- An escape's length, told by both. -/
theorem esc_len (s : List UInt8) : (escR s).map (·.1) = (escL (s.drop 1)).map (· + 1) := by
  have e1 : hd (s.drop 1) 0 = hd s 1 := hd_drop 0
  have e2 : hd (s.drop 1) 1 = hd s 2 := hd_drop 1
  have e3 : hd (s.drop 1) 2 = hd s 3 := hd_drop 2
  unfold escR escL
  rw [e1, e2, e3, List.drop_drop]
  by_cases h1 : hd s 1 = 92 ∨ hd s 1 = 34
  · rw [if_pos h1, if_pos (by rcases h1 with h | h <;> simp [h])]
    rfl
  rw [if_neg h1]
  by_cases h2 : hd s 1 = 110
  · rw [if_pos h2, if_pos (by simp [h2])]; rfl
  rw [if_neg h2]
  by_cases h3 : hd s 1 = 116
  · rw [if_pos h3, if_pos (by simp [h3])]; rfl
  have hno : ¬ (hd s 1 = 92 ∨ hd s 1 = 34 ∨ hd s 1 = 110 ∨ hd s 1 = 116) := by simp only [not_or] at h1 ⊢; exact ⟨h1.1, h1.2, h2, h3⟩
  rw [if_neg h3, if_neg hno]
  simp only [Nat.reduceAdd]
  by_cases h4 : hd s 1 = 120
  · rw [if_pos h4, if_pos h4]
    split <;> rfl
  rw [if_neg h4, if_neg h4]
  by_cases h5 : hd s 1 = 117
  · rw [if_pos h5, if_pos h5]
    by_cases h6 : nrun (inB 16) (s.drop 2) < 4
    · rw [if_pos h6, if_pos h6]; rfl
    · rw [if_neg h6, if_neg h6]
      have hr : ∀ m, m < 4 → ∃ c, (s.drop 2)[m]? = some c ∧ inB 16 c = true := fun m hm => nrun_lt (by omega)
      obtain ⟨c, c1, c2⟩ := hr 0 (by omega)
      obtain ⟨d, d1, d2⟩ := hr 1 (by omega)
      obtain ⟨e, f1, f2⟩ := hr 2 (by omega)
      obtain ⟨f, g1, g2⟩ := hr 3 (by omega)
      have ht : (s.drop 2).take 4 = [c, d, e, f] := by
        obtain ⟨t, hts⟩ : ∃ t, s.drop 2 = t := ⟨_, rfl⟩
        rw [hts] at c1 d1 f1 g1 ⊢
        match t with
        | [] => simp at c1
        | [_] => simp at d1
        | [_, _] => simp at f1
        | [_, _, _] => simp at g1
        | _ :: _ :: _ :: _ :: _ => simp at c1 d1 f1 g1; simp [c1, d1, f1, g1]
      have hc : hd s 2 = c := by have := hd_of c1; rw [hd_drop] at this; exact this
      have hd' : hd s 3 = d := by have := hd_of d1; rw [hd_drop] at this; exact this
      rw [ht, hc, hd']
      have := surr c2 d2 f2 g2
      by_cases h7 : c ||| 32 = 100 ∧ 56 ≤ d.toNat
      · rw [if_pos (this.2 h7), if_pos h7]; rfl
      · rw [if_neg (fun h => h7 (this.1 h)), if_neg h7]; rfl
  · rw [if_neg h5, if_neg h5]; rfl
theorem decode_ok {s : List UInt8} {v : V} {σ : Store} (hv : Bs σ v s) (h0 : 0 < s.length) (hs : s.length ≤ 1000000) : callL T 46 [v] σ = some (.tr (.tup [.sc (.int .i32 ((decL s).1 : Int)), .sc (.int .i64 ((decL s).2 : Int))]), σ) := by
  refine call_ext (k := 15) T46 rfl rfl ?_
  have h3 := hv.2.1 [] [] rfl
  unfold extV argsOf
  have b1 : Nat.blt 15 5 = false := rfl
  have b2 : Nat.blt 15 11 = false := rfl
  have b3 : Nat.blt 15 16 = true := rfl
  simp only [b1, b2, b3, h3]
  have b4 : (Nat.blt 0 s.length && Nat.blt s.length 4294967281) = true := by
    rw [Bool.and_eq_true, Nat.blt_eq, Nat.blt_eq]
    omega
  unfold extS
  simp only [b4, if_true, extR]
  rfl
theorem dropne {b : List UInt8} {k : Nat} (h : k < b.length) : b.drop k ≠ [] := by
  intro h
  have := congrArg List.length h
  rw [List.length_drop] at this
  simp at this
  omega
section
variable {σ : Store} {id : Nat} {b : List UInt8} {a : Nat} {need : Bool} {l : List Tk} {bt lv : V}
theorem quoted_ok (h : SC σ id b a need l bt lv) (hl : b.length ≤ 1000000) (ha : a < b.length) :
    ∃ r σ', callL T 27 [.ptr id 0 0] σ = some (bv r, σ') ∧ (match textR (b.drop a) with | none => r = false | some (n, _) => r = true ∧ SC σ' id b (a + n) need l bt lv) := by
  obtain ⟨RES, hRES⟩ : ∃ r, textR (b.drop a) = r := ⟨_, rfl⟩
  rw [hRES]
  obtain ⟨R, hR⟩ : ∃ R : V → Store → Prop, R = fun v σ' => ∃ r, v = bv r ∧ (match RES with | none => r = false | some (n, _) => r = true ∧ SC σ' id b (a + n) need l bt lv) := ⟨_, rfl⟩
  suffices hh : ∃ v σ', callL T 27 [.ptr id 0 0] σ = some (v, σ') ∧ R v σ' by
    obtain ⟨v, σ', h1, h2⟩ := hh
    rw [hR] at h2
    obtain ⟨r, rfl, h3⟩ := h2
    exact ⟨r, σ', h1, h3⟩
  refine call_shared T27 rfl rfl ?_
  obtain ⟨q, hq⟩ := some_of ha
  have eq0 : hd (b.drop a) 0 = q := by rw [hd_drop]; exact hd_of hq
  rw [textR_G (dropne ha), eq0, List.drop_drop] at hRES
  have l0 := sc_l0 h
  have l1 := sc_l1 h
  obtain ⟨p, hp1, hp2⟩ := bv_at h.2.1 hq (z := (a : Int)) rfl
  have w1 : IntKind.i64.wrap ((a : Int) + 1) = (a : Int) + 1 := w64z (by omega) (by omega)
  obtain ⟨σ1, s1, hs1⟩ := sc_s1 h (a' := a + 1) (z := (a : Int) + 1) (by omega)
  obtain ⟨I, hI⟩ : ∃ I : Nat → St → Prop, I = fun m st => ∃ k o e L σ', st = ⟨e, L, σ'⟩ ∧ a + 1 + m ≤ k ∧ k ≤ b.length ∧ SC σ' id b k need l bt lv ∧ RES = comb (k - a) o (textG q (b.drop k)) ∧ look e 0 = some (.ptr id 0 0) ∧ look e 3 = some (u8v q) := ⟨_, rfl⟩
  simp [sc_nc, sc_f, l0, l1, hp1, hp2, w1, s1]
  refine wpc_up b.length I (by rw [hI]; exact ⟨a + 1, [], _, _, σ1, rfl, by omega, by omega, hs1, by rw [← hRES, show a + 1 - a = 1 by omega], by simp, by simp⟩) ?_
  clear l0 l1 hp1 hp2 w1 s1 hs1 hRES
  intro m st hst
  rw [hI] at hst
  obtain ⟨k, o, e, L, σ', rfl, hk1, hk2, hs, hRES, h0, h3⟩ := hst
  have l0 := sc_l0 hs
  have l1 := sc_l1 hs
  have hlen := bv_len hs.2.1
  by_cases hlt : k < b.length
  · have hltz : (k : Int) < b.length := by omega
    obtain ⟨c, hc⟩ := some_of hlt
    have ec : hd (b.drop k) 0 = c := by rw [hd_drop]; exact hd_of hc
    have hnek := dropne hlt
    obtain ⟨p, hp1, hp2⟩ := bv_at hs.2.1 hc (z := (k : Int)) rfl
    have w1 : IntKind.i64.wrap ((k : Int) + 1) = (k : Int) + 1 := w64z (by omega) (by omega)
    obtain ⟨σ1, s1, hs1⟩ := sc_s1 hs (a' := k + 1) (z := (k : Int) + 1) (by omega)
    have c10 : ((c.toNat : Int) = 10 ↔ c = 10) := u8_eq (c := 10)
    have c92 : ((c.toNat : Int) = 92 ↔ c = 92) := u8_eq (c := 92)
    have q34 : ((q.toNat : Int) = 34 ↔ q = 34) := u8_eq (c := 34)
    by_cases hcq : c = q
    · subst hcq
      have hr : RES = some (k + 1 - a, o) := by
        rw [hRES, textG_end hnek ec, show k + 1 - a = k - a + 1 by omega]
        simp [comb]
      simp [k27_3, k27_5, sc_nc, sc_f, h0, h3, l0, l1, hlen, hltz, hp1, hp2, w1, s1]
      rw [hR, hr]
      refine ⟨true, rfl, rfl, ?_⟩
      rw [show a + (k + 1 - a) = k + 1 by omega]
      exact hs1
    have hcqz : ¬ (c.toNat : Int) = (q.toNat : Int) := fun h => hcq (u8_eq.1 h)
    have hcqn : ¬ c.toNat = q.toNat := fun h => hcq (UInt8.toNat_inj.1 h)
    have bad : stepR q (b.drop k) = none → RES = none := by
      intro h
      rw [hRES, textG_bad hnek (by rw [ec]; exact hcq) h]
      rfl
    have next : ∀ n o' e' L' σ', stepR q (b.drop k) = some (n, o') → SC σ' id b (k + n) need l bt lv → look e' 0 = some (.ptr id 0 0) → look e' 3 = some (u8v q) → m < b.length ∧ I (m + 1) ⟨e', L', σ'⟩ := by
      intro n o' e' L' σ' hst hs' g0 g3
      have hle := stepR_le hnek hst
      rw [List.length_drop] at hle
      refine ⟨by omega, ?_⟩
      rw [hI]
      refine ⟨k + n, o ++ o', e', L', σ', rfl, by omega, by omega, hs', ?_, g0, g3⟩
      rw [hRES, textG_step hnek (by rw [ec]; exact hcq) hst, comb_comb, List.drop_drop, show k - a + n = k + n - a by omega]
    clear hRES
    by_cases hcase : q = 34 ∧ (c = 10 ∨ c = 92)
    · obtain ⟨hq, hc⟩ := hcase
      have hqz := q34.2 hq
      have hqn : q.toNat = 34 := by omega
      by_cases hc10 : c = 10
      · have hcz := c10.2 hc10
        have hcn : c.toNat = 10 := by omega
        have hr := bad (by unfold stepR; rw [ec, if_pos ⟨hq, hc10⟩])
        have hz : ¬ (10 : Int) = 34 := by omega
        simp [k27_3, k27_5, sc_nc, sc_f, h0, h3, l0, l1, hlen, hltz, hp1, hp2, hcz, hcn, hqz, hqn]
        rw [hR, hr]
        exact ⟨false, rfl, rfl⟩
      · have hc92 : c = 92 := by rcases hc with h | h; exact absurd h hc10; exact h
        have hcz := c92.2 hc92
        have hcn : c.toNat = 92 := by omega
        have hst : stepR q (b.drop k) = escR (b.drop k) := by
          unfold stepR
          rw [ec, if_neg (fun h => hc10 h.2), if_pos ⟨hq, hc92⟩]
        have hel := esc_len (b.drop k)
        rw [List.drop_drop] at hel
        obtain ⟨r, σ2, hcall, hres⟩ := sesc_ok hs1 hl (by omega)
        cases hE : escL (b.drop (k + 1)) with
        | none =>
          rw [hE] at hel hres
          have hr := bad (by rw [hst]; simpa using hel)
          subst hres
          simp [k27_3, k27_5, sc_nc, sc_f, h0, h3, l0, l1, hlen, hltz, hp1, hp2, hcz, hcn, hqz, hqn, w1, s1, hcall]
          rw [hR, hr]
          exact ⟨false, rfl, rfl⟩
        | some n =>
          rw [hE] at hel hres
          obtain ⟨rfl, hs2⟩ := hres
          cases hER : escR (b.drop k) with
          | none => rw [hER] at hel; cases hel
          | some x =>
            obtain ⟨n', o'⟩ := x
            rw [hER] at hel hst
            simp at hel
            subst hel
            simp [k27_3, k27_5, sc_nc, sc_f, h0, h3, l0, l1, hlen, hltz, hp1, hp2, hcz, hcn, hqz, hqn, w1, s1, hcall]
            refine next _ _ _ _ _ hst (by rw [show k + (n + 1) = k + 1 + n by omega]; exact hs2) ?_ ?_ <;> simp [h0, h3, hqz]
    · have hst : stepR q (b.drop k) = if utfR (b.drop k) = 0 then none else some (utfR (b.drop k), if q ≠ 96 ∨ c ≠ 13 then (b.drop k).take (utfR (b.drop k)) else []) := by
        unfold stepR
        rw [ec, if_neg (fun h => hcase ⟨h.1, .inl h.2⟩), if_neg (fun h => hcase ⟨h.1, .inr h.2⟩)]
      have main : ((q.toNat : Int) = 34 ∧ q.toNat = 34 ∧ ¬ (c.toNat : Int) = 10 ∧ ¬ c.toNat = 10 ∧ ¬ (c.toNat : Int) = 92 ∧ ¬ c.toNat = 92 ∧ ¬ (c.toNat : Int) = 34 ∧ ¬ c.toNat = 34) ∨ (¬ (q.toNat : Int) = 34 ∧ ¬ q.toNat = 34 ∧ (c.toNat : Int) = 10 ∧ c.toNat = 10 ∧ ¬ (10 : Int) = q.toNat ∧ ¬ 10 = q.toNat) ∨ (¬ (q.toNat : Int) = 34 ∧ ¬ q.toNat = 34 ∧ (c.toNat : Int) = 92 ∧ c.toNat = 92 ∧ ¬ (92 : Int) = q.toNat ∧ ¬ 92 = q.toNat) ∨ (¬ (q.toNat : Int) = 34 ∧ ¬ q.toNat = 34 ∧ ¬ (c.toNat : Int) = 10 ∧ ¬ c.toNat = 10 ∧ ¬ (c.toNat : Int) = 92 ∧ ¬ c.toNat = 92) := by
        by_cases g1 : q = 34
        · have g2 : ¬ c = 10 := fun h => hcase ⟨g1, .inl h⟩
          have g3 : ¬ c = 92 := fun h => hcase ⟨g1, .inr h⟩
          have := q34.2 g1
          have e1 : ¬ (c.toNat : Int) = 10 := fun h => g2 (c10.1 h)
          have e2 : ¬ (c.toNat : Int) = 92 := fun h => g3 (c92.1 h)
          left; omega
        · have e0 : ¬ (q.toNat : Int) = 34 := fun h => g1 (q34.1 h)
          omega
      obtain ⟨v', hv'⟩ := bv_rest hs.2.1 (lo := k) (by omega) (y := (k : Int)) rfl
      have hv1 := hv' σ' hs.2.1
      have hdec := decode_ok hv1.2 (by rw [List.length_drop]; omega) (by rw [List.length_drop]; omega)
      have hsl := hv1.1
      have hu := dec_utf hnek
      have hule := utfR_le hnek
      rw [List.length_drop] at hule
      obtain ⟨D1, hD1⟩ : ∃ x, (decL (b.drop k)).1 = x := ⟨_, rfl⟩
      obtain ⟨D2, hD2⟩ : ∃ x, (decL (b.drop k)).2 = x := ⟨_, rfl⟩
      obtain ⟨N, hN⟩ : ∃ x, utfR (b.drop k) = x := ⟨_, rfl⟩
      rw [hD1, hD2] at hdec hu
      rw [hN] at hu hst hule
      have hnil : ¬ ((65533 : Int) = 65533 → ¬ ((D2 : Int) < 3)) ↔ (D2 : Int) < 3 := by simp
      by_cases hN0 : N = 0
      · rw [if_pos hN0] at hst
        have hr := bad hst
        obtain ⟨u1, u2⟩ := hu.1.1 hN0
        have z1 : (D1 : Int) = 65533 := by omega
        have z2 : (D2 : Int) < 3 := by omega
        rcases main with hm | hm | hm | hm
        all_goals
          simp [k27_3, k27_5, sc_nc, sc_f, h0, h3, l0, l1, hlen, hltz, hp1, hp2, hcqz, hcqn, hm, hsl, hdec, opExtract, z1, z2, u1, u2]
          rw [hR, hr]
          exact ⟨false, rfl, rfl⟩
      · rw [if_neg hN0] at hst
        have u2 := hu.2 hN0
        subst u2
        have hno : ¬ (D1 = 65533 ∧ D2 < 3) := fun h => hN0 (hu.1.2 h)
        have w2 : IntKind.i64.wrap ((k : Int) + D2) = (k : Int) + D2 := w64z (by omega) (by omega)
        obtain ⟨σ2, s2, hs2⟩ := sc_s1 hs (a' := k + D2) (z := (k : Int) + D2) (by omega)
        by_cases d1 : D1 = 65533
        · have d2 : ¬ D2 < 3 := fun h => hno ⟨d1, h⟩
          have z1 : (D1 : Int) = 65533 := by omega
          have z2 : ¬ (D2 : Int) < 3 := by omega
          rcases main with hm | hm | hm | hm
          all_goals
            simp [k27_3, k27_5, k27_23, sc_nc, sc_f, h0, h3, l0, l1, hlen, hltz, hp1, hp2, hcqz, hcqn, hm, hsl, hdec, opExtract, z1, z2, d1, d2, w2, s2]
            refine next _ _ _ _ _ hst hs2 ?_ ?_ <;> simp [h0, h3, hm]
        · have z1 : ¬ (D1 : Int) = 65533 := by omega
          rcases main with hm | hm | hm | hm
          all_goals
            simp [k27_3, k27_5, k27_23, sc_nc, sc_f, h0, h3, l0, l1, hlen, hltz, hp1, hp2, hcqz, hcqn, hm, hsl, hdec, opExtract, z1, d1, w2, s2]
            refine next _ _ _ _ _ hst hs2 ?_ ?_ <;> simp [h0, h3, hm]
  · have hltz : ¬ (k : Int) < b.length := by omega
    have hr : RES = none := by rw [hRES, List.drop_eq_nil_of_le (by omega), textG_nil]; rfl
    simp [k27_3, k27_24, sc_nc, sc_f, h0, h3, l0, l1, hlen, hltz]
    rw [hR, hr]
    exact ⟨false, rfl, rfl⟩
end
end Go.Proofs.YtbdebcmklaooaaaDoor.AM.Sa
end
