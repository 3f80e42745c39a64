/- What the regions do, part one. -/
import Derived.Test.YtjjbglmnbmpegaaSp3
set_option maxRecDepth 1000000
set_option linter.unusedVariables false
set_option linter.unusedSimpArgs false
namespace Go.Proofs.Ytjjbglmnbmpegaa.AM.Sp
open Go.Proofs

/-- What a region gives: the frame, and one slot. -/
def Gives (o : Option St) (E : List (Nat × V)) (σ : Store) (k : Nat) (v : V) : Prop := ∃ L, o = some ⟨E, L, σ⟩ ∧ look L k = some v
abbrev bv (b : Bool) : V := .tr (.sc (.bool b))
abbrev iv (n : Int) : V := .tr (.sc (.int .i64 n))
abbrev uv (b : UInt8) : V := .tr (.sc (.int .u8 (b.toNat : Int)))
abbrev sv (l : List UInt8) : V := .tr (.sc (.string ⟨⟨l⟩⟩))

def lastB : List UInt8 → UInt8
  | [] => 0
  | [a] => a
  | _ :: t => lastB t
theorem lastB_at : ∀ (a : UInt8) (t : List UInt8), (a :: t)[t.length]? = some (lastB (a :: t))
  | a, [] => rfl
  | a, b :: t => by
    have := lastB_at b t
    simpa [lastB] using this
/-- No path at a glance. -/
def bad : List UInt8 → Bool
  | [] => true
  | a :: t => decide ((t.length : Int) + 1 > 100) || ((a.toNat : Int) == 47) || (((lastB (a :: t)).toNat : Int) == 47)

theorem bad_region (l : List UInt8) (hl : l.length ≤ 120) (E : List (Nat × V)) (σ : Store) (h0 : look E 0 = some (sv l)) (call : CallA) : Gives (opsRun call r5_1 ⟨E, [], σ⟩) E σ 24 (bv (bad l)) := by
  cases l with
  | nil =>
    simp [Gives, r5_1, opsRun, opStep, guardA, opA, o_mv, o_bin, o_pick, o_len, o_istr, St.get, look, St.set, pure1, bind1, undefV, bin_str, bytesEq, asBool?, h0, bad]
  | cons a t =>
    have hlen : opLen 0 (sv (a :: t)) σ = some (iv ((t.length : Int) + 1)) := by simp [opLen, opLenStr, int]
    have i0 : opIndexStr (sv (a :: t)) (iv 0) = some (uv a) := istr_at (i := 0) (by rfl)
    have hw : IntKind.i64.wrap ((t.length : Int) + 1 - 1) = (t.length : Int) := by
      rw [i64_small (by omega) (by simp at hl; omega)]
      omega
    have hw2 : IntKind.i64.wrap (t.length : Int) = (t.length : Int) := i64_small (by omega) (by simp at hl; omega)
    have il : opIndexStr (sv (a :: t)) (iv (t.length : Int)) = some (uv (lastB (a :: t))) := istr_at (lastB_at a t)
    have hb : bytesEq (a :: t) [] = false := rfl
    by_cases h1 : (t.length : Int) + 1 > 100
    · simp [Gives, r5_1, opsRun, opStep, guardA, opA, o_mv, o_bin, o_pick, o_len, o_istr, St.get, look, St.set, pure1, bind1, undefV, bin_str, hb, asBool?, h0, bad, hlen, bin_gtr, h1]
    · by_cases h2 : (a.toNat : Int) = 47
      · simp [Gives, r5_1, opsRun, opStep, guardA, opA, o_mv, o_bin, o_pick, o_len, o_istr, St.get, look, St.set, pure1, bind1, undefV, bin_str, hb, asBool?, h0, bad, hlen, bin_gtr, h1, i0, bin_eql, h2]
      · have h2' : ((a.toNat : Int) == 47) = false := by simpa using h2
        simp [Gives, r5_1, opsRun, opStep, guardA, opA, o_mv, o_bin, o_pick, o_len, o_istr, St.get, look, St.set, pure1, bind1, undefV, bin_str, hb, asBool?, h0, bad, hlen, bin_gtr, h1, i0, bin_eql, h2, h2', bin_sub, hw, hw2, il]

/-- A path's byte, as the program asks. -/
def no5 (b : UInt8) : Bool := ((decide (orI .u8 b.toNat 32 < 97) || decide (orI .u8 b.toNat 32 > 122)) && (decide ((b.toNat : Int) < 48) || decide ((b.toNat : Int) > 57))) && !hasL [b] [95, 47, 46, 45]
/-- As the document says. -/
def no6 (b : UInt8) : Bool := !((decide ((b.toNat : Int) ≥ 97) && decide ((b.toNat : Int) ≤ 122)) || (decide ((b.toNat : Int) ≥ 65) && decide ((b.toNat : Int) ≤ 90)) || (decide ((b.toNat : Int) ≥ 48) && decide ((b.toNat : Int) ≤ 57)) ||
  ((b.toNat : Int) == 95) || ((b.toNat : Int) == 47) || ((b.toNat : Int) == 46) || ((b.toNat : Int) == 45))

theorem contains_call (b : UInt8) (σ : Store) (m : Nat) : callA T (m + 1) 10 [sv [95, 47, 46, 45], sv [b]] σ = some (bv (hasL [b] [95, 47, 46, 45]), σ) := by
  have hT : T 10 = some { nargs := 2, code := .bad, results := [], mode := .ext 0 } := rfl
  exact cl_ext hT rfl rfl (by rfl) m

theorem slice_one_byte {l : List UInt8} {i : Nat} {b : UInt8} (h : l[i]? = some b) : opSliceStr (sv l) (some (iv (i : Int))) (some (iv ((i : Int) + 1))) = some (sv [b]) := by
  have hi : i < l.length := (List.getElem?_eq_some_iff.1 h).1
  have h1 : asIdx? (iv (i : Int)) = some i := by
    show (if 0 ≤ (i : Int) then some ((i : Int)).toNat else none) = some i
    rw [if_pos (by omega)]
    congr 1
  have h2 : asIdx? (iv ((i : Int) + 1)) = some (i + 1) := by
    show (if 0 ≤ (i : Int) + 1 then some ((i : Int) + 1).toNat else none) = some (i + 1)
    rw [if_pos (by omega)]
    congr 1
  simp only [opSliceStr, optIdx, h1, h2, Option.getD_some]
  rw [if_pos ⟨show i + 1 ≤ l.length by omega, by omega⟩]
  have : (l.take (i + 1)).drop i = [b] := by
    rw [List.drop_take]
    simp only [Nat.add_sub_cancel_left]
    rw [List.take_one, List.head?_drop, h]
    rfl
  simp [this]

theorem no5_region {l : List UInt8} {i : Nat} {b : UInt8} (hi : i < 120) (hb : l[i]? = some b) (E : List (Nat × V)) (σ : Store) (h0 : look E 0 = some (sv l)) (h3 : look E 3 = some (iv i)) (h4 : look E 4 = some (uv b)) (m : Nat) :
    Gives (opsRun (callA T (m + 1)) r5_7 ⟨E, [], σ⟩) E σ 57 (bv (no5 b)) := by
  have hw : IntKind.i64.wrap ((i : Int) + 1) = (i : Int) + 1 := i64_small (by omega) (by omega)
  have hs := slice_one_byte hb
  have hc := contains_call b σ m
  unfold no5
  by_cases h5 : orI .u8 (b.toNat : Int) 32 < 97
  · by_cases h7 : (b.toNat : Int) < 48
    · simp [Gives, r5_7, opsRun, opStep, guardA, opA, o_mv, o_bin, o_pick, o_slicestr, o_callf, o_un, St.get, St.gets, St.geto, look, St.set, pure1, bind1, undefV, asBool?, h0, h3, h4, bin_or, bin_lss, bin_gtr, bin_add, hw, hs, hc, un_not, h5, h7]
    · by_cases h8 : (b.toNat : Int) > 57
      · simp [Gives, r5_7, opsRun, opStep, guardA, opA, o_mv, o_bin, o_pick, o_slicestr, o_callf, o_un, St.get, St.gets, St.geto, look, St.set, pure1, bind1, undefV, asBool?, h0, h3, h4, bin_or, bin_lss, bin_gtr, bin_add, hw, hs, hc, un_not, h5, h7, h8]
      · simp [Gives, r5_7, opsRun, opStep, guardA, opA, o_mv, o_bin, o_pick, o_slicestr, o_callf, o_un, St.get, St.gets, St.geto, look, St.set, pure1, bind1, undefV, asBool?, h0, h3, h4, bin_or, bin_lss, bin_gtr, bin_add, hw, hs, hc, un_not, h5, h7, h8]
  · by_cases h6 : orI .u8 (b.toNat : Int) 32 > 122
    · by_cases h7 : (b.toNat : Int) < 48
      · simp [Gives, r5_7, opsRun, opStep, guardA, opA, o_mv, o_bin, o_pick, o_slicestr, o_callf, o_un, St.get, St.gets, St.geto, look, St.set, pure1, bind1, undefV, asBool?, h0, h3, h4, bin_or, bin_lss, bin_gtr, bin_add, hw, hs, hc, un_not, h5, h6, h7]
      · by_cases h8 : (b.toNat : Int) > 57
        · simp [Gives, r5_7, opsRun, opStep, guardA, opA, o_mv, o_bin, o_pick, o_slicestr, o_callf, o_un, St.get, St.gets, St.geto, look, St.set, pure1, bind1, undefV, asBool?, h0, h3, h4, bin_or, bin_lss, bin_gtr, bin_add, hw, hs, hc, un_not, h5, h6, h7, h8]
        · simp [Gives, r5_7, opsRun, opStep, guardA, opA, o_mv, o_bin, o_pick, o_slicestr, o_callf, o_un, St.get, St.gets, St.geto, look, St.set, pure1, bind1, undefV, asBool?, h0, h3, h4, bin_or, bin_lss, bin_gtr, bin_add, hw, hs, hc, un_not, h5, h6, h7, h8]
    · simp [Gives, r5_7, opsRun, opStep, guardA, opA, o_mv, o_bin, o_pick, o_slicestr, o_callf, o_un, St.get, St.gets, St.geto, look, St.set, pure1, bind1, undefV, asBool?, h0, h3, h4, bin_or, bin_lss, bin_gtr, bin_add, hw, hs, hc, un_not, h5, h6]
end Go.Proofs.Ytjjbglmnbmpegaa.AM.Sp
