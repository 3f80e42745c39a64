/- ValueLaws: part 3. -/
import Derived.Test.YtajcohdhioafiaaDoorVl2
set_option maxRecDepth 1000000
set_option linter.unusedVariables false
set_option linter.unusedSimpArgs false
namespace Go.Proofs.YtajcohdhioafiaaDoor.AM.Vl
open Go.Proofs
theorem integer_out {l : List UInt8} (h : isName l = false) (σ : Store) : callL T 22 [sv l] σ = some (bv false, σ) := by
  suffices hh : ∃ t, (∀ σ, callL T 22 ([Tree.sc (.string ⟨⟨l⟩⟩)].map .tr) σ = some (.tr t, σ)) ∧ t = .sc (.bool false) by
    obtain ⟨t, h, rfl⟩ := hh
    exact h σ
  refine call_iso T22 rfl rfl ?_
  have hr := range_out h []
  simp [hr, opExtract, opStore, obPut, cellsOf, splice, oneV, genOf, big0]
/-- A number brought into a type. -/
def wr (l : List UInt8) (n : Int) : Int := if l = nI8 then IntKind.i8.wrap n else if l = nU8 then IntKind.u8.wrap n else n
theorem wrap_ok (l : List UInt8) (n : Int) (σ : Store) : callL T 13 [iv n, sv l] σ = some (iv (wr l n), σ) := by
  suffices hh : ∃ t, (∀ σ, callL T 13 ([Tree.sc (.int .i64 n), Tree.sc (.string ⟨⟨l⟩⟩)].map .tr) σ = some (.tr t, σ)) ∧ t = .sc (.int .i64 (wr l n)) by
    obtain ⟨t, h, rfl⟩ := hh
    exact h σ
  refine call_iso T13 rfl rfl ?_
  have e8 : IntKind.i64.wrap (IntKind.i8.wrap n) = IntKind.i8.wrap n := by
    simp only [IntKind.wrap, IntKind.bits, IntKind.signed]
    simp
    omega
  have eu : IntKind.i64.wrap (IntKind.u8.wrap n) = IntKind.u8.wrap n := by
    simp only [IntKind.wrap, IntKind.bits, IntKind.signed]
    simp
    omega
  by_cases h1 : l = [105, 110, 116, 56]
  · simp [bytesEq_iff', h1, wr, nI8, e8]
  · by_cases h2 : l = [117, 105, 110, 116, 56]
    · simp [bytesEq_iff', h2, wr, nI8, nU8, eu]
    · simp [bytesEq_iff', h1, h2, wr, nI8, nU8, k13_7]
def W (n : Int) : Int := IntKind.i64.wrap n
def U (n : Int) : Int := IntKind.u64.wrap n
/-- A quotient, or the rest. -/
def quoV (q : Bool) (u : Bool) (a b : Int) : Int :=
  if u then (if q then W (U ((U a).tdiv (U b))) else W ((U a).tmod (U b)))
  else if b = -1 then (if q then W (0 - a) else 0) else if q then W (a.tdiv b) else a.tmod b
theorem quo_ok (q u : Bool) (a b : Int) (hb : b ≠ 0) (hu : U b ≠ 0) (σ : Store) : callL T 23 [sv (if q then [47] else [37]), iv a, iv b, bv u] σ = some (iv (quoV q u a b), σ) := by
  suffices hh : ∃ t, (∀ σ, callL T 23 ([Tree.sc (.string ⟨⟨if q then [47] else [37]⟩⟩), Tree.sc (.int .i64 a), Tree.sc (.int .i64 b), Tree.sc (.bool u)].map .tr) σ = some (.tr t, σ)) ∧ t = .sc (.int .i64 (quoV q u a b)) by
    obtain ⟨t, h, rfl⟩ := hh
    exact h σ
  refine call_iso T23 rfl rfl ?_
  have hu' : ¬ IntKind.u64.wrap b = 0 := hu
  cases u <;> cases q
  · by_cases h : b = -1
    · have en : opUn .neg (iv a) = some (iv (IntKind.i64.wrap (0 - a))) := rfl
      simp [bytesEq_iff', h, quoV, W, U, en]
    · simp [bytesEq_iff', h, quoV, W, U, k23_15, bin_rem (h := hb)]
  · by_cases h : b = -1
    · have en : opUn .neg (iv a) = some (iv (IntKind.i64.wrap (0 - a))) := rfl
      simp [bytesEq_iff', h, quoV, W, U, en]
    · simp [bytesEq_iff', h, quoV, W, U, k23_15, bin_quo (h := hb)]
  · simp [bytesEq_iff', quoV, W, U, bin_rem (h := hu')]
  · simp [bytesEq_iff', quoV, W, U, bin_quo (h := hu')]
end Go.Proofs.YtajcohdhioafiaaDoor.AM.Vl
