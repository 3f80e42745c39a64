/- IntText: part 69. -/
import Derived.Test.YtjacddclpcelmaaBi68
set_option maxRecDepth 1000000
set_option linter.unusedVariables false
set_option linter.unusedSimpArgs false
namespace Go.Proofs.Ytjacddclpcelmaa.AM.Bi

/-- A digit's byte. -/
def decB (d : Nat) : UInt8 := UInt8.ofNat (48 + d)
theorem decB_digit {d : Nat} (h : d < 10) : digitV (decB d).toNat = some d := by
  have e : (decB d).toNat = 48 + d := by
    unfold decB
    rw [UInt8.toNat_ofNat']
    omega
  rw [e]
  unfold digitV
  rw [if_pos (by omega)]
  congr 1
  omega
theorem horner_app (base : Nat) : ∀ (p q : List UInt8) (acc : Nat), horner base acc (p ++ q) = (horner base acc p).bind fun a => horner base a q
  | [], q, acc => rfl
  | b :: p, q, acc => by
    simp only [List.cons_append, horner]
    cases digitV b.toNat with
    | none => rfl
    | some d =>
      simp only []
      by_cases h : d < base
      · rw [if_pos h, if_pos h]
        exact horner_app base p q _
      · rw [if_neg h, if_neg h]
        rfl
/-- The digits of a text, read again. -/
theorem horner_dec : ∀ (ds : List Nat), dig 10 ds → horner 10 0 (ds.reverse.map decB) = some (val 10 ds)
  | [], _ => rfl
  | d :: ds, h => by
    have hd : d < 10 := h d (by simp)
    have ih := horner_dec ds (fun z hz => h z (by simp [hz]))
    rw [List.reverse_cons, List.map_append, horner_app, ih]
    show horner 10 (val 10 ds) [decB d] = _
    unfold horner
    rw [decB_digit hd]
    simp only [hd, if_true]
    unfold horner
    simp only [val]
    congr 1
    omega
end Go.Proofs.Ytjacddclpcelmaa.AM.Bi
