/- ScanEnds: part X. -/
import Derived.Test.YtbdebcmklaooaaaDoorAm3
set_option maxRecDepth 1000000
set_option linter.unusedVariables false
namespace Go.Proofs.YtbdebcmklaooaaaDoor.AM
open Go.Proofs
theorem regionRun_L {T : FTab} {m : Nat} {ops : List HOp} {dr : Option (List (Nat × List Nat))} {st s : St} (h : regionRun (callA T m) ops dr st = some s) : regionRun (callL T) ops dr st = some s := by
  unfold regionRun at h ⊢
  cases dr with
  | none => exact opsRun_le (fun f vs σ r h => callL_some.2 ⟨m, h⟩) h
  | some is => exact opsRunD_le (fun f vs σ r h => callL_some.2 ⟨m, h⟩) h
/-- What a run says is so. -/
theorem wpc_of_exec {T : FTab} : ∀ (c : HCode) (n : Nat) (st : St) (o : Out) (s : St) (Q : Out → St → Prop), exec T n c st = some (o, s) → Q o s → wpc T c st Q
  | c, 0, st, o, s, Q, h, q => by rw [exec] at h; cases h
  | .skip, n + 1, st, o, s, Q, h, q => by rw [exec] at h; cases h; exact q
  | .region ops dr, n + 1, st, o, s, Q, h, q => by
    rw [exec] at h
    split at h
    · rename_i s' hr
      cases h
      exact ⟨_, regionRun_L hr, q⟩
    · cases h
  | .seq a b, n + 1, st, o, s, Q, h, q => by
    rw [exec] at h
    split at h
    · rename_i s' hr
      exact wpc_of_exec a n st .normal s' _ hr (wpc_of_exec b n s' o s Q h q)
    · rename_i hne
      refine wpc_of_exec a n st o s _ h ?_
      cases o with
      | normal => exact absurd h (hne s)
      | exit i => exact q
      | ret => exact q
  | .cond x a b, n + 1, st, o, s, Q, h, q => by
    rw [exec] at h
    split at h
    · rename_i v hv
      split at h
      · rename_i hb
        refine ⟨true, ?_, fun _ => wpc_of_exec a n st o s Q h q, fun e => by cases e⟩
        rw [hv]
        unfold asBool? at hb
        split at hb
        · cases hb; rfl
        · cases hb
      · rename_i hb
        refine ⟨false, ?_, fun e => (by cases e), fun _ => wpc_of_exec b n st o s Q h q⟩
        rw [hv]
        unfold asBool? at hb
        split at hb
        · cases hb; rfl
        · cases hb
      · cases h
    · cases h
  | .block i b, n + 1, st, o, s, Q, h, q => by
    rw [exec] at h
    cases hr : exec T n b st with
    | none => rw [hr] at h; cases h
    | some p =>
      obtain ⟨o', s'⟩ := p
      rw [hr] at h
      refine wpc_of_exec b n st o' s' _ hr ?_
      cases o' with
      | normal => cases h; exact q
      | ret => cases h; exact q
      | exit j =>
        simp only at h
        split at h
        · rename_i hj
          cases h
          subst hj
          simp only [blk, if_true]; exact q
        · rename_i hj
          cases h
          simp only [blk, hj, if_false]; exact q
  | .loop b, n + 1, st, o, s, Q, h, q => ⟨o, s, ⟨n + 1, h⟩, q⟩
  | .exit i, n + 1, st, o, s, Q, h, q => by rw [exec] at h; cases h; exact q
  | .ret, n + 1, st, o, s, Q, h, q => by rw [exec] at h; cases h; exact q
  | .bad, n + 1, st, o, s, Q, h, q => by rw [exec] at h; cases h
end Go.Proofs.YtbdebcmklaooaaaDoor.AM
