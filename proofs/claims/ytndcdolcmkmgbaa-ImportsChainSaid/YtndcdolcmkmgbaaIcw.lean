/- ImportsChain walked: at any two whole numbers it answers true. -/
import Derived.Test.YtndcdolcmkmgbaaIcd1
import Derived.Test.YtndcdolcmkmgbaaIcc1
import Derived.Test.YtndcdolcmkmgbaaIcc2
import Derived.Test.YtndcdolcmkmgbaaIcc3
import Derived.Test.YtndcdolcmkmgbaaIcc4
import Derived.Test.YtndcdolcmkmgbaaIcc5
import Derived.Test.YtndcdolcmkmgbaaIcc6
import Derived.Test.YtndcdolcmkmgbaaIcc7
namespace Go.Proofs.Ytndcdolcmkmgbaa.AM.Xb
open Go.Proofs Go.RowKit
theorem mixed : Try.prog.follows .mixedOrders = true := by kernel_rfl
theorem isTrueG_iff {r : R} (h : isTrueG r = true) : ∃ s, r = some (bool true, s) := by
  unfold isTrueG at h
  split at h
  · exact ⟨_, rfl⟩
  · cases h
/-- What the fast form says true, the machine says true. -/
theorem of_true {k : Nat} {f : FuncId} {vs : List V} (h : isTrueG (callG TG k f vs FS.nil) = true) : ∃ m σ, callA T m f vs [] = some (bool true, σ) := by
  obtain ⟨s, hs⟩ := isTrueG_iff h
  obtain ⟨m, σ, h1, _⟩ := callG_some fastOk k _ _ _ _ _ _ hs SRel.nil
  exact ⟨m, σ, h1⟩
theorem okAll_at {n : Nat} (h : okAll n = true) (b : Int) (h1 : -1 ≤ b) (h2 : b < n) : okAt n b = true := by
  unfold okAll at h
  rw [List.all_eq_true] at h
  have := h (b + 1).toNat (by rw [List.mem_range]; omega)
  have e : (((b + 1).toNat : Nat) : Int) - 1 = b := by omega
  rw [e] at this
  exact this
theorem inside (n b : Int) (h1 : 1 ≤ n) (h2 : n ≤ 20) (h3 : -1 ≤ b) (h4 : b < n) : okAt n b = true := by
  obtain ⟨k, rfl⟩ : ∃ k : Nat, n = k := ⟨n.toNat, by omega⟩
  refine okAll_at ?_ b h3 h4
  have hk : k = 1 ∨ k = 2 ∨ k = 3 ∨ k = 4 ∨ k = 5 ∨ k = 6 ∨ k = 7 ∨ k = 8 ∨ k = 9 ∨ k = 10 ∨ k = 11 ∨ k = 12 ∨ k = 13 ∨ k = 14 ∨ k = 15 ∨ k = 16 ∨ k = 17 ∨ k = 18 ∨ k = 19 ∨ k = 20 := by omega
  rcases hk with rfl | rfl | rfl | rfl | rfl | rfl | rfl | rfl | rfl | rfl | rfl | rfl | rfl | rfl | rfl | rfl | rfl | rfl | rfl | rfl
  · exact ok1
  · exact ok2
  · exact ok3
  · exact ok4
  · exact ok5
  · exact ok6
  · exact ok7
  · exact ok8
  · exact ok9
  · exact ok10
  · exact ok11
  · exact ok12
  · exact ok13
  · exact ok14
  · exact ok15
  · exact ok16
  · exact ok17
  · exact ok18
  · exact ok19
  · exact ok20

theorem callA_shared {T : FTab} {f : FuncId} {fn : HFn} {args : List V} {σ : Store} {r : V × Store} {n : Nat} (h : T f = some fn) (hm : fn.mode = .shared) (hl : fn.nargs = args.length) (e : runA T n fn args σ = some r) : callA T (n + 1) f args σ = some r := by
  rw [callA, h]
  simp only [hl, if_true, hm]
  exact e
theorem answer (n b : Int) : ∃ m σ, callA T m 4 [int .i64 n, int .i64 b] [] = some (bool true, σ) := by
  by_cases h : n < 1 ∨ n > 20 ∨ b < -1 ∨ b ≥ n
  · obtain ⟨m, σ, hb⟩ := of_true begunG
    have hb := callA_mono T m (m + 17) (by omega) _ _ _ _ hb
    refine ⟨m + 22, σ, ?_⟩
    have := outside hb n b h
    exact callA_shared T4 rfl rfl this
  · exact of_true (inside n b (by omega) (by omega) (by omega) (by omega))
theorem walk (n b : Int) (w : World) : Calls Try.prog 4 #[.int .i64 n, .int .i64 b] w fun e w' => e = .returned (.bool true) ∧ Below w.heap.size w w' := by
  obtain ⟨m, σ, h⟩ := answer n b
  obtain ⟨_, hc⟩ := (am_ok mixed tabOk m).2 _ _ _ _ _ h
  refine (hc w.heap.size w (fun _ => False) (fun _ => none) w [.int .i64 n, .int .i64 b] (Inv.empty _ (fun _ h => h.elim)) ?_).mono ?_
  · simp only [RVL, RV, RT, int]
    exact ⟨_, _, rfl, rfl, _, _, rfl, rfl, rfl⟩
  · rintro e w' ⟨x, rfl, ρ, hI, _, hr⟩
    simp only [RV, RT, bool] at hr
    subst hr
    exact ⟨rfl, hI.below⟩
end Go.Proofs.Ytndcdolcmkmgbaa.AM.Xb
