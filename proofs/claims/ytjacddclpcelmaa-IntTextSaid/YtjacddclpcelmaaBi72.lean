/- IntText: part 72. -/
import Derived.Test.YtjacddclpcelmaaBi71
set_option maxRecDepth 1000000
set_option linter.unusedVariables false
set_option linter.unusedSimpArgs false
namespace Go.Proofs.Ytjacddclpcelmaa.AM.Bi
open Go.Proofs

/-- What is beneath is left, what is divided is put above. -/
theorem shrink2_ok {l zz : List Nat} {σ : Store} {id n by_ : Nat} {cap : Option Nat} (hs : σ[id]? = some (.row (cK .u32 (l ++ zz)) 0)) (hn : n = l.length) (hd : dig 4294967296 l) (hl : l.length ≤ 100000) (hb : 0 < by_) (hb2 : by_ < 4294967296) :
    ∃ m, callL T 54 [.own id 0 0 n 1 cap, nv .u32 by_] σ = some (nv .u32 (val 4294967296 l % by_), σ.set id (.row (cK .u32 (m ++ zz)) 0)) ∧ dig 4294967296 m ∧ m.length = l.length ∧ val 4294967296 m = val 4294967296 l / by_ := by
  subst hn
  suffices hh : ∃ v σ', callL T 54 [.own id 0 0 l.length 1 cap, nv .u32 by_] σ = some (v, σ') ∧ ∃ m, v = nv .u32 (val 4294967296 l % by_) ∧ σ' = σ.set id (.row (cK .u32 (m ++ zz)) 0) ∧ dig 4294967296 m ∧ m.length = l.length ∧ val 4294967296 m = val 4294967296 l / by_ by
    obtain ⟨v, σ', h1, m, rfl, rfl, h2⟩ := hh
    exact ⟨m, h1, h2⟩
  have hid : id < σ.length := (List.getElem?_eq_some_iff.1 hs).1
  refine call_shared T54 rfl rfl ?_
  have hw : IntKind.i64.wrap ((l.length : Int) - 1) = (l.length : Int) - 1 := w64 (by omega) (by omega)
  simp [own_len, hw]
  obtain ⟨I, hI⟩ : ∃ I : Nat → St → Prop, I = (fun n s => n ≤ l.length ∧ ∃ e L m rest, s = ⟨e, L, σ.set id (.row (cK .u32 (m ++ zz)) 0)⟩ ∧ look e 0 = some (.own id 0 0 l.length 1 cap) ∧ look e 1 = some (nv .u32 by_) ∧ look e 5 = some (nv .u64 rest) ∧ look e 6 = some (iv ((n : Int) - 1))
    ∧ rest < by_ ∧ dig 4294967296 m ∧ m.length = l.length ∧ m.take n = l.take n ∧ val 4294967296 (m.drop n) * by_ + rest = val 4294967296 (l.drop n)) := ⟨_, rfl⟩
  refine wpc_loop I l.length _ ?_ ?_
  · rw [hI]
    exact ⟨Nat.le_refl _, _, _, l, 0, by rw [set_id hs], by simp, by simp, by simp, by simp, hb, hd, rfl, rfl, by simp [val]⟩
  intro n s hIs
  rw [hI] at hIs
  obtain ⟨hn, e, L, m, rest, rfl, h0, h1, h5, h6, hr, hdm, hml, htk, hv⟩ := hIs
  have hs2 : (σ.set id (.row (cK .u32 (m ++ zz)) 0))[id]? = some (.row (cK .u32 (m ++ zz)) 0) := by rw [List.getElem?_set_self hid]
  by_cases hp : 0 < n
  · obtain ⟨n, rfl⟩ : ∃ k, n = k + 1 := ⟨n - 1, by omega⟩
    have e1 : ((n + 1 : Nat) : Int) - 1 = (n : Int) := by omega
    rw [e1] at h6
    have hx : m[n]? = some m[n] := List.getElem?_eq_getElem (by omega)
    have hxd : m[n] < 4294967296 := dig_at hdm (by omega)
    have hxl : m[n] = l[n] := by
      have := congrArg (fun q => q[n]?) htk
      simp only [List.getElem?_take_of_lt (show n < n + 1 by omega)] at this
      rw [List.getElem?_eq_getElem (by omega), List.getElem?_eq_getElem (by omega)] at this
      exact Option.some.inj this
    obtain ⟨x, hxx⟩ : ∃ x, x = m[n] := ⟨_, rfl⟩
    rw [← hxx] at hx hxd hxl
    obtain ⟨s, hs3⟩ : ∃ s, s = rest * 4294967296 + x := ⟨_, rfl⟩
    have hsb : s < by_ * 4294967296 := by omega
    have hq : s / by_ < 4294967296 := by rw [Nat.div_lt_iff_lt_mul hb, Nat.mul_comm]; exact hsb
    have hdm2 := Nat.div_add_mod s by_
    obtain ⟨sq, hsq⟩ : ∃ sq, sq = s / by_ := ⟨_, rfl⟩
    rw [← hsq] at hq hdm2
    have hia : opIaddr 1 (.own id 0 0 l.length 1 cap) (nv .i64 n) (σ.set id (.row (cK .u32 (m ++ zz)) 0)) = some (.ptr id 0 (0 + n)) := own_iaddr hs2 (by omega)
    rw [Nat.zero_add] at hia
    have hld : opLoad 1 false (.ptr id 0 n) (σ.set id (.row (cK .u32 (m ++ zz)) 0)) = some (nv .u32 x) := own_load hs2 (by rw [List.getElem?_append_left (by omega)]; exact hx)
    have hst : ∀ y : Nat, opStore 1 (.ptr id 0 n) (nv .u32 y) (σ.set id (.row (cK .u32 (m ++ zz)) 0)) = some (σ.set id (.row (cK .u32 (m.set n y ++ zz)) 0)) := fun y => by
      rw [own_store hs2 (by simp; omega), List.set_set, List.set_append_left _ _ (by omega)]
    have w1 : IntKind.u64.wrap (x : Int) = x := wu64 (by omega) (by omega)
    have w2 : IntKind.u64.wrap (by_ : Int) = by_ := wu64 (by omega) (by omega)
    have w3 : IntKind.u32.wrap (sq : Int) = (sq : Int) := wu32 (by omega) (by omega)
    have w4 : IntKind.i64.wrap ((n : Int) - 1) = (n : Int) - 1 := w64 (by omega) (by omega)
    have hsh := shl_u64_32 rest (by omega)
    have hj := join_u64 rest x (by omega) hxd
    rw [← hs3] at hj
    have hqu := quo_u64 s by_ (by omega) (by omega)
    rw [← hsq] at hqu
    have hre := rem_u64 s by_ (by omega)
    simp [k54_3, h6, k54_5, h5, hsh, h0, hia, hld, w1, hj, h1, w2, hqu, w3, hst, hre, w4, -Int.natCast_ediv, -Int.natCast_emod, -Int.natCast_mul]
    refine ⟨n, by omega, ?_⟩
    rw [hI]
    refine ⟨by omega, _, _, m.set n sq, s % by_, rfl, by simp [h0], by simp [h1], by simp, by simp, Nat.mod_lt _ hb, dig_set hdm hq, by simpa using hml, ?_, ?_⟩
    · rw [List.take_set_of_le (Nat.le_refl _)]
      have := congrArg (List.take n) htk
      rwa [List.take_take, List.take_take, Nat.min_eq_left (by omega)] at this
    · rw [List.drop_eq_getElem_cons (by simp; omega), List.drop_eq_getElem_cons (show n < l.length by omega), List.getElem_set_self, List.drop_set_of_lt (by omega)]
      simp only [val]
      rw [← hxl, ← hv, Nat.add_mul]
      rw [Nat.mul_comm] at hdm2
      have e2 : 4294967296 * val 4294967296 (m.drop (n + 1)) * by_ = 4294967296 * (val 4294967296 (m.drop (n + 1)) * by_) := Nat.mul_assoc _ _ _
      omega
  · obtain rfl : n = 0 := by omega
    rw [List.drop_zero, List.drop_zero] at hv
    have hr2 : rest = val 4294967296 l % by_ := by
      rw [← hv, Nat.mul_comm, Nat.mul_add_mod_self_left, Nat.mod_eq_of_lt hr]
    have hq2 : val 4294967296 m = val 4294967296 l / by_ := by
      rw [← hv, Nat.mul_comm, Nat.mul_add_div hb, Nat.div_eq_of_lt hr, Nat.add_zero]
    have w5 : IntKind.u32.wrap (rest : Int) = rest := wu32 (by omega) (by omega)
    simp [k54_3, h6, k54_7, h5, w5, -Int.natCast_emod]
    exact ⟨hr2, m, rfl, hdm, hml, hq2⟩


theorem grown_set {k : IntKind} {S0 S1 : Ob} {l : List Nat} {w : V} {σ : Store} (h : Grown k S0 l w σ) : Grown k S1 l w (σ.set 0 S1) := by
  rcases h with ⟨h1, h2, rfl⟩ | ⟨g, h1, h2, rfl⟩
  · exact .inl ⟨h1, h2, rfl⟩
  · exact .inr ⟨g, h1, h2, rfl⟩
theorem norm_own {l zz : List Nat} {σ : Store} {id n : Nat} (hs : σ[id]? = some (.row (cK .u32 (l ++ zz)) 0)) (hn : n = l.length) (hl : l.length ≤ 1000000) : callL T 48 [.own id 0 0 n 1 none] σ = some (.own id 0 0 (trim l).length 1 none, σ) := by
  subst hn
  have ht : (trim l).length = tlen l l.length := by
    unfold trim; rw [List.length_take, Nat.min_eq_left (tlen_le _ _)]
  rw [ht]
  refine norm_gen (own_len) hl (fun i x hx => ?_) (cut_own hs (tlen_le _ _))
  have hi := (List.getElem?_eq_some_iff.1 hx).1
  refine ⟨.ptr id 0 i, ?_, own_load hs (by rw [List.getElem?_append_left hi]; exact hx)⟩
  rw [own_iaddr hs hi, Nat.zero_add]
theorem text_end {S0 : Ob} {bs : List Nat} {w : V} {σ : Store} {e L : List (Nat × V)} (hg : Grown .u8 S0 bs w σ) (hb : bs ≠ []) (hl : bs.length ≤ 100000) (db : dig 256 bs) (h4 : look e 4 = some w) :
    wpc T k33_17 ⟨e, L, σ⟩ (giv [.tmp 2] fun v σ' => v = .tr (.sc (.string ⟨⟨bs.reverse.map UInt8.ofNat⟩⟩))) := by
  rcases hg with ⟨h, _, _⟩ | ⟨g, _, rfl, rfl⟩
  · exact absurd h hb
  obtain ⟨v, hrv⟩ := reverse_ok (σ := [S0, .row (cK .u8 bs) g]) (id := 1) (cap := none) rfl rfl hl
  have hst := seen_str (seen_own (l := bs.reverse) (σ := [S0, .row (cK .u8 bs.reverse) g]) (id := 1) (c := none) rfl (n := bs.length) (by simp)) (fun d hd => db d (by simpa using hd))
  simp only [List.map_reverse] at hst
  simp [k33_17, h4, hrv, hst]
end Go.Proofs.Ytjacddclpcelmaa.AM.Bi
