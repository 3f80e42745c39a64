/- IntText: part 71. -/
import Derived.Test.YtjacddclpcelmaaBi70
set_option maxRecDepth 1000000
set_option linter.unusedVariables false
set_option linter.unusedSimpArgs false
namespace Go.Proofs.Ytjacddclpcelmaa.AM.Bi
open Go.Proofs

/-- A slice of bytes that reads so. -/
structure Seen (l : List Nat) (v : V) (σ : Store) : Prop where
  el : elems σ 1 v = some (cK .u8 l, l.length)
  ln : opLen 1 v σ = some (nv .i64 l.length)
  ns : ∀ s, v ≠ .tr (.sc (.string s))
theorem seen_nil (σ : Store) : Seen [] (.tr (.sc (.slice none 0 0))) σ := ⟨rfl, rfl, fun s h => by cases h⟩
theorem seen_row {l : List Nat} {c : Option Nat} (σ : Store) : Seen l (.tr (.row (l.flatMap (nE .u8)) l.length c)) σ :=
  ⟨sl_elems (.inr ⟨c, rfl⟩), rfl, fun s h => by cases h⟩
theorem seen_own {l : List Nat} {σ : Store} {id g n : Nat} {c : Option Nat} (hs : σ[id]? = some (.row (cK .u8 l) g)) (hn : n = l.length) : Seen l (.own id g 0 n 1 c) σ := by
  subst hn
  have h1 : obCells σ id g = some (cK .u8 l) := by simp [obCells, hs]
  have h2 : slice? (cK .u8 l) 0 (l.length * 1) = some (cK .u8 l) := by
    unfold slice?
    have : ((cK .u8 l).drop 0).take (l.length * 1) = cK .u8 l := by
      rw [List.drop_zero, Nat.mul_one, List.take_of_length_le (by rw [cK_len]; exact Nat.le_refl _)]
    simp only [this]
    rw [if_pos (by rw [cK_len, Nat.mul_one])]
  exact ⟨by simp only [elems, if_true, h1, h2], rfl, fun s h => by cases h⟩
theorem bytes_cK : ∀ {l : List Nat}, dig 256 l → bytesOf? (cK .u8 l) = some (l.map UInt8.ofNat)
  | [], _ => rfl
  | x :: l, h => by
    have hx : x < 256 := h x (by simp)
    have ih := bytes_cK (l := l) (fun z hz => h z (by simp [hz]))
    have e : cK .u8 (x :: l) = .tr (.sc (.int .u8 (x : Int))) :: cK .u8 l := rfl
    rw [e]
    unfold bytesOf?
    rw [if_pos ⟨by omega, by omega⟩, ih]
    simp
theorem seen_str {l : List Nat} {v : V} {σ : Store} (h : Seen l v σ) (hd : dig 256 l) : opConv .bytesStr v σ = some (.tr (.sc (.string ⟨⟨l.map UInt8.ofNat⟩⟩)), σ) := by
  unfold opConv
  simp only [h.el, bytes_cK hd]
  split
  · rename_i s
    exact absurd rfl (h.ns s)
  · rfl
/-- A byte laid ahead of others. -/
theorem seen_cons {l : List Nat} {v : V} {σ : Store} (h : Seen l v σ) (x : Nat) (hl : l.length ≤ 100000) :
    ∃ v' σ', opAppend 1 1 (.tr (.row [.sc (.int .u8 (x : Int))] 1 (some 1))) v σ = some (v', σ') ∧ Seen (x :: l) v' σ' := by
  have hr : room l.length 1 = true := room_ok (by omega) (by omega)
  have hr1 : room 1 1 = true := room_ok (by omega) (by omega)
  by_cases h0 : l.length = 0
  · obtain rfl := List.length_eq_zero_iff.1 h0
    refine ⟨.tr (.row [.sc (.int .u8 (x : Int))] 1 (some 1)), σ, ?_, seen_row (l := [x]) σ⟩
    unfold opAppend
    have h0 : room 0 1 = true := hr
    simp [h.el, h0]
  · have h0' : 0 < l.length := by omega
    refine ⟨.own σ.length 0 0 (1 + l.length) 1 none, σ ++ [.row (cK .u8 (x :: l)) 0], ?_, seen_own (by simp) (by simp; omega)⟩
    unfold opAppend
    simp [h.el, hr, hr1, h0, h0', cK]

/-- A number's text in base ten. -/
def txt (neg : Bool) (ds : List Nat) : ByteArray := ⟨⟨(if neg then [45] else []) ++ (if ds = [] then [48] else ds.reverse.map decB)⟩⟩
def TextR (z : Int) (t : Tree) : Prop := ∃ ds, dig 10 ds ∧ can ds ∧ val 10 ds = z.natAbs ∧ t = .sc (.string (txt (decide (z < 0)) ds))

theorem mapdec (ds : List Nat) : (ds.map (48 + ·)).map UInt8.ofNat = ds.map decB := by
  rw [List.map_map]; rfl
theorem dig48 {ds : List Nat} (h : dig 10 ds) : dig 256 (ds.map (48 + ·)) := by
  intro x hx
  obtain ⟨d, hd, rfl⟩ := List.mem_map.1 hx
  have := h d hd
  omega

theorem rtext_ok {N : Nat} {z : Int} {ta : Tree} (ha : RInt N z ta) (la : N ≤ 1000) : ∃ t, (∀ σ, callL T 38 [.tr ta] σ = some (.tr t, σ)) ∧ TextR z t := by
  obtain ⟨sa, rfl, hsa⟩ := ha
  refine call_iso (ts := [.agg [.sc (.bool (decide (z < 0))), sa]]) T38 rfl rfl ?_
  obtain ⟨neg, hneg⟩ : ∃ neg, neg = decide (z < 0) := ⟨_, rfl⟩
  unfold TextR
  rw [← hneg]
  obtain ⟨n, hn⟩ : ∃ n, n = z.natAbs := ⟨_, rfl⟩
  rw [← hn] at hsa ⊢
  have hnb : n < 2 ^ (16 * N) := by
    obtain ⟨l, hl, dl, cl, hv, hN⟩ := hsa
    have h1 := val_lt dl
    have h2 : (65536 : Nat) ^ l.length ≤ 65536 ^ N := Nat.pow_le_pow_right (by decide) (by omega)
    rw [show (65536 : Nat) = 2 ^ 16 by rfl, ← Nat.pow_mul, ← Nat.pow_mul] at h2
    rw [hv, show (65536 : Nat) = 2 ^ 16 by rfl, ← Nat.pow_mul] at h1
    omega
  simp
  obtain ⟨I, hI⟩ : ∃ I : Nat → St → Prop, I = (fun k s => ∃ r ds e L σ tr w, k = r + (if ds = [] then 1 else 0) ∧ s = ⟨e, L, σ⟩ ∧ NatSl N r tr ∧ Seen (ds.reverse.map (48 + ·)) w σ ∧ dig 10 ds ∧ (r = 0 → ds = [] ∨ ds = [0] ∨ can ds) ∧ (ds = [0] → r = 0 → n = 0) ∧ val 10 ds + 10 ^ ds.length * r = n ∧ ds.length ≤ 16 * N + 1 ∧ r * 2 ^ ds.length ≤ n ∧ look e 1 = some (.tr (.rptr [.sc (.bool neg), sa] 0)) ∧ look e 3 = some w ∧ look e 4 = some (.tr tr)) := ⟨_, rfl⟩
  refine wpc_loop I (n + 1) _ ?_ ?_
  · rw [hI]
    exact ⟨n, [], _, _, _, sa, _, by simp, rfl, hsa, seen_nil _, dig_nil _, fun _ => .inl rfl, by simp, by simp [val], by simp, by simp, by simp, by simp, by simp⟩
  intro k s hIs
  rw [hI] at hIs
  obtain ⟨r, ds, e, L, σ, tr, w, rfl, rfl, hr, hw, dd, hc, hz0, hv, hdl, hrp, h1, h3, h4⟩ := hIs
  obtain ⟨kl, hkl, hk0, hkN⟩ := nat_len hr
  have hwl : opLen 1 w σ = some (nv .i64 ds.length) := by rw [hw.ln]; simp
  by_cases hgo : 0 < r ∨ ds = []
  · obtain ⟨l, hl, dl, cl, hlv, hlN⟩ := hr
    obtain ⟨t, hsm, tq, rfl, hq⟩ := small_ok (m := 10) hl dl (by omega) (by decide) (by decide)
    rw [hlv] at hq hsm
    have hsm' : ∀ σ, callL T 64 [.tr tr, .tr (.sc (.int .i64 10))] σ = some (.tr (.tup [tq, .sc (.int .i64 ((r % 10 : Nat) : Int))]), σ) := hsm
    obtain ⟨d, hd⟩ : ∃ d, d = r % 10 := ⟨_, rfl⟩
    rw [← hd] at hsm'
    have hd10 : d < 10 := by omega
    obtain ⟨w', σ', happ, hw'⟩ := seen_cons hw (48 + d) (by simp; omega)
    have w1 : IntKind.i64.wrap (48 + (d : Int)) = ((48 + d : Nat) : Int) := by rw [w64 (by omega) (by omega)]; omega
    have w2 : IntKind.u8.wrap ((48 + d : Nat) : Int) = ((48 + d : Nat) : Int) := by
      simp [IntKind.wrap, IntKind.bits, IntKind.signed]; omega
    have hbs : ∀ σ, opBslice false 1 1 [.sc (.int .u8 0)] [(0, 1, nv .u8 (48 + d))] σ = some (.tr (.row [.sc (.int .u8 ((48 + d : Nat) : Int))] 1 (some 1)), σ) := fun σ => rfl
    have next : ∀ e' L', look e' 1 = some (.tr (.rptr [.sc (.bool neg), sa] 0)) → look e' 3 = some w' → look e' 4 = some (.tr tq) → ∃ k', k' < r + (if ds = [] then 1 else 0) ∧ I k' ⟨e', L', σ'⟩ := by
      intro e' L' g1 g3 g4
      have hlt : r / 10 < r + (if ds = [] then 1 else 0) := by
        rcases hgo with h | h
        · omega
        · rw [if_pos h]; omega
      refine ⟨r / 10, hlt, ?_⟩
      rw [hI]
      have hne : ds ++ [d] ≠ [] := by simp
      refine ⟨r / 10, ds ++ [d], e', L', σ', tq, w', by rw [if_neg hne, Nat.add_zero], rfl, nat_le hq (by omega), by simpa using hw', dig_append.2 ⟨dd, fun y hy => by simp at hy; omega⟩, ?_, ?_, ?_, ?_, ?_, g1, g3, g4⟩
      · intro h
        rcases Nat.eq_zero_or_pos r with h0 | h0
        · rcases hgo with h9 | h9
          · omega
          · exact .inr (.inl (by subst h9; simp; omega))
        · refine .inr (.inr ?_)
          intro hlast
          simp at hlast
          omega
      · intro h h8
        have hds : ds = [] := by
          cases ds with
          | nil => rfl
          | cons a b => simp at h
        subst hds
        simp at h
        simp [val] at hv
        omega
      · rw [val_append, List.length_append, List.length_singleton, Nat.pow_succ, Nat.mul_assoc]
        have e5 : 10 ^ ds.length * val 10 [d] + 10 ^ ds.length * (10 * (r / 10)) = 10 ^ ds.length * r := by
          rw [← Nat.mul_add]; congr 1; simp [val]; omega
        omega
      · rcases Nat.eq_zero_or_pos r with h0 | h0
        · rcases hgo with h9 | h9
          · omega
          · subst h9; simp
        · have h6 : 1 * 2 ^ ds.length ≤ r * 2 ^ ds.length := Nat.mul_le_mul_right _ (by omega)
          have h7 : ds.length < 16 * N := by
            rcases Nat.lt_or_ge ds.length (16 * N) with h | h
            · exact h
            · have : 2 ^ (16 * N) ≤ 2 ^ ds.length := Nat.pow_le_pow_right (by decide) h
              omega
          simp; omega
      · rw [List.length_append, List.length_singleton, Nat.pow_succ, Nat.mul_comm (2 ^ ds.length) 2, ← Nat.mul_assoc]
        exact Nat.le_trans (Nat.mul_le_mul_right _ (by omega)) hrp
    by_cases hr0 : 0 < r
    · have hk0' : (0 : Int) < kl := by have := hk0.2 hr0; omega
      simp [k38_3, h4, hkl, hk0', hk0.2 hr0, k38_5, hsm', w1, w2, hbs, h3, happ, opExtract, -Int.natCast_add]
      exact next _ _ (by simp [h1]) (by simp) (by simp)
    · have hr0' : r = 0 := by omega
      have hdn : ds = [] := hgo.resolve_left hr0
      have hk0' : kl = 0 := by omega
      have hdl0 : (ds.length : Int) = 0 := by rw [hdn]; rfl
      simp [k38_3, h4, hkl, hk0', h3, hwl, hdl0, k38_5, hsm', w1, w2, hbs, happ, opExtract, -Int.natCast_add]
      exact next _ _ (by simp [h1]) (by simp) (by simp)
  · have hr0 : r = 0 := by omega
    have hdn : ds ≠ [] := fun h => hgo (.inr h)
    have hk0' : kl = 0 := by omega
    have hdl0 : ¬ ((ds.length : Int) = 0) := by have := List.length_pos_iff.2 hdn; omega
    have hst := seen_str hw (by
      intro x hx
      obtain ⟨d, hd, rfl⟩ := List.mem_map.1 hx
      have := dd d (by simpa using hd)
      omega)
    rw [mapdec] at hst
    have hfin : ∃ ds', dig 10 ds' ∧ can ds' ∧ val 10 ds' = n ∧ (if ds' = [] then [48] else ds'.reverse.map decB) = ds.reverse.map decB := by
      by_cases hz : ds = [0]
      · have hn0 := hz0 hz hr0
        refine ⟨[], dig_nil _, can_nil, by simp [val, hn0], ?_⟩
        rw [hz]; rfl
      · refine ⟨ds, dd, ?_, ?_, by rw [if_neg hdn]⟩
        · rcases hc hr0 with h | h | h
          · exact absurd h hdn
          · exact absurd h hz
          · exact h
        · rw [hr0] at hv; omega
    obtain ⟨ds', d1, d2, d3, d4⟩ := hfin
    cases neg with
    | true =>
      have hadd : opBin .other .add (.tr (.sc (.string ⟨⟨[45]⟩⟩))) (.tr (.sc (.string ⟨⟨ds.reverse.map decB⟩⟩))) = some (.tr (.sc (.string (txt true ds')))) := by
        have hle : [(45 : UInt8)].length + (ds.reverse.map decB).length ≤ 2 ^ 62 := by simp; omega
        simp only [opBin, isNil, notNil, binSc, binStr, Bool.false_eq_true, if_false, if_pos hle]
        unfold txt
        rw [d4]; rfl
      simp only [List.map_reverse] at hst hadd
      simp [k38_3, h4, hkl, hk0', h3, hwl, hdl0, hdn, k38_7, h1, hst, hadd]
      exact ⟨ds', d1, d2, d3, rfl⟩
    | false =>
      have hadd : (⟨⟨ds.reverse.map decB⟩⟩ : ByteArray) = txt false ds' := by
        unfold txt; rw [d4]; rfl
      rw [hadd] at hst
      simp [k38_3, h4, hkl, hk0', h3, hwl, hdl0, hdn, k38_7, h1, k38_10, hst]
      exact ⟨ds', d1, d2, d3, rfl⟩
end Go.Proofs.Ytjacddclpcelmaa.AM.Bi
