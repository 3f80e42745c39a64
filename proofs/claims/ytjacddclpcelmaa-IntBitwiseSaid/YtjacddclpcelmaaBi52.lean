/- IntBitwise: part 52. -/
import Derived.Test.YtjacddclpcelmaaBi51
set_option maxRecDepth 1000000
set_option linter.unusedVariables false
set_option linter.unusedSimpArgs false
namespace Go.Proofs.Ytjacddclpcelmaa.AM.Bi
open Go.Proofs

theorem set_top {l : List Nat} {q z x : Nat} (hl : l.length = q + 1) (hx : l[q]? = some x) : val 65536 (l.set q (x + z)) = val 65536 l + 65536 ^ q * z := by
  have h1 := val_take_set (B := 65536) (x := x + z) (show q < l.length by omega)
  rw [List.take_of_length_le (by simp; omega)] at h1
  have h2 := val_take_succ (B := 65536) (l := l) (i := q) (by omega)
  rw [List.take_of_length_le (by omega)] at h2
  have h3 : l[q]'(by omega) = x := by
    rw [List.getElem?_eq_getElem (by omega)] at hx
    exact Option.some.inj hx
  rw [h1, h2, h3, Nat.mul_add, Nat.add_assoc]
theorem top_lt {l : List Nat} {i q x D : Nat} (hq : q = i / 16) (hl : l.length = q + 1) (hx : l[q]? = some x) (hv : val 65536 l = D % 2 ^ i) : x < 2 ^ (i % 16) := by
  have h2 := val_take_succ (B := 65536) (l := l) (i := q) (by omega)
  rw [List.take_of_length_le (by omega)] at h2
  have h3 : l[q]'(by omega) = x := by
    rw [List.getElem?_eq_getElem (by omega)] at hx
    exact Option.some.inj hx
  rw [h3] at h2
  have h4 : D % 2 ^ i < 2 ^ i := Nat.mod_lt _ (Nat.pow_pos (by decide))
  have h5 := pow_parts i
  rw [← hq] at h5
  rcases Nat.lt_or_ge x (2 ^ (i % 16)) with h | h
  · exact h
  · have h6 : 65536 ^ q * 2 ^ (i % 16) ≤ 65536 ^ q * x := Nat.mul_le_mul_left _ h
    omega

/-- One bit of the answer, its place being there. -/
theorem rbw_rest {op : ByteArray} {u w i o n q D g N : Nat} {d : List Nat} {sx sy : Tree} {S0 : Ob} {b1 b2 : Bool} {e L : List (Nat × V)} {X6 : V} (hx : NatSl N u sx) (hy : NatSl N w sy) (hN : N ≤ 100000) (hi : i < n) (hn : n ≤ 90000) (hc : bwCode op = some o) (hD : D = G o u w)
    (hq : q = i / 16) (dl : d.length = q + 1) (dd : dig 65536 d) (dv : val 65536 d = D % 2 ^ i)
    (h0 : look e 0 = some (.tr (.sc (.string op)))) (h6 : look e 6 = some X6) (h8 : look e 8 = some (nv .i64 n)) (h9 : look e 9 = some (.ptr 1 0 0)) (h10 : look e 10 = some (.ptr 2 0 0)) (h11 : look e 11 = some (.own 3 g 0 (q + 1) 1 none)) (h12 : look e 12 = some (nv .i64 i)) {QQ : Out → St → Prop}
    (hQQ : ∀ e' L' d', dig 65536 d' → d'.length = q + 1 → val 65536 d' = D % 2 ^ (i + 1) → look e' 0 = some (.tr (.sc (.string op))) → look e' 6 = some X6 → look e' 8 = some (nv .i64 n) → look e' 9 = some (.ptr 1 0 0) → look e' 10 = some (.ptr 2 0 0) → look e' 11 = some (.own 3 g 0 (q + 1) 1 none) → look e' 12 = some (nv .i64 i) →
      QQ .normal ⟨e', L', [S0, .row [bv b1, .tr sx] 0, .row [bv b2, .tr sy] 0, .row (cK .i64 d') g]⟩) :
    wpc T k29_12 ⟨e, L, [S0, .row [bv b1, .tr sx] 0, .row [bv b2, .tr sy] 0, .row (cK .i64 d) g]⟩ QQ := by
  have hb1 := bit_ok hx hN i (by omega)
  have hb2 := bit_ok hy hN i (by omega)
  have hqb := fun σ => quiet_tr (σ := σ) (ts := [sx, .sc (.int .i64 (i : Int))]) hb1
  simp only [List.map_cons, List.map_nil] at hqb
  obtain ⟨σ, hσ⟩ : ∃ σ : Store, σ = [S0, .row [bv b1, .tr sx] 0, .row [bv b2, .tr sy] 0, .row (cK .i64 d) g] := ⟨_, rfl⟩
  have hl1 : opLoad 1 false (.ptr 1 0 1) σ = some (.tr sx) := by rw [hσ]; rfl
  have hl2 : opLoad 1 false (.ptr 2 0 1) σ = some (.tr sy) := by rw [hσ]; rfl
  have hs3 : σ[3]? = some (.row (cK .i64 d) g) := by rw [hσ]; rfl
  obtain ⟨x, hxd⟩ : ∃ x, d[q]? = some x := ⟨_, List.getElem?_eq_getElem (by omega)⟩
  have hxl := top_lt hq dl hxd dv
  have h16 := bit16 i
  have hbits : (D.testBit i) = fb o (u.testBit i) (w.testBit i) := by rw [hD, G_bit]
  rw [← bit_div] at hb1 hb2 hqb
  generalize u.testBit i = pb at *
  generalize w.testBit i = qb at *
  obtain ⟨v, hv⟩ : ∃ v, v = (fb o pb qb).toNat := ⟨_, rfl⟩
  have hv1 : v ≤ 1 := by rw [hv]; exact Bool.toNat_le _
  obtain ⟨p, hp⟩ : ∃ p, p = pb.toNat := ⟨_, rfl⟩
  obtain ⟨r, hr⟩ : ∃ r, r = qb.toNat := ⟨_, rfl⟩
  rw [← hp] at hb1 hqb
  rw [← hr] at hb2
  obtain ⟨z, hz⟩ : ∃ z, z = v * 2 ^ (i % 16) := ⟨_, rfl⟩
  have hzl : z ≤ 2 ^ (i % 16) := by
    rw [hz]
    rcases (show v = 0 ∨ v = 1 by omega) with h | h <;> rw [h] <;> omega
  have hfit : 2 ^ (i % 16) + 2 ^ (i % 16) ≤ 65536 := by
    have h1 : i % 16 + 1 ≤ 16 := Nat.mod_lt _ (by decide)
    have h2 : 2 ^ (i % 16 + 1) ≤ 2 ^ 16 := Nat.pow_le_pow_right (by decide) h1
    rw [Nat.pow_succ] at h2
    omega
  have hqu : opBin .other .quo (nv .i64 i) (.tr (.sc (.int .i64 16))) = some (nv .i64 q) := by rw [hq]; exact quo_nn i 16 (by omega) (by omega)
  have hre : opBin .other .rem (nv .i64 i) (.tr (.sc (.int .i64 16))) = some (nv .i64 (i % 16)) := rem_nn i 16 (by omega)
  have hsh : opBin .other .shl (nv .i64 v) (nv .i64 (i % 16)) = some (nv .i64 z) := by
    have := shl_i64 v (i % 16) (by omega) (by rw [← hz]; omega)
    rw [← hz] at this
    exact this
  have hia : opIaddr 1 (.own 3 g 0 (q + 1) 1 none) (nv .i64 q) σ = some (.ptr 3 g (0 + q)) := own_iaddr hs3 (by omega)
  rw [Nat.zero_add] at hia
  have hld : opLoad 1 false (.ptr 3 g q) σ = some (nv .i64 x) := own_load hs3 hxd
  have hst : opStore 1 (.ptr 3 g q) (nv .i64 (x + z)) σ = some [S0, .row [bv b1, .tr sx] 0, .row [bv b2, .tr sy] 0, .row (cK .i64 (d.set q (x + z))) g] := by
    rw [own_store hs3 (by omega), hσ]; rfl
  have w5 : IntKind.i64.wrap ((x : Int) + z) = ((x + z : Nat) : Int) := w64 (by omega) (by omega)
  have fin : ∀ e' L', look e' 0 = some (.tr (.sc (.string op))) → look e' 6 = some X6 → look e' 8 = some (nv .i64 n) → look e' 9 = some (.ptr 1 0 0) → look e' 10 = some (.ptr 2 0 0) → look e' 11 = some (.own 3 g 0 (q + 1) 1 none) → look e' 12 = some (nv .i64 i) → look e' 15 = some (nv .i64 v) → wpc T k29_24 ⟨e', L', σ⟩ QQ := by
    intro e' L' h0 h6 h8 h9 h10 h11 h12 h15
    simp [k29_24, h11, h12, hqu, hia, hld, h15, hre, hsh, w5, hst, -Int.natCast_add, -Int.natCast_ediv, -Int.natCast_emod]
    refine hQQ _ _ _ (dig_set dd (by omega)) (by simpa using dl) ?_ (by simp [h0]) (by simp [h6]) (by simp [h8]) (by simp [h9]) (by simp [h10]) (by simp [h11]) (by simp [h12])
    rw [set_top dl hxd, dv, mod_bit, hbits, ← hv, hz, ← pow_parts i, ← hq, ← Nat.mul_assoc, Nat.mul_right_comm]
  rw [← hσ]
  have es : ∀ (s t : ByteArray), opBin .other .eql (.tr (.sc (.string s))) (.tr (.sc (.string t))) = some (.tr (.sc (.bool (bytesEq s.data.toList t.data.toList)))) := bin_str
  rcases bwCode_cases op with ⟨e1, hc'⟩ | ⟨e1, e2, hc'⟩ | ⟨e1, e2, e3, hc'⟩ | ⟨e1, e2, e3, e4, hc'⟩ | ⟨_, _, _, _, hc'⟩ <;> rw [hc'] at hc <;> cases hc
  · have a1 : IntKind.i64.wrap ((p : Int) * r) = v := by rw [hp, hr, hv]; cases pb <;> cases qb <;> rfl
    simp [k29_12, h9, h12, hl1, hqb, h10, hl2, hb2, h0, es, e1, a1, -Int.natCast_add, -Int.natCast_mul]
    exact fin _ _ (by simp [h0]) (by simp [h6]) (by simp [h8]) (by simp [h9]) (by simp [h10]) (by simp [h11]) (by simp [h12]) (by simp)
  · obtain ⟨s1, a1⟩ : ∃ s1 : Nat, IntKind.i64.wrap ((p : Int) + r) = s1 := ⟨p + r, by rw [hp, hr]; cases pb <;> cases qb <;> rfl⟩
    obtain ⟨s2, a2⟩ : ∃ s2 : Nat, IntKind.i64.wrap ((p : Int) * r) = s2 := ⟨p * r, by rw [hp, hr]; cases pb <;> cases qb <;> rfl⟩
    have a3 : IntKind.i64.wrap ((s1 : Int) - s2) = v := by rw [← a1, ← a2, hp, hr, hv]; cases pb <;> cases qb <;> rfl
    simp [k29_12, h9, h12, hl1, hqb, h10, hl2, hb2, h0, es, e1, e2, a1, a2, a3, -Int.natCast_add, -Int.natCast_mul]
    exact fin _ _ (by simp [h0]) (by simp [h6]) (by simp [h8]) (by simp [h9]) (by simp [h10]) (by simp [h11]) (by simp [h12]) (by simp)
  · obtain ⟨s1, a1, a2⟩ : ∃ s1 : Nat, IntKind.i64.wrap ((p : Int) + r) = s1 ∧ s1 % 2 = v := ⟨p + r, by rw [hp, hr]; cases pb <;> cases qb <;> rfl, by rw [hp, hr, hv]; cases pb <;> cases qb <;> rfl⟩
    have a3 : opBin .other .rem (nv .i64 s1) (.tr (.sc (.int .i64 2))) = some (nv .i64 v) := by rw [← a2]; exact rem_nn s1 2 (by omega)
    simp [k29_12, h9, h12, hl1, hqb, h10, hl2, hb2, h0, es, e1, e2, e3, a1, a3, -Int.natCast_add, -Int.natCast_mul]
    exact fin _ _ (by simp [h0]) (by simp [h6]) (by simp [h8]) (by simp [h9]) (by simp [h10]) (by simp [h11]) (by simp [h12]) (by simp)
  · obtain ⟨s1, a1⟩ : ∃ s1 : Nat, IntKind.i64.wrap (1 - (r : Int)) = s1 := ⟨1 - r, by rw [hr]; cases qb <;> rfl⟩
    have a3 : IntKind.i64.wrap ((p : Int) * s1) = v := by rw [← a1, hp, hr, hv]; cases pb <;> cases qb <;> rfl
    simp [k29_12, h9, h12, hl1, hqb, h10, hl2, hb2, h0, es, e1, e2, e3, e4, a1, a3, -Int.natCast_add, -Int.natCast_mul]
    exact fin _ _ (by simp [h0]) (by simp [h6]) (by simp [h8]) (by simp [h9]) (by simp [h10]) (by simp [h11]) (by simp [h12]) (by simp)
end Go.Proofs.Ytjacddclpcelmaa.AM.Bi
