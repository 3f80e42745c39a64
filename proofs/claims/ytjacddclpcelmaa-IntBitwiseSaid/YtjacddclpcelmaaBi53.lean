/- IntBitwise: part 53. -/
import Derived.Test.YtjacddclpcelmaaBi52
set_option maxRecDepth 1000000
set_option linter.unusedVariables false
set_option linter.unusedSimpArgs false
namespace Go.Proofs.Ytjacddclpcelmaa.AM.Bi
open Go.Proofs

/-- The digits of a slice that grows behind other rows. -/
def GrownP (pre : Store) (l : List Nat) (w : V) (σ : Store) : Prop := (l = [] ∧ w = .tr (.sc (.slice none 0 0)) ∧ σ = pre) ∨ ∃ g, l ≠ [] ∧ w = .own pre.length g 0 l.length 1 none ∧ σ = pre ++ [.row (cK .i64 l) g]
theorem grownP_app {pre : Store} {l : List Nat} {w : V} {σ : Store} (h : GrownP pre l w σ) (hl : l.length ≤ 1000000) (c : Option Nat) :
    ∃ g, opAppend 1 8 w (.tr (.row [.sc (.int .i64 0)] 1 c)) σ = some (.own pre.length g 0 (l.length + 1) 1 none, pre ++ [.row (cK .i64 (l ++ [0])) g]) := by
  have hs : IsSl (nE .i64) [0] (.tr (.row [.sc (.int .i64 0)] 1 c)) := .inr ⟨c, rfl⟩
  rcases h with ⟨rfl, rfl, rfl⟩ | ⟨g, h0, rfl, rfl⟩
  · exact ⟨0, app_nil hs (by simp) (room_ok (by simp) (by omega))⟩
  · refine ⟨g + 1, ?_⟩
    rw [app_own (l := l) (by simp) rfl hs (by simp) (room_ok (by simp) (by omega)) (room_ok hl (by omega))]
    simp

/-- What the reference's Bitwise gives. -/
def RBwR (op : ByteArray) (u w : Int) (t : Tree) : Prop := match bwCode op with
  | none => t = .tup [.agg [.sc (.bool false), .sc (.slice none 0 0)], .sc (.bool false)]
  | some o => ∃ r m M, t = .tup [r, .sc (.bool true)] ∧ fits m u ∧ fits m w ∧ M ≤ 9000 ∧ RInt M (sgnd m (G o (tc (m + 1) u) (tc (m + 1) w))) r

/-- One bit of the answer. -/
theorem rbw_body {op : ByteArray} {u w i o n D N : Nat} {d : List Nat} {sx sy : Tree} {S0 : Ob} {b1 b2 : Bool} {e L : List (Nat × V)} {X6 v : V} {σ : Store} (hx : NatSl N u sx) (hy : NatSl N w sy) (hN : N ≤ 100000) (hi : i < n) (hn : n ≤ 90000) (hc : bwCode op = some o) (hD : D = G o u w)
    (hg : GrownP [S0, .row [bv b1, .tr sx] 0, .row [bv b2, .tr sy] 0] d v σ) (dl : d.length = (i + 15) / 16) (dd : dig 65536 d) (dv : val 65536 d = D % 2 ^ i)
    (h0 : look e 0 = some (.tr (.sc (.string op)))) (h6 : look e 6 = some X6) (h8 : look e 8 = some (nv .i64 n)) (h9 : look e 9 = some (.ptr 1 0 0)) (h10 : look e 10 = some (.ptr 2 0 0)) (h11 : look e 11 = some v) (h12 : look e 12 = some (nv .i64 i)) {QQ : Out → St → Prop}
    (hQQ : ∀ e' L' d' v' σ', GrownP [S0, .row [bv b1, .tr sx] 0, .row [bv b2, .tr sy] 0] d' v' σ' → dig 65536 d' → d'.length = (i + 1 + 15) / 16 → val 65536 d' = D % 2 ^ (i + 1) → look e' 0 = some (.tr (.sc (.string op))) → look e' 6 = some X6 → look e' 8 = some (nv .i64 n) → look e' 9 = some (.ptr 1 0 0) → look e' 10 = some (.ptr 2 0 0) → look e' 11 = some v' → look e' 12 = some (nv .i64 (i + 1)) →
      QQ .normal ⟨e', L', σ'⟩) :
    wpc T k29_10 ⟨e, L, σ⟩ QQ := by
  have hre : opBin .other .rem (nv .i64 i) (.tr (.sc (.int .i64 16))) = some (nv .i64 (i % 16)) := rem_nn i 16 (by omega)
  have w5 : IntKind.i64.wrap ((i : Int) + 1) = ((i + 1 : Nat) : Int) := w64 (by omega) (by omega)
  suffices rest : ∀ e' L' d1 g, dig 65536 d1 → d1.length = i / 16 + 1 → val 65536 d1 = D % 2 ^ i → look e' 0 = some (.tr (.sc (.string op))) → look e' 6 = some X6 → look e' 8 = some (nv .i64 n) → look e' 9 = some (.ptr 1 0 0) → look e' 10 = some (.ptr 2 0 0) → look e' 11 = some (.own 3 g 0 (i / 16 + 1) 1 none) → look e' 12 = some (nv .i64 i) →
      wpc T k29_12 ⟨e', L', [S0, .row [bv b1, .tr sx] 0, .row [bv b2, .tr sy] 0, .row (cK .i64 d1) g]⟩ (blk 1 (AM.sq T k29_25 QQ)) by
    by_cases h16 : i % 16 = 0
    · have h16' : ((i % 16 : Nat) : Int) = 0 := by omega
      obtain ⟨g, happ⟩ := grownP_app hg (by omega) (some 1)
      have hbs : ∀ σ, opBslice false 1 1 [.sc (.int .i64 0)] [(0, 1, .tr (.sc (.int .i64 0)))] σ = some (.tr (.row [.sc (.int .i64 0)] 1 (some 1)), σ) := fun σ => rfl
      simp only [List.length_cons, List.length_nil, Nat.zero_add, Nat.reduceAdd, List.cons_append, List.nil_append] at happ
      have hdl : d.length + 1 = i / 16 + 1 := by omega
      rw [hdl] at happ
      simp [k29_10, h12, hre, h16, h11, hbs, happ, -Int.natCast_emod]
      refine rest _ _ (d ++ [0]) g (dig_append.2 ⟨dd, fun x hx => by simp at hx; omega⟩) (by simp; omega) ?_ (by simp [h0]) (by simp [h6]) (by simp [h8]) (by simp [h9]) (by simp [h10]) (by simp) (by simp [h12])
      rw [← dv]
      exact val_pad (l := d) 1
    · have h16' : ¬ ((i % 16 : Nat) : Int) = 0 := by omega
      rcases hg with ⟨rfl, _, _⟩ | ⟨g, _, rfl, rfl⟩
      · simp at dl; omega
      simp only [List.length_cons, List.length_nil, Nat.zero_add, Nat.reduceAdd, List.cons_append, List.nil_append] at h11
      have hdl : d.length = i / 16 + 1 := by omega
      rw [hdl] at h11
      simp [k29_10, h12, hre, h16, -Int.natCast_emod]
      exact rest _ _ d g dd hdl dv (by simp [h0]) (by simp [h6]) (by simp [h8]) (by simp [h9]) (by simp [h10]) (by simp [h11]) (by simp [h12])
  clear h0 h6 h8 h9 h10 h11 h12 dd dl dv hg
  intro e' L' d1 g dd1 dl1 dv1 h0 h6 h8 h9 h10 h11 h12
  refine rbw_rest hx hy hN hi hn hc hD rfl dl1 dd1 dv1 h0 h6 h8 h9 h10 h11 h12 ?_
  intro e2 L2 d' dd' dl' dv' h0 h6 h8 h9 h10 h11 h12
  show wpc T k29_25 _ QQ
  simp [k29_25, h12, w5, -Int.natCast_add]
  refine hQQ _ _ d' _ _ (.inr ⟨g, by intro h; rw [h] at dl'; simp at dl', rfl, rfl⟩) dd' (by omega) dv' (by simp [h0]) (by simp [h6]) (by simp [h8]) (by simp [h9]) (by simp [h10]) ?_ (by simp)
  simp [h11, dl']
end Go.Proofs.Ytjacddclpcelmaa.AM.Bi
