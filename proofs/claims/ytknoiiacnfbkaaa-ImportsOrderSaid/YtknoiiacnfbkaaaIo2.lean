/- ImportsOrder: part 2. -/
import Derived.Test.YtknoiiacnfbkaaaIoB
import Derived.Test.YtknoiiacnfbkaaaIoMath
set_option maxRecDepth 1000000
set_option linter.unusedVariables false
set_option linter.unusedSimpArgs false
namespace Go.Proofs.Ytknoiiacnfbkaaa.AM.Io
open Go.Proofs

abbrev iT (z : Int) : Tree := .sc (.int .i64 z)
/-- Lists of whole numbers, as a tree. -/
def Ls (deps : List (List Int)) (ts : List Tree) : Prop := ts.length = deps.length ∧ ∀ (i : Nat) (x : Tree) (l : List Int), ts[i]? = some x → deps[i]? = some l → Rw (l.map iT) (.tr x)
theorem Ls.at {deps : List (List Int)} {ts : List Tree} (h : Ls deps ts) {i : Nat} {l : List Int} (hl : deps[i]? = some l) : ∃ x, ts[i]? = some x ∧ Rw (l.map iT) (.tr x) := by
  have hlt := (List.getElem?_eq_some_iff.1 hl).1
  have hlt' : i < ts.length := by rw [h.1]; exact hlt
  have hx : ts[i]? = some ts[i] := List.getElem?_eq_getElem hlt'
  exact ⟨_, hx, h.2 i _ l hx hl⟩
theorem Ls.ones {deps : List (List Int)} {ts : List Tree} (h : Ls deps ts) : ones ts := by
  intro t ht
  obtain ⟨i, hi⟩ := List.getElem?_of_mem ht
  have hlt := (List.getElem?_eq_some_iff.1 hi).1
  have hlt' : i < deps.length := by rw [← h.1]; exact hlt
  have hd : deps[i]? = some deps[i] := List.getElem?_eq_getElem hlt'
  exact rw_one (h.2 i t _ hi hd)
abbrev nT (x : Nat) : Tree := .sc (.int .i64 (x : Int))
/-- What was counted of those that were met. -/
def Kv (kv : List (Int × V)) (out : List Nat) (B : Int) : Prop := ∀ d : Int, (getK d kv = none ∧ ¬ ∃ x ∈ out, (x : Int) = d) ∨ ∃ c : Int, getK d kv = some (iv c) ∧ 1 ≤ c ∧ c ≤ B ∧ ∃ x ∈ out, (x : Int) = d
def encI (z : Int) : Value := .int .i64 z

/-- What is reached, in order. -/
def ReachR (deps : List (List Int)) (n : Nat) (frm : Int) (t : Tree) : Prop := ∃ l : List Nat, Rw (l.map nT) (.tr t) ∧ l.Pairwise (· < ·) ∧ ∀ x, x ∈ l ↔ (0 ≤ frm ∧ frm < n ∧ Rch (sc n deps) frm.toNat x)

def fl (n : Nat) (l : List Int) : List Nat := l.filterMap (fun (d : Int) => if 0 ≤ d ∧ d < (n : Int) then some d.toNat else none)
theorem sc_fl {n : Nat} {deps : List (List Int)} {i : Nat} {l : List Int} (h : deps[i]? = some l) : sc n deps i = fl n l := by
  unfold sc fl; rw [h]; rfl
theorem sc_take {n : Nat} {l : List Int} {i : Nat} {d : Int} (hi : l[i]? = some d) : fl n (l.take (i + 1)) = fl n (l.take i) ++ (if 0 ≤ d ∧ d < (n : Int) then [d.toNat] else []) := by
  unfold fl
  rw [List.take_add_one, hi, List.filterMap_append]
  congr 1
  simp only [Option.toList_some, List.filterMap_cons, List.filterMap_nil]
  split <;> rename_i h
  · split at h
    · cases h
    · rename_i h2; rw [if_neg h2]
  · split at h
    · rename_i h2
      cases h
      rw [if_pos h2]
    · cases h

theorem reach_inner {deps : List (List Int)} {ts : List Tree} {td : Tree} {n from_ at_ : Nat} {l : List Int} {x : Tree} {e L : List (Nat × V)} {σ : Store} {id6 : Nat} {w6 w7 : V} {todo out : List Nat} {kv : List (Int × V)} {B : Int} {m0 : Nat} {Q : Out → St → Prop}
    (hn : deps.length = n) (hn20 : n ≤ 20) (hm0 : m0 ≤ 1000) (htd : Rw ts (.tr td)) (hts : ts.length = n) (hx : Rw (l.map iT) (.tr x)) (hl : l.length ≤ 1000) (hat : at_ < n) (hsc : sc n deps at_ = fl n l)
    (hB : 0 ≤ B) (hB2 : B ≤ 100000) (h6 : Stk id6 (todo.map nT) w6 σ) (h60 : id6 ≠ 0) (h7 : Gx [0, id6] (out.map nT) w7 σ) (hm : MapOf encI kv 0 σ) (hkv : Kv kv out B) (hw : WlI (sc n deps) from_ at_ [] out todo) (hlt : ∀ y ∈ out, y < n) (hme : 2 * (n - out.length) + todo.length ≤ m0)
    (g0 : look e 0 = some (.tr td)) (g5 : look e 5 = some (.mp 0)) (g6 : look e 6 = some w6) (g7 : look e 7 = some w7) (g39 : look e 39 = some (.tr x)) (g40 : look e 40 = some (nv .i64 l.length)) (g41 : look e 41 = some (iv 0))
    (hQ : ∀ e' L' σ' id6 w6 w7 todo out kv, Stk id6 (todo.map nT) w6 σ' → id6 ≠ 0 → Gx [0, id6] (out.map nT) w7 σ' → MapOf encI kv 0 σ' → Kv kv out (B + l.length) → Wl (sc n deps) from_ out todo → (∀ y ∈ out, y < n) → 2 * (n - out.length) + todo.length ≤ m0 → look e' 0 = some (.tr td) → look e' 5 = some (.mp 0) → look e' 6 = some w6 → look e' 7 = some w7 → Q (.exit 2) ⟨e', L', σ'⟩) :
    Wp T (.loop k14_12) ⟨e, L, σ⟩ Q := by
  obtain ⟨I, hI⟩ : ∃ I : Nat → St → Prop, I = (fun i s => i ≤ l.length ∧ ∃ e L σ id6 w6 w7 todo out kv, s = ⟨e, L, σ⟩ ∧ Stk id6 (todo.map nT) w6 σ ∧ id6 ≠ 0 ∧ Gx [0, id6] (out.map nT) w7 σ ∧ MapOf encI kv 0 σ ∧ Kv kv out (B + i) ∧ WlI (sc n deps) from_ at_ (fl n (l.take i)) out todo ∧ (∀ y ∈ out, y < n) ∧ 2 * (n - out.length) + todo.length ≤ m0
    ∧ look e 0 = some (.tr td) ∧ look e 5 = some (.mp 0) ∧ look e 6 = some w6 ∧ look e 7 = some w7 ∧ look e 39 = some (.tr x) ∧ look e 40 = some (nv .i64 l.length) ∧ look e 41 = some (nv .i64 i)) := ⟨_, rfl⟩
  refine wpc_up l.length I ?_ ?_
  · rw [hI]
    exact ⟨Nat.zero_le _, e, L, σ, id6, w6, w7, todo, out, kv, rfl, h6, h60, h7, hm, by simpa using hkv, by simpa [fl] using hw, hlt, hme, g0, g5, g6, g7, g39, g40, g41⟩
  clear h6 h60 h7 hm hkv hw hlt hme g0 g5 g6 g7 g39 g40 g41
  intro i s hIs
  rw [hI] at hIs
  obtain ⟨hi, e, L, σ, id6, w6, w7, todo, out, kv, rfl, h6, h60, h7, hm, hkv, hw, hlt, hme, g0, g5, g6, g7, g39, g40, g41⟩ := hIs
  have hlen0 : ∀ σ, opLen 1 (.tr td) σ = some (nv .i64 n) := fun σ => by rw [rw_len htd, hts]
  by_cases hil : i < l.length
  · have hil' : (i : Int) < l.length := by omega
    obtain ⟨d, hd⟩ : ∃ d, l[i]? = some d := ⟨_, List.getElem?_eq_getElem hil⟩
    have hdT : (l.map iT)[i]? = some (iT d) := by rw [List.getElem?_map, hd]; rfl
    have hia := fun σ => rw_iaddr (σ := σ) hx hdT .i64
    have hld := fun σ => rw_load (σ := σ) hdT
    have w1 : IntKind.i64.wrap ((i : Int) + 1) = ((i + 1 : Nat) : Int) := w64 (by omega) (by omega)
    have htk := sc_take (n := n) hd
    by_cases hin : 0 ≤ d ∧ d < (n : Int)
    · obtain ⟨y, hy⟩ : ∃ y, y = d.toNat := ⟨_, rfl⟩
      have hyd : d = (y : Int) := by omega
      have hyn : y < n := by omega
      rw [if_pos hin, ← hy] at htk
      subst hyd
      have hys : y ∈ sc n deps at_ := by
        rw [hsc]
        have : y ∈ fl n (l.take (i + 1)) := by rw [htk]; simp
        unfold fl at this ⊢
        rw [List.mem_filterMap] at this ⊢
        obtain ⟨z, hz, h⟩ := this
        exact ⟨z, List.mem_of_mem_take hz, h⟩
      have hd0 : ¬ (y : Int) < 0 := by omega
      have hdn : ¬ n ≤ y := by omega
      have hlk : ∀ kv σ, MapOf encI kv 0 σ → opLookup (.int .i64) (.sc (.int .i64 0)) false (.mp 0) (iv (y : Int)) σ = some ((getK (y : Int) kv).getD (.tr (.sc (.int .i64 0)))) := fun kv σ h => by
        rw [map_lookup (enc := encI) keyEq_int h (asKey_int _)]; rfl
      have upd : ∀ c : Int, ∃ σ', opMapUpdate (.int .i64) (.mp 0) (iv (y : Int)) (iv c) σ = some σ' ∧ MapOf encI (setK (y : Int) (iv c) kv) 0 σ' ∧ Nxt 0 σ σ' ∧ σ'.length = σ.length := fun c => map_update (enc := encI) keyEq_int hm (asKey_int _) (iv c)
      have hinL : ∀ z ∈ out, (z : Int) = (y : Int) → y ∈ out := fun z hz e => by
        have : z = y := by omega
        subst this; exact hz
      rcases hkv (y : Int) with ⟨k1, k2⟩ | ⟨c, k1, k2, k3, z, k4, k5⟩
      · -- a new one
        have hyo : y ∉ out := fun h => k2 ⟨y, h, rfl⟩
        obtain ⟨σ1, u1, u2, u3, u4⟩ := upd 1
        have lk1 := hlk kv σ hm
        rw [k1, Option.getD_none] at lk1
        have lk2 := hlk _ σ1 u2
        rw [getK_set, if_pos rfl, Option.getD_some] at lk2
        have h6' := h6.mono (u3.same id6 h60 h6.lt)
        have h7' := h7.move (bad' := [0, id6]) (j := 0) (by simp) u3 (fun i hi => .inl hi)
        have hone : oneV (.tr (nT y)) = true := rfl
        have hout : out.length < n := by
          have := List.Nodup.length_le_card_of (hw.nd) hlt hyo hyn
          exact this
        obtain ⟨w7', σ2, a1, a2, a3, a4⟩ := gx_app (t := nT y) (b := 8) h7' hone (by intro t ht; obtain ⟨z, _, rfl⟩ := List.mem_map.1 ht; rfl) (by omega) (by simp; omega) (some 1) (by
          intro i hi
          simp only [List.mem_cons, List.mem_nil_iff, or_false] at hi
          rcases hi with rfl | rfl
          · exact u2.lt
          · exact h6'.lt)
        have h6'' := h6'.mono (a3 id6 (by simp))
        obtain ⟨id6', w6', σ3, b1, b2, b3, b4⟩ := stk_app (t := nT y) (b := 8) h6'' hone (by intro t ht; obtain ⟨z, _, rfl⟩ := List.mem_map.1 ht; rfl) (by omega) (by simp; omega) (some 1)
        have hm3 : MapOf encI (setK (y : Int) (iv 1) kv) 0 σ3 := (u2.mono (a3 0 (by simp))).mono (b3.same 0 (Ne.symm h60) (Nat.lt_of_lt_of_le u2.lt a4))
        have w0 : IntKind.i64.wrap 1 = 1 := by decide
        have hbs := fun σ => bs1 (σ := σ) (t := nT y) (.sc (.int .i64 0)) rfl
        have next : ∀ e' L', look e' 0 = some (.tr td) → look e' 5 = some (.mp 0) → look e' 6 = some w6' → look e' 7 = some w7' → look e' 39 = some (.tr x) → look e' 40 = some (nv .i64 l.length) → look e' 41 = some (nv .i64 (i + 1)) → I (i + 1) ⟨e', L', σ3⟩ := by
          intro e' L' f0 f5 f6 f7 f39 f40 f41
          rw [hI]
          refine ⟨by omega, e', L', σ3, id6', w6', w7', todo ++ [y], out ++ [y], setK (y : Int) (iv 1) kv, rfl, by rw [List.map_append]; exact b2, ?_, ?_, hm3, ?_, by rw [htk]; exact hw.new hyo hys, ?_, ?_, f0, f5, f6, f7, f39, f40, f41⟩
          · rcases b4 with rfl | rfl
            · exact h60
            · have := u2.lt; omega
          · rw [List.map_append]
            refine a2.move (j := id6) (by simp) b3 (fun i hi => ?_)
            simp only [List.mem_cons, List.mem_nil_iff, or_false] at hi
            rcases hi with rfl | rfl
            · exact .inl (by simp)
            · rcases b4 with rfl | rfl
              · exact .inl (by simp)
              · exact .inr (Nat.le_refl _)
          · intro z
            rw [getK_set]
            by_cases hz : z = (y : Int)
            · rw [if_pos hz]
              exact .inr ⟨1, rfl, by omega, by omega, y, by simp, hz.symm⟩
            · rw [if_neg hz]
              rcases hkv z with ⟨h1, h2⟩ | ⟨c, h1, h2, h3, v, h4, h5⟩
              · refine .inl ⟨h1, ?_⟩
                rintro ⟨v, hv, hvz⟩
                rcases List.mem_append.1 hv with h | h
                · exact h2 ⟨v, h, hvz⟩
                · simp at h; subst h; exact hz hvz.symm
              · exact .inr ⟨c, h1, h2, by omega, v, by simp [h4], h5⟩
          · intro v hv
            rcases List.mem_append.1 hv with h | h
            · exact hlt v h
            · simp at h; omega
          · simp; omega
        simp [k14_12, g40, g41, hil, k14_14, g39, hia, hld, hd0, g0, hlen0, hdn, k14_17, g5, lk1, w0, u1, lk2, g7, hbs, a1, g6, b1, k14_21, w1, -Int.natCast_add]
        exact next _ _ (by simp [g0]) (by simp [g5]) (by simp) (by simp) (by simp [g39]) (by simp [g40]) (by simp)
      · -- met before
        have hyo := hinL z k4 k5
        obtain ⟨σ1, u1, u2, u3, u4⟩ := upd (c + 1)
        have lk1 := hlk kv σ hm
        rw [k1, Option.getD_some] at lk1
        have lk2 := hlk _ σ1 u2
        rw [getK_set, if_pos rfl, Option.getD_some] at lk2
        have h6' := h6.mono (u3.same id6 h60 h6.lt)
        have h7' := h7.move (bad' := [0, id6]) (j := 0) (by simp) u3 (fun i hi => .inl hi)
        have w0 : IntKind.i64.wrap (c + 1) = c + 1 := w64 (by omega) (by omega)
        have hc1 : ¬ c + 1 = 1 := by omega
        have next : ∀ e' L', look e' 0 = some (.tr td) → look e' 5 = some (.mp 0) → look e' 6 = some w6 → look e' 7 = some w7 → look e' 39 = some (.tr x) → look e' 40 = some (nv .i64 l.length) → look e' 41 = some (nv .i64 (i + 1)) → I (i + 1) ⟨e', L', σ1⟩ := by
          intro e' L' f0 f5 f6 f7 f39 f40 f41
          rw [hI]
          refine ⟨by omega, e', L', σ1, id6, w6, w7, todo, out, setK (y : Int) (iv (c + 1)) kv, rfl, h6', h60, h7', u2, ?_, by rw [htk]; exact hw.old hyo, hlt, hme, f0, f5, f6, f7, f39, f40, f41⟩
          intro v
          rw [getK_set]
          by_cases hv : v = (y : Int)
          · rw [if_pos hv]
            exact .inr ⟨c + 1, rfl, by omega, by omega, y, hyo, hv.symm⟩
          · rw [if_neg hv]
            rcases hkv v with h | ⟨c', h1, h2, h3, h4⟩
            · exact .inl h
            · exact .inr ⟨c', h1, h2, by omega, h4⟩
        simp [k14_12, g40, g41, hil, k14_14, g39, hia, hld, hd0, g0, hlen0, hdn, k14_17, g5, lk1, w0, u1, lk2, hc1, k14_21, w1, -Int.natCast_add]
        exact next _ _ (by simp [g0]) (by simp [g5]) (by simp [g6]) (by simp [g7]) (by simp [g39]) (by simp [g40]) (by simp)
    · rw [if_neg hin, List.append_nil] at htk
      have next : ∀ e' L', look e' 0 = some (.tr td) → look e' 5 = some (.mp 0) → look e' 6 = some w6 → look e' 7 = some w7 → look e' 39 = some (.tr x) → look e' 40 = some (nv .i64 l.length) → look e' 41 = some (nv .i64 (i + 1)) → I (i + 1) ⟨e', L', σ⟩ := by
        intro e' L' f0 f5 f6 f7 f39 f40 f41
        rw [hI]
        refine ⟨by omega, e', L', σ, id6, w6, w7, todo, out, kv, rfl, h6, h60, h7, hm, ?_, by show WlI _ _ _ (fl n (l.take (i + 1))) _ _; rw [htk]; exact hw, hlt, hme, f0, f5, f6, f7, f39, f40, f41⟩
        intro z
        rcases hkv z with h | ⟨c, h1, h2, h3, h4⟩
        · exact .inl h
        · exact .inr ⟨c, h1, h2, by omega, h4⟩
      by_cases hd0 : d < 0
      · simp [k14_12, g40, g41, hil, k14_14, g39, hia, hld, hd0, k14_21, w1, -Int.natCast_add]
        exact next _ _ (by simp [g0]) (by simp [g5]) (by simp [g6]) (by simp [g7]) (by simp [g39]) (by simp [g40]) (by simp)
      · have hdn : (n : Int) ≤ d := by omega
        simp [k14_12, g40, g41, hil, k14_14, g39, hia, hld, hd0, g0, hlen0, hdn, k14_21, w1, -Int.natCast_add]
        exact next _ _ (by simp [g0]) (by simp [g5]) (by simp [g6]) (by simp [g7]) (by simp [g39]) (by simp [g40]) (by simp)
  · have hie : i = l.length := by omega
    subst hie
    rw [List.take_of_length_le (Nat.le_refl _)] at hw
    simp [k14_12, g40, g41]
    exact hQ _ _ σ id6 w6 w7 todo out kv h6 h60 h7 hm hkv (hw.fin (by rw [hsc]; exact fun d hd => hd)) hlt hme (by simp [g0]) (by simp [g5]) (by simp [g6]) (by simp [g7])
end Go.Proofs.Ytknoiiacnfbkaaa.AM.Io
