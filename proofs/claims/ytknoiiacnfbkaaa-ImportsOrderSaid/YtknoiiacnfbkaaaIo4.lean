/- ImportsOrder: part 4. -/
import Derived.Test.YtknoiiacnfbkaaaIo3
set_option maxRecDepth 1000000
set_option linter.unusedVariables false
set_option linter.unusedSimpArgs false
namespace Go.Proofs.Ytknoiiacnfbkaaa.AM.Io
open Go.Proofs

theorem reach_ok {deps : List (List Int)} {ts : List Tree} {td : Tree} {n : Nat} (frm : Int) (hn : deps.length = n) (hn20 : n ≤ 20) (htd : Rw ts (.tr td)) (hLs : Ls deps ts) (hl : ∀ l ∈ deps, l.length ≤ 1000) :
    ∃ t, (∀ σ, callL T 14 [.tr td, iv frm] σ = some (.tr t, σ)) ∧ ReachR deps n frm t := by
  refine call_iso (ts := [td, iT frm]) T14 rfl rfl ?_
  have hts : ts.length = n := by rw [hLs.1, hn]
  have hlen0 : ∀ σ, opLen 1 (.tr td) σ = some (nv .i64 n) := fun σ => by rw [rw_len htd, hts]
  have hbs : ∀ σ, opBslice true 1 1 [.sc (.int .i64 0)] [(0, 1, .tr (iT frm))] σ = some (.own σ.length 0 0 1 1 (some 1), σ ++ [.row [.tr (iT frm)] 0]) := fun σ => bs1own _ rfl
  have hmk : opMkmap ([] : Store) = some (.mp 0, [.map [] 0]) := rfl
  by_cases hin : 0 ≤ frm ∧ frm < n
  · obtain ⟨f, hf⟩ : ∃ f : Nat, frm = (f : Int) := ⟨frm.toNat, by omega⟩
    subst hf
    have hfn : f < n := by omega
    simp [hmk, hbs]
    obtain ⟨I, hI⟩ : ∃ I : Nat → St → Prop, I = (fun m s => m ≤ 2 * n + 1 ∧ ∃ e L σ id6 w6 w7 todo out kv, s = ⟨e, L, σ⟩ ∧ Stk id6 (todo.map nT) w6 σ ∧ id6 ≠ 0 ∧ Gx [0, id6] (out.map nT) w7 σ ∧ MapOf encI kv 0 σ ∧ Kv kv out ((2 * n + 1 - m : Nat) * 1000 : Int) ∧ Wl (sc n deps) f out todo ∧ (∀ y ∈ out, y < n) ∧ 2 * (n - out.length) + todo.length ≤ m
      ∧ look e 0 = some (.tr td) ∧ look e 5 = some (.mp 0) ∧ look e 6 = some w6 ∧ look e 7 = some w7) := ⟨_, rfl⟩
    refine wpc_loop I (2 * n + 1) _ ?_ ?_
    · rw [hI]
      refine ⟨Nat.le_refl _, _, _, _, 1, _, _, [f], [], [], rfl, ⟨0, some 1, [], [], rfl, rfl, fun c hc => by cases hc; simp⟩, by decide, .inl ⟨rfl, rfl⟩, ⟨[], 0, rfl, rfl⟩, fun d => .inl ⟨rfl, by simp⟩, Wl.start, by simp, by simp, by simp, by simp, by simp, by simp [nilSl]⟩
    intro m s hIs
    rw [hI] at hIs
    obtain ⟨hm1, e, L, σ, id6, w6, w7, todo, out, kv, rfl, h6, h60, h7, hm, hkv, hw, hlt, hme, g0, g5, g6, g7⟩ := hIs
    by_cases htd0 : todo = []
    · subst htd0
      have hl6 := h6.len
      simp [k14_4, g6, hl6]
      refine reach_end h7 ?_ hw.nd (fun x => ?_) (by simp [g7])
      · have := nodup_len n out hw.nd hlt; omega
      · rw [hw.all]
        simp [hfn]
    · obtain ⟨t, a, rfl⟩ : ∃ t a, todo = t ++ [a] := ⟨todo.dropLast, todo.getLast htd0, (List.dropLast_concat_getLast htd0).symm⟩
      have han : a < n := by
        rcases hw.todo_in a (by simp) with rfl | h
        · exact hfn
        · exact hlt a h
      have hl6 : opLen 1 w6 σ = some (nv .i64 (t.length + 1)) := by rw [h6.len]; simp
      have hwr : IntKind.i64.wrap (((t.length + 1 : Nat) : Int) - 1) = (t.length : Int) := by
        have := hme; simp at this
        rw [w64 (by omega) (by omega)]; omega
      have hpos : (0 : Int) < ((t.length + 1 : Nat) : Int) := by omega
      obtain ⟨p, p1, p2⟩ := h6.load (i := t.length) (t := nT a) (by simp) .i64
      rw [List.map_append] at h6
      obtain ⟨w6', q1, q2⟩ := stk_pop h6 .i64
      rw [List.length_map] at q1
      have ha0 : ¬ (a : Int) < 0 := by omega
      have han' : ¬ n ≤ a := by omega
      have hdl : a < deps.length := by omega
      have hd : deps[a]? = some deps[a] := List.getElem?_eq_getElem hdl
      obtain ⟨x, hx, hxl⟩ := hLs.at hd
      have hia := fun σ => rw_iaddr (σ := σ) htd hx .i64
      have hld := fun σ => rw_load (σ := σ) hx
      obtain ⟨l, hll⟩ : ∃ l, l = deps[a] := ⟨_, rfl⟩
      rw [← hll] at hd hxl
      have hllen : l.length ≤ 1000 := hl l (List.mem_of_getElem? hd)
      have hlx : ∀ σ, opLen 1 (.tr x) σ = some (nv .i64 l.length) := fun σ => by rw [rw_len hxl, List.length_map]
      simp [k14_4, g6, hl6, hpos, k14_6, hwr, p1, p2, q1, ha0, g0, hlen0, han', k14_10, hia, hld, hlx, -Int.natCast_add]
      have hme' : 2 * (n - out.length) + t.length + 1 ≤ m := by simpa [Nat.add_assoc] using hme
      refine reach_inner (from_ := f) (at_ := a) (m0 := m - 1) (B := ((2 * n + 1 - m : Nat) * 1000 : Int)) (todo := t) (out := out) (kv := kv) (w6 := w6') (w7 := w7) (id6 := id6) hn hn20 (by omega) htd hts hxl hllen han (sc_fl hd) (by omega) (by omega) q2 h60 h7 hm hkv (hw.pop (fun y => by simp [or_comm])) hlt (by omega) (by simp [g0]) (by simp [g5]) (by simp) (by simp [g7]) (by simp) (by simp) (by simp) ?_
      intro e' L' σ' id6 w6 w7 todo out kv c6 c60 c7 cm ckv cw clt cme f0 f5 f6 f7
      simp
      refine ⟨m - 1, by omega, ?_⟩
      rw [hI]
      refine ⟨by omega, e', L', σ', id6, w6, w7, todo, out, kv, rfl, c6, c60, c7, cm, ?_, cw, clt, cme, f0, f5, f6, f7⟩
      intro d
      rcases ckv d with h | ⟨c, h1, h2, h3, h4⟩
      · exact .inl h
      · refine .inr ⟨c, h1, h2, ?_, h4⟩
        omega
  · simp [hmk, hbs]
    obtain ⟨I, hI⟩ : ∃ I : Nat → St → Prop, I = (fun k s => ∃ e L w6, s = ⟨e, L, [.map [] 0, .row [.tr (iT frm)] 0]⟩ ∧ ((k = 1 ∧ w6 = .own 1 0 0 1 1 (some 1)) ∨ (k = 0 ∧ w6 = .own 1 0 0 0 1 (some 1))) ∧ look e 0 = some (.tr td) ∧ look e 6 = some w6 ∧ look e 7 = some nilSl) := ⟨_, rfl⟩
    refine wpc_loop I 1 _ ?_ ?_
    · rw [hI]
      exact ⟨_, _, _, rfl, .inl ⟨rfl, rfl⟩, by simp, by simp, by simp [nilSl]⟩
    intro k s hIs
    rw [hI] at hIs
    obtain ⟨e, L, w6, rfl, hk, g0, g6, g7⟩ := hIs
    rcases hk with ⟨rfl, rfl⟩ | ⟨rfl, rfl⟩
    · have hl6 : ∀ σ, opLen 1 (.own 1 0 0 1 1 (some 1)) σ = some (.tr (.sc (.int .i64 1))) := fun _ => rfl
      have w0 : IntKind.i64.wrap 0 = 0 := by decide
      have p1 : opIaddr 1 (.own 1 0 0 1 1 (some 1)) (.tr (.sc (.int .i64 0))) [.map [] 0, .row [.tr (iT frm)] 0] = some (.ptr 1 0 0) := rfl
      have p2 : opLoad 1 false (.ptr 1 0 0) [.map [] 0, .row [.tr (iT frm)] 0] = some (.tr (iT frm)) := rfl
      have q1 : opSlice 1 (.own 1 0 0 1 1 (some 1)) none (some (.tr (.sc (.int .i64 0)))) none [.map [] 0, .row [.tr (iT frm)] 0] = some (.own 1 0 0 0 1 (some 1)) := rfl
      by_cases h0 : frm < 0
      · simp [k14_4, g6, hl6, k14_6, w0, p1, p2, q1, h0]
        rw [hI]
        exact ⟨_, _, _, rfl, .inr ⟨rfl, rfl⟩, by simp [g0], by simp, by simp [g7]⟩
      · have h1 : (n : Int) ≤ frm := by omega
        simp [k14_4, g6, hl6, k14_6, w0, p1, p2, q1, h0, g0, hlen0, h1]
        rw [hI]
        exact ⟨_, _, _, rfl, .inr ⟨rfl, rfl⟩, by simp [g0], by simp, by simp [g7]⟩
    · have hl6 : ∀ σ, opLen 1 (.own 1 0 0 0 1 (some 1)) σ = some (.tr (.sc (.int .i64 0))) := fun _ => rfl
      simp [k14_4, g6, hl6]
      exact reach_end (bad := []) (out := []) (.inl ⟨rfl, rfl⟩) (by simp) List.nodup_nil (fun x => by
        constructor
        · intro h; simp at h
        · rintro ⟨h1, h2, _⟩; exact absurd ⟨h1, h2⟩ hin) (by simp [g7])
end Go.Proofs.Ytknoiiacnfbkaaa.AM.Io
