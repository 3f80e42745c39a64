/- EnvChain: part N. -/
import Derived.Test.YthkndfiekgaojaaGreatDoorShelf
import Derived.Test.YthkndfiekgaojaaGreatDoorAm4
import Derived.WalkKit
import Derived.BigCall
import Derived.Maps.AppendAt
import Derived.Maps.RangeRun
import Derived.Sort.OwnSorted
import Derived.Sort.KeysCollected
import Derived.Laws.OwnMore
namespace Go.Proofs.YthkndfiekgaojaaGreatDoor.AM.Ev
open Go.Proofs Go.Shelf Go.RowKit Go.Sort Go.Lib
open Go.ChangeMaps (setBlock)
set_option linter.unusedVariables false
set_option linter.unusedSimpArgs false
def cmpS : List UInt8 := [99, 111, 109, 112, 97, 114, 97, 98, 108, 101]
def errS : List UInt8 := [101, 114, 114, 111, 114]
theorem size_alloc (w : World) (o : Obj) : (w.alloc o).heap.size = w.heap.size + 1 := Array.size_push ..
theorem grownBy_set (w : World) (w2 : World) (r : Nat) (o : Obj) (h : w2 = w ∨ w2 = w.drew) : w.grownBy (setBlock w2 r o) (some r) := by
  have hh : w2.heap = w.heap ∧ w2.os = w.os ∧ w2.tape = w.tape ∧ w2.output = w.output := by rcases h with rfl | rfl <;> exact ⟨rfl, rfl, rfl, rfl⟩
  refine ⟨hh.2.1, hh.2.2.1, hh.2.2.2, ?_, ?_⟩
  · simp [setBlock, hh.1]
  · intro k hk hne
    have : r ≠ k := fun e => hne (by rw [e])
    simp [setBlock, hh.1, Array.getElem?_setIfInBounds, this]
theorem set_at (w w2 : World) (r : Nat) (o : Obj) (h : w2 = w ∨ w2 = w.drew) (hr : r < w.heap.size) : (setBlock w2 r o).heap[r]? = some o ∧ (setBlock w2 r o).heap.size = w.heap.size := by
  have hh : w2.heap = w.heap := by rcases h with rfl | rfl <;> rfl
  simp [setBlock, hh, Array.getElem?_setIfInBounds, hr]
theorem left_push (ces : Array MapEntry) (seen : Array Nat) (e : MapEntry) (he : e ∈ (leftOf ces seen).toList) (hnd : (ces.toList.map (·.born)).Nodup) :
    ((leftOf ces seen).toList).Perm (e :: (leftOf ces (seen.push e.born)).toList) := by
  unfold leftOf at *
  simp only [Array.toList_filter] at *
  generalize ces.toList = l at *
  rw [List.mem_filter] at he
  obtain ⟨he, hs⟩ := he
  have key : ∀ (l : List MapEntry), (l.map (·.born)).Nodup → e ∈ l → (l.filter fun x => !seen.contains x.born).Perm (e :: l.filter fun x => !(seen.push e.born).contains x.born) := by
    intro l
    induction l with
    | nil => intro _ h; cases h
    | cons x l ih =>
      intro hn hm
      rw [List.map_cons, List.nodup_cons] at hn
      by_cases hx : x = e
      · subst hx
        have e1 : (l.filter fun y => !(seen.push x.born).contains y.born) = l.filter fun y => !seen.contains y.born := by
          apply List.filter_congr
          intro y hy
          have : y.born ≠ x.born := fun h => hn.1 (by rw [← h]; exact List.mem_map.2 ⟨y, hy, rfl⟩)
          simp [this]
        rw [List.filter_cons, if_pos hs, List.filter_cons, if_neg (by simp), e1]
      · have hm' : e ∈ l := by
          rcases List.mem_cons.1 hm with h | h
          · exact absurd h.symm hx
          · exact h
        have hb : x.born ≠ e.born := fun h => hn.1 (by rw [h]; exact List.mem_map.2 ⟨e, hm', rfl⟩)
        have := ih hn.2 hm'
        rw [List.filter_cons, List.filter_cons]
        have e2 : (!(seen.push e.born).contains x.born) = !seen.contains x.born := by simp [hb]
        rw [e2]
        split
        · exact (this.cons x).trans (List.Perm.swap e x _)
        · exact this
  exact key l hnd he
set_option maxHeartbeats 6400000 in
set_option maxRecDepth 100000 in
/-- The names of an environment that is there: its keys in whatever order, then sorted. -/
theorem names_some (w : World) (a : Addr) (mb : Nat) (ces : Array MapEntry) (clock : Nat) (ks : List (List UInt8)) (hc : w.cell? a = some (.map (some mb))) (hm : w.heap[mb]? = some (.map ces clock)) (hk : ces.toList.map (·.key) = ks.map (fun s => Value.string ⟨⟨s⟩⟩))
    (hnd : (ces.toList.map (·.born)).Nodup) (hold : ∀ e ∈ ces.toList, e.born < clock) (hl : ks.length ≤ 1000) : Calls Tryz.prog 10 #[.pointer (some a)] w (NmsQ w (nmsL ks)) := by
  obtain ⟨i0, hi, hz0, hz1, hz2⟩ := info_parts (show (Tryz.prog.info? 9).map (fun i => (i.zero, i.size, i.bytes)) = some (some (.string ByteArray.empty), 1, 16) by kernel_rfl)
  have hmlt : mb < w.heap.size := (Array.getElem?_eq_some_iff.1 hm).1
  have hm1 : ∀ o, (w.alloc o).heap[mb]? = some (.map ces clock) := fun o => by rw [heap_alloc_old w _ hmlt]; exact hm
  have hab : a.block < w.heap.size := World.block_lt_of_cell? _ _ hc
  have hc1 : ∀ o, (w.alloc o).cell? a = some (.map (some mb)) := fun o => by rw [World.cell?_alloc_old _ _ _ (Nat.ne_of_lt hab)]; exact hc
  have hr : ∀ o, (Instr.range 51 (.map (some mb))).run Tryz.prog (w.alloc o) = .ok (.pointer (some ⟨(w.alloc o).heap.size, 0, none⟩)) ((w.alloc o).alloc (.mapIter (some mb) clock #[] clock)) := fun o => run_range_map _ 51 9 31 mb ces clock Tryz.underlying51 (hm1 o)
  go_enter Tryz.func10, Tryz.ntmps10
  go_wp2_with (fail)
  go_loopw [3, 4] (fun v v4 wr => ∃ (ks' : List (List UInt8)) (seen : Array Nat), wr.heap[w.heap.size + 1]? = some (.mapIter (some mb) clock seen clock) ∧ wr.heap[mb]? = some (.map ces clock) ∧
      wr.ownsRow w.heap.size 9 1 v (cmpS :: errS :: ks').length ((cmpS :: errS :: ks').map encStr) ∧ v ≠ .slice none 0 0 ∧ some (w.heap.size + 1) ≠ v.ownBlock ∧
      (ks'.map (fun s => Value.string ⟨⟨s⟩⟩) ++ (leftOf ces seen).toList.map (·.key)).Perm (ces.toList.map (·.key)) ∧ Below w.heap.size w wr ∧ w.heap.size + 1 < wr.heap.size)
    (fun _ _ wr => (leftOf ces (wr.iterSeen (w.heap.size + 1))).size)
  case atStart =>
    refine ⟨[], #[], ?_, ?_, ?_, by simp, ?_, ?_, ?_, ?_⟩
    · rw [← size_alloc w (.cells #[.string ⟨⟨cmpS⟩⟩, .string ⟨⟨errS⟩⟩] 9)]
      exact heap_alloc_new _ _
    · rw [heap_alloc_old _ _ (by rw [size_alloc]; omega)]; exact hm1 _
    · exact World.ownsRow.alloc (World.ownsRow_lit (e := 9) (size := 1) w #[.string ⟨⟨cmpS⟩⟩, .string ⟨⟨errS⟩⟩] 2 (Nat.le_refl _) (by decide) rfl) _
    · simp [Value.ownBlock]
    · have : (leftOf ces #[]).toList = ces.toList := by
        unfold leftOf
        rw [Array.toList_filter]
        exact List.filter_eq_self.2 (fun x _ => by simp)
      rw [this, List.map_nil, List.nil_append]
    · exact ((Below.refl _ _).alloc (Nat.le_refl _) _).alloc (by rw [size_alloc]; omega) _
    · rw [size_alloc, size_alloc]; omega
  case round =>
    obtain ⟨ks', seen, hit, hmb, hrow, hnn, hne, hperm, hbel, hlt⟩ := hrel
    rcases run_next_at (P := Tryz.prog) wr 0 (w.heap.size + 1) mb clock clock seen ces clock hit hmb hold (Nat.le_refl _) with ⟨h0, hrun⟩ | ⟨e, he, w2, hw2, hrun⟩
    · have hk' : ks'.Perm ks := by
        have h1 : (leftOf ces seen).toList = [] := List.length_eq_zero_iff.1 (by simpa using h0)
        rw [h1, List.map_nil, List.append_nil, hk] at hperm
        have hinj : ∀ l : List (List UInt8), (l.map fun s => Value.string ⟨⟨s⟩⟩).map (fun v => match v with | .string ⟨⟨s⟩⟩ => s | _ => []) = l := by
          intro l
          rw [List.map_map]
          conv => rhs; rw [← List.map_id l]
          rfl
        have := hperm.map (fun v => match v with | .string ⟨⟨s⟩⟩ => s | _ => [])
        rwa [hinj, hinj] at this
      have hsrt : (cmpS :: errS :: ks').mergeSort (fun x y => decide (x ≤ y)) = nmsL ks := by
        unfold nmsL
        rw [sortS_eq]
        exact mergeSort_of_perm ((hk'.cons errS).cons cmpS)
      rcases hrow.2 with ⟨hnil, _⟩ | ⟨g, cap, cur, rfl, hbase, hb, h1, h2, h3, h4⟩
      · exact absurd hnil hnn
      have hH : Holds encStr wr g 0 (cmpS :: errS :: ks').toArray := holds_of_block hb (by simpa using h4)
      have hgl : g < wr.heap.size := (Array.getElem?_eq_some_iff.1 hb).1
      have hc := Tryz.slices_Sort_string g 0 cap (cmpS :: errS :: ks') wr hH hgl (by have := hk'.length_eq; simp; omega)
      rw [hsrt] at hc
      go_wp2_with (fail)
      refine hc.mono ?_
      rintro e w' ⟨rfl, nn, os, rfl⟩
      go_wp2
      go_ret
      have hlen : (nmsL ks).length = (cmpS :: errS :: ks').length := by rw [← hsrt, List.length_mergeSort]
      have hown := ownsRow_sorted (n := nn) (os := os) (ts := nmsL ks) (ss := cmpS :: errS :: ks') hlen hbase hb h1 h2 h3
      refine ⟨g, cap, by rw [hlen]; rfl, by omega, hbase, ?_, ?_, ?_⟩
      · simp
        omega
      · intro i x hx
        rw [← cell?_eq]
        have := hown.cells (g := g) rfl i (encStr x) (by rw [List.getElem?_map, hx]; rfl)
        rw [Lib.add_plain, Nat.zero_add] at this
        exact this
      · exact hbel.grown (grownBy_sorted _) hbel.size (fun j hj => by cases hj; exact hbase)
    · have hce : e ∈ ces.toList := by
        unfold leftOf at he
        rw [Array.toList_filter] at he
        exact (List.mem_filter.1 he).1
      obtain ⟨x, hx⟩ : ∃ x, e.key = Value.string ⟨⟨x⟩⟩ := by
        have : e.key ∈ ces.toList.map (·.key) := List.mem_map.2 ⟨e, hce, rfl⟩
        rw [hk] at this
        obtain ⟨s, _, hs⟩ := List.mem_map.1 this
        exact ⟨s, hs.symm⟩
      have hg2 := grownBy_set wr w2 (w.heap.size + 1) (.mapIter (some mb) clock (seen.push e.born) clock) hw2
      obtain ⟨hit2, hsz2⟩ := set_at wr w2 (w.heap.size + 1) (.mapIter (some mb) clock (seen.push e.born) clock) hw2 hlt
      have hmb2 : (setBlock w2 (w.heap.size + 1) (.mapIter (some mb) clock (seen.push e.born) clock)).heap[mb]? = some (.map ces clock) := by
        rw [hg2.block mb (by omega) (fun h => by cases h; omega)]
        exact hmb
      have hrow2 := hrow.kept hg2 (Or.inr hne.symm)
      have hbel2 := hbel.grown hg2 hbel.size (fun j hj => by cases hj; omega)
      have hent := run_entry_at (P := Tryz.prog) _ (w.heap.size + 1) mb clock seen ces clock e hit2 hmb2 hce hnd
      have hp2 := left_push ces seen e he hnd
      have hkl : ks'.length + 1 ≤ 1000 := by
        have h1 := hperm.length_eq
        have h2 := congrArg List.length hk
        have h3 := hp2.length_eq
        simp at h1 h2 h3
        omega
      rw [hx] at hrun hent
      generalize setBlock w2 (w.heap.size + 1) (.mapIter (some mb) clock (seen.push e.born) clock) = W2 at *
      have hA : wr.heap.size ≤ W2.heap.size := by omega
      clear hg2 hw2 hsz2
      go_wp2_with (first
        | (at_builtin; refine wpList_append_own_at _ rfl _ _ 24 rfl w.heap.size 9 i0 (.string ByteArray.empty) 1 16 Tryz.underlying24 hi hz0 hz1 hz2 rfl (by decide) _ _ _ rfl (hrow2.alloc _) ⟨W2.heap.size, 0, none⟩ 1 1 [.string ⟨⟨x⟩⟩] rfl rfl (cell_one_new _ _ _) (fun u hu => by simp at hu; subst hu; rfl) (by unfold maxLen; simp; omega) (by simp; omega) (by rw [size_alloc]; omega) ?_; intro v' w3 hown3 hg3 hnil3 hat3))
      have hsA := size_alloc W2 (.cells #[.string ⟨⟨x⟩⟩] 9)
      have hrw : w.heap.size + 1 < W2.heap.size := by omega
      have hit3 : w3.heap[w.heap.size + 1]? = some (.mapIter (some mb) clock (seen.push e.born) clock) := by
        rw [hg3.block _ (by omega) hne, heap_alloc_old _ _ hrw]
        exact hit2
      have hmb3 : w3.heap[mb]? = some (.map ces clock) := by
        rw [hg3.block _ (by omega) (fun h => by have := (hrow.lt mb h.symm).1; omega), heap_alloc_old _ _ (by omega)]
        exact hmb2
      refine ⟨⟨ks' ++ [x], seen.push e.born, hit3, hmb3, ?_, ?_, ?_, ?_, ?_, ?_⟩, ?_⟩
      · have h1 : (cmpS :: errS :: (ks' ++ [x])).length = (cmpS :: errS :: ks').length + 1 := by simp
        have h2 : (cmpS :: errS :: (ks' ++ [x])).map encStr = (cmpS :: errS :: ks').map encStr ++ [.string ⟨⟨x⟩⟩] := by simp [encStr]
        rw [h1, h2]
        exact hown3
      · intro h
        have := (hnil3.1 h).2
        omega
      · rcases hat3 with h | h
        · rw [h]; exact hne
        · rw [h]
          intro h'
          have := Option.some.inj h'
          omega
      · have := (hp2.map (·.key))
        rw [List.map_cons, hx] at this
        refine List.Perm.trans ?_ hperm
        rw [List.map_append, List.map_cons, List.map_nil, List.append_assoc]
        exact List.Perm.append_left _ this.symm
      · exact (hbel2.alloc (by omega) _).grown hg3 (by omega) (fun j hj => (hrow.lt j hj).1)
      · have := hg3.size
        omega
      · have e1 : w3.iterSeen (w.heap.size + 1) = seen.push e.born := by unfold World.iterSeen; rw [hit3]
        have e2 : wr.iterSeen (w.heap.size + 1) = seen := by unfold World.iterSeen; rw [hit]
        rw [e1, e2]
        have := hp2.length_eq
        simp at this
        omega
set_option maxHeartbeats 6400000 in
set_option maxRecDepth 100000 in
theorem names_none (w : World) : Calls Tryz.prog 10 #[.pointer none] w (NmsQ w (nmsL [])) := by
  have hsrt : ([cmpS, errS]).mergeSort (fun x y => decide (x ≤ y)) = nmsL [] := by
    unfold nmsL
    rw [sortS_eq]
    rfl
  have hH : Holds encStr (w.alloc (.cells #[.string ⟨⟨cmpS⟩⟩, .string ⟨⟨errS⟩⟩] 9)) w.heap.size 0 ([cmpS, errS] : List (List UInt8)).toArray := holds_of_block (cur := #[.string ⟨⟨cmpS⟩⟩, .string ⟨⟨errS⟩⟩]) (heap_alloc_new _ _) rfl
  have hc := Tryz.slices_Sort_string w.heap.size 0 2 [cmpS, errS] (w.alloc (.cells #[.string ⟨⟨cmpS⟩⟩, .string ⟨⟨errS⟩⟩] 9)) hH (by rw [size_alloc]; omega) (by decide)
  rw [hsrt] at hc
  go_enter Tryz.func10, Tryz.ntmps10
  go_wp2_with (fail)
  refine hc.mono ?_
  rintro e w' ⟨rfl, nn, os, rfl⟩
  go_wp2
  go_ret
  have hlen : (nmsL []).length = 2 := by rw [← hsrt, List.length_mergeSort]; rfl
  have hown := ownsRow_sorted (n := nn) (os := os) (ts := nmsL []) (ss := [cmpS, errS]) (base := w.heap.size) (cap := 2) (g := w.heap.size) (e := 9) hlen (Nat.le_refl _) (heap_alloc_new w (.cells #[.string ⟨⟨cmpS⟩⟩, .string ⟨⟨errS⟩⟩] 9)) (by decide) (by decide) rfl
  refine ⟨w.heap.size, 2, by rw [hlen]; rfl, by omega, Nat.le_refl _, ?_, ?_, ?_⟩
  · simp [size_alloc]
    omega
  · intro i x hx
    rw [← cell?_eq]
    have := hown.cells (g := w.heap.size) rfl i (encStr x) (by rw [List.getElem?_map, hx]; rfl)
    rw [Lib.add_plain, Nat.zero_add] at this
    exact this
  · exact ((Below.refl _ _).alloc (Nat.le_refl _) _).grown (grownBy_sorted _) (by rw [size_alloc]; omega) (fun j hj => by cases hj; exact Nat.le_refl _)
theorem nms10 : NmsOk Tryz.prog 10 14 := fun _ => ⟨⟨Tryz.f10, Tryz.func10, by kernel_rfl, by kernel_rfl⟩, names_none, names_some⟩
end Go.Proofs.YthkndfiekgaojaaGreatDoor.AM.Ev
