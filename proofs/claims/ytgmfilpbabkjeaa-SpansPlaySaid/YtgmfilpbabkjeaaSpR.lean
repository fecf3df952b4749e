/- Spans: slices.SortFunc over events Seat s14. -/
import Derived.Test.YtgmfilpbabkjeaaSpQ
set_option linter.unusedVariables false
set_option linter.unusedSimpArgs false
set_option maxRecDepth 100000
namespace Go.Proofs
open Go.L Go.RowKit Go.Sort Go.Shelf

theorem agg49 (w : World) : (isAgg 49).run Try.prog w = .ok true w := by kernel_rfl
theorem size49 (w : World) : (Go.sizeOf 49).run Try.prog w = .ok 3 w := by kernel_rfl
theorem encE_get {l : List Ev} {i r : Nat} {x : Ev} (h : l[i]? = some x) (hr : r < 3) : (l.flatMap encE)[i * 3 + r]? = (encE x)[r]? := by
  induction l generalizing i with
  | nil => simp at h
  | cons y l ih =>
    cases i with
    | zero =>
      simp at h; subst h
      rw [List.flatMap_cons, List.getElem?_append_left (by simp [encE]; omega)]
      simp
    | succ i =>
      simp at h
      rw [List.flatMap_cons, List.getElem?_append_right (by simp [encE]; omega), ← ih h]
      congr 1
      simp [encE]; omega
theorem cmpLays42 (blk off size : Nat) (w : World) : CmpLays Try.prog 42 #[] encE 3 cmpE blk off size w := by
  intro m os dk hs x y
  refine (Compare42 x y _).mono ?_
  rintro e w' ⟨rfl, q, os', rfl⟩
  exact ⟨rfl, q, os', rfl⟩
theorem len_encE (l : List Ev) : (l.flatMap encE).length = l.length * 3 := by
  induction l with
  | nil => rfl
  | cons x l ih => rw [List.flatMap_cons, List.length_append, ih]; simp [encE]; omega
def sortE (l : List Ev) : List Ev := l.mergeSort fun x y => !(ltOf cmpE) y x
theorem len_sortE (l : List Ev) : (sortE l).length = l.length := by unfold sortE; rw [List.length_mergeSort]
theorem flatK_get (l : List Ev) {j : Nat} (hj : j < l.length * 3) : (l.flatMap encE)[j]? = some (flatK encE 3 l.toArray)[j]! := by
  have hlt : j / 3 < l.length := by omega
  have hj' : j = j / 3 * 3 + j % 3 := by omega
  rw [get_flatK encE 3 l.toArray j (by simpa using hj)]
  have h1 := encE_get (l := l) (i := j / 3) (r := j % 3) (List.getElem?_eq_getElem hlt) (by omega)
  rw [← hj'] at h1
  rw [h1]
  have h2 : l.toArray[j / 3]! = l[j / 3] := by rw [getElem!_pos l.toArray (j / 3) (by simpa using hlt)]; simp
  rw [h2]
  have h3 : j % 3 < (encE l[j / 3]).length := by simp [encE]; omega
  rw [List.getElem?_eq_getElem h3, getElem!_pos (encE l[j / 3]) (j % 3) h3]
theorem one_encE (x : Ev) : ∀ v ∈ encE x, v.oneCell' = true := by
  intro v hv
  simp only [encE, List.mem_cons, List.not_mem_nil, or_false] at hv
  rcases hv with rfl | rfl | rfl <;> rfl
theorem Sort41 {B : Nat} {w : World} {v : Value} {l : List Ev} (h : w.ownsRow B 49 3 v l.length (l.flatMap encE)) (hn : l.length < 4611686018427387904) :
    Calls Try.prog 41 #[v, .func (.func 42) #[] #[]] w fun e w' => e = .returned (.tuple #[]) ∧ w'.ownsRow B 49 3 v l.length ((sortE l).flatMap encE) ∧ Keeps (fun q => v.ownBlock = some q) w w' := by
  rcases h.2 with ⟨rfl, hn0⟩ | ⟨g, cap, cur, rfl, hb, hh, hnc, hcm, hcs, htake⟩
  · have hl : l = [] := List.eq_nil_of_length_eq_zero hn0
    subst hl
    refine (AnyF.slices_SortFunc_none Try.sort41 none 0 (.func (.func 42) #[] #[]) w).mono ?_
    rintro e w' ⟨rfl, rfl⟩
    refine ⟨rfl, ?_, Keeps.refl⟩
    have : sortE [] = [] := by unfold sortE; simp
    rw [this]; exact h
  · have hcurg : ∀ j, j < l.length * 3 → cur[j]? = some (flatK encE 3 l.toArray)[j]! := by
      intro j hj
      have h1 : (cur.toList.take (l.length * 3))[j]? = (l.flatMap encE)[j]? := by rw [htake]
      rw [List.getElem?_take_of_lt hj, Array.getElem?_toList] at h1
      rw [h1]; exact flatK_get l hj
    have hH : HoldsK encE 3 w g 0 l.toArray := by
      intro j hj
      rw [size_flatK] at hj
      refine ⟨?_, frozen_of hh⟩
      rw [Nat.zero_add]
      exact cell_of hh (hcurg j (by simpa using hj))
    refine (AnyQ.slices_SortFunc_total Try.sort41 3 agg49 size49 encE (fun _ => rfl) one_encE cmpE ev_swo 42 #[] g 0 cap l.toArray w (fun args w => callFunc_enter noNG (by kernel_rfl)) (cmpLays42 _ _ _ _) hH (lt_of_heap hh) (by simpa using hn) ev_total).mono ?_
    rintro e w' ⟨rfl, n, os, rfl⟩
    have hg : g < w.heap.size := lt_of_heap hh
    have hsz : (sortE l).toArray.size = l.length := by simp [len_sortE]
    have hheap : (sortWorldK encE 3 w g 0 n (sortE l).toArray os).heap[g]? = some (.cells (putCells id 0 (flatK encE 3 (sortE l).toArray) cur) 49 (0, 0)) := by
      unfold sortWorldK putRowK
      rw [heap_grow_old _ _ (by simpa using hg)]
      simp [putRow, mapBlock, Sort.ahead, Array.getElem?_modify, hh, onCells]
    refine ⟨rfl, ⟨by rw [len_encE, len_sortE], .inr ⟨g, cap, _, rfl, hb, hheap, hnc, hcm, by simp [putCells, hcs], ?_⟩⟩, ?_⟩
    · apply List.ext_getElem?
      intro j
      by_cases hj : j < l.length * 3
      · rw [List.getElem?_take_of_lt hj, Array.getElem?_toList, flatK_get (sortE l) (by rw [len_sortE]; exact hj)]
        have hjc : j < cur.size := by rw [hcs]; exact Nat.lt_of_lt_of_le hj (Nat.mul_le_mul_right 3 hnc)
        have hj2 : j < (flatK encE 3 (sortE l).toArray).size := by rw [size_flatK, hsz]; exact hj
        simp only [putCells, Array.getElem?_mapIdx, Array.getElem?_eq_getElem hjc, Option.map_some]
        rw [if_pos ⟨Nat.zero_le _, by rw [Nat.zero_add]; exact hj2⟩]
        simp
      · rw [List.getElem?_take_eq_none (by omega), List.getElem?_eq_none (by rw [len_encE, len_sortE]; omega)]
    · refine ⟨rfl, rfl, rfl, by simp [sortWorldK, putRowK, grow, putRow, mapBlock, Sort.ahead], fun k hk hne => ?_⟩
      have hne : g ≠ k := fun e => hne (by subst e; rfl)
      unfold sortWorldK putRowK
      rw [heap_grow_old _ _ (by simpa using hk)]
      simp [putRow, mapBlock, Sort.ahead, Array.getElem?_modify, hne]
end Go.Proofs
