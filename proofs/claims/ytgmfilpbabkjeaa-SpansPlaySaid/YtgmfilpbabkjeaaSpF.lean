/- Spans: slices.Insert of one string into a row of one's own. Seat s14. -/
import Derived.Test.YtgmfilpbabkjeaaSpE
import Derived.Test.YtgmfilpbabkjeaaInsL
set_option linter.unusedVariables false
set_option linter.unusedSimpArgs false
set_option maxRecDepth 100000
namespace Go.Proofs
open Go.L Go.RowKit Go.Shelf

theorem heap_setCells {b : Nat} {t : TypeId} : ∀ (vs : List Value) (o : Nat) (w : World) (cur : Array Value), w.heap[b]? = some (.cells cur t (0, 0)) →
    ∃ cur', (w.setCells b o vs).heap[b]? = some (.cells cur' t (0, 0)) ∧ cur'.size = cur.size ∧ ∀ j, cur'[j]? = if o ≤ j ∧ j < o + vs.length ∧ j < cur.size then vs[j - o]? else cur[j]? := by
  intro vs
  induction vs with
  | nil => exact fun o w cur h => ⟨cur, h, rfl, fun j => by rw [if_neg (by simp; omega)]⟩
  | cons v vs ih =>
    intro o w cur h
    obtain ⟨cur', h1, h2, h3⟩ := ih (o + 1) (w.setCell ⟨b, o, none⟩ v) (cur.setIfInBounds o v) (heap_set_same h o v)
    refine ⟨cur', h1, by simpa using h2, fun j => ?_⟩
    rw [h3 j]
    simp only [Array.size_setIfInBounds, List.length_cons]
    by_cases e : j = o
    · subst e
      rw [if_neg (by omega)]
      by_cases hj : j < cur.size
      · rw [if_pos ⟨by omega, by omega, hj⟩]; simp [hj]
      · rw [if_neg (by omega)]; simp [hj]
    · by_cases hj : o + 1 ≤ j ∧ j < o + 1 + vs.length ∧ j < cur.size
      · rw [if_pos hj, if_pos ⟨by omega, by omega, hj.2.2⟩]
        have : j - o = (j - (o + 1)) + 1 := by omega
        rw [this, List.getElem?_cons_succ]
      · rw [if_neg hj, if_neg (by omega)]
        rw [Array.getElem?_setIfInBounds, if_neg (by omega)]
theorem keeps_setCells {b : Nat} : ∀ (vs : List Value) (o : Nat) (w : World), Keeps (fun k => k = b) w (w.setCells b o vs) := by
  intro vs
  induction vs with
  | nil => exact fun o w => Keeps.refl
  | cons v vs ih => exact fun o w => ((Keeps.refl (S := fun k => k = b)).set (.inl rfl) o v).trans (ih (o + 1) _) (fun k h => .inl h)
theorem _root_.Go.L.Keeps.toGrownAt {w w' : World} {b : Nat} (h : Keeps (fun k => k = b) w w') : w.grownBy w' (some b) := ⟨h.os, h.tape, h.output, h.size, fun k hk hn => h.block k hk fun e => hn (by rw [e])⟩
def insertAt (keys : List ByteArray) (i : Nat) (x : ByteArray) : List ByteArray := keys.take i ++ x :: keys.drop i
theorem len_insertAt {keys : List ByteArray} {i : Nat} {x : ByteArray} (hi : i ≤ keys.length) : (insertAt keys i x).length = keys.length + 1 := by
  simp [insertAt]; omega
theorem get_insertAt {keys : List ByteArray} {i : Nat} {x : ByteArray} (hi : i ≤ keys.length) (j : Nat) : ((insertAt keys i x).map Value.string)[j]? = if j < i then (keys.map Value.string)[j]? else if j = i then some (.string x) else (keys.map Value.string)[j - 1]? := by
  unfold insertAt
  rw [List.map_append, List.map_cons, List.getElem?_append]
  simp only [List.length_map, List.length_take]
  rw [Nat.min_eq_left hi]
  by_cases h1 : j < i
  · rw [if_pos h1, if_pos h1]; simp [h1]
  · rw [if_neg h1, if_neg h1]
    by_cases h2 : j = i
    · subst h2; simp
    · rw [if_neg h2]
      have : j - i = (j - i - 1) + 1 := by omega
      rw [this, List.getElem?_cons_succ]
      simp only [List.map_drop, List.getElem?_drop]
      congr 1; omega
theorem one_string {l : List ByteArray} : ∀ v ∈ l.map Value.string, v.oneCell' = true := by
  intro v hv; obtain ⟨x, _, rfl⟩ := List.mem_map.1 hv; rfl
/-- A row whose first cells are known. -/
theorem row_of_cells {B q n cap : Nat} {w : World} {cur : Array Value} {e : TypeId} {xs : List Value} (hB : B ≤ q) (hh : w.heap[q]? = some (.cells cur e (0, 0))) (hnc : n ≤ cap) (hcm : cap ≤ maxLen) (hcs : cur.size = cap) (hl : xs.length = n)
    (hx : ∀ j, j < n → cur[j]? = xs[j]?) : w.ownsRow B e 1 (.slice (some ⟨q, 0, none⟩) n cap) n xs := by
  refine ⟨by omega, .inr ⟨q, cap, cur, rfl, hB, hh, hnc, hcm, by omega, ?_⟩⟩
  apply List.ext_getElem?
  intro j
  rw [List.getElem?_take]
  by_cases hj : j < n
  · rw [if_pos (by omega), Array.getElem?_toList, hx j hj]
  · rw [if_neg (by omega), List.getElem?_eq_none (by omega)]
theorem Insert28 {B : Nat} {w : World} {kv : Value} {keys : List ByteArray} {i vb : Nat} {x : ByteArray} (hr : w.ownsRow B 9 1 kv keys.length (keys.map .string)) (hB : B ≤ w.heap.size) (hi : i ≤ keys.length)
    (hvb : w.heap[vb]? = some (.cells #[.string x] 9 (0, 0))) (hne : kv.ownBlock ≠ some vb) (hbig : keys.length + 1 ≤ 4611686018427) :
    Calls Try.prog 28 #[kv, .int .i64 i, .slice (some ⟨vb, 0, none⟩) 1 1] w fun e w' => ∃ kv', e = .returned kv' ∧ w'.ownsRow B 9 1 kv' (keys.length + 1) ((insertAt keys i x).map .string) ∧ w.grownBy w' kv.ownBlock ∧
      (kv'.ownBlock = kv.ownBlock ∨ ∃ q, kv'.ownBlock = some q ∧ w.heap.size ≤ q) := by
  have hvs : ∀ j v, [Value.string x][j]? = some v → w.cell? ⟨vb, 0 + j, none⟩ = some v := by
    intro j v h
    cases j with
    | zero => simp at h; subst h; exact cell_of hvb rfl
    | succ j => simp at h
  have h1v : ∀ v ∈ [Value.string x], v.oneCell' = true := by intro v h; simp at h; subst h; rfl
  have hlen : (keys.map Value.string).length = keys.length := by simp
  have hx := get_insertAt (x := x) hi
  rcases hr.2 with ⟨rfl, h0⟩ | ⟨q, cap, cur, rfl, hbq, hh, hnc, hcm, hcs, htake⟩
  · -- nil
    have hk : keys = [] := List.eq_nil_of_length_eq_zero h0
    subst hk
    have hi0 : i = 0 := by simpa using hi
    subst hi0
    have hc := Any2.slices_Insert_string_end_grow Try.laysIns none 0 0 vb 0 1 1 [] [.string x] w (by omega) (by omega) (by omega) (by omega) rfl rfl (fun _ => rfl) (fun a h => by cases h) hvs h1v
    change Calls Try.prog 28 _ _ _ at hc
    have e1 : Try.laysIns_ren.t 9 = 9 := by kernel_rfl
    rw [e1] at hc
    refine hc.mono ?_
    rintro e w' ⟨rfl, rfl⟩
    refine ⟨_, rfl, row_of_cells (Nat.le_trans hB (by simp)) (heap_new w.drew _) (grownCap_ge w (0 + 1) 0 9) (grownCap_le_maxLen w (0 + 1) 0 9 (by simp [maxLen])) ?_ (by simp [insertAt]) ?_, ?_, .inr ⟨_, rfl, Nat.le_refl _⟩⟩
    · have := grownCap_ge w (0 + 1) 0 9
      simp [size_zeroCells, Value.cells] at *; omega
    · intro j hj
      have : j = 0 := by simp at hj; omega
      subst this
      rw [Array.getElem?_append_left (by simp)]; simp [insertAt]
    · exact (((Keeps.refl (S := no)).drew.alloc _).toGrown _)
  · have hcs : cur.size = cap := by omega
    have hcur : ∀ j, j < keys.length → cur[j]? = (keys.map Value.string)[j]? := by
      intro j hj
      rw [← htake, List.getElem?_take, if_pos (by omega), Array.getElem?_toList]
    have hcsc : ∀ j v, (keys.map Value.string)[j]? = some v → w.cell? ⟨q, 0 + j, none⟩ = some v := fun j v h => by
      rw [Nat.zero_add]; exact row_cell hr rfl h
    have hneq : vb ≠ q := fun e => hne (by rw [e]; rfl)
    have hsome : ∀ j, j < cap → (w.cell? ⟨q, 0 + j, none⟩).isSome = true := fun j hj => by
      rw [cell_of hh (Array.getElem?_eq_getElem (show 0 + j < cur.size by omega))]; rfl
    have hfz : ∀ j, w.frozen? ⟨q, j, none⟩ = false := fun j => frozen_of hh
    by_cases hin : i = keys.length
    · subst hin
      by_cases hroom : keys.length + 1 ≤ cap
      · have hc := Any2.slices_Insert_string_end_room Try.laysIns q 0 keys.length cap vb 0 1 1 [.string x] w (by omega) hroom (by simp only [maxLen] at hcm; omega) rfl (fun j hj => by
            have := hsome (keys.length + j) (by omega); rw [show 0 + keys.length + j = 0 + (keys.length + j) by omega]; exact this) (fun j _ => hfz _) hvs h1v
        change Calls Try.prog 28 _ _ _ at hc
        refine hc.mono ?_
        rintro e w' ⟨rfl, rfl⟩
        obtain ⟨cur', g1, g2, g3⟩ := heap_setCells [Value.string x] (0 + keys.length) w cur hh
        refine ⟨_, rfl, row_of_cells hbq g1 hroom hcm (by omega) (by simp [insertAt]) ?_, (keeps_setCells _ _ _).toGrownAt, .inl rfl⟩
        intro j hj
        rw [g3 j, hx j]
        by_cases h1 : j < keys.length
        · rw [if_neg (by simp; omega), if_pos h1, hcur j h1]
        · have : j = keys.length := by omega
          subst this
          rw [if_pos ⟨by omega, by simp, by omega⟩, if_neg (by omega), if_pos rfl]; simp
      · have hc := Any2.slices_Insert_string_end_grow Try.laysIns (some ⟨q, 0, none⟩) keys.length cap vb 0 1 1 (keys.map .string) [.string x] w (by omega) hnc (by omega) (by omega) hlen rfl (fun h => by cases h)
          (fun a h j v hj => by cases h; rw [addr_add]; exact hcsc j v hj) hvs h1v
        change Calls Try.prog 28 _ _ _ at hc
        have e1 : Try.laysIns_ren.t 9 = 9 := by kernel_rfl
        rw [e1] at hc
        refine hc.mono ?_
        rintro e w' ⟨rfl, rfl⟩
        refine ⟨_, rfl, row_of_cells (Nat.le_trans hB (by simp)) (heap_new w.drew _) (grownCap_ge w (keys.length + 1) cap 9) (grownCap_le_maxLen w (keys.length + 1) cap 9 (by simp [maxLen]; omega)) ?_ (by simp [insertAt]) ?_, ?_, .inr ⟨_, rfl, Nat.le_refl _⟩⟩
        · have := grownCap_ge w (keys.length + 1) cap 9
          simp [size_zeroCells, Value.cells]; omega
        · intro j hj
          rw [hx j, Array.getElem?_append_left (by simp; omega)]
          simp only [List.getElem?_toArray]
          by_cases h1 : j < keys.length
          · rw [if_pos h1, List.getElem?_append_left (by simpa using h1)]
          · have : j = keys.length := by omega
            subst this
            rw [if_neg (by omega), if_pos rfl, List.getElem?_append_right (by simp)]; simp
        · exact (((Keeps.refl (S := no)).drew.alloc _).toGrown _)
    · have hin : i < keys.length := by omega
      by_cases hroom : keys.length + 1 ≤ cap
      · have hsa : w.shape? vb = some (9, 1) := by simp [World.shape?, hvb]
        have hsb : w.shape? q = some (9, cap) := by simp [World.shape?, hh, hcs]
        have hc := Any2.slices_Insert_string_shift Try.laysIns q 0 keys.length cap i vb 0 1 1 (keys.map .string) [.string x] w hin (by omega) hroom (by simp only [maxLen] at hcm; omega) hneq hlen rfl hcsc (fun j hj => hsome j (by omega)) (fun j _ => hfz _)
          hvs one_string h1v 9 9 1 cap hsa hsb (by omega) (frozen_of hvb) (frozen_of hvb)
        change Calls Try.prog 28 _ _ _ at hc
        refine hc.mono ?_
        rintro e w' ⟨rfl, rfl⟩
        obtain ⟨cur1, g1, g2, g3⟩ := heap_setCells ((keys.map Value.string).drop i) (0 + (i + 1)) w.drew cur hh
        obtain ⟨cur2, k1, k2, k3⟩ := heap_setCells [Value.string x] (0 + i) _ cur1 g1
        refine ⟨_, rfl, row_of_cells hbq k1 hroom hcm (by omega) (len_insertAt (x := x) hi ▸ by simp) ?_, ?_, .inl rfl⟩
        · intro j hj
          rw [k3 j, hx j]
          by_cases h1 : j < i
          · rw [if_neg (by simp; omega), g3 j, if_neg (by omega), if_pos h1, hcur j (by omega)]
          · rw [if_neg h1]
            by_cases h2 : j = i
            · subst h2; rw [if_pos ⟨by omega, by simp, by omega⟩, if_pos rfl]; simp
            · rw [if_neg (by simp; omega), if_neg h2, g3 j, if_pos ⟨by omega, by simp; omega, by omega⟩, List.getElem?_drop]
              congr 1; omega
        · exact (((Keeps.refl (S := fun k => k = q)).drew.trans (keeps_setCells _ _ _) (fun k h => .inl h)).trans (keeps_setCells _ _ _) (fun k h => .inl h)).toGrownAt
      · have hc := Any2.slices_Insert_string_grow Try.laysIns q 0 keys.length cap i vb 0 1 1 (keys.map .string) [.string x] w hin (by omega) hnc (by omega) (by omega) hlen rfl hcsc hvs one_string h1v
        change Calls Try.prog 28 _ _ _ at hc
        refine hc.mono ?_
        have e1 : Try.laysIns_ren.t 9 = 9 := by kernel_rfl
        rw [e1]
        have hge := grownCap_ge w (keys.length + 1) cap 9
        rintro e w' ⟨rfl, rfl⟩
        generalize hG : grownCap w (keys.length + 1) cap 9 = G at *
        have hGm : G ≤ maxLen := by rw [← hG]; exact grownCap_le_maxLen w _ _ _ (by simp [maxLen]; omega)
        generalize hbase : (((keys.map Value.string).take i).toArray ++ Builtin.zeroCells (Value.string ⟨#[]⟩).cells (keys.length + 1 - i) ++ Builtin.zeroCells (Value.string ⟨#[]⟩).cells (G - (keys.length + 1))) = cur0
        have hsz0 : cur0.size = G := by rw [← hbase]; simp [size_zeroCells, Value.cells]; omega
        have hcur0 : ∀ j, j < i → cur0[j]? = (keys.map Value.string)[j]? := by
          intro j hj
          rw [← hbase, Array.getElem?_append_left (by simp [size_zeroCells, Value.cells]; omega), Array.getElem?_append_left (by simp; omega)]
          simp only [List.getElem?_toArray]
          rw [List.getElem?_take, if_pos hj]
        obtain ⟨cur1, g1, g2, g3⟩ := heap_setCells [Value.string x] i (w.alloc (.cells cur0 9)).drew cur0 (heap_new w _)
        obtain ⟨cur2, k1, k2, k3⟩ := heap_setCells ((keys.map Value.string).drop i) (i + 1) (((w.alloc (.cells cur0 9)).drew.setCells w.heap.size i [Value.string x]).drew) cur1 g1
        refine ⟨_, rfl, row_of_cells hB k1 hge hGm (by omega) (len_insertAt (x := x) hi ▸ by simp) ?_, ?_, .inr ⟨_, rfl, Nat.le_refl _⟩⟩
        · intro j hj
          rw [k3 j, hx j]
          by_cases h1 : j < i
          · rw [if_neg (by omega), g3 j, if_neg (by simp; omega), if_pos h1, hcur0 j h1]
          · rw [if_neg h1]
            by_cases h2 : j = i
            · subst h2; rw [if_neg (by omega), g3 j, if_pos ⟨by omega, by simp, by omega⟩, if_pos rfl]; simp
            · rw [if_pos ⟨by omega, by simp; omega, by omega⟩, if_neg h2, List.getElem?_drop]
              congr 1; omega
        · have hk : Keeps no w (((w.alloc (.cells cur0 9)).drew.setCells w.heap.size i [Value.string x]).drew.setCells w.heap.size (i + 1) ((keys.map Value.string).drop i)) :=
            ((((Keeps.refl (S := no) (w := w)).alloc _).drew.trans (keeps_setCells _ _ _) (fun k h => .inr (by omega))).drew).trans (keeps_setCells _ _ _) (fun k h => .inr (by omega))
          exact hk.toGrown _
end Go.Proofs
