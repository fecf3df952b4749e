/- Words on the heap for the contracts: what a call keeps ('Keeps'), cells, rows of one's own, maps from strings to values. No program in sight. -/
import Derived.Test.YtgmfilpbabkjeaaLiftD
import Derived.Maps.OwnSet
import Derived.StringKeys
set_option linter.unusedVariables false
set_option linter.unusedSimpArgs false
namespace Go.L
open Go.RowKit
open Go.WideMaps (keyOf_string_mk)

section
variable {w w' w'' : World} {b b' i j : Nat} {cs : Array Value} {t : TypeId} {v u : Value} {S S' : Nat → Prop}

theorem cell_of (h : w.heap[b]? = some (.cells cs t (0, 0))) (hv : cs[i]? = some v) : w.cell? ⟨b, i, none⟩ = some v := by
  simp [World.cell?, h, hv]
theorem frozen_of (h : w.heap[b]? = some (.cells cs t (0, 0))) : w.frozen? ⟨b, i, none⟩ = false := by
  simp [World.frozen?, h]
theorem heap_set_same (h : w.heap[b]? = some (.cells cs t (0, 0))) (i : Nat) (v : Value) : (w.setCell ⟨b, i, none⟩ v).heap[b]? = some (.cells (cs.setIfInBounds i v) t (0, 0)) := by
  simp only [World.setCell, Array.getElem?_modify, h]; simp
theorem heap_set_other (h : b' ≠ b) (i : Nat) (v : Value) : (w.setCell ⟨b, i, none⟩ v).heap[b']? = w.heap[b']? := Below.heap_setCell _ _ _ _ h
theorem heap_new (w : World) (o : Obj) : (w.alloc o).heap[w.heap.size]? = some o := by
  show (w.heap.push o)[w.heap.size]? = _; simp
theorem heap_old (o : Obj) (h : b < w.heap.size) : (w.alloc o).heap[b]? = w.heap[b]? := Below.heap_alloc _ _ _ h
theorem lt_of_heap {o : Obj} (h : w.heap[b]? = some o) : b < w.heap.size := (Array.getElem?_eq_some_iff.1 h).1
theorem storeK_of {K : World → Prop} (h : w.heap[b]? = some (.cells cs t (0, 0))) (hi : i < cs.size) (hk : K (w.setCell ⟨b, i, none⟩ v)) : storeK w ⟨b, i, none⟩ v K :=
  ⟨by rw [cell_of h (Array.getElem?_eq_getElem hi)]; rfl, frozen_of h, hk⟩
@[simp] theorem addr_add (b o n : Nat) : Addr.add ⟨b, o, none⟩ n = ⟨b, o + n, none⟩ := by unfold Addr.add; simp

/-! ### what a call keeps: all but the blocks of S, and what is new -/
structure Keeps (S : Nat → Prop) (w w' : World) : Prop where
  os : w'.os = w.os
  tape : w'.tape = w.tape
  output : w'.output = w.output
  size : w.heap.size ≤ w'.heap.size
  block : ∀ k, k < w.heap.size → ¬ S k → w'.heap[k]? = w.heap[k]?
def no : Nat → Prop := fun _ => False
theorem Keeps.refl : Keeps S w w := ⟨rfl, rfl, rfl, Nat.le_refl _, fun _ _ _ => rfl⟩
theorem Keeps.trans (h : Keeps S w w') (h' : Keeps S' w' w'') (hs : ∀ k, S' k → S k ∨ w.heap.size ≤ k) : Keeps S w w'' :=
  ⟨h'.os.trans h.os, h'.tape.trans h.tape, h'.output.trans h.output, Nat.le_trans h.size h'.size, fun k hk hn =>
    (h'.block k (Nat.lt_of_lt_of_le hk h.size) (fun hs' => (hs k hs').elim hn (fun h1 => by omega))).trans (h.block k hk hn)⟩
theorem Keeps.alloc (h : Keeps S w w') (o : Obj) : Keeps S w (w'.alloc o) :=
  h.trans (S' := no) ⟨rfl, rfl, rfl, by simp, fun k hk _ => heap_old o hk⟩ (fun k hk => hk.elim)
theorem Keeps.drew (h : Keeps S w w') : Keeps S w w'.drew := ⟨h.os, h.tape, h.output, h.size, h.block⟩
theorem Keeps.set (h : Keeps S w w') {b : Nat} (hb : S b ∨ w.heap.size ≤ b) (i : Nat) (v : Value) : Keeps S w (w'.setCell ⟨b, i, none⟩ v) :=
  h.trans (S' := fun k => k = b) ⟨rfl, rfl, rfl, by simp [World.setCell], fun k _ hk => heap_set_other hk i v⟩ (fun k hk => by subst hk; exact hb)
theorem Keeps.grown {row : Option Nat} (h : Keeps S w w') (hg : w'.grownBy w'' row) (hr : ∀ k, row = some k → S k ∨ w.heap.size ≤ k) : Keeps S w w'' :=
  h.trans (S' := fun k => row = some k) ⟨hg.os, hg.tape, hg.output, hg.size, fun k hk hn => hg.block k hk (fun e => hn e.symm)⟩ hr
theorem Keeps.turned {m : Nat} (h : Keeps S w w') (hg : w'.mapTurned w'' m) (hm : S m ∨ w.heap.size ≤ m) : Keeps S w w'' :=
  h.grown hg.grown (fun k e => by cases e; exact hm)
theorem Keeps.mono (h : Keeps S w w') (hs : ∀ k, k < w.heap.size → S k → S' k) : Keeps S' w w' := ⟨h.os, h.tape, h.output, h.size, fun k hk hn => h.block k hk fun h1 => hn (hs k hk h1)⟩
theorem Keeps.below {B : Nat} (h : Keeps S w w') (hs : ∀ k, S k → B ≤ k) (hB : B ≤ w.heap.size) : Below B w w' :=
  ⟨h.os, h.tape, h.output, h.size, fun k hk => h.block k (by omega) fun h1 => by have := hs k h1; omega⟩
theorem Keeps.heap {o : Obj} (h : Keeps S w w') (hb : w.heap[b]? = some o) (hn : ¬ S b) : w'.heap[b]? = some o := (h.block b (lt_of_heap hb) hn).trans hb
theorem Keeps.cell {a : Addr} (h : Keeps S w w') (hc : w.cell? a = some v) (hn : ¬ S a.block) : w'.cell? a = some v :=
  (World.cell?_of_block (h.block a.block (World.block_lt_of_cell? w a hc) hn)).trans hc
theorem Keeps.toGrown (h : Keeps no w w') (row : Option Nat) : w.grownBy w' row := ⟨h.os, h.tape, h.output, h.size, fun k hk _ => h.block k hk id⟩

/-! ### rows of one's own -/
variable {base : Nat} {e : TypeId} {sz n : Nat} {xs news : List Value}
theorem row_keeps (h : w.ownsRow base e sz v n xs) (hk : Keeps S w w') (hn : ∀ g, v.ownBlock = some g → ¬ S g) : w'.ownsRow base e sz v n xs := by
  obtain ⟨h1, h2⟩ := h
  refine ⟨h1, ?_⟩
  rcases h2 with h2 | ⟨g, cap, cur, rfl, hg, hh, r⟩
  · exact .inl h2
  · exact .inr ⟨g, cap, cur, rfl, hg, hk.heap hh (hn g rfl), r⟩
theorem row_set (h : w.ownsRow base e sz v n xs) {g j : Nat} (hg : v.ownBlock = some g) (hj : j < xs.length) (u : Value) : (w.setCell ⟨g, j, none⟩ u).ownsRow base e sz v n (xs.set j u) := by
  obtain ⟨h1, h2⟩ := h
  refine ⟨by simp [h1], ?_⟩
  rcases h2 with ⟨rfl, rfl⟩ | ⟨g', cap, cur, rfl, hb, hh, hnc, hcm, hcs, htake⟩
  · simp [Value.ownBlock] at hg
  · simp [Value.ownBlock] at hg; subst hg
    refine .inr ⟨g', cap, _, rfl, hb, heap_set_same hh j u, hnc, hcm, by simp [hcs], ?_⟩
    rw [Array.toList_setIfInBounds, List.take_set, htake]
theorem row_cell (h : w.ownsRow base e sz v n xs) {g j : Nat} (hg : v.ownBlock = some g) {u : Value} (hu : xs[j]? = some u) : w.cell? ⟨g, j, none⟩ = some u := by
  have := h.cells hg j u hu
  simpa using this
/-- The row's block, where there is one. -/
theorem row_heap (h : w.ownsRow base e sz v n xs) {g : Nat} (hg : v.ownBlock = some g) : ∃ cap cur, v = .slice (some ⟨g, 0, none⟩) n cap ∧ base ≤ g ∧ w.heap[g]? = some (.cells cur e (0, 0)) ∧ n ≤ cap ∧ cap ≤ maxLen ∧ cur.size = cap * sz ∧ cur.toList.take (n * sz) = xs := by
  rcases h.2 with ⟨rfl, _⟩ | ⟨g', cap, cur, rfl, r⟩
  · simp [Value.ownBlock] at hg
  · simp [Value.ownBlock] at hg; subst hg; exact ⟨cap, cur, rfl, r⟩
theorem row_shape (h : w.ownsRow base e sz v n xs) : ∃ a cap, v = .slice a n cap ∧ ((a = none ∧ n = 0 ∧ cap = 0) ∨ ∃ g, a = some ⟨g, 0, none⟩ ∧ base ≤ g ∧ g < w.heap.size) := by
  rcases h.2 with ⟨rfl, rfl⟩ | ⟨g', cap, cur, rfl, hb, hh, r⟩
  · exact ⟨none, 0, rfl, .inl ⟨rfl, rfl, rfl⟩⟩
  · exact ⟨_, cap, rfl, .inr ⟨g', rfl, hb, lt_of_heap hh⟩⟩
theorem row_block (h : w.ownsRow base e sz v n xs) (hn : 0 < n) : ∃ g, v.ownBlock = some g ∧ base ≤ g ∧ g < w.heap.size := by
  rcases h.2 with ⟨rfl, rfl⟩ | ⟨g', cap, cur, rfl, hb, hh, r⟩
  · omega
  · exact ⟨g', rfl, hb, lt_of_heap hh⟩
/-- append of cells that stand somewhere. -/
theorem append_runK {P : Program} {t ty : TypeId} {ti : TypeInfo} {z : Value} {bytes : Nat} (ht : P.underlying t = some (.slice e)) (hi : P.info? e = some ti) (hz : ti.zero = some z) (hsize : ti.size = sz) (hby : ti.bytes = bytes) (hzs : z.cells.size = sz) (hsz : 0 < sz)
    (hown : w.ownsRow base e sz v n xs) {a : Addr} {m c : Nat} (hl : news.length = m * sz) (hnews : ∀ j u, news[j]? = some u → w.cell? (a.add j) = some u) (h1 : ∀ u ∈ news, u.oneCell' = true)
    (h63 : n + m ≤ maxLen) (hbytes : (n + m) * bytes ≤ 140737488355328) (hbase : base ≤ w.heap.size) {Φ : Value → World → Prop}
    (hk : ∀ v' w', w'.ownsRow base e sz v' (n + m) (xs ++ news) → w.grownBy w' v.ownBlock → (v'.ownBlock = v.ownBlock ∨ ∃ g, v'.ownBlock = some g ∧ w.heap.size ≤ g) → Φ v' w') :
    runK P (Builtin.append_ #[t, t] ty #[v, .slice (some a) m c]) w Φ := by
  obtain ⟨v', w', hr, h2, h3, h4⟩ := run_append_own (P := P) w base t ty e ti z sz bytes ht hi hz hsize hby hzs hsz v n xs hown a m c news hl hnews h1 h63 hbytes hbase
  refine ⟨v', w', hr, hk v' w' h2 h3 ?_⟩
  subst hsize
  subst hby
  rcases hown.2 with ⟨rfl, rfl⟩ | ⟨g, cap, cur, rfl, hbg, hg, hnc, hcm, hcs, htake⟩
  · by_cases hm : m = 0
    · left; rw [h4.2 ⟨rfl, hm⟩]
    · right
      have hr2 := run_append_nil (P := P) w t ty e ti z ht hi hz a m c news hl hnews (by omega) (by simp only [maxLen] at h63; omega) (by have hb := hbytes; simp only [Nat.zero_add] at hb; omega)
      rw [hr] at hr2
      injection hr2 with e1 _
      exact ⟨w.heap.size, by rw [e1]; rfl, Nat.le_refl _⟩
  · by_cases hroom : n + m ≤ cap
    · left
      have hfit : n * ti.size + news.length ≤ cur.size := by rw [hl, hcs, ← Nat.add_mul]; exact Nat.mul_le_mul_right _ hroom
      have hr2 := run_append_room (P := P) w t ty e ti ht hi g n cap cur hg a m c news hl hnews h1 hroom hfit
      rw [hr] at hr2
      injection hr2 with e1 _
      rw [e1]; rfl
    · right
      have holds : ∀ j u, xs[j]? = some u → w.cell? ((⟨g, 0, none⟩ : Addr).add j) = some u := hown.cells (g := g) rfl
      have hr2 := run_append_grow (P := P) w t ty e ti z ht hi hz ⟨g, 0, none⟩ n cap xs hown.1 holds a m c news hl hnews (by omega) (by simp only [maxLen] at h63; omega) (growslice_fits (by omega) hbytes)
      rw [hr] at hr2
      injection hr2 with e1 _
      exact ⟨w.heap.size, by rw [e1]; rfl, Nat.le_refl _⟩
end

/-! ### maps from strings to values, each as it stands -/
def asHeld (v : Value) : Option (DataW Value × List MemPlace) := some (.held v, [])
def sl (s : ByteArray) : Lit := .string s.data.toList
/-- Block b is a map of at most n entries; at s it holds what g says. -/
def MapIs (w : World) (P : Program) (k : TypeId) (b n : Nat) (g : ByteArray → Option Value) : Prop :=
  ∃ D : DataW Value, w.ownsMap P k asHeld b n D ∧ ∀ s : ByteArray, (∀ z, D.atKey (sl s) z = match g s with | some v => .held v | none => z)
def updG (g : ByteArray → Option Value) (s : ByteArray) (v : Option Value) : ByteArray → Option Value := fun s' => if s' = s then v else g s'
section
variable {w w' : World} {P : Program} {k e t : TypeId} {b n : Nat} {g : ByteArray → Option Value} {s : ByteArray} {v z : Value}
theorem MapIs.keeps {S : Nat → Prop} (h : MapIs w P k b n g) (hk : Keeps S w w') (hn : ¬ S b) : MapIs w' P k b n g := by
  obtain ⟨D, ⟨es, clock, hb, r⟩, hg⟩ := h
  exact ⟨D, ⟨es, clock, hk.heap hb hn, r⟩, hg⟩
theorem MapIs.lt (h : MapIs w P k b n g) : b < w.heap.size := by obtain ⟨D, h, _⟩ := h; exact h.lt
theorem MapIs.made (w : World) (P : Program) (k : TypeId) : MapIs (w.alloc (.map #[] 0)) P k w.heap.size 0 fun _ => none :=
  ⟨_, World.ownsMap_made w P k asHeld, fun s z => rfl⟩
theorem MapIs.look (h : MapIs w P k b n g) (hk : P.underlying k = some .string) (ht : P.underlying t = some (.map k e)) (hz : (zeroValue e).run P w = .ok z w) (hs : s.size ≤ maxLen) :
    (Instr.lookup t (.map (some b)) (.string s) false).run P w = .ok ((g s).getD z) w := by
  obtain ⟨D, hD, hg⟩ := h
  obtain ⟨v, ps, hr, hv⟩ := hD.lookup (Go.Maps.string_keyed hk) ht hz (zd := .held z) (zp := []) rfl (keyOf_string_mk hk hs)
  rw [hr]
  have := hg s (.held z)
  unfold sl at this
  rw [this] at hv
  unfold asHeld at hv
  cases hgs : g s with
  | none => rw [hgs] at hv; simp at hv; rw [hv.1]; rfl
  | some u => rw [hgs] at hv; simp at hv; rw [hv.1]; rfl
theorem sl_inj {s s' : ByteArray} (h : sl s = sl s') : s = s' := by
  unfold sl at h
  injection h with h
  have h1 : s.data = s'.data := Array.ext' h
  cases s; cases s'; simp_all
theorem MapIs.put (h : MapIs w P k b n g) (hk : P.underlying k = some .string) (ht : P.underlying t = some (.map k e)) (hn : n < maxLen) (hs : s.size ≤ maxLen) (v : Value) :
    ∃ w', (Instr.mapUpdate t (.map (some b)) (.string s) v).run P w = .ok () w' ∧ MapIs w' P k b (n + 1) (updG g s (some v)) ∧ w.mapTurned w' b := by
  obtain ⟨D, hD, hg⟩ := h
  obtain ⟨w', hr, hD', hm⟩ := hD.store (Go.Maps.string_keyed hk) ht hn (key := .string s) (val := v) (d := .held v) (ps := []) (keyOf_string_mk hk hs) rfl
  refine ⟨w', hr, ⟨_, hD', fun s' z => ?_⟩, hm⟩
  unfold updG
  by_cases he : s' = s
  · subst he
    rw [if_pos rfl]
    exact Go.Maps.atKey_put_same hD.isMap (by exact True.intro) _ _
  · rw [if_neg he]
    rw [← hg s' z]
    exact Go.Maps.atKey_put_other (fun h => he (sl_inj h)) _ _
theorem MapIs.del (h : MapIs w P k b n g) (hk : P.underlying k = some .string) (ht : P.underlying t = some (.map k e)) (hs : s.size ≤ maxLen) (ty : TypeId) :
    ∃ w', (Builtin.delete_ #[t, k] ty #[.map (some b), .string s]).run P w = .ok (.tuple #[]) w' ∧ MapIs w' P k b n (updG g s none) ∧ w.mapTurned w' b := by
  obtain ⟨D, hD, hg⟩ := h
  obtain ⟨w', hr, hD', hm⟩ := hD.drop (Go.Maps.string_keyed hk) ht (keyOf_string_mk hk hs) ty
  refine ⟨w', hr, ⟨_, hD', fun s' z => ?_⟩, hm⟩
  unfold updG
  by_cases he : s' = s
  · subst he
    rw [if_pos rfl]
    exact Go.Maps.atKey_del_same _
  · rw [if_neg he]
    rw [← hg s' z]
    exact Go.Maps.atKey_del_other (fun h => he (sl_inj h)) _
end
end Go.L
