/- Spans: the reference's functions that read: holds, open, Has, Count. Seat s14. -/
import Derived.Test.YtgmfilpbabkjeaaSpZ
set_option linter.unusedVariables false
set_option linter.unusedSimpArgs false
set_option maxRecDepth 100000
namespace Go.Proofs
open Go.L Go.RowKit Go.Sort

def encX (x : KS) : List Value := [.string x.1, .int .i64 x.2.1, .int .i64 x.2.2]
theorem one_encX (x : KS) : ∀ v ∈ encX x, v.oneCell' = true := by
  intro v hv
  simp only [encX, List.mem_cons, List.not_mem_nil, or_false] at hv
  rcases hv with rfl | rfl | rfl <;> rfl
theorem len_encX (l : List KS) : (l.flatMap encX).length = l.length * 3 := by
  induction l with
  | nil => rfl
  | cons x l ih => rw [List.flatMap_cons, List.length_append, ih]; simp [encX]; omega
theorem encX_get {l : List KS} {i r : Nat} {x : KS} (h : l[i]? = some x) (hr : r < 3) : (l.flatMap encX)[i * 3 + r]? = (encX x)[r]? := by
  induction l generalizing i with
  | nil => simp at h
  | cons y l ih =>
    cases i with
    | zero =>
      simp at h; subst h
      rw [List.flatMap_cons, List.getElem?_append_left (by simp [encX]; omega)]
      simp
    | succ i =>
      simp at h
      rw [List.flatMap_cons, List.getElem?_append_right (by simp [encX]; omega), ← ih h]
      congr 1
      simp [encX]; omega
theorem und28 : Try.prog.underlying 28 = some (.slice 71) := by kernel_rfl
theorem inf71 : (Try.prog.info? 71).map (fun i => (i.zero, i.size, i.bytes)) = some (some (.agg #[.string ⟨#[]⟩, .int .i64 0, .int .i64 0]), 3, 32) := by kernel_rfl
/-- A row of the reference's spans. -/
abbrev RowX (w : World) (B : Nat) (v : Value) (L : List KS) : Prop := w.ownsRow B 71 3 v L.length (L.flatMap encX)
def XAt (w : World) (a : Option Addr) (L : List KS) : Prop := ∀ i (h : i < L.length), ∃ p : Addr, a = some p ∧ w.cell? (p.add (i * 3)) = some (.string L[i].1) ∧
  w.cell? ((p.add (i * 3)).add 1) = some (.int .i64 L[i].2.1) ∧ w.cell? ((p.add (i * 3)).add 2) = some (.int .i64 L[i].2.2)
theorem XAt.of {B : Nat} {w : World} {a : Option Addr} {n c : Nat} {L : List KS} (h : RowX w B (.slice a n c) L) : XAt w a L := by
  intro i hi
  obtain ⟨a', c', hv, hs⟩ := row_shape h
  injection hv with e1 e2 e3
  obtain ⟨q, hq, _, hlt⟩ := row_block h (by omega)
  have ha : a = some ⟨q, 0, none⟩ := by
    rcases hs with ⟨rfl, h1, _⟩ | ⟨g, rfl, _⟩
    · omega
    · rw [e1] at hq; simp [Value.ownBlock] at hq; rw [e1, hq]
  have g : ∀ r, r < 3 → ∀ u, (encX L[i])[r]? = some u → w.cell? ⟨q, i * 3 + r, none⟩ = some u := fun r hr u hu =>
    row_cell h hq ((encX_get (List.getElem?_eq_getElem hi) hr).trans hu)
  refine ⟨_, ha, ?_, ?_, ?_⟩
  · rw [addr_add, Nat.zero_add]; exact g 0 (by omega) _ rfl
  · rw [addr_add, addr_add, Nat.zero_add]; exact g 1 (by omega) _ rfl
  · rw [addr_add, addr_add, Nat.zero_add]; exact g 2 (by omega) _ rfl
theorem XAt.quiet {w w' : World} {a : Option Addr} {L : List KS} (h : XAt w a L) (hk : Keeps no w w') : XAt w' a L := by
  intro i hi
  obtain ⟨p, h1, h2, h3, h4⟩ := h i hi
  exact ⟨p, h1, hk.cell h2 id, hk.cell h3 id, hk.cell h4 id⟩
/-- A struct of the reference in a box. -/
structure BoxX (w : World) (b : Nat) (a : Option Addr) (c : Nat) (last : Int) (L : List KS) : Prop where
  box : w.heap[b]? = some (.cells #[.slice a L.length c, .int .i64 last] 30 (0, 0))
  at_ : XAt w a L
theorem BoxX.quiet {w w' : World} {b : Nat} {a : Option Addr} {c : Nat} {last : Int} {L : List KS} (h : BoxX w b a c last L) (hk : Keeps no w w') : BoxX w' b a c last L := ⟨hk.heap h.box id, h.at_.quiet hk⟩
theorem BoxX.new {w : World} {a : Option Addr} {c : Nat} {last : Int} {L : List KS} (h : XAt w a L) : BoxX (w.alloc (.cells #[.slice a L.length c, .int .i64 last] 30)) w.heap.size a c last L :=
  ⟨heap_new _ _, h.quiet (Keeps.refl.alloc _)⟩
theorem BoxX.l {w : World} {b : Nat} {a : Option Addr} {c : Nat} {last : Int} {L : List KS} (h : BoxX w b a c last L) : w.cell? ⟨b, 0, none⟩ = some (.slice a L.length c) := cell_of h.box rfl
theorem BoxX.last {w : World} {b : Nat} {a : Option Addr} {c : Nat} {last : Int} {L : List KS} (h : BoxX w b a c last L) : w.cell? ⟨b, 1, none⟩ = some (.int .i64 last) := cell_of h.box rfl

theorem holds36 (x : KS) (rev : Int) (w : World) : Calls Try.prog 36 #[.agg (encX x).toArray, .int .i64 rev] w fun e w' => e = .returned (.bool (holds rev x.2)) ∧ Keeps no w w' := by
  refine F36.calls_of _ _ _ _ ?_
  unfold F36.sh
  refine allocK_of ?_
  have n0 := heap_new w (.cells #[.string x.1, .int .i64 x.2.1, .int .i64 x.2.2] 71)
  have k : Keeps no w (w.alloc (.cells #[.string x.1, .int .i64 x.2.1, .int .i64 x.2.2] 71)) := Keeps.refl.alloc _
  refine ⟨_, cell_of n0 rfl, iteP_of (fun h1 => ⟨_, cell_of n0 rfl, iteP_of (fun h2 => ?_) (fun h2 => ⟨_, cell_of n0 rfl, ?_⟩)⟩) (fun h1 => ?_)⟩
  · exact ⟨by simp [holds, h1, h2], k⟩
  · exact ⟨by simp [holds, h1, h2], k⟩
  · exact ⟨by simp [holds, h1], k⟩
def isOpen (key : ByteArray) (x : KS) : Bool := decide (x.1 = key) && x.2.2 == 0
theorem open29 {w : World} {a : Option Addr} {c : Nat} {last : Int} {L : List KS} (h : XAt w a L) (hL : L.length < 1000000000) (key : ByteArray) :
    Calls Try.prog 29 #[.agg #[.slice a L.length c, .int .i64 last], .string key] w fun e w' => e = .returned (.int .i64 (idxOf (isOpen key) L)) ∧ Keeps no w w' := by
  refine F29.calls_of _ _ _ _ _ ?_
  unfold F29.sh
  refine allocK_of ?_
  have hb := BoxX.new (c := c) (last := last) h
  have k1 : Keeps no w (w.alloc (.cells #[.slice a L.length c, .int .i64 last] 30)) := Keeps.refl.alloc _
  refine ⟨fun i k w1 => ∃ x : Nat, i = x ∧ x ≤ L.length ∧ k = L.length - x ∧ (∀ t (h : t < L.length), t < x → isOpen key L[t] = false) ∧ BoxX w1 w.heap.size a c last L ∧ Keeps no w w1, ⟨_, 0, rfl, by omega, rfl, fun t h h' => by omega, hb, k1⟩, ?_⟩
  rintro i k w2 ⟨x, rfl, hx, rfl, hno, h2, k2⟩ z
  refine ⟨_, _, _, h2.l, iteP_of (fun hi => ?_) (fun hi => ?_)⟩
  · have hi : x < L.length := by simpa using hi
    obtain ⟨p, hp, c0, c1, c2⟩ := h2.at_ x hi
    have again : isOpen key L[x] = false → ∃ k3, k3 < L.length - x ∧ ∃ y : Nat, IntKind.wrap .i64 ((x : Int) + 1) = y ∧ y ≤ L.length ∧ k3 = L.length - y ∧ (∀ t (h : t < L.length), t < y → isOpen key L[t] = false) ∧ BoxX w2 w.heap.size a c last L ∧ Keeps no w w2 := by
      intro e
      rw [IntWalk.i64_in _ (by omega)]
      refine ⟨L.length - (x + 1), by omega, x + 1, by omega, by omega, rfl, fun t h h' => ?_, h2, k2⟩
      by_cases e2 : t = x
      · subst e2; exact e
      · exact hno t h (by omega)
    rw [Int.toNat_natCast]
    refine ⟨_, _, _, h2.l, ⟨by omega, by omega⟩, onSome_of hp ⟨_, c0, iteP_of (fun h3 => ?_) (fun h3 => ?_)⟩⟩
    · rw [toList_beq] at h3
      refine ⟨_, _, _, h2.l, ⟨by omega, by omega⟩, onSome_of hp ⟨_, c2, iteP_of (fun h4 => ?_) (fun h4 => ?_)⟩⟩
      · refine ⟨?_, k2⟩
        rw [idxOf_at hi hno (by unfold isOpen; rw [h3, h4]; rfl)]
      · exact again (by unfold isOpen; rw [h4]; simp)
    · rw [toList_beq] at h3
      exact again (by unfold isOpen; rw [h3]; rfl)
  · have hi : ¬ x < L.length := by simpa using hi
    exact ⟨by rw [idxOf_none fun t h => hno t h (by omega)], k2⟩
def rHas (L : List KS) (key : ByteArray) (rev : Int) : Bool := L.any fun x => holds rev x.2 && decide (x.1 = key)
theorem rHas20 {w : World} {a : Option Addr} {c : Nat} {last : Int} {L : List KS} (h : XAt w a L) (hL : L.length < 1000000000) (key : ByteArray) (rev : Int) :
    Calls Try.prog 20 #[.agg #[.slice a L.length c, .int .i64 last], .string key, .int .i64 rev] w fun e w' => e = .returned (.bool (rHas L key rev)) ∧ Keeps no w w' := by
  refine F20.calls_of _ _ _ _ _ _ ?_
  unfold F20.sh
  refine allocK_of ?_
  have hb := BoxX.new (c := c) (last := last) h
  have k1 : Keeps no w (w.alloc (.cells #[.slice a L.length c, .int .i64 last] 30)) := Keeps.refl.alloc _
  refine ⟨fun i k w1 => ∃ x : Nat, i = x ∧ x ≤ L.length ∧ k = L.length - x ∧ rHas (L.take x) key rev = false ∧ BoxX w1 w.heap.size a c last L ∧ Keeps no w w1, ⟨_, 0, rfl, by omega, rfl, rfl, hb, k1⟩, ?_⟩
  rintro i k w2 ⟨x, rfl, hx, rfl, hno, h2, k2⟩ z
  refine ⟨_, _, _, h2.l, iteP_of (fun hi => ?_) (fun hi => ?_)⟩
  · have hi : x < L.length := by simpa using hi
    obtain ⟨p, hp, c0, c1, c2⟩ := h2.at_ x hi
    have ht : rHas (L.take (x + 1)) key rev = (rHas (L.take x) key rev || (holds rev L[x].2 && decide (L[x].1 = key))) := by
      unfold rHas; rw [List.take_succ_eq_append_getElem hi, List.any_append]; simp
    rw [Int.toNat_natCast]
    refine ⟨_, _, _, h2.l, ⟨by omega, by omega⟩, onSome_of hp ⟨_, c0, _, c1, _, c2, ?_⟩⟩
    refine (holds36 L[x] rev w2).mono ?_
    rintro e w3 ⟨rfl, k3⟩
    have h3 := h2.quiet k3
    have again : (holds rev L[x].2 && decide (L[x].1 = key)) = false → ∃ k3, k3 < L.length - x ∧ ∃ y : Nat, IntKind.wrap .i64 ((x : Int) + 1) = y ∧ y ≤ L.length ∧ k3 = L.length - y ∧ rHas (L.take y) key rev = false ∧ BoxX w3 w.heap.size a c last L ∧ Keeps no w w3 := by
      intro e
      rw [IntWalk.i64_in _ (by omega)]
      exact ⟨L.length - (x + 1), by omega, x + 1, by omega, by omega, rfl, by rw [ht, hno, e]; rfl, h3, k2.transN k3⟩
    refine ⟨_, rfl, iteP_of (fun h4 => ?_) (fun h4 => ?_)⟩
    · obtain ⟨p', hp', c0', _, _⟩ := h3.at_ x hi
      refine ⟨_, _, _, h3.l, ⟨by omega, by omega⟩, onSome_of hp' ⟨_, c0', iteP_of (fun h5 => ?_) (fun h5 => ?_)⟩⟩
      · rw [toList_beq] at h5
        refine ⟨?_, k2.transN k3⟩
        have : rHas L key rev = true := by
          unfold rHas; rw [List.any_eq_true]; exact ⟨L[x], List.getElem_mem hi, by rw [h4, h5]; rfl⟩
        rw [this]
      · rw [toList_beq] at h5
        exact again (by rw [h5, Bool.and_false])
    · exact again (by rw [h4]; rfl)
  · have hi : x = L.length := by have : ¬ x < L.length := by simpa using hi
                                 omega
    subst hi
    rw [List.take_length] at hno
    exact ⟨by rw [hno], k2⟩
theorem rCount22 {w : World} {a : Option Addr} {c : Nat} {last : Int} {L : List KS} (h : XAt w a L) (hL : L.length < 1000000000) (rev : Int) :
    Calls Try.prog 22 #[.agg #[.slice a L.length c, .int .i64 last], .int .i64 rev] w fun e w' => e = .returned (.int .i64 ((cntP rev L : Nat) : Int)) ∧ Keeps no w w' := by
  refine F22.calls_of _ _ _ _ _ ?_
  unfold F22.sh
  refine allocK_of ?_
  have hb := BoxX.new (c := c) (last := last) h
  have k1 : Keeps no w (w.alloc (.cells #[.slice a L.length c, .int .i64 last] 30)) := Keeps.refl.alloc _
  refine ⟨fun n i k w1 => ∃ x : Nat, i = x ∧ x ≤ L.length ∧ k = L.length - x ∧ n = ((cntP rev (L.take x) : Nat) : Int) ∧ BoxX w1 w.heap.size a c last L ∧ Keeps no w w1, ⟨_, 0, rfl, by omega, rfl, rfl, hb, k1⟩, ?_⟩
  rintro n i k w2 ⟨x, rfl, hx, rfl, rfl, h2, k2⟩ z
  refine ⟨_, _, _, h2.l, iteP_of (fun hi => ?_) (fun hi => ?_)⟩
  · have hi : x < L.length := by simpa using hi
    obtain ⟨p, hp, c0, c1, c2⟩ := h2.at_ x hi
    have ht : cntP rev (L.take (x + 1)) = cntP rev (L.take x) + (if holds rev L[x].2 then 1 else 0) := by
      rw [List.take_succ_eq_append_getElem hi, cntP_snoc]
    have hle : cntP rev (L.take x) ≤ x := Nat.le_trans (cntP_le _ _) (by rw [List.length_take]; omega)
    rw [Int.toNat_natCast]
    refine ⟨_, _, _, h2.l, ⟨by omega, by omega⟩, onSome_of hp ⟨_, c0, _, c1, _, c2, ?_⟩⟩
    refine (holds36 L[x] rev w2).mono ?_
    rintro e w3 ⟨rfl, k3⟩
    have h3 := h2.quiet k3
    refine ⟨_, rfl, iteP_of (fun h4 => ?_) (fun h4 => ?_)⟩
    · rw [IntWalk.i64_in _ (by omega), IntWalk.i64_in _ (by omega)]
      refine ⟨L.length - (x + 1), by omega, x + 1, by omega, by omega, rfl, ?_, h3, k2.transN k3⟩
      rw [ht, if_pos h4]; rfl
    · rw [IntWalk.i64_in _ (by omega)]
      refine ⟨L.length - (x + 1), by omega, x + 1, by omega, by omega, rfl, ?_, h3, k2.transN k3⟩
      rw [ht, if_neg (by rw [h4]; simp)]; rfl
  · have hi : x = L.length := by have : ¬ x < L.length := by simpa using hi
                                 omega
    subst hi
    rw [List.take_length]
    exact ⟨rfl, k2⟩
end Go.Proofs
