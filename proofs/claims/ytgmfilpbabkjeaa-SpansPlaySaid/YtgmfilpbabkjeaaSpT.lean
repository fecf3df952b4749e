/- Spans: Count's contract. Seat s14. -/
import Derived.Test.YtgmfilpbabkjeaaSpS
set_option linter.unusedVariables false
set_option linter.unusedSimpArgs false
set_option maxRecDepth 100000
namespace Go.Proofs
open Go.L Go.RowKit

theorem heap_put_same {w : World} {b : Nat} (o : Obj) (h : b < w.heap.size) : (w.putObj b o).heap[b]? = some o := World.putObj_heap_same h
theorem heap_put_other {w : World} {b b' : Nat} (o : Obj) (h : b' ≠ b) : (w.putObj b o).heap[b']? = w.heap[b']? := World.putObj_heap_other h
theorem _root_.Go.L.Keeps.put {S : Nat → Prop} {w w' : World} (h : Keeps S w w') {b : Nat} (hb : S b ∨ w.heap.size ≤ b) (o : Obj) : Keeps S w (w'.putObj b o) :=
  h.trans (S' := fun k => k = b) ⟨rfl, rfl, rfl, by simp, fun k _ hk => heap_put_other o hk⟩ (fun k hk => by subst hk; exact hb)
def Sp.count (M : Sp) (rev : Int) : Nat := ((pairs M).filter fun x => holds rev x.2).length
def cntP (rev : Int) (l : List KS) : Nat := (l.filter fun x => holds rev x.2).length
theorem cntP_snoc (rev : Int) (l : List KS) (x : KS) : cntP rev (l ++ [x]) = cntP rev l + (if holds rev x.2 then 1 else 0) := by
  unfold cntP; rw [List.filter_append, List.length_append]; congr 1
  by_cases h : holds rev x.2 = true <;> simp [h]
theorem cntP_le (rev : Int) (l : List KS) : cntP rev l ≤ l.length := List.length_filter_le _ _
theorem cntP_pre {rev : Int} {M : Sp} {pre post : List KS} {x : KS} (h : pairs M = pre ++ x :: post) : cntP rev pre < (pairs M).length := by
  have := cntP_le rev pre; rw [h]; simp; omega
/-- What the two callers share: the block of the deferred calls, and the record. -/
structure Loop0 (rec : Rec) (d : Nat) (w : World) : Prop where
  lrec : w.heap[d + 1]? = some (rec .ready none)
  dfr : w.heap[d]? = some (.deferred (some []))
theorem Loop0.keeps {rec : Rec} {d : Nat} {w w' : World} {S : Nat → Prop} (h : Loop0 rec d w) (hk : Keeps S w w') (h1 : ¬ S d) (h2 : ¬ S (d + 1)) : Loop0 rec d w' := ⟨hk.heap h.lrec h2, hk.heap h.dfr h1⟩
theorem Loop0.made (rec : Rec) (w : World) : Loop0 rec w.heap.size ((w.alloc (.deferred (some []))).alloc (rec .ready none)) := by
  refine ⟨?_, ?_⟩
  · have := heap_new (w.alloc (.deferred (some []))) (rec .ready none); simpa using this
  · rw [heap_old _ (by simp)]; exact heap_new _ _
theorem Count_nil (rev : Int) (w : World) : Calls Try.prog 21 #[.pointer none, .int .i64 rev] w fun e w' => e = .returned (.int .i64 0) ∧ Keeps no w w' := by
  refine F21.calls_of _ _ ?_
  unfold F21.sh
  refine allocK_of (allocK_of ?_)
  have n1 := heap_new (w.alloc (.cells #[.int .i64 rev] 3)) (.cells #[.int .i64 0] 3)
  refine storeK_of n1 (by simp) ?_
  have n2 := heap_set_same n1 0 (.int .i64 0)
  have hs : (w.alloc (.cells #[.int .i64 rev] 3)).heap.size = w.heap.size + 1 := by simp
  have k3 : Keeps no w (((w.alloc (.cells #[.int .i64 rev] 3)).alloc (.cells #[.int .i64 0] 3)).setCell ⟨(w.alloc (.cells #[.int .i64 rev] 3)).heap.size, 0, none⟩ (.int .i64 0)) :=
    ((Keeps.refl.alloc _).alloc _).set (.inr (by rw [hs]; omega)) _ _
  rw [hs] at n2 k3 ⊢
  generalize (((w.alloc (.cells #[.int .i64 rev] 3)).alloc (.cells #[.int .i64 0] 3)).setCell ⟨w.heap.size + 1, 0, none⟩ (.int .i64 0)) = w3 at *
  refine (Each40 _ _).mono ?_
  rintro e w4 ⟨rfl, rfl⟩
  refine ⟨52, #[], _, rfl, by kernel_rfl, fun rec hy => ?_⟩
  have n4 := heap_new w3 (.cells #[.pointer none] 26)
  have k4 : Keeps no w3 (w3.alloc (.cells #[.pointer none] 26)) := Keeps.refl.alloc _
  generalize w3.alloc (.cells #[.pointer none] 26) = w4 at *
  have k5 : Keeps no w4 ((w4.alloc (.deferred (some []))).alloc (rec .ready none)) := (Keeps.refl.alloc _).alloc _
  have hl := Loop0.made rec w4
  generalize ((w4.alloc (.deferred (some []))).alloc (rec .ready none)) = w5 at *
  refine (Each52_nil (y := w4.heap.size + 1) (cell_of (k5.heap n4 id) rfl)).mono ?_
  rintro e w6 ⟨rfl, rfl⟩
  have hlt := lt_of_heap hl.lrec
  have h3 := lt_of_heap n2
  have h34 := k4.size
  refine .inl ⟨hl.lrec, 0, ?_, ?_, rfl, ?_⟩
  · refine cell_of (cs := #[.int .i64 0]) (t := 3) ?_ rfl
    rw [heap_put_other _ (by omega)]; exact k5.heap (k4.heap n2 id) id
  · rw [heap_put_other _ (by omega)]; exact hl.dfr
  · have hw := k3.size
    exact (((k3.transN k4).transN k5).put (.inr (by omega)) _).put (.inr (by omega)) _
set_option maxHeartbeats 1000000 in
theorem Count_spec {B bs N : Nat} {w : World} {M : Sp} {S : Nat → Prop} (h : Rep B w bs N M S) (hN : N < maxLen) (hM : (pairs M).length < 1000000000) (rev : Int) :
    Calls Try.prog 21 #[.pointer (some ⟨bs, 0, none⟩), .int .i64 rev] w fun e w' => e = .returned (.int .i64 ((M.count rev : Nat) : Int)) ∧ Keeps no w w' := by
  refine F21.calls_of _ _ ?_
  unfold F21.sh
  refine allocK_of (allocK_of ?_)
  have n0 := heap_new w (.cells #[.int .i64 rev] 3)
  have n1 := heap_new (w.alloc (.cells #[.int .i64 rev] 3)) (.cells #[.int .i64 0] 3)
  refine storeK_of n1 (by simp) ?_
  have n2 := heap_set_same n1 0 (.int .i64 0)
  have hs : (w.alloc (.cells #[.int .i64 rev] 3)).heap.size = w.heap.size + 1 := by simp
  have k3 : Keeps no w (((w.alloc (.cells #[.int .i64 rev] 3)).alloc (.cells #[.int .i64 0] 3)).setCell ⟨(w.alloc (.cells #[.int .i64 rev] 3)).heap.size, 0, none⟩ (.int .i64 0)) :=
    ((Keeps.refl.alloc _).alloc _).set (.inr (by rw [hs]; omega)) _ _
  have n0' : (((w.alloc (.cells #[.int .i64 rev] 3)).alloc (.cells #[.int .i64 0] 3)).setCell ⟨(w.alloc (.cells #[.int .i64 rev] 3)).heap.size, 0, none⟩ (.int .i64 0)).heap[w.heap.size]? = some (.cells #[.int .i64 rev] 3 (0, 0)) := by
    rw [heap_set_other (by omega), heap_old _ (by omega)]; exact n0
  rw [hs] at n2 k3 n0' ⊢
  generalize (((w.alloc (.cells #[.int .i64 rev] 3)).alloc (.cells #[.int .i64 0] 3)).setCell ⟨w.heap.size + 1, 0, none⟩ (.int .i64 0)) = w3 at *
  refine (Each40 _ _).mono ?_
  rintro e w4 ⟨rfl, rfl⟩
  refine ⟨52, #[], _, rfl, by kernel_rfl, fun rec hy => ?_⟩
  have n4 := heap_new w3 (.cells #[.pointer (some ⟨bs, 0, none⟩)] 26)
  have k4 : Keeps no w3 (w3.alloc (.cells #[.pointer (some ⟨bs, 0, none⟩)] 26)) := Keeps.refl.alloc _
  have hs4 : (w3.alloc (.cells #[.pointer (some ⟨bs, 0, none⟩)] 26)).heap.size = w3.heap.size + 1 := by simp
  generalize w3.alloc (.cells #[.pointer (some ⟨bs, 0, none⟩)] 26) = w4 at *
  have k5 : Keeps no w4 ((w4.alloc (.deferred (some []))).alloc (rec .ready none)) := (Keeps.refl.alloc _).alloc _
  have hl := Loop0.made rec w4
  generalize ((w4.alloc (.deferred (some []))).alloc (rec .ready none)) = w5 at *
  have k05 : Keeps no w w5 := (k3.transN k4).transN k5
  have h5 := h.keeps k05 (fun q _ h => h)
  have hge : ∀ q, S q → q < w.heap.size := fun q hq => (h.ge hq).2
  have n1 := lt_of_heap n2
  have hlt := lt_of_heap hl.lrec
  refine (Each52 (T := fun q => q = w.heap.size + 1 ∨ q = w4.heap.size + 1) h5 hN (y := w4.heap.size + 1) (cell_of (k5.heap n4 id) rfl) (fun q hq => ?_) (by omega)
    (J := fun pre w' => Loop0 rec w4.heap.size w' ∧ w'.heap[w.heap.size + 1]? = some (.cells #[.int .i64 ((cntP rev pre : Nat) : Int)] 3 (0, 0)) ∧ Keeps (fun q => q = w.heap.size + 1 ∨ q = w4.heap.size + 1) w5 w')
    (fun pre w1 w2 hj hk => ⟨hj.1.keeps hk id id, hk.heap hj.2.1 id, hj.2.2.trans hk (fun q hq => hq.elim)⟩) (fun pre w1 hj => hj.2.2) ⟨hl, k5.heap (k4.heap n2 id) id, Keeps.refl⟩ ?_).mono ?_
  · have := hge q hq; omega
  · rintro pre ⟨yk, y2, y3⟩ post w6 hsp ⟨hl6, hc6, hk6⟩
    refine hy yk y2 y3 w6 _ hl6.lrec ?_
    refine allocK_of ?_
    have m0 := heap_new w6 (.cells #[.int .i64 0, .int .i64 0] 68)
    refine storeK_of m0 (by simp) ?_
    have m1 := heap_set_same m0 0 (.int .i64 y2)
    refine storeK_of m1 (by simp) ?_
    have m2 := heap_set_same m1 1 (.int .i64 y3)
    have k9 : Keeps no w6 (((w6.alloc (.cells #[.int .i64 0, .int .i64 0] 68)).setCell ⟨w6.heap.size, 0, none⟩ (.int .i64 y2)).setCell ⟨w6.heap.size, 1, none⟩ (.int .i64 y3)) :=
      ((Keeps.refl.alloc _).set (.inr (Nat.le_refl _)) _ _).set (.inr (Nat.le_refl _)) _ _
    generalize (((w6.alloc (.cells #[.int .i64 0, .int .i64 0] 68)).setCell ⟨w6.heap.size, 0, none⟩ (.int .i64 y2)).setCell ⟨w6.heap.size, 1, none⟩ (.int .i64 y3)) = w9 at *
    have hl9 := hl6.keeps k9 id id
    refine ⟨hl9.lrec, ?_⟩
    have l6 := lt_of_heap hl6.lrec
    have l9 := lt_of_heap hl9.lrec
    have kb : Keeps (fun q => q = w4.heap.size + 1) w9 (w9.putObj (w4.heap.size + 1) (rec .busy none)) := (Keeps.refl (S := fun q => q = w4.heap.size + 1)).put (.inl rfl) _
    have hb := heap_put_same (rec .busy none) l9
    have hd9 : (w9.putObj (w4.heap.size + 1) (rec .busy none)).heap[w4.heap.size]? = some (.deferred (some [])) := kb.heap hl9.dfr (by omega)
    have m3 := kb.heap m2 (by omega)
    have hc9 := kb.heap (k9.heap hc6 id) (by omega)
    have hr9 : (w9.putObj (w4.heap.size + 1) (rec .busy none)).heap[w.heap.size]? = some (.cells #[.int .i64 rev] 3 (0, 0)) := by
      refine kb.heap (k9.heap (hk6.heap (k5.heap (k4.heap n0' id) id) (by omega)) id) ?_
      have := k3.size; omega
    have k9b : Keeps (fun q => q = w.heap.size + 1 ∨ q = w4.heap.size + 1) w5 (w9.putObj (w4.heap.size + 1) (rec .busy none)) :=
      (hk6.trans k9 (fun q hq => hq.elim)).put (.inl (.inr rfl)) _
    generalize (w9.putObj (w4.heap.size + 1) (rec .busy none)) = wb at *
    refine ⟨y2, cell_of m3 rfl, y3, cell_of m3 rfl, rev, cell_of hr9 rfl, ?_⟩
    refine (has39 (y2, y3) rev wb).mono ?_
    rintro e w10 ⟨rfl, k10⟩
    refine ⟨_, rfl, iteP_of (fun h1 => ?_) (fun h1 => ?_)⟩
    · have hc10 := k10.heap hc9 id
      refine ⟨_, cell_of hc10 rfl, ?_⟩
      refine storeK_of hc10 (by simp) ?_
      have hc12 := heap_set_same hc10 0 (.int .i64 (IntKind.wrap .i64 (((cntP rev pre : Nat) : Int) + 1)))
      have k12 : Keeps (fun q => q = w.heap.size + 1) w10 (w10.setCell ⟨w.heap.size + 1, 0, none⟩ (.int .i64 (IntKind.wrap .i64 (((cntP rev pre : Nat) : Int) + 1)))) := (Keeps.refl (S := fun q => q = w.heap.size + 1)).set (.inl rfl) _ _
      have b12 := k12.heap (k10.heap hb id) (by omega)
      have d12 := k12.heap (k10.heap hd9 id) (by omega)
      refine ⟨b12, rfl, ⟨heap_put_same _ (lt_of_heap b12), ?_⟩, ?_, ?_⟩
      · rw [heap_put_other _ (by omega)]; exact d12
      · rw [heap_put_other _ (by omega), hc12]
        have hlt := cntP_pre (rev := rev) hsp
        rw [IntWalk.i64_in _ (by omega), cntP_snoc]
        have h1 : holds rev (y2, y3) = true := h1
        rw [if_pos h1]; rfl
      · exact ((k9b.trans k10 (fun q hq => hq.elim)).trans k12 (fun q hq => .inl (.inl hq))).put (.inl (.inr rfl)) _
    · have b10 := k10.heap hb id
      refine ⟨b10, rfl, ⟨heap_put_same _ (lt_of_heap b10), ?_⟩, ?_, ?_⟩
      · rw [heap_put_other _ (by omega)]; exact k10.heap hd9 id
      · rw [heap_put_other _ (by omega), k10.heap hc9 id, cntP_snoc]
        have h1 : holds rev (y2, y3) = false := h1
        rw [if_neg (by simp [h1])]; rfl
      · exact (k9b.trans k10 (fun q hq => hq.elim)).put (.inl (.inr rfl)) _
  · rintro e w6 ⟨rfl, hl6, hc6, hk6⟩
    refine .inl ⟨hl6.lrec, _, ?_, ?_, rfl, ?_⟩
    · refine cell_of (cs := #[.int .i64 ((cntP rev (pairs M) : Nat) : Int)]) (t := 3) ?_ rfl
      rw [heap_put_other _ (by omega)]; exact hc6
    · rw [heap_put_other _ (by omega)]; exact hl6.dfr
    · have h05 := k05.size
      have h3 := k3.size
      exact (((k05.trans hk6 (fun q hq => .inr (by omega)))).put (.inr (by omega)) _).put (.inr (by omega)) _
end Go.Proofs
