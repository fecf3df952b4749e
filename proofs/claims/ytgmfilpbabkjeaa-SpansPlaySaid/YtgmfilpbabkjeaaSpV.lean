/- Spans: Events' contract. Seat s14. -/
import Derived.Test.YtgmfilpbabkjeaaSpU
set_option linter.unusedVariables false
set_option linter.unusedSimpArgs false
set_option maxRecDepth 100000
namespace Go.Proofs
open Go.L Go.RowKit

theorem row_base {w : World} {B B' : Nat} {e : TypeId} {sz n : Nat} {v : Value} {xs : List Value} (h : w.ownsRow B e sz v n xs) (hB : B' ≤ B) : w.ownsRow B' e sz v n xs := by
  obtain ⟨h1, h2⟩ := h
  refine ⟨h1, h2.imp id ?_⟩
  rintro ⟨g, cap, cur, h3, h4, h5⟩
  exact ⟨g, cap, cur, h3, Nat.le_trans hB h4, h5⟩
theorem Events_nil {B : Nat} (fr to : Int) (w : World) (hB : B ≤ w.heap.size) : Calls Try.prog 23 #[.pointer none, .int .i64 fr, .int .i64 to] w fun e w' => e = .returned (.slice none 0 0) ∧ Keeps no w w' := by
  refine F23.calls_of _ _ _ ?_
  unfold F23.sh
  refine allocK_of (allocK_of (allocK_of ?_))
  have k3 : Keeps no w (((w.alloc (.cells #[.int .i64 fr] 3)).alloc (.cells #[.int .i64 to] 3)).alloc (.cells #[.slice none 0 0] 44)) := ((Keeps.refl.alloc _).alloc _).alloc _
  have n2 := heap_new ((w.alloc (.cells #[.int .i64 fr] 3)).alloc (.cells #[.int .i64 to] 3)) (.cells #[.slice none 0 0] 44)
  have hs2 : ((w.alloc (.cells #[.int .i64 fr] 3)).alloc (.cells #[.int .i64 to] 3)).heap.size = w.heap.size + 2 := by simp
  rw [hs2] at n2 ⊢
  generalize (((w.alloc (.cells #[.int .i64 fr] 3)).alloc (.cells #[.int .i64 to] 3)).alloc (.cells #[.slice none 0 0] 44)) = w3 at *
  refine (Each40 _ _).mono ?_
  rintro e w4 ⟨rfl, rfl⟩
  refine ⟨52, #[], _, rfl, by kernel_rfl, fun rec hy => ?_⟩
  have n4 := heap_new w3 (.cells #[.pointer none] 26)
  have k4 : Keeps no w3 (w3.alloc (.cells #[.pointer none] 26)) := Keeps.refl.alloc _
  generalize w3.alloc (.cells #[.pointer none] 26) = w4 at *
  have k5 : Keeps no w4 ((w4.alloc (.deferred (some []))).alloc (rec .ready none)) := (Keeps.refl.alloc _).alloc _
  have hl := Loop0.made rec w4
  generalize ((w4.alloc (.deferred (some []))).alloc (rec .ready none)) = w5 at *
  refine (Each52_nil (y := w4.heap.size + 1) (cell_of (k5.heap n4 id) rfl)).mono ?_
  rintro e w6 ⟨rfl, rfl⟩
  have hlt := lt_of_heap hl.lrec
  have h3 := lt_of_heap n2
  have h34 := k4.size
  have hw := k3.size
  have ho : (w6.putObj (w4.heap.size + 1) (rec .exhausted none)).heap[w.heap.size + 2]? = some (.cells #[.slice none 0 0] 44 (0, 0)) := by
    rw [heap_put_other _ (by omega)]; exact k5.heap (k4.heap n2 id) id
  have hd : (w6.putObj (w4.heap.size + 1) (rec .exhausted none)).heap[w4.heap.size]? = some (.deferred (some [])) := by
    rw [heap_put_other _ (by omega)]; exact hl.dfr
  have k6 : Keeps no w (w6.putObj (w4.heap.size + 1) (rec .exhausted none)) := ((k3.transN k4).transN k5).put (.inr (by omega)) _
  refine .inl ⟨hl.lrec, none, 0, 0, cell_of ho rfl, ?_⟩
  refine (Sort41 (l := []) (World.ownsRow_nil _ 0 _ _) (by simp)).mono ?_
  rintro e w7 ⟨rfl, hr7, k7⟩
  refine ⟨rfl, none, 0, 0, cell_of (k7.heap ho (by simp [Value.ownBlock])) rfl, k7.heap hd (by simp [Value.ownBlock]), rfl, ?_⟩
  exact (k6.trans k7 (fun q hq => by simp [Value.ownBlock] at hq)).put (.inr (by omega)) _
set_option maxHeartbeats 1000000 in
theorem Events_spec {B bs N : Nat} {w : World} {M : Sp} {S : Nat → Prop} (h : Rep B w bs N M S) (hN : N < maxLen) (hM : (pairs M).length < 1000000000) (fr to : Int) :
    Calls Try.prog 23 #[.pointer (some ⟨bs, 0, none⟩), .int .i64 fr, .int .i64 to] w fun e w' => ∃ v, e = .returned v ∧ w'.ownsRow w.heap.size 49 3 v (M.events fr to).length ((M.events fr to).flatMap encE) ∧ Keeps no w w' := by
  refine F23.calls_of _ _ _ ?_
  unfold F23.sh
  refine allocK_of (allocK_of (allocK_of ?_))
  have k3 : Keeps no w (((w.alloc (.cells #[.int .i64 fr] 3)).alloc (.cells #[.int .i64 to] 3)).alloc (.cells #[.slice none 0 0] 44)) := ((Keeps.refl.alloc _).alloc _).alloc _
  have n0 : (((w.alloc (.cells #[.int .i64 fr] 3)).alloc (.cells #[.int .i64 to] 3)).alloc (.cells #[.slice none 0 0] 44)).heap[w.heap.size]? = some (.cells #[.int .i64 fr] 3 (0, 0)) := by
    rw [heap_old _ (by simp; omega), heap_old _ (by simp)]; exact heap_new _ _
  have n1 : (((w.alloc (.cells #[.int .i64 fr] 3)).alloc (.cells #[.int .i64 to] 3)).alloc (.cells #[.slice none 0 0] 44)).heap[w.heap.size + 1]? = some (.cells #[.int .i64 to] 3 (0, 0)) := by
    rw [heap_old _ (by simp)]
    have := heap_new (w.alloc (.cells #[.int .i64 fr] 3)) (.cells #[.int .i64 to] 3)
    simpa using this
  have n2 := heap_new ((w.alloc (.cells #[.int .i64 fr] 3)).alloc (.cells #[.int .i64 to] 3)) (.cells #[.slice none 0 0] 44)
  have hs1 : (w.alloc (.cells #[.int .i64 fr] 3)).heap.size = w.heap.size + 1 := by simp
  have hs2 : ((w.alloc (.cells #[.int .i64 fr] 3)).alloc (.cells #[.int .i64 to] 3)).heap.size = w.heap.size + 2 := by simp
  have hs3 : (((w.alloc (.cells #[.int .i64 fr] 3)).alloc (.cells #[.int .i64 to] 3)).alloc (.cells #[.slice none 0 0] 44)).heap.size = w.heap.size + 3 := by simp
  rw [hs1, hs2]
  rw [hs2] at n2
  generalize (((w.alloc (.cells #[.int .i64 fr] 3)).alloc (.cells #[.int .i64 to] 3)).alloc (.cells #[.slice none 0 0] 44)) = w3 at *
  refine (Each40 _ _).mono ?_
  rintro e w4 ⟨rfl, rfl⟩
  refine ⟨52, #[], _, rfl, by kernel_rfl, fun rec hy => ?_⟩
  have n4 := heap_new w3 (.cells #[.pointer (some ⟨bs, 0, none⟩)] 26)
  have k4 : Keeps no w3 (w3.alloc (.cells #[.pointer (some ⟨bs, 0, none⟩)] 26)) := Keeps.refl.alloc _
  have hs4 : (w3.alloc (.cells #[.pointer (some ⟨bs, 0, none⟩)] 26)).heap.size = w.heap.size + 4 := by simp [hs3]
  generalize w3.alloc (.cells #[.pointer (some ⟨bs, 0, none⟩)] 26) = w4 at *
  have k5 : Keeps no w4 ((w4.alloc (.deferred (some []))).alloc (rec .ready none)) := (Keeps.refl.alloc _).alloc _
  have hs5 : ((w4.alloc (.deferred (some []))).alloc (rec .ready none)).heap.size = w.heap.size + 6 := by simp [hs4]
  have hl := Loop0.made rec w4
  generalize ((w4.alloc (.deferred (some []))).alloc (rec .ready none)) = w5 at *
  have k05 : Keeps no w w5 := (k3.transN k4).transN k5
  have h5 := h.keeps k05 (fun q _ h => h)
  have hge : ∀ q, S q → q < w.heap.size := fun q hq => (h.ge hq).2
  have f5 := k5.heap (k4.heap n0 id) id
  have t5 := k5.heap (k4.heap n1 id) id
  have o5 := k5.heap (k4.heap n2 id) id
  refine (Each52 (T := fun q => q = w.heap.size + 2 ∨ q = w4.heap.size + 1) h5 hN (y := w4.heap.size + 1) (cell_of (k5.heap n4 id) rfl) (fun q hq => ?_) (by omega)
    (J := fun pre w' => EvS rec .ready w4.heap.size (w.heap.size + 2) w5 (pre.flatMap (evOf fr to)) w')
    (fun pre w1 w2 hj hk => hj.keeps hk) (fun pre w1 hj => hj.keep) ⟨hl.lrec, hl.dfr, ⟨_, o5, World.ownsRow_nil _ _ _ _⟩, Keeps.refl⟩ ?_).mono ?_
  · have := hge q hq; omega
  · rintro pre ⟨yk, y2, y3⟩ post w6 hsp hj
    have hlen : (pre.flatMap (evOf fr to)).length < 3999999990 := by
      have h1 := len_evOf fr to pre
      have h2 : pre.length ≤ (pairs M).length := by rw [hsp]; simp
      omega
    refine hy yk y2 y3 w6 _ hj.lrec ?_
    refine allocK_of ?_
    have m0 := heap_new w6 (.cells #[.int .i64 0, .int .i64 0] 68)
    refine storeK_of m0 (by simp) ?_
    have m1 := heap_set_same m0 0 (.int .i64 y2)
    refine storeK_of m1 (by simp) ?_
    have m2 := heap_set_same m1 1 (.int .i64 y3)
    have k9 : Keeps no w6 (((w6.alloc (.cells #[.int .i64 0, .int .i64 0] 68)).setCell ⟨w6.heap.size, 0, none⟩ (.int .i64 y2)).setCell ⟨w6.heap.size, 1, none⟩ (.int .i64 y3)) :=
      ((Keeps.refl.alloc _).set (.inr (Nat.le_refl _)) _ _).set (.inr (Nat.le_refl _)) _ _
    generalize (((w6.alloc (.cells #[.int .i64 0, .int .i64 0] 68)).setCell ⟨w6.heap.size, 0, none⟩ (.int .i64 y2)).setCell ⟨w6.heap.size, 1, none⟩ (.int .i64 y3)) = w9 at *
    have hj9 := hj.keeps k9
    refine ⟨hj9.lrec, ?_⟩
    have hod : w.heap.size + 2 < w4.heap.size := by omega
    have hdd : w4.heap.size + 1 < w5.heap.size := by omega
    have hjb := hj9.turn hod hdd .busy
    have hxb : w5.heap.size ≤ w6.heap.size := hj.keep.size
    have m3 : (w9.putObj (w4.heap.size + 1) (rec .busy none)).heap[w6.heap.size]? = some (.cells #[.int .i64 y2, .int .i64 y3] 68 (0, 0)) := by
      rw [heap_put_other _ (by omega)]; exact m2
    generalize (w9.putObj (w4.heap.size + 1) (rec .busy none)) = wb at *
    have fb := hjb.keep.heap f5 (by omega)
    have tb := hjb.keep.heap t5 (by omega)
    have fin : ∀ (lA : List Ev), evA fr to (yk, (y2, y3)) = lA → ∀ w', EvS rec .ready w4.heap.size (w.heap.size + 2) w5 (pre.flatMap (evOf fr to) ++ lA ++ evB fr to (yk, (y2, y3))) w' →
        EvS rec .ready w4.heap.size (w.heap.size + 2) w5 ((pre ++ [(yk, y2, y3)]).flatMap (evOf fr to)) w' := by
      intro lA e w' h
      have : (pre ++ [(yk, y2, y3)]).flatMap (evOf fr to) = pre.flatMap (evOf fr to) ++ lA ++ evB fr to (yk, (y2, y3)) := by
        rw [List.flatMap_append, List.flatMap_cons, List.flatMap_nil, List.append_nil]
        unfold evOf; rw [e, List.append_assoc]
      rw [this]; exact h
    refine ⟨y2, cell_of m3 rfl, fr, cell_of fb rfl, iteP_of (fun h1 => ⟨y2, cell_of m3 rfl, to, cell_of tb rfl, iteP_of (fun h2 => ?_) (fun h2 => ?_)⟩) (fun h1 => ?_)⟩
    · have e : evA fr to (yk, (y2, y3)) = [⟨y2, yk, true⟩] := by
        unfold evA; simp only [decide_eq_true_iff] at h1 h2; rw [if_pos ⟨h1, h2⟩]
      refine hjb.add hod hdd m3 rfl (by omega) hxb fun w12 hj12 m12 => ?_
      exact hj12.tail (y := yk) (K1 := fun v w2 => v = Value.bool true ∧ EvS rec .ready w4.heap.size (w.heap.size + 2) w5 ((pre ++ [(yk, y2, y3)]).flatMap (evOf fr to)) w2) hod hdd m12 (by rw [List.length_append, List.length_singleton]; omega) hxb f5 t5 (by omega) (by omega) fun w' hw' => ⟨rfl, fin _ e w' hw'⟩
    · have e : evA fr to (yk, (y2, y3)) = [] := by
        unfold evA; simp only [decide_eq_false_iff_not] at h2; rw [if_neg (fun e => h2 e.2)]
      exact hjb.tail (y := yk) (K1 := fun v w2 => v = Value.bool true ∧ EvS rec .ready w4.heap.size (w.heap.size + 2) w5 ((pre ++ [(yk, y2, y3)]).flatMap (evOf fr to)) w2) hod hdd m3 (by omega) hxb f5 t5 (by omega) (by omega) fun w' hw' => ⟨rfl, fin _ e w' (by rw [List.append_nil]; exact hw')⟩
    · have e : evA fr to (yk, (y2, y3)) = [] := by
        unfold evA; simp only [decide_eq_false_iff_not] at h1; rw [if_neg (fun e => h1 e.1)]
      exact hjb.tail (y := yk) (K1 := fun v w2 => v = Value.bool true ∧ EvS rec .ready w4.heap.size (w.heap.size + 2) w5 ((pre ++ [(yk, y2, y3)]).flatMap (evOf fr to)) w2) hod hdd m3 (by omega) hxb f5 t5 (by omega) (by omega) fun w' hw' => ⟨rfl, fin _ e w' (by rw [List.append_nil]; exact hw')⟩
  · rintro e w6 ⟨rfl, hj⟩
    have hj2 := hj.turn (by omega) (by omega) .exhausted
    obtain ⟨v, h1, h2⟩ := hj2.out
    obtain ⟨a, c, hv, _⟩ := row_shape h2
    refine .inl ⟨hj.lrec, a, _, c, by rw [← hv]; exact cell_of h1 rfl, ?_⟩
    rw [← hv]
    have hlen : ((pairs M).flatMap (evOf fr to)).length < 4611686018427387904 := by have := len_evOf fr to (pairs M); omega
    refine (Sort41 h2 hlen).mono ?_
    rintro e w7 ⟨rfl, h3, k7⟩
    have hvo : ∀ q, v.ownBlock = some q → w5.heap.size ≤ q := fun q hq => (h2.lt q hq).1
    have o7 := k7.heap h1 (fun e => by have := hvo _ e; omega)
    have d7 := k7.heap hj2.dfr (fun e => by have := hvo _ e; omega)
    refine ⟨rfl, a, _, c, by rw [← hv]; exact cell_of o7 rfl, d7, v, by rw [← hv], ?_, ?_⟩
    · have e : (M.events fr to).length = ((pairs M).flatMap (evOf fr to)).length := by unfold Sp.events; rw [len_sortE]
      rw [e]
      have kp : Keeps (fun q => q = w4.heap.size) w7 (w7.putObj w4.heap.size (.deferred none)) := (Keeps.refl (S := fun q => q = w4.heap.size)).put (.inl rfl) _
      exact row_base (row_keeps h3 kp (fun q hq e => by have := hvo _ hq; omega)) (by omega)
    · have hk : Keeps no w (w6.putObj (w4.heap.size + 1) (rec .exhausted none)) := k05.trans hj2.keep (fun q hq => .inr (by omega))
      exact (hk.trans k7 (fun q hq => .inr (by have := hvo q hq; omega))).put (.inr (by omega)) _
end Go.Proofs
