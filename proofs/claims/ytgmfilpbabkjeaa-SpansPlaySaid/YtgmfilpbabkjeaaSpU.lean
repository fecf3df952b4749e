/- Spans: what Events collects (a round of its loop). Seat s14. -/
import Derived.Test.YtgmfilpbabkjeaaSpT
import Derived.Test.YtgmfilpbabkjeaaSpR
set_option linter.unusedVariables false
set_option linter.unusedSimpArgs false
set_option maxRecDepth 100000
namespace Go.Proofs
open Go.L Go.RowKit

theorem und44 : Try.prog.underlying 44 = some (.slice 49) := by kernel_rfl
theorem inf49 : (Try.prog.info? 49).map (fun i => (i.zero, i.size, i.bytes)) = some (some (.agg #[.int .i64 0, .string ⟨#[]⟩, .bool false]), 3, 32) := by kernel_rfl
def max0 (x : Int) : Int := if 0 > x then 0 else x
def evA (fr to : Int) (x : KS) : List Ev := if x.2.1 > fr ∧ x.2.1 ≤ to then [⟨x.2.1, x.1, true⟩] else []
def evB (fr to : Int) (x : KS) : List Ev := if x.2.2 > max0 fr ∧ x.2.2 ≤ to then [⟨x.2.2, x.1, false⟩] else []
def evOf (fr to : Int) (x : KS) : List Ev := evA fr to x ++ evB fr to x
def Sp.events (M : Sp) (fr to : Int) : List Ev := sortE ((pairs M).flatMap (evOf fr to))
theorem len_evOf (fr to : Int) (l : List KS) : (l.flatMap (evOf fr to)).length ≤ 2 * l.length := by
  induction l with
  | nil => simp
  | cons x l ih =>
    rw [List.flatMap_cons, List.length_append]
    have h1 : (evA fr to x).length ≤ 1 := by unfold evA; split <;> simp
    have h2 : (evB fr to x).length ≤ 1 := by unfold evB; split <;> simp
    have : (evOf fr to x).length = (evA fr to x).length + (evB fr to x).length := by unfold evOf; simp
    simp only [List.length_cons]
    omega
theorem pairOf_inj {a b : Nat} (h : a ≠ b) : ¬ b = a := fun e => h e.symm
theorem ev_add {Bo o xb i : Nat} {W : World} {v : Value} {l : List Ev} {cs : Array Value} {r : Int} {y : ByteArray} {b : Bool} (ho : W.heap[o]? = some (.cells #[v] 44 (0, 0))) (hr : W.ownsRow Bo 49 3 v l.length (l.flatMap encE)) (hoB : o < Bo) (hBo : Bo ≤ W.heap.size)
    (hx : W.heap[xb]? = some (.cells cs 68 (0, 0))) (hxi : cs[i]? = some (.int .i64 r)) (hl : l.length < 4000000000) {K : World → Prop}
    (hk : ∀ w' v', w'.heap[o]? = some (.cells #[v'] 44 (0, 0)) → w'.ownsRow Bo 49 3 v' (l ++ [(⟨r, y, b⟩ : Ev)]).length ((l ++ [(⟨r, y, b⟩ : Ev)]).flatMap encE) → Keeps (fun q => q = o ∨ v.ownBlock = some q) W w' → K w') :
    ∃ x5a : Option Addr, ∃ x5l : Nat, ∃ x5c : Nat, W.cell? ⟨o, 0, none⟩ = some (.slice x5a x5l x5c) ∧
    ∃ x6 : Int, W.cell? ⟨xb, i, none⟩ = some (.int .i64 x6) ∧
    allocK W (.cells #[.int .i64 x6, .string y, .bool b] 49) fun w10 =>
    runK Try.prog (Builtin.append_ #[44, 44] 44 #[.slice x5a x5l x5c, .slice (some ⟨W.heap.size, 0, none⟩) 1 1]) w10 fun v2 w11 =>
    ∃ x7a : Option Addr, ∃ x7l : Nat, ∃ x7c : Nat, v2 = .slice x7a x7l x7c ∧
    storeK w11 ⟨o, 0, none⟩ (.slice x7a x7l x7c) K := by
  obtain ⟨a, c, hv, _⟩ := row_shape hr
  refine ⟨a, l.length, c, by rw [← hv]; exact cell_of ho rfl, r, cell_of hx hxi, allocK_of ?_⟩
  have n0 := heap_new W (.cells #[.int .i64 r, .string y, .bool b] 49)
  have k1 : Keeps no W (W.alloc (.cells #[.int .i64 r, .string y, .bool b] 49)) := Keeps.refl.alloc _
  have r1 := row_keeps hr k1 (fun _ _ => id)
  have o1 := k1.heap ho id
  obtain ⟨ti, hi, hz0, hz1, hz2⟩ := info_out inf49
  rw [← hv]
  generalize W.alloc (.cells #[.int .i64 r, .string y, .bool b] 49) = w1 at *
  have s1 := k1.size
  refine append_runK (base := Bo) (e := 49) (sz := 3) (z := .agg #[.int .i64 0, .string ⟨#[]⟩, .bool false]) (bytes := 32) und44 hi hz0 hz1 hz2 rfl (by decide) r1 (news := encE ⟨r, y, b⟩) (m := 1) rfl ?_ (one_encE _) (by simp only [maxLen]; omega) (by omega) (by omega) ?_
  · intro j u hu
    rw [addr_add, Nat.zero_add]
    refine cell_of n0 ?_
    simpa [encE] using hu
  intro v2 w2 hr2 hg2 hb2
  obtain ⟨a2, c2, hv2, _⟩ := row_shape hr2
  have k2 : Keeps (fun q => v.ownBlock = some q) w1 w2 := (Keeps.refl (S := fun q => v.ownBlock = some q)).grown hg2 (fun k e => .inl e)
  have hov : v.ownBlock ≠ some o := fun e => by have := (hr.lt o e).1; omega
  have o2 := k2.heap o1 hov
  refine ⟨a2, l.length + 1, c2, hv2, ?_⟩
  rw [← hv2]
  refine storeK_of o2 (by simp) ?_
  have k3 : Keeps (fun q => q = o) w2 (w2.setCell ⟨o, 0, none⟩ v2) := (Keeps.refl (S := fun q => q = o)).set (.inl rfl) _ _
  have hov2 : v2.ownBlock ≠ some o := fun e => by have := (hr2.lt o e).1; omega
  refine hk _ v2 (heap_set_same o2 0 v2) ?_ ?_
  · have := row_keeps hr2 k3 (fun q hq e => hov2 (e ▸ hq))
    rw [List.flatMap_append, List.length_append]
    simpa using this
  · exact (((k1.mono (S' := fun q => q = o ∨ v.ownBlock = some q) (fun q _ h => h.elim)).trans k2 (fun q hq => .inl (.inr hq)))).trans k3 (fun q hq => .inl (.inl hq))

/-- The blocks of the loop in Events, the record in some state. -/
structure EvS (rec : Rec) (st : LoopState) (d o : Nat) (w0 : World) (l : List Ev) (w : World) : Prop where
  lrec : w.heap[d + 1]? = some (rec st none)
  dfr : w.heap[d]? = some (.deferred (some []))
  out : ∃ v, w.heap[o]? = some (.cells #[v] 44 (0, 0)) ∧ w.ownsRow w0.heap.size 49 3 v l.length (l.flatMap encE)
  keep : Keeps (fun q => q = o ∨ q = d + 1) w0 w
theorem EvS.keeps {rec : Rec} {st : LoopState} {d o : Nat} {w0 w w' : World} {l : List Ev} (h : EvS rec st d o w0 l w) (hk : Keeps no w w') : EvS rec st d o w0 l w' := by
  obtain ⟨v, h1, h2⟩ := h.out
  exact ⟨hk.heap h.lrec id, hk.heap h.dfr id, ⟨v, hk.heap h1 id, row_keeps h2 hk fun _ _ => id⟩, h.keep.trans hk fun q hq => hq.elim⟩
theorem EvS.turn {rec : Rec} {st : LoopState} {d o : Nat} {w0 w : World} {l : List Ev} (h : EvS rec st d o w0 l w) (ho : o < d) (hd : d + 1 < w0.heap.size) (st' : LoopState) : EvS rec st' d o w0 l (w.putObj (d + 1) (rec st' none)) := by
  obtain ⟨v, h1, h2⟩ := h.out
  have hk : Keeps (fun q => q = d + 1) w (w.putObj (d + 1) (rec st' none)) := (Keeps.refl (S := fun q => q = d + 1)).put (.inl rfl) _
  refine ⟨heap_put_same _ (lt_of_heap h.lrec), hk.heap h.dfr (by omega), ⟨v, hk.heap h1 (by omega), row_keeps h2 hk fun q hq e => ?_⟩, h.keep.put (.inl (.inr rfl)) _⟩
  have := (h2.lt q hq).1; omega
theorem EvS.add {rec : Rec} {d o xb i : Nat} {w0 w : World} {l : List Ev} {cs : Array Value} {r : Int} {y : ByteArray} {b : Bool} (h : EvS rec .busy d o w0 l w) (ho : o < d) (hd : d + 1 < w0.heap.size)
    (hx : w.heap[xb]? = some (.cells cs 68 (0, 0))) (hxi : cs[i]? = some (.int .i64 r)) (hl : l.length < 4000000000) (hxb : w0.heap.size ≤ xb) {K : World → Prop}
    (hk : ∀ w', EvS rec .busy d o w0 (l ++ [(⟨r, y, b⟩ : Ev)]) w' → w'.heap[xb]? = some (.cells cs 68 (0, 0)) → K w') :
    ∃ x5a : Option Addr, ∃ x5l : Nat, ∃ x5c : Nat, w.cell? ⟨o, 0, none⟩ = some (.slice x5a x5l x5c) ∧
    ∃ x6 : Int, w.cell? ⟨xb, i, none⟩ = some (.int .i64 x6) ∧
    allocK w (.cells #[.int .i64 x6, .string y, .bool b] 49) fun w10 =>
    runK Try.prog (Builtin.append_ #[44, 44] 44 #[.slice x5a x5l x5c, .slice (some ⟨w.heap.size, 0, none⟩) 1 1]) w10 fun v2 w11 =>
    ∃ x7a : Option Addr, ∃ x7l : Nat, ∃ x7c : Nat, v2 = .slice x7a x7l x7c ∧
    storeK w11 ⟨o, 0, none⟩ (.slice x7a x7l x7c) K := by
  obtain ⟨v, h1, h2⟩ := h.out
  refine ev_add h1 h2 (by omega) h.keep.size hx hxi hl fun w' v' h3 h4 k => hk w' ?_ ?_
  · have hv : ∀ q, v.ownBlock = some q → w0.heap.size ≤ q := fun q hq => (h2.lt q hq).1
    refine ⟨k.heap h.lrec ?_, k.heap h.dfr ?_, ⟨v', h3, h4⟩, h.keep.trans k ?_⟩
    · rintro (e | e)
      · omega
      · have := hv _ e; omega
    · rintro (e | e)
      · omega
      · have := hv _ e; omega
    · rintro q (e | e)
      · exact .inl (.inl e)
      · exact .inr (hv q e)
  · refine k.heap hx ?_
    rintro (e | e)
    · omega
    · obtain ⟨cap, cur, _, _, hh, _⟩ := row_heap h2 e
      rw [hx] at hh; cases hh
/-- The second half of a round. -/
theorem EvS.tail {rec : Rec} {d o xb : Nat} {w0 w : World} {l : List Ev} {f t fr to : Int} {y : ByteArray} {fb tb : Nat} {K1 : Value → World → Prop} (h : EvS rec .busy d o w0 l w) (ho : o < d) (hd : d + 1 < w0.heap.size)
    (hx : w.heap[xb]? = some (.cells #[.int .i64 f, .int .i64 t] 68 (0, 0))) (hl : l.length < 3999999999) (hxb : w0.heap.size ≤ xb)
    (hf : w0.heap[fb]? = some (.cells #[.int .i64 fr] 3 (0, 0))) (ht : w0.heap[tb]? = some (.cells #[.int .i64 to] 3 (0, 0))) (hfo : fb < o) (hto : tb < o)
    (hK : ∀ w', EvS rec .ready d o w0 (l ++ evB fr to (y, (f, t))) w' → K1 (.bool true) w') :
    ∃ x8 : Int, w.cell? ⟨xb, 1, none⟩ = some (.int .i64 x8) ∧
    ∃ x9 : Int, w.cell? ⟨fb, 0, none⟩ = some (.int .i64 x9) ∧
    iteP ((decide (x8 > (if 0 > x9 then 0 else x9)))) (
      ∃ x10 : Int, w.cell? ⟨xb, 1, none⟩ = some (.int .i64 x10) ∧
      ∃ x11 : Int, w.cell? ⟨tb, 0, none⟩ = some (.int .i64 x11) ∧
      iteP ((decide (x10 ≤ x11))) (
        ∃ x12a : Option Addr, ∃ x12l : Nat, ∃ x12c : Nat, w.cell? ⟨o, 0, none⟩ = some (.slice x12a x12l x12c) ∧
        ∃ x13 : Int, w.cell? ⟨xb, 1, none⟩ = some (.int .i64 x13) ∧
        allocK w (.cells #[.int .i64 x13, .string y, .bool false] 49) fun w13 =>
        runK Try.prog (Builtin.append_ #[44, 44] 44 #[.slice x12a x12l x12c, .slice (some ⟨w.heap.size, 0, none⟩) 1 1]) w13 fun v3 w14 =>
        ∃ x14a : Option Addr, ∃ x14l : Nat, ∃ x14c : Nat, v3 = .slice x14a x14l x14c ∧
        storeK w14 ⟨o, 0, none⟩ (.slice x14a x14l x14c) fun w15 =>
        w15.heap[d + 1]? = some (rec .busy none) ∧ K1 (.bool true) (w15.putObj (d + 1) (rec .ready none))) (
        w.heap[d + 1]? = some (rec .busy none) ∧ K1 (.bool true) (w.putObj (d + 1) (rec .ready none)))) (
      w.heap[d + 1]? = some (rec .busy none) ∧ K1 (.bool true) (w.putObj (d + 1) (rec .ready none))) := by
  have hf' := h.keep.heap hf (by omega)
  have ht' := h.keep.heap ht (by omega)
  refine ⟨t, cell_of hx rfl, fr, cell_of hf' rfl, iteP_of (fun h1 => ⟨t, cell_of hx rfl, to, cell_of ht' rfl, iteP_of (fun h2 => ?_) (fun h2 => ?_)⟩) (fun h1 => ?_)⟩
  · refine h.add ho hd hx rfl (by omega) hxb fun w' h3 h4 => ⟨h3.lrec, hK _ ?_⟩
    have e : evB fr to (y, (f, t)) = [⟨t, y, false⟩] := by
      unfold evB max0; simp only [decide_eq_true_iff] at h1 h2; rw [if_pos ⟨h1, h2⟩]
    rw [e]; exact h3.turn ho hd _
  · refine ⟨h.lrec, hK _ ?_⟩
    have e : evB fr to (y, (f, t)) = [] := by
      unfold evB max0; simp only [decide_eq_false_iff_not] at h2; rw [if_neg (fun e => h2 e.2)]
    rw [e, List.append_nil]; exact h.turn ho hd _
  · refine ⟨h.lrec, hK _ ?_⟩
    have e : evB fr to (y, (f, t)) = [] := by
      unfold evB max0; simp only [decide_eq_false_iff_not] at h1; rw [if_neg (fun e => h1 e.1)]
    rw [e, List.append_nil]; exact h.turn ho hd _
end Go.Proofs
