/- Spans: == over events; the law's arguments; few. Seat s14. -/
import Derived.Test.YtgmfilpbabkjeaaSpV
import Derived.Laws.StructEq
set_option linter.unusedVariables false
set_option linter.unusedSimpArgs false
set_option maxRecDepth 100000
namespace Go.Proofs
open Go.L Go.RowKit

/-! ### == over structs of cells -/
theorem part_run {P : Program} {t : TypeId} {cs : Array Value} {off : Nat} {v : Value} (h : okType P t = true) (ha : isAggB P t = false) (hv : cs[off]? = some v) (w : World) : (Go.part t cs off).run P w = .ok v w := by
  unfold Go.part
  rw [run_bind_ok (run_isAgg h), ha]
  simp [hv]
theorem eqFields_cons {P : Program} {d : Nat} {f : Field} {fs : List Field} {xs ys : Array Value} {a b : Value} {r : Bool} {w : World} (hn : f.name ≠ "_") (h : okType P f.type = true) (hg : isAggB P f.type = false)
    (ha : xs[f.offset]? = some a) (hb : ys[f.offset]? = some b) (hr : (Op.equalIn d f.type a b).run P w = .ok r w) :
    (Op.eqFields d xs ys (f :: fs)).run P w = if r then (Op.eqFields d xs ys fs).run P w else .ok false w := by
  conv => lhs; unfold Op.eqFields
  rw [if_pos hn, run_bind_ok (part_run h hg ha w), run_bind_ok (part_run h hg hb w), run_bind_ok hr]
  cases r <;> rfl
theorem eqFields_nil {P : Program} {d : Nat} {xs ys : Array Value} {w : World} : (Op.eqFields d xs ys []).run P w = .ok true w := rfl
theorem eqStruct {P : Program} {op : BinOp} (hop : op = .eql ∨ op = .neq) {t : TypeId} {fs : List Field} {x y : Operand} {xs ys : Array Value} {r : Bool} {w : World} (ht : P.underlying t = some (.struct (P.fieldsOf t))) (hp : P.stoodInHeld t = false) (hm : P.eqGuardType P.depth t = false)
    (hf : (P.fieldsOf t).toList = fs) (hr : (Op.eqFields 9999 xs ys fs).run P w = .ok r w) :
    (do eqGuard op t x y (.agg xs) (.agg ys); binOp op t (.agg xs) (.agg ys) : Sem Value).run P w = .ok (.bool (if op = .neq then !r else r)) w := by
  rw [run_bind_ok (run_eqGuard_agg w op t x y xs ys hm)]
  have h := run_equalIn_agg w 9999 t xs ys ht hp
  rw [hf, hr] at h
  rcases hop with rfl | rfl
  · rw [run_eql_struct, h]; rfl
  · rw [run_neq_struct, h]; rfl
theorem fields49 : (Try.prog.fieldsOf 49).toList.map (fun f => (f.name != "_", f.type, f.offset)) = [(true, 3, 0), (true, 9, 1), (true, 4, 2)] := by kernel_rfl
theorem und3 : Try.prog.underlying 3 = some (.int .i64) := by kernel_rfl
theorem und4 : Try.prog.underlying 4 = some .bool := by kernel_rfl
theorem three {α : Type} {l : List α} {β : Type} {f : α → β} {x y z : β} (h : l.map f = [x, y, z]) : ∃ a b c, l = [a, b, c] ∧ f a = x ∧ f b = y ∧ f c = z := by
  match l, h with
  | [a, b, c], h => simp at h; exact ⟨a, b, c, rfl, h.1, h.2.1, h.2.2⟩
theorem ne_of_bne {s : String} (h : (s != "_") = true) : s ≠ "_" := by simpa using h
theorem eqE {op : BinOp} (hop : op = .eql ∨ op = .neq) (x y : Operand) (a b : Ev) (w : World) :
    (do eqGuard op 49 x y (.agg (encE a).toArray) (.agg (encE b).toArray); binOp op 49 (.agg (encE a).toArray) (.agg (encE b).toArray) : Sem Value).run Try.prog w = .ok (.bool (if op = .neq then !decide (a = b) else decide (a = b))) w := by
  obtain ⟨f1, f2, f3, hl, h1, h2, h3⟩ := three fields49
  simp only [Prod.mk.injEq] at h1 h2 h3
  obtain ⟨n1, t1, o1⟩ := h1
  obtain ⟨n2, t2, o2⟩ := h2
  obtain ⟨n3, t3, o3⟩ := h3
  refine eqStruct hop (by kernel_rfl) (by kernel_rfl) (by kernel_rfl) hl ?_
  have r3 : (Op.eqFields 9999 (encE a).toArray (encE b).toArray [f3]).run Try.prog w = .ok (a.add == b.add) w := by
    rw [eqFields_cons (a := .bool a.add) (b := .bool b.add) (r := a.add == b.add) (ne_of_bne n3) (by rw [t3]; kernel_rfl) (by rw [t3]; kernel_rfl) (by rw [o3]; rfl) (by rw [o3]; rfl) (by rw [t3]; exact run_equalIn_bool' w 9998 4 _ _ und4), eqFields_nil]
    cases (a.add == b.add) <;> rfl
  have r2 : (Op.eqFields 9999 (encE a).toArray (encE b).toArray [f2, f3]).run Try.prog w = .ok (a.key.toList == b.key.toList && a.add == b.add) w := by
    rw [eqFields_cons (a := .string a.key) (b := .string b.key) (r := a.key.toList == b.key.toList) (ne_of_bne n2) (by rw [t2]; kernel_rfl) (by rw [t2]; kernel_rfl) (by rw [o2]; rfl) (by rw [o2]; rfl) (by rw [t2]; exact run_equalIn_string w 9998 9 _ _ und9), r3]
    cases (a.key.toList == b.key.toList) <;> rfl
  rw [eqFields_cons (a := .int .i64 a.rev) (b := .int .i64 b.rev) (r := a.rev == b.rev) (ne_of_bne n1) (by rw [t1]; kernel_rfl) (by rw [t1]; kernel_rfl) (by rw [o1]; rfl) (by rw [o1]; rfl) (by rw [t1]; exact run_equalIn_int w 9998 3 .i64 .i64 _ _ und3), r2]
  have e : decide (a = b) = (a.rev == b.rev && (a.key.toList == b.key.toList && a.add == b.add)) := by
    rw [toList_beq]
    cases a; cases b
    rw [Bool.eq_iff_iff]
    simp
  rw [e]
  cases (a.rev == b.rev) <;> rfl

/-! ### the arguments -/
structure Act where
  kind : Int
  key : ByteArray
  rev : Int
/-- The acts l lie at a. -/
def ActsAt (w : World) (a : Option Addr) (l : List Act) : Prop := ∀ i (h : i < l.length), ∃ p : Addr, a = some p ∧ p.block < w.heap.size ∧ w.cell? (p.add (i * 3)) = some (.int .u8 l[i].kind) ∧
  w.cell? ((p.add (i * 3)).add 1) = some (.string l[i].key) ∧ w.cell? ((p.add (i * 3)).add 2) = some (.int .i64 l[i].rev)
theorem blockAdd (a : Addr) (n : Nat) : (a.add n).block = a.block := by unfold Addr.add; split <;> rfl
theorem ActsAt.keeps {S : Nat → Prop} {w w' : World} {a : Option Addr} {l : List Act} (h : ActsAt w a l) (hk : Keeps S w w') (hS : ∀ q, S q → w.heap.size ≤ q) : ActsAt w' a l := by
  intro i hi
  obtain ⟨p, h1, h2, h3, h4, h5⟩ := h i hi
  have hn : ¬ S p.block := fun e => by have := hS _ e; omega
  exact ⟨p, h1, Nat.lt_of_lt_of_le h2 hk.size, hk.cell h3 (by rw [blockAdd]; exact hn), hk.cell h4 (by rw [blockAdd, blockAdd]; exact hn), hk.cell h5 (by rw [blockAdd, blockAdd]; exact hn)⟩
theorem ActsAt.below {w w' : World} {a : Option Addr} {l : List Act} (h : ActsAt w a l) (hk : Below w.heap.size w w') : ActsAt w' a l :=
  h.keeps (S := fun q => w.heap.size ≤ q) ⟨hk.os, hk.tape, hk.output, hk.size, fun k h1 h2 => hk.block k h1⟩ (fun q h => h)
def fewA (x : Act) : Bool := decide (x.key.size ≤ 40) && decide (x.rev ≤ 1000000)
def few (l : List Act) : Bool := l.all fewA && decide (l.length ≤ 60)
theorem few9 {w : World} {a : Option Addr} {l : List Act} {c : Nat} (h : ActsAt w a l) (hl : l.length ≤ maxLen) : Calls Try.prog 9 #[.slice a l.length c] w fun e w' => e = .returned (.bool (few l)) ∧ w' = w := by
  simp only [maxLen] at hl
  refine F9.calls_of _ _ _ ?_
  unfold F9.sh
  refine ⟨fun i k w1 => w1 = w ∧ ∃ x : Nat, i = x ∧ x ≤ l.length ∧ k = l.length - x ∧ (l.take x).all fewA = true, ⟨_, rfl, 0, rfl, by omega, rfl, by simp⟩, ?_⟩
  rintro i k w1 ⟨rfl, x, rfl, hx, rfl, ht⟩ z
  refine iteP_of (fun h0 => ?_) (fun h0 => ?_)
  · have h0 : x < l.length := by simpa using h0
    obtain ⟨p, h1, h2, h3, h4, h5⟩ := h x h0
    have hno : fewA l[x] = false → few l = false := by
      intro e
      unfold few
      have : l.all fewA = false := by rw [List.all_eq_false]; exact ⟨_, List.getElem_mem h0, by simp [e]⟩
      rw [this]; rfl
    refine ⟨⟨by omega, by omega⟩, onSome_of h1 ⟨l[x].key, by rw [Int.toNat_natCast]; exact h4, iteP_of (fun h6 => ?_) (fun h6 => ?_)⟩⟩
    · refine ⟨?_, rfl⟩
      rw [hno]; unfold fewA; simp only [decide_eq_true_iff] at h6
      have : decide (l[x].key.size ≤ 40) = false := by simp; omega
      rw [this]; rfl
    refine ⟨⟨by omega, by omega⟩, onSome_of h1 ⟨l[x].rev, by rw [Int.toNat_natCast]; exact h5, iteP_of (fun h7 => ?_) (fun h7 => ?_)⟩⟩
    · refine ⟨?_, rfl⟩
      rw [hno]; unfold fewA; simp only [decide_eq_true_iff] at h7
      have : decide (l[x].rev ≤ 1000000) = false := by simp; omega
      rw [this, Bool.and_false]
    · rw [IntWalk.i64_in _ (by omega)]
      refine ⟨l.length - (x + 1), by omega, rfl, x + 1, by omega, by omega, rfl, ?_⟩
      rw [List.take_succ_eq_append_getElem h0, List.all_append, ht]
      have : fewA l[x] = true := by
        unfold fewA
        simp only [decide_eq_false_iff_not] at h6 h7
        have e1 : decide (l[x].key.size ≤ 40) = true := by simp; omega
        have e2 : decide (l[x].rev ≤ 1000000) = true := by simp; omega
        rw [e1, e2]; rfl
      simp [this]
  · have h0 : x = l.length := by have : ¬ x < l.length := by simpa using h0
                                 omega
    subst h0
    rw [List.take_length] at ht
    refine ⟨?_, rfl⟩
    unfold few
    rw [ht, Bool.true_and]
    congr 2
    simp; omega
theorem few_size {l : List Act} (h : few l = true) : l.length ≤ 60 ∧ ∀ x ∈ l, x.key.size ≤ 40 ∧ x.rev ≤ 1000000 := by
  unfold few at h
  simp only [Bool.and_eq_true, decide_eq_true_iff, List.all_eq_true] at h
  refine ⟨h.2, fun x hx => ?_⟩
  have := h.1 x hx
  unfold fewA at this
  simpa using this
end Go.Proofs
