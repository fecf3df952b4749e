/- Spans: contracts over a world in which spans live; awake. Seat s14. -/
import Derived.Test.YtgmfilpbabkjeaaSpW
set_option linter.unusedVariables false
set_option linter.unusedSimpArgs false
set_option maxRecDepth 100000
namespace Go.Proofs
open Go.L Go.RowKit

theorem sum_le {α : Type} (f : α → Nat) (n : Nat) : ∀ l : List α, (∀ x ∈ l, f x ≤ n) → (l.map f).sum ≤ l.length * n := by
  intro l
  induction l with
  | nil => simp
  | cons x l ih =>
    intro h
    have h1 := h x (by simp)
    have h2 := ih fun y hy => h y (List.mem_cons_of_mem _ hy)
    rw [List.map_cons, List.sum_cons, List.length_cons, Nat.add_mul]
    omega
theorem Rep.pairs_le {B bs N : Nat} {w : World} {M : Sp} {S : Nat → Prop} (h : Rep B w bs N M S) : (pairs M).length ≤ N * N := by
  obtain ⟨bm, kv, g, h, rfl⟩ := h
  unfold pairs
  rw [List.length_flatMap]
  refine Nat.le_trans (sum_le _ N M.keys fun k _ => ?_) (Nat.mul_le_mul_right _ h.lenK)
  simp [pairsOf]; exact h.lenA k
/-- Spans that live in a world; what lay below B in the first world lies as it lay. -/
structure Live (B : Nat) (W w : World) (bs N : Nat) (M : Sp) (S : Nat → Prop) : Prop where
  rep : Rep B w bs N M S
  bel : Below B W w
  ge : B ≤ w.heap.size
  few : N ≤ 1000
section
variable {B bs N : Nat} {W w w' : World} {M : Sp} {S T : Nat → Prop}
theorem Live.keeps (h : Live B W w bs N M S) (hk : Keeps T w w') (hT : ∀ q, S q → ¬ T q) (hB : ∀ q, T q → B ≤ q) : Live B W w' bs N M S :=
  ⟨h.rep.keeps hk hT, h.bel.trans (hk.below hB h.ge), Nat.le_trans h.ge hk.size, h.few⟩
theorem Live.quiet (h : Live B W w bs N M S) (hk : Keeps no w w') : Live B W w' bs N M S := h.keeps hk (fun _ _ => id) (fun _ h => h.elim)
theorem Live.sge (h : Live B W w bs N M S) : ∀ q, S q → B ≤ q := fun q hq => (h.rep.ge hq).1
theorem Live.slt (h : Live B W w bs N M S) : ∀ q, S q → q < w.heap.size := fun q hq => (h.rep.ge hq).2
theorem Live.pairs (h : Live B W w bs N M S) : (pairs M).length ≤ 1000000 := Nat.le_trans h.rep.pairs_le (Nat.mul_le_mul h.few h.few)
theorem Live.maxN (h : Live B W w bs N M S) : N < maxLen := by have := h.few; simp only [maxLen]; omega
theorem Live.new (hB : Below B W w) (hs : B ≤ w.heap.size) : Calls Try.prog 10 #[] w fun e w' => ∃ bs S, e = .returned (.pointer (some ⟨bs, 0, none⟩)) ∧ Live B W w' bs 0 .empty S ∧ Keeps no w w' ∧ ∀ q, S q → w.heap.size ≤ q := by
  refine (New_spec w hs).mono ?_
  rintro e w' ⟨bs, S, rfl, h1, h2, h3⟩
  exact ⟨bs, S, rfl, ⟨h1, hB.trans (h2.below (fun _ h => h.elim) hs), Nat.le_trans hs h2.size, by omega⟩, h2, h3⟩
theorem Live.put (h : Live B W w bs N M S) (hN : N < 1000) (key : ByteArray) (hs : key.size ≤ maxLen) (rev : Int) :
    Calls Try.prog 11 #[.pointer (some ⟨bs, 0, none⟩), .string key, .int .i64 rev] w fun e w' => e = .returned (.bool (M.put key rev).2) ∧ ∃ S', Live B W w' bs (N + 1) (M.put key rev).1 S' ∧ Keeps S w w' ∧ ∀ q, S' q → S q ∨ w.heap.size ≤ q := by
  refine (Put_spec h.rep h.ge (by omega) key hs rev).mono ?_
  rintro e w' ⟨rfl, S', h1, h2, h3⟩
  exact ⟨rfl, S', ⟨h1, h.bel.trans (h2.below h.sge h.ge), Nat.le_trans h.ge h2.size, by omega⟩, h2, h3⟩
theorem Live.drop (h : Live B W w bs N M S) (key : ByteArray) (hs : key.size ≤ maxLen) (rev : Int) :
    Calls Try.prog 13 #[.pointer (some ⟨bs, 0, none⟩), .string key, .int .i64 rev] w fun e w' => e = .returned (.bool (M.drop key rev).2) ∧ Live B W w' bs N (M.drop key rev).1 S ∧ Keeps S w w' := by
  refine (Drop_spec h.rep h.maxN key hs rev).mono ?_
  rintro e w' ⟨rfl, h1, h2⟩
  exact ⟨rfl, ⟨h1, h.bel.trans (h2.below h.sge h.ge), Nat.le_trans h.ge h2.size, h.few⟩, h2⟩
theorem Live.trim (h : Live B W w bs N M S) (rev : Int) :
    Calls Try.prog 15 #[.pointer (some ⟨bs, 0, none⟩), .int .i64 rev] w fun e w' => e = .returned (.int .i64 ((M.trimN rev : Nat) : Int)) ∧ ∃ S', Live B W w' bs N (M.trim rev) S' ∧ Keeps S w w' ∧ ∀ q, S' q → S q := by
  refine (Trim_spec h.rep h.ge (by have := h.few; omega) rev).mono ?_
  rintro e w' ⟨rfl, S', h1, h2, h3⟩
  exact ⟨rfl, S', ⟨h1, h.bel.trans (h2.below h.sge h.ge), Nat.le_trans h.ge h2.size, h.few⟩, h2, h3⟩
theorem Live.has (h : Live B W w bs N M S) (key : ByteArray) (hs : key.size ≤ maxLen) (rev : Int) :
    Calls Try.prog 19 #[.pointer (some ⟨bs, 0, none⟩), .string key, .int .i64 rev] w fun e w' => e = .returned (.bool (M.has key rev)) ∧ Live B W w' bs N M S ∧ Keeps no w w' := by
  refine (Has_spec h.rep h.maxN key hs rev).mono ?_
  rintro e w' ⟨rfl, h1⟩
  exact ⟨rfl, h.quiet h1, h1⟩
theorem Live.next (h : Live B W w bs N M S) (rev : Int) (fr to : ByteArray) :
    Calls Try.prog 17 #[.pointer (some ⟨bs, 0, none⟩), .int .i64 rev, .string fr, .string to] w fun e w' => e = .returned (.tuple #[.string (M.next rev fr to).1, .bool (M.next rev fr to).2]) ∧ Live B W w' bs N M S ∧ Keeps no w w' := by
  refine (Next_spec h.rep (by have := h.few; omega) rev fr to).mono ?_
  rintro e w' ⟨rfl, h1⟩
  exact ⟨rfl, h.quiet h1, h1⟩
theorem Live.count (h : Live B W w bs N M S) (rev : Int) :
    Calls Try.prog 21 #[.pointer (some ⟨bs, 0, none⟩), .int .i64 rev] w fun e w' => e = .returned (.int .i64 ((M.count rev : Nat) : Int)) ∧ Live B W w' bs N M S ∧ Keeps no w w' := by
  refine (Count_spec h.rep h.maxN (by have := h.pairs; omega) rev).mono ?_
  rintro e w' ⟨rfl, h1⟩
  exact ⟨rfl, h.quiet h1, h1⟩
theorem Live.events (h : Live B W w bs N M S) (fr to : Int) :
    Calls Try.prog 23 #[.pointer (some ⟨bs, 0, none⟩), .int .i64 fr, .int .i64 to] w fun e w' => ∃ v, e = .returned v ∧ w'.ownsRow w.heap.size 49 3 v (M.events fr to).length ((M.events fr to).flatMap encE) ∧ Live B W w' bs N M S ∧ Keeps no w w' := by
  refine (Events_spec h.rep h.maxN (by have := h.pairs; omega) fr to).mono ?_
  rintro e w' ⟨v, rfl, h1, h2⟩
  exact ⟨v, rfl, h1, h.quiet h2, h2⟩
end
/-- The cells of events. -/
def EvAt (w : World) (v : Value) (l : List Ev) : Prop := ∃ a c, v = .slice a l.length c ∧ ∀ i (h : i < l.length), ∃ p : Addr, a = some p ∧ p.block < w.heap.size ∧ w.cell? (p.add (i * 3)) = some (.int .i64 l[i].rev) ∧
  w.cell? ((p.add (i * 3)).add 1) = some (.string l[i].key) ∧ w.cell? ((p.add (i * 3)).add 2) = some (.bool l[i].add)
theorem EvAt.of {B : Nat} {w : World} {v : Value} {l : List Ev} (h : w.ownsRow B 49 3 v l.length (l.flatMap encE)) : EvAt w v l := by
  obtain ⟨a, c, hv, hs⟩ := row_shape h
  refine ⟨a, c, hv, fun i hi => ?_⟩
  obtain ⟨q, hq, _, hlt⟩ := row_block h (by omega)
  have ha : a = some ⟨q, 0, none⟩ := by
    rcases hs with ⟨rfl, h1, _⟩ | ⟨g, rfl, _⟩
    · omega
    · rw [hv] at hq; simp [Value.ownBlock] at hq; rw [hq]
  have g : ∀ r, r < 3 → ∀ u, (encE l[i])[r]? = some u → w.cell? ⟨q, i * 3 + r, none⟩ = some u := fun r hr u hu =>
    row_cell h hq ((encE_get (List.getElem?_eq_getElem hi) hr).trans hu)
  refine ⟨_, ha, hlt, ?_, ?_, ?_⟩
  · rw [addr_add, Nat.zero_add]; exact g 0 (by omega) _ rfl
  · rw [addr_add, addr_add, Nat.zero_add]; exact g 1 (by omega) _ rfl
  · rw [addr_add, addr_add, Nat.zero_add]; exact g 2 (by omega) _ rfl
theorem EvAt.keeps {S : Nat → Prop} {w w' : World} {v : Value} {l : List Ev} (h : EvAt w v l) (hk : Keeps S w w') (hS : ∀ q, v.ownBlock = some q → ¬ S q) : EvAt w' v l := by
  obtain ⟨a, c, hv, h⟩ := h
  refine ⟨a, c, hv, fun i hi => ?_⟩
  obtain ⟨p, h1, h2, h3, h4, h5⟩ := h i hi
  have hn : ¬ S p.block := hS _ (by rw [hv, h1]; rfl)
  exact ⟨p, h1, Nat.lt_of_lt_of_le h2 hk.size, hk.cell h3 (by rw [blockAdd]; exact hn), hk.cell h4 (by rw [blockAdd, blockAdd]; exact hn), hk.cell h5 (by rw [blockAdd, blockAdd]; exact hn)⟩
theorem EvAt.quiet {w w' : World} {v : Value} {l : List Ev} (h : EvAt w v l) (hk : Keeps no w w') : EvAt w' v l := h.keeps hk fun _ _ => id

/-! ### awake -/
def kA : ByteArray := ⟨#[97]⟩
def kB : ByteArray := ⟨#[98]⟩
def wk1 : Sp := (Sp.empty.put kA 1).1
def wk2 : Sp := (wk1.drop kA 3).1
def wk3 : Sp := (wk2.put kB 3).1
theorem wk_put1 : (Sp.empty.put kA 1).2 = true := by decide
theorem wk_drop : (wk1.drop kA 3).2 = true := by decide
theorem wk_put2 : (wk2.put kB 3).2 = true := by decide
theorem wk_next : wk3.next 3 ⟨#[]⟩ ⟨#[]⟩ = (kB, true) := by decide +kernel
theorem wk_has1 : wk3.has kA 1 = true := by decide
theorem wk_has2 : wk3.has kA 2 = true := by decide
theorem wk_has3 : wk3.has kA 3 = false := by decide
theorem wk_count : wk3.count 2 = 1 := by decide +kernel
theorem wk_trimN : wk3.trimN 3 = 1 := by decide +kernel
theorem wk_hasT : (wk3.trim 3).has kA 2 = false := by decide +kernel
theorem wk_pairs : (pairs wk3).flatMap (evOf 1 3) = [⟨3, kA, false⟩, ⟨3, kB, true⟩] := by decide +kernel
theorem wk_events : wk3.events 1 3 = [⟨3, kA, false⟩, ⟨3, kB, true⟩] := by
  unfold Sp.events sortE
  rw [wk_pairs]
  refine List.mergeSort_of_pairwise ?_
  simp only [List.pairwise_cons, List.mem_cons, List.not_mem_nil, or_false, forall_eq, List.Pairwise.nil, and_true, false_imp_iff, implies_true]
  decide
theorem beqS {a b : ByteArray} : (a.toList == b.toList) = decide (a = b) := toList_beq
set_option maxHeartbeats 1000000 in
theorem awake8 (w : World) : Calls Try.prog 8 #[] w fun e w' => e = .returned (.bool true) ∧ Below w.heap.size w w' := by
  refine F8.calls_of ?_
  unfold F8.sh
  refine (Live.new (Below.refl _ w) (Nat.le_refl _)).mono ?_
  rintro e w1 ⟨bs, S0, rfl, h1, _⟩
  have sA : kA.size ≤ maxLen := by decide
  have sB : kB.size ≤ maxLen := by decide
  refine ⟨_, rfl, (h1.put (by omega) kA sA 1).mono ?_⟩
  rintro e w3 ⟨rfl, S1, h3, _⟩
  rw [wk_put1]
  refine ⟨_, rfl, (h3.drop kA sA 3).mono ?_⟩
  rintro e w5 ⟨rfl, h5, _⟩
  change Live _ _ _ _ _ wk2 _ at h5
  refine ⟨_, rfl, (h5.put (by omega) kB sB 3).mono ?_⟩
  rintro e w7 ⟨rfl, S2, h7, _⟩
  change Live _ _ _ _ _ wk3 _ at h7
  refine ⟨_, rfl, (h7.next 3 ⟨#[]⟩ ⟨#[]⟩).mono ?_⟩
  rintro e w9 ⟨rfl, h9, _⟩
  rw [wk_next]
  refine ⟨_, _, rfl, (h9.events 1 3).mono ?_⟩
  rintro e w11 ⟨v, rfl, hr, h11, _⟩
  rw [wk_events] at hr
  have hv := EvAt.of hr
  obtain ⟨a, c, hve, _⟩ := hv
  refine ⟨a, _, c, by rw [hve], ?_⟩
  refine Go.L.iteP_true rfl (Go.L.iteP_true wk_drop (Go.L.iteP_true wk_put2 ?_))
  refine (h11.has kA sA 1).mono ?_
  rintro e w13 ⟨rfl, h13, k13⟩
  refine ⟨_, rfl, Go.L.iteP_true wk_has1 ?_⟩
  refine (h13.has kA sA 2).mono ?_
  rintro e w15 ⟨rfl, h15, k15⟩
  refine ⟨_, rfl, Go.L.iteP_true wk_has2 ?_⟩
  refine (h15.has kA sA 3).mono ?_
  rintro e w17 ⟨rfl, h17, k17⟩
  refine ⟨_, rfl, Go.L.iteP_true (by rw [wk_has3]; rfl) ?_⟩
  refine Go.L.iteP_true (by rw [beqS]; rfl) (Go.L.iteP_true rfl ?_)
  refine (h17.count 2).mono ?_
  rintro e w19 ⟨rfl, h19, k19⟩
  refine ⟨_, rfl, Go.L.iteP_true (by rw [wk_count]; rfl) (Go.L.iteP_true rfl ?_)⟩
  have hv19 := (EvAt.of hr).quiet ((k13.transN k15).transN (k17.transN k19))
  obtain ⟨a', c', hve', hcells⟩ := hv19
  have ha : a' = a := by rw [hve] at hve'; injection hve' with e1 _ _; exact e1.symm
  subst ha
  obtain ⟨p, hp, _, c0, c1, c2⟩ := hcells 0 (by simp)
  obtain ⟨p', hp', _, _, _, d2⟩ := hcells 1 (by simp)
  refine ⟨⟨by omega, by simp⟩, onSome_of hp ⟨_, c0, _, c1, _, c2, ?_⟩⟩
  have heq := eqE (.inl rfl) (.tmp 62) (.tmp 63) ⟨3, kA, false⟩ ⟨3, kA, false⟩ w19
  refine runK_of heq ⟨_, rfl, Go.L.iteP_true (by decide) ?_⟩
  refine ⟨⟨by omega, by simp⟩, onSome_of hp' ⟨_, d2, Go.L.iteP_true rfl ?_⟩⟩
  refine (h19.trim 3).mono ?_
  rintro e w22 ⟨rfl, S3, h22, _⟩
  refine ⟨_, rfl, Go.L.iteP_true (by rw [wk_trimN]; rfl) ?_⟩
  refine (h22.has kA sA 2).mono ?_
  rintro e w24 ⟨rfl, h24, _⟩
  refine ⟨_, rfl, ?_, h24.bel⟩
  rw [wk_hasT]; rfl
end Go.Proofs
