/- Spans: the reference's below, put, Events. Seat s14. -/
import Derived.Test.YtgmfilpbabkjeaaRfC
set_option linter.unusedVariables false
set_option linter.unusedSimpArgs false
set_option maxRecDepth 100000
namespace Go.Proofs
open Go.L Go.RowKit Go.Sort

theorem und46 : Try.prog.underlying 46 = some (.slice 50) := by kernel_rfl
theorem inf50 : (Try.prog.info? 50).map (fun i => (i.zero, i.size, i.bytes)) = some (some (.agg #[.int .i64 0, .string ⟨#[]⟩, .bool false]), 3, 32) := by kernel_rfl
theorem below59 (a b : Ev) (w : World) : Calls Try.prog 59 #[.agg (encE a).toArray, .agg (encE b).toArray] w fun e w' => ∃ r : Bool, e = .returned (.bool r) ∧ (r = true ↔ evLt a b) ∧ Keeps no w w' := by
  refine F59.calls_of _ _ _ _ _ _ ?_
  unfold F59.sh
  refine allocK_of (allocK_of ?_)
  have n0 := heap_new w (.cells #[.int .i64 a.rev, .string a.key, .bool a.add] 50)
  have n1 := heap_new (w.alloc (.cells #[.int .i64 a.rev, .string a.key, .bool a.add] 50)) (.cells #[.int .i64 b.rev, .string b.key, .bool b.add] 50)
  have hs1 : (w.alloc (.cells #[.int .i64 a.rev, .string a.key, .bool a.add] 50)).heap.size = w.heap.size + 1 := by simp
  have k2 : Keeps no w ((w.alloc (.cells #[.int .i64 a.rev, .string a.key, .bool a.add] 50)).alloc (.cells #[.int .i64 b.rev, .string b.key, .bool b.add] 50)) := (Keeps.refl.alloc _).alloc _
  have n0' := heap_old (w := w.alloc (.cells #[.int .i64 a.rev, .string a.key, .bool a.add] 50)) (b := w.heap.size) (.cells #[.int .i64 b.rev, .string b.key, .bool b.add] 50) (by omega)
  rw [n0] at n0'
  rw [hs1] at n1 ⊢
  generalize ((w.alloc (.cells #[.int .i64 a.rev, .string a.key, .bool a.add] 50)).alloc (.cells #[.int .i64 b.rev, .string b.key, .bool b.add] 50)) = w2 at *
  refine ⟨_, cell_of n0' rfl, _, cell_of n1 rfl, iteP_of (fun h1 => ⟨_, cell_of n0' rfl, _, cell_of n1 rfl, _, rfl, ?_, k2⟩) (fun h1 => ⟨_, cell_of n0' rfl, _, cell_of n1 rfl, iteP_of (fun h2 => ⟨_, cell_of n0' rfl, _, cell_of n1 rfl, _, rfl, ?_, k2⟩) (fun h2 => ⟨_, cell_of n0' rfl, iteP_of (fun h3 => ⟨_, cell_of n1 rfl, _, rfl, ?_, k2⟩) (fun h3 => ⟨_, rfl, ?_, k2⟩)⟩)⟩)⟩
  · have h1 : a.rev ≠ b.rev := by simpa using h1
    rw [decide_eq_true_iff]; unfold evLt
    constructor
    · exact fun h => .inl h
    · rintro (h | ⟨h, _⟩)
      · exact h
      · exact absurd h h1
  · have h1 : a.rev = b.rev := by simpa using h1
    have h2 : a.key ≠ b.key := by rw [toList_beq] at h2; simpa using h2
    unfold evLt
    constructor
    · exact fun h => .inr ⟨h1, .inl h⟩
    · rintro (h | ⟨_, h | ⟨h, _⟩⟩)
      · omega
      · exact h
      · exact absurd h h2
  · have h1 : a.rev = b.rev := by simpa using h1
    have h2 : a.key = b.key := by rw [toList_beq] at h2; simpa using h2
    have h3 : a.add = false := by simpa using h3
    unfold evLt worth
    rw [h1, h2, h3]
    cases b.add <;> simp [Go.L.lt_irrefl]
  · have h1 : a.rev = b.rev := by simpa using h1
    have h2 : a.key = b.key := by rw [toList_beq] at h2; simpa using h2
    have h3 : a.add = true := by simpa using h3
    unfold evLt worth
    rw [h1, h2, h3]
    cases b.add <;> simp [Go.L.lt_irrefl]
/-- An event, put where it belongs. -/
def insE (x : Ev) : List Ev → List Ev
  | [] => [x]
  | e :: l => if ltOf cmpE e x = true then e :: insE x l else x :: e :: l
theorem insE_split {x : Ev} {l : List Ev} {i : Nat} (hi : i ≤ l.length) (h1 : ∀ t (h : t < l.length), t < i → evLt l[t] x) (h2 : ∀ h : i < l.length, ¬ evLt l[i] x) : insE x l = l.take i ++ [x] ++ l.drop i := by
  induction l generalizing i with
  | nil => simp at hi; subst hi; rfl
  | cons e l ih =>
    cases i with
    | zero =>
      have := h2 (by simp)
      unfold insE; rw [if_neg (fun h => this (by simpa using ltOf_ev.1 h))]; rfl
    | succ i =>
      have h0 := h1 0 (by simp) (by omega)
      unfold insE; rw [if_pos (ltOf_ev.2 (by simpa using h0)), ih (i := i) (by simpa using hi) (fun t ht hti => h1 (t + 1) (by simpa using ht) (by omega)) (fun h => h2 (by simpa using h))]
      rfl
theorem insE_perm (x : Ev) (l : List Ev) : (insE x l).Perm (l ++ [x]) := by
  induction l with
  | nil => exact .refl _
  | cons e l ih =>
    unfold insE
    split
    · exact ih.cons e
    · exact (List.perm_append_comm (l₁ := [x]) (l₂ := e :: l))
theorem insE_sorted {x : Ev} {l : List Ev} (h : l.Pairwise evLe) : (insE x l).Pairwise evLe := by
  induction l with
  | nil => exact List.pairwise_singleton _ _
  | cons e l ih =>
    rw [List.pairwise_cons] at h
    unfold insE
    split
    · rename_i hx
      have hx := ltOf_ev.1 hx
      rw [List.pairwise_cons]
      refine ⟨fun y hy => ?_, ih h.2⟩
      rw [(insE_perm x l).mem_iff, List.mem_append] at hy
      rcases hy with hy | hy
      · exact h.1 y hy
      · simp at hy; subst hy
        intro h'; exact evLt_irrefl _ (evLt_trans hx h')
    · rename_i hx
      have hx : ¬ evLt e x := fun h => hx (ltOf_ev.2 h)
      rw [List.pairwise_cons]
      refine ⟨fun y hy => ?_, List.pairwise_cons.2 h⟩
      rcases List.mem_cons.1 hy with rfl | hy
      · exact hx
      · exact evLe_trans hx (h.1 y hy)
def EvAt' (w : World) (a : Option Addr) (l : List Ev) : Prop := ∀ i (h : i < l.length), ∃ p : Addr, a = some p ∧ w.cell? (p.add (i * 3)) = some (.int .i64 l[i].rev) ∧
  w.cell? ((p.add (i * 3)).add 1) = some (.string l[i].key) ∧ w.cell? ((p.add (i * 3)).add 2) = some (.bool l[i].add)
theorem EvAt'.quiet {w w' : World} {a : Option Addr} {l : List Ev} (h : EvAt' w a l) (hk : Keeps no w w') : EvAt' w' a l := by
  intro i hi
  obtain ⟨p, h1, h2, h3, h4⟩ := h i hi
  exact ⟨p, h1, hk.cell h2 id, hk.cell h3 id, hk.cell h4 id⟩
theorem EvAt'.of {B : Nat} {w : World} {v : Value} {l : List Ev} {a : Option Addr} {n c : Nat} (h : w.ownsRow B 50 3 v l.length (l.flatMap encE)) (hv : v = .slice a n c) : EvAt' w a l := by
  intro i hi
  obtain ⟨a', c', hv', hs⟩ := row_shape h
  rw [hv] at hv'
  injection hv' with e1 e2 e3
  obtain ⟨q, hq, _, hlt⟩ := row_block h (by omega)
  have ha : a = some ⟨q, 0, none⟩ := by
    rcases hs with ⟨rfl, h1, _⟩ | ⟨g, rfl, _⟩
    · omega
    · rw [hv, e1] at hq; simp [Value.ownBlock] at hq; rw [e1, hq]
  have g : ∀ r, r < 3 → ∀ u, (encE l[i])[r]? = some u → w.cell? ⟨q, i * 3 + r, none⟩ = some u := fun r hr u hu =>
    row_cell h hq ((encE_get (List.getElem?_eq_getElem hi) hr).trans hu)
  refine ⟨_, ha, ?_, ?_, ?_⟩
  · rw [addr_add, Nat.zero_add]; exact g 0 (by omega) _ rfl
  · rw [addr_add, addr_add, Nat.zero_add]; exact g 1 (by omega) _ rfl
  · rw [addr_add, addr_add, Nat.zero_add]; exact g 2 (by omega) _ rfl
theorem one_flatE (l : List Ev) : ∀ u ∈ l.flatMap encE, u.oneCell' = true := by
  intro u hu
  obtain ⟨x, _, hx⟩ := List.mem_flatMap.1 hu
  exact one_encE x u hx
/-- append of a part of a row. -/
theorem append_part {base base2 : Nat} {w : World} {v : Value} {xs : List Ev} {l : List Ev} {a : Option Addr} {c i j : Nat} (h : w.ownsRow base 50 3 v xs.length (xs.flatMap encE)) (h2 : w.ownsRow base2 50 3 (.slice a l.length c) l.length (l.flatMap encE)) (hij : i ≤ j) (hj : j ≤ l.length)
    (hb : base ≤ w.heap.size) (hn : xs.length < 500000000) (hn2 : l.length < 500000000) (cc : Nat) {Φ : Value → World → Prop}
    (hk : ∀ v' w', w'.ownsRow base 50 3 v' (xs ++ (l.drop i).take (j - i)).length ((xs ++ (l.drop i).take (j - i)).flatMap encE) → Keeps (fun q => v.ownBlock = some q) w w' → Φ v' w') :
    runK Try.prog (Builtin.append_ #[46, 46] 46 #[v, .slice (slA a i c 3) (j - i) (c - i)]) w Φ := by
  obtain ⟨ti, hi, hz0, hz1, hz2⟩ := info_out inf50
  have hlen : ((l.drop i).take (j - i)).length = j - i := by rw [List.length_take, List.length_drop]; omega
  rcases h2.2 with ⟨h3, h4⟩ | ⟨g, cap, cur, h3, hg, hh, hnc, hcm, hcs, htake⟩
  · injection h3 with e1 e2 e3
    have hl : l = [] := List.eq_nil_of_length_eq_zero h4
    subst e1; subst hl; subst e3
    have hj0 : j = 0 := by simpa using hj
    subst hj0
    have hi0 : i = 0 := by omega
    subst hi0
    have e : slA none 0 0 3 = none := rfl
    rw [e]
    refine runK_of (run_append_owned_none (P := Try.prog) (w := w) base 46 46 50 ti 3 und46 hi v _ _ h) (hk v w (by simpa using h) Keeps.refl)
  · injection h3 with e1 e2 e3
    subst e1; subst e3
    have key : ∀ p : Addr, slA (some ⟨g, 0, none⟩) i c 3 = some p → (i < j → p = ⟨g, i * 3, none⟩) → runK Try.prog (Builtin.append_ #[46, 46] 46 #[v, .slice (slA (some ⟨g, 0, none⟩) i c 3) (j - i) (c - i)]) w Φ := by
      intro p hp hpe
      rw [hp]
      refine append_runK (base := base) (e := 50) (sz := 3) (z := .agg #[.int .i64 0, .string ⟨#[]⟩, .bool false]) (bytes := 32) und46 hi hz0 hz1 hz2 rfl (by decide) h (news := ((l.drop i).take (j - i)).flatMap encE) (m := j - i) (by rw [len_encE, hlen]) ?_ (one_flatE _) (by simp only [maxLen]; omega) (by omega) hb ?_
      · intro t u hu
        by_cases hlt : i < j
        · rw [hpe hlt, addr_add]
          have htl : t < (j - i) * 3 := by have := (List.getElem?_eq_some_iff.1 hu).1; rw [len_encE, hlen] at this; exact this
          refine row_cell h2 rfl ?_
          have e3 : i * 3 + t = (i + t / 3) * 3 + t % 3 := by omega
          have e4 : t = t / 3 * 3 + t % 3 := by omega
          have hti : t / 3 < j - i := by omega
          rw [e3, encE_get (x := l[i + t / 3]'(by omega)) (List.getElem?_eq_getElem (by omega)) (by omega)]
          rw [e4, encE_get (x := l[i + t / 3]'(by omega)) (by rw [List.getElem?_take_of_lt hti, List.getElem?_drop, List.getElem?_eq_getElem (by omega)]) (by omega)] at hu
          exact hu
        · have : j - i = 0 := by omega
          rw [this] at hu; simp at hu
      · intro v' w' hr hgr _
        refine hk v' w' ?_ ((Keeps.refl (S := fun q => v.ownBlock = some q)).grown hgr (fun k e => .inl e))
        rw [List.length_append, hlen, List.flatMap_append]; exact hr
    by_cases hc : c = i
    · refine key ⟨g, 0, none⟩ (by unfold slA; rw [if_pos hc]) (fun hlt => by omega)
    · refine key ⟨g, i * 3, none⟩ (by unfold slA; rw [if_neg hc]; simp) (fun _ => rfl)
set_option maxHeartbeats 1000000 in
theorem put43 {B : Nat} {w : World} {v : Value} {l : List Ev} (h : w.ownsRow B 50 3 v l.length (l.flatMap encE)) (hl : l.length < 400000000) (x : Ev) :
    Calls Try.prog 43 #[v, .agg (encE x).toArray] w fun e w' => ∃ v', e = .returned v' ∧ w'.ownsRow w.heap.size 50 3 v' (insE x l).length ((insE x l).flatMap encE) ∧ Keeps no w w' := by
  obtain ⟨a, c, hv, hsh⟩ := row_shape h
  have hcl : l.length ≤ c := by
    rcases h.2 with ⟨h1, h2⟩ | ⟨g, cap, cur, h1, _, _, h2, _⟩
    · rw [hv] at h1; injection h1; omega
    · rw [hv] at h1; injection h1 with _ _ e; omega
  have hx0 := EvAt'.of h hv
  rw [hv] at h ⊢
  refine F43.calls_of _ _ _ _ _ _ ?_
  unfold F43.sh
  refine allocK_of ?_
  have n0 := heap_new w (.cells #[.int .i64 x.rev, .string x.key, .bool x.add] 50)
  have k1 : Keeps no w (w.alloc (.cells #[.int .i64 x.rev, .string x.key, .bool x.add] 50)) := Keeps.refl.alloc _
  generalize w.alloc (.cells #[.int .i64 x.rev, .string x.key, .bool x.add] 50) = w1 at *
  have s1 := k1.size
  have hb1 := lt_of_heap n0
  -- the making of the new row
  have make : ∀ (i : Nat) (w3 : World), i ≤ l.length → insE x l = l.take i ++ [x] ++ l.drop i → Keeps no w w3 → w3.heap[w.heap.size]? = some (.cells #[.int .i64 x.rev, .string x.key, .bool x.add] 50 (0, 0)) →
      (((0 : Int) ≤ (i : Int) ∧ (i : Int) ≤ ((c : Nat) : Int)) ∧
      runK Try.prog (Builtin.append_ #[46, 46] 46 #[.slice none 0 0, .slice (slA a 0 c 3) (i - 0) (c - 0)]) w3 fun v2 w5 =>
      ∃ x11a : Option Addr, ∃ x11l : Nat, ∃ x11c : Nat, v2 = .slice x11a x11l x11c ∧
      ∃ x12 : Int, w5.cell? ⟨w.heap.size, 0, none⟩ = some (.int .i64 x12) ∧ ∃ x13 : ByteArray, w5.cell? ⟨w.heap.size, 1, none⟩ = some (.string x13) ∧ ∃ x14 : Bool, w5.cell? ⟨w.heap.size, 2, none⟩ = some (.bool x14) ∧
      allocK w5 (.cells #[.int .i64 x12, .string x13, .bool x14] 50) fun w6 =>
      runK Try.prog (Builtin.append_ #[46, 46] 46 #[.slice x11a x11l x11c, .slice (some ⟨w5.heap.size, 0, none⟩) 1 1]) w6 fun v3 w7 =>
      ∃ x15a : Option Addr, ∃ x15l : Nat, ∃ x15c : Nat, v3 = .slice x15a x15l x15c ∧
      ((0 : Int) ≤ (i : Int) ∧ (i : Int) ≤ ((l.length : Nat) : Int)) ∧
      runK Try.prog (Builtin.append_ #[46, 46] 46 #[.slice x15a x15l x15c, .slice (slA a i c 3) (l.length - i) (c - i)]) w7 fun v4 w8 =>
      ∃ x16a : Option Addr, ∃ x16l : Nat, ∃ x16c : Nat, v4 = .slice x16a x16l x16c ∧
      (fun e w' => ∃ v', e = Ending.returned v' ∧ w'.ownsRow w.heap.size 50 3 v' (insE x l).length ((insE x l).flatMap encE) ∧ Keeps no w w') (.returned (.slice x16a x16l x16c)) w8) := by
    intro i w3 hi hins k3 nb
    have s3 := k3.size
    have hb3 := lt_of_heap nb
    have r3 := row_quiet h k3
    refine ⟨⟨by omega, by omega⟩, ?_⟩
    refine append_part (base := w3.heap.size) (xs := []) (World.ownsRow_nil _ _ _ _) r3 (Nat.zero_le _) hi (Nat.le_refl _) (by simp) (by omega) c fun v2 w5 r5 k5 => ?_
    have k5 : Keeps no w3 w5 := k5.mono fun q _ h => by simp [Value.ownBlock] at h
    rw [List.nil_append, List.drop_zero, Nat.sub_zero] at r5
    obtain ⟨a5, c5, hv5, _⟩ := row_shape r5
    have nb5 := k5.heap nb id
    refine ⟨_, _, _, hv5, _, cell_of nb5 rfl, _, cell_of nb5 rfl, _, cell_of nb5 rfl, allocK_of ?_⟩
    rw [← hv5]
    have m0 := heap_new w5 (.cells #[.int .i64 x.rev, .string x.key, .bool x.add] 50)
    have kA : Keeps no w5 (w5.alloc (.cells #[.int .i64 x.rev, .string x.key, .bool x.add] 50)) := Keeps.refl.alloc _
    have rA := row_quiet r5 kA
    generalize w5.alloc (.cells #[.int .i64 x.rev, .string x.key, .bool x.add] 50) = w6 at *
    have s5 := k5.size
    have sA := kA.size
    have lt5 : (l.take i).length ≤ l.length := by rw [List.length_take]; omega
    refine append_one (base := w3.heap.size) und46 inf50 rfl (by decide) (by decide) rA m0 (ys := encE x) rfl rfl (one_encE _) (by omega) (by omega) fun v3 w7 r7 k7 => ?_
    obtain ⟨a7, c7, hv7, _⟩ := row_shape r7
    refine ⟨_, _, _, hv7, ⟨by omega, by omega⟩, ?_⟩
    have ob5 : ∀ q, v2.ownBlock = some q → w3.heap.size ≤ q := fun q hq => (r5.lt q hq).1
    have r7h : w7.ownsRow B 50 3 (.slice a l.length c) l.length (l.flatMap encE) := row_keeps (row_quiet (row_quiet r3 k5) kA) k7 (fun q hq e => by have := ob5 q e; have := (r3.lt q hq).2; omega)
    have s7 := k7.size
    rw [← hv7]
    have e7 : (l.take i).length + 1 = (l.take i ++ [x]).length := by simp
    have e8 : (l.take i).flatMap encE ++ encE x = (l.take i ++ [x]).flatMap encE := by rw [List.flatMap_append]; simp
    rw [e7, e8] at r7
    refine append_part (base := w3.heap.size) (xs := l.take i ++ [x]) r7 r7h hi (Nat.le_refl _) (by omega) (by rw [List.length_append, List.length_singleton]; omega) (by omega) c fun v4 w8 r8 k8 => ?_
    obtain ⟨a8, c8, hv8, _⟩ := row_shape r8
    have htk : (l.drop i).take (l.length - i) = l.drop i := List.take_of_length_le (by rw [List.length_drop]; omega)
    rw [htk, ← hins] at r8
    refine ⟨_, _, _, hv8, v4, by rw [hv8], row_base r8 (by omega), ?_⟩
    have ob7 : ∀ q, v3.ownBlock = some q → w3.heap.size ≤ q := fun q hq => (r7.lt q hq).1
    exact (((k3.transN k5).transN kA).trans k7 (fun q hq => .inr (by have := ob5 q hq; omega))).trans k8 (fun q hq => .inr (by have := ob7 q hq; omega))
  refine ⟨fun i k w2 => ∃ t : Nat, i = t ∧ t ≤ l.length ∧ k = l.length - t ∧ (∀ u (hu : u < l.length), u < t → evLt l[u] x) ∧ w2.heap[w.heap.size]? = some (.cells #[.int .i64 x.rev, .string x.key, .bool x.add] 50 (0, 0)) ∧ Keeps no w w2,
    ⟨_, 0, rfl, by omega, rfl, fun u hu h => by omega, n0, k1⟩, ?_⟩
  rintro i k w2 ⟨t, rfl, ht, rfl, hlt, nb, k2⟩ z
  have kd : Keeps no w2 w2.drew := (Keeps.refl (S := no)).drew
  have k2d := k2.transN kd
  have nbd := kd.heap nb id
  refine iteP_of (fun hi => ?_) (fun hi => ?_)
  · have hi : t < l.length := by simpa using hi
    obtain ⟨p, hp, c0, c1, c2⟩ := (hx0.quiet k2d) t hi
    rw [Int.toNat_natCast]
    refine ⟨⟨by omega, by omega⟩, onSome_of hp ⟨_, c0, _, c1, _, c2, _, cell_of nbd rfl, _, cell_of nbd rfl, _, cell_of nbd rfl, ?_⟩⟩
    refine (below59 l[t] x w2.drew).mono ?_
    rintro e w3 ⟨r, rfl, hr, k3⟩
    refine ⟨r, rfl, iteP_of (fun h1 => ?_) (fun h1 => ?_)⟩
    · rw [IntWalk.i64_in _ (by omega)]
      refine ⟨l.length - (t + 1), by omega, t + 1, by omega, by omega, rfl, fun u hu h => ?_, k3.heap nbd id, k2d.transN k3⟩
      by_cases e : u = t
      · subst e; exact hr.1 h1
      · exact hlt u hu (by omega)
    · exact make t w3 (by omega) (insE_split (by omega) hlt (fun h hh => by rw [hr.2 hh] at h1; cases h1)) (k2d.transN k3) (k3.heap nbd id)
  · have hi : t = l.length := by have : ¬ t < l.length := by simpa using hi
                                 omega
    subst hi
    rw [Int.toNat_natCast]
    exact make l.length w2.drew (Nat.le_refl _) (insE_split (Nat.le_refl _) hlt (fun h => by omega)) k2d nbd
end Go.Proofs
