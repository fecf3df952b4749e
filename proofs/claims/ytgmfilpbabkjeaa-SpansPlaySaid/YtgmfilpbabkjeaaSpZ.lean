/- Spans: the law's 'keys': all keys of a revision. Seat s14. -/
import Derived.Test.YtgmfilpbabkjeaaPuB
set_option linter.unusedVariables false
set_option linter.unusedSimpArgs false
set_option maxRecDepth 100000
namespace Go.Proofs
open Go.L Go.RowKit Go.Sort

theorem emp_lt (k : ByteArray) : Go.L.lt k emp = false := by
  cases h : Go.L.lt k emp with
  | false => rfl
  | true => have := Go.L.lt_iff.1 h; exact absurd this (List.not_lt_nil _)
theorem rank_emp (keys : List ByteArray) : rank keys emp = 0 := by
  unfold rank
  rw [List.length_eq_zero_iff, List.filter_eq_nil_iff]
  intro k _; rw [emp_lt]; simp
theorem next_all (M : Sp) (rev : Int) : M.next rev emp emp = nextGo M rev emp M.keys := by
  unfold Sp.next; rw [rank_emp, List.drop_zero]
theorem nextGo_cons (M : Sp) (rev : Int) (k : ByteArray) (l : List ByteArray) : nextGo M rev emp (k :: l) = if M.has k rev then (k, true) else nextGo M rev emp l := by
  conv => lhs; unfold nextGo
  rw [if_neg (fun h => h.1 rfl)]
theorem nextGo_true {M : Sp} {rev : Int} {k : ByteArray} : ∀ {l : List ByteArray}, nextGo M rev emp l = (k, true) → ∃ r1 r2, l = r1 ++ k :: r2 ∧ (∀ x ∈ r1, M.has x rev = false) ∧ M.has k rev = true := by
  intro l
  induction l with
  | nil => intro h; cases h
  | cons x l ih =>
    intro h
    rw [nextGo_cons] at h
    split at h
    · rename_i hh; cases h; exact ⟨[], l, rfl, by simp, hh⟩
    · rename_i hh
      obtain ⟨r1, r2, e, h1, h2⟩ := ih h
      exact ⟨x :: r1, r2, by rw [e]; rfl, fun y hy => by
        rcases List.mem_cons.1 hy with rfl | hy
        · simpa using hh
        · exact h1 y hy, h2⟩
theorem nextGo_false {M : Sp} {rev : Int} {k : ByteArray} : ∀ {l : List ByteArray}, nextGo M rev emp l = (k, false) → ∀ x ∈ l, M.has x rev = false := by
  intro l
  induction l with
  | nil => intro _ x hx; simp at hx
  | cons x l ih =>
    intro h y hy
    rw [nextGo_cons] at h
    split at h
    · cases h
    · rename_i hh
      rcases List.mem_cons.1 hy with rfl | hy
      · simpa using hh
      · exact ih h y hy
def zero1 : ByteArray := ⟨#[0]⟩
theorem lt_succ_list : ∀ (k x : List UInt8), x < k ++ [0] → ¬ k < x := by
  intro k
  induction k with
  | nil =>
    intro x h h'
    cases x with
    | nil => exact absurd h' (List.not_lt_nil _)
    | cons c x =>
      rw [List.nil_append, List.cons_lt_cons_iff] at h
      rcases h with h | ⟨_, h⟩
      · exact absurd (UInt8.lt_iff_toNat_lt.1 h) (by simp)
      · exact absurd h (List.not_lt_nil _)
  | cons c k ih =>
    intro x h h'
    cases x with
    | nil => exact absurd h' (List.not_lt_nil _)
    | cons d x =>
      rw [List.cons_append, List.cons_lt_cons_iff] at h
      rw [List.cons_lt_cons_iff] at h'
      rcases h with h | ⟨rfl, h⟩
      · rcases h' with h' | ⟨rfl, h'⟩
        · exact absurd (UInt8.lt_trans h h') (UInt8.lt_irrefl _)
        · exact absurd h (UInt8.lt_irrefl _)
      · rcases h' with h' | ⟨_, h'⟩
        · exact absurd h' (UInt8.lt_irrefl _)
        · exact ih x h h'
theorem lt_self_succ : ∀ k : List UInt8, k < k ++ [0] := by
  intro k
  induction k with
  | nil => exact List.nil_lt_cons _ _
  | cons c k ih => rw [List.cons_append, List.cons_lt_cons_iff]; exact .inr ⟨rfl, ih⟩
theorem data_succ (k : ByteArray) : (k ++ zero1).data.toList = k.data.toList ++ [0] := by simp [zero1]
theorem lt_succ {k : ByteArray} : Go.L.lt k (k ++ zero1) = true := by rw [Go.L.lt_iff, data_succ]; exact lt_self_succ _
theorem not_lt_succ {k x : ByteArray} (h : Go.L.lt k x = true) : Go.L.lt x (k ++ zero1) = false := by
  cases e : Go.L.lt x (k ++ zero1) with
  | false => rfl
  | true =>
    rw [Go.L.lt_iff, data_succ] at e
    exact absurd (Go.L.lt_iff.1 h) (lt_succ_list _ _ e)
theorem rank_succ {keys : List ByteArray} (hr : keys.Pairwise fun a b => Go.L.lt a b = true) {r1 r2 : List ByteArray} {k : ByteArray} (h : keys = r1 ++ k :: r2) : rank keys (k ++ zero1) = r1.length + 1 := by
  subst h
  unfold rank
  rw [List.pairwise_append, List.pairwise_cons] at hr
  rw [List.filter_append, List.filter_cons, if_pos lt_succ]
  have e1 : r1.filter (fun x => Go.L.lt x (k ++ zero1)) = r1 := by
    rw [List.filter_eq_self]
    intro x hx
    exact Go.L.lt_trans (hr.2.2 x hx k (by simp)) lt_succ
  have e2 : r2.filter (fun x => Go.L.lt x (k ++ zero1)) = [] := by
    rw [List.filter_eq_nil_iff]
    intro x hx
    rw [not_lt_succ (hr.2.1.1 x hx)]; simp
  rw [e1, e2, List.length_append]; rfl
/-- The cells of keys. -/
def KsAt (w : World) (v : Value) (l : List ByteArray) : Prop := ∃ a c, v = .slice a l.length c ∧ ∀ i (h : i < l.length), ∃ p : Addr, a = some p ∧ w.cell? (p.add (i * 1)) = some (.string l[i])
theorem KsAt.of {B : Nat} {w : World} {v : Value} {l : List ByteArray} (h : w.ownsRow B 9 1 v l.length (l.map .string)) : KsAt w v l := by
  obtain ⟨a, c, hv, hs⟩ := row_shape h
  refine ⟨a, c, hv, fun i hi => ?_⟩
  obtain ⟨q, hq, _, hlt⟩ := row_block h (by omega)
  have ha : a = some ⟨q, 0, none⟩ := by
    rcases hs with ⟨rfl, h1, _⟩ | ⟨g, rfl, _⟩
    · omega
    · rw [hv] at hq; simp [Value.ownBlock] at hq; rw [hq]
  refine ⟨_, ha, ?_⟩
  rw [addr_add, Nat.zero_add, Nat.mul_one]
  exact row_cell h hq (str_get hi)
theorem KsAt.quiet {w w' : World} {v : Value} {l : List ByteArray} (h : KsAt w v l) (hk : Keeps no w w') : KsAt w' v l := by
  obtain ⟨a, c, hv, h⟩ := h
  refine ⟨a, c, hv, fun i hi => ?_⟩
  obtain ⟨p, h1, h2⟩ := h i hi
  exact ⟨p, h1, hk.cell h2 id⟩
set_option maxHeartbeats 1000000 in
theorem Live.keys {B bs N : Nat} {W w : World} {M : Sp} {S : Nat → Prop} (h : Live B W w bs N M S) (hN : N ≤ 100) (hM : M.Wf) (rev : Int) :
    Calls Try.prog 25 #[.pointer (some ⟨bs, 0, none⟩), .int .i64 rev] w fun e w' => ∃ v, e = .returned v ∧ w'.ownsRow w.heap.size 9 1 v (keysL M rev).length ((keysL M rev).map .string) ∧ Live B W w' bs N M S ∧ Keeps no w w' := by
  have hlen : M.keys.length ≤ N := by obtain ⟨bm, kv, g, hx, rfl⟩ := h.rep; exact hx.lenK
  refine F25.calls_of _ _ ?_
  unfold F25.sh
  refine (h.next rev ⟨#[]⟩ ⟨#[]⟩).mono ?_
  rintro e w1 ⟨rfl, h1, k1⟩
  have hna : M.next rev ⟨#[]⟩ ⟨#[]⟩ = nextGo M rev emp M.keys := next_all M rev
  rw [hna]
  refine ⟨_, _, rfl, fun oa ol oc k is fuel w' => ∃ i, i ≤ M.keys.length ∧ fuel = M.keys.length - i ∧ nextGo M rev emp (M.keys.drop i) = (k, is) ∧ ol = ((M.keys.take i).filter fun k => M.has k rev).length ∧
    w'.ownsRow w.heap.size 9 1 (.slice oa ol oc) ol (((M.keys.take i).filter fun k => M.has k rev).map .string) ∧ Live B W w' bs N M S ∧ Keeps no w w',
    ⟨_, 0, by omega, rfl, by simp, rfl, World.ownsRow_nil _ _ _ _, h1, k1⟩, ?_⟩
  rintro oa ol oc k is fuel w3 ⟨i, hi, rfl, hgo, rfl, hrow, h3, k3⟩ z
  have hO : ((M.keys.take i).filter fun k => M.has k rev).length ≤ M.keys.length := Nat.le_trans (List.length_filter_le _ _) (by rw [List.length_take]; omega)
  have hs3 := k3.size
  cases is with
  | false =>
    refine Go.L.iteP_false rfl ⟨_, rfl, ?_, h3, k3⟩
    have hrest := nextGo_false hgo
    have e : keysL M rev = (M.keys.take i).filter fun k => M.has k rev := by
      unfold keysL
      conv => lhs; rw [← List.take_append_drop i M.keys, List.filter_append]
      have : (M.keys.drop i).filter (fun k => M.has k rev) = [] := by
        rw [List.filter_eq_nil_iff]; intro x hx; rw [hrest x hx]; simp
      rw [this, List.append_nil]
    rw [e]; exact hrow
  | true =>
    obtain ⟨r1, r2, e1, e2, e3⟩ := nextGo_true hgo
    have hkeys : M.keys = (M.keys.take i ++ r1) ++ k :: r2 := by
      conv => lhs; rw [← List.take_append_drop i M.keys, e1]
      rw [List.append_assoc]
    have hlr : i + r1.length + 1 ≤ M.keys.length := by
      have := congrArg List.length e1
      rw [List.length_drop, List.length_append, List.length_cons] at this; omega
    have hli : (M.keys.take i ++ r1).length = i + r1.length := by rw [List.length_append, List.length_take]; omega
    have hrank : rank M.keys (k ++ zero1) = i + r1.length + 1 := by rw [rank_succ hM.ok.rising hkeys, hli]
    have htake : M.keys.take (i + r1.length + 1) = (M.keys.take i ++ r1) ++ [k] := by
      conv => lhs; rw [hkeys]
      rw [← hli, List.take_length_add_append]
      rfl
    have hks : k.size ≤ 40 := hM.small k (by rw [hkeys]; simp)
    have hfil : (M.keys.take (i + r1.length + 1)).filter (fun k => M.has k rev) = (M.keys.take i).filter (fun k => M.has k rev) ++ [k] := by
      rw [htake, List.filter_append, List.filter_append]
      have : r1.filter (fun k => M.has k rev) = [] := by
        rw [List.filter_eq_nil_iff]; intro x hx; rw [e2 x hx]; simp
      rw [this, List.append_nil, List.filter_cons, if_pos e3]; rfl
    refine Go.L.iteP_true rfl (Go.L.iteP_true (by simp; omega) (allocK_of ?_))
    have n0 := heap_new w3 (.cells #[.string k] 9)
    have kA : Keeps no w3 (w3.alloc (.cells #[.string k] 9)) := Keeps.refl.alloc _
    have rA := row_quiet hrow kA
    have hA := h3.quiet kA
    generalize w3.alloc (.cells #[.string k] 9) = w4 at *
    have hs4 := kA.size
    obtain ⟨ti, hi0, hz0, hz1, hz2⟩ := info_out inf9
    refine append_runK (base := w.heap.size) (e := 9) (sz := 1) (z := .string ⟨#[]⟩) (bytes := 16) und52 hi0 hz0 hz1 hz2 rfl (by decide) rA (news := [.string k]) (m := 1) rfl ?_ ?_ (by simp only [maxLen]; omega) (by omega) (by omega) ?_
    · intro j u hu
      rw [addr_add, Nat.zero_add]
      exact cell_of n0 (by simpa using hu)
    · intro u hu; simp at hu; subst hu; rfl
    intro v2 w5 hr5 hg5 hb5
    obtain ⟨a5, c5, hv5, _⟩ := row_shape hr5
    have k5 : Keeps (fun q => (Value.slice oa ((M.keys.take i).filter fun k => M.has k rev).length oc).ownBlock = some q) w4 w5 := (Keeps.refl (S := fun q => (Value.slice oa ((M.keys.take i).filter fun k => M.has k rev).length oc).ownBlock = some q)).grown hg5 (fun k e => .inl e)
    have hown : ∀ q, (Value.slice oa ((M.keys.take i).filter fun k => M.has k rev).length oc).ownBlock = some q → w.heap.size ≤ q := fun q hq => (hrow.lt q hq).1
    have h5 := hA.keeps k5 (fun q hq e => by have := h.slt q hq; have := hown q e; omega) (fun q e => by have := hown q e; have := h.ge; omega)
    refine ⟨a5, _, c5, hv5, ?_, ?_⟩
    · have : (⟨#[0]⟩ : ByteArray).size = 1 := rfl
      rw [this]
      show _ ≤ (9223372036854775807 : Int)
      omega
    refine (h5.next rev (k ++ zero1) ⟨#[]⟩).mono ?_
    rintro e w6 ⟨rfl, h6, k6⟩
    have hnx : M.next rev (k ++ zero1) ⟨#[]⟩ = nextGo M rev emp (M.keys.drop (i + r1.length + 1)) := by
      show nextGo M rev emp (M.keys.drop (rank M.keys (k ++ zero1))) = _; rw [hrank]
    rw [hnx]
    refine ⟨_, _, rfl, M.keys.length - (i + r1.length + 1), by omega, i + r1.length + 1, by omega, rfl, rfl, ?_, ?_, h6, ?_⟩
    · rw [hfil, List.length_append]; rfl
    · rw [hfil, List.map_append, ← hv5]
      exact row_quiet hr5 k6
    · have kAB : Keeps no w w5 := (k3.transN kA).trans k5 (fun q hq => .inr (hown q hq))
      exact kAB.transN k6
end Go.Proofs
