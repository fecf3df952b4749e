/- Spans, pure: what is kept by put, drop, trim ('Wf'); keys of a revision; what became of one key ('alt'). Seat s14. -/
import Derived.Test.YtgmfilpbabkjeaaPuA
set_option linter.unusedVariables false
set_option linter.unusedSimpArgs false
set_option maxRecDepth 100000
namespace Go.Proofs
open Go.L Go.RowKit Go.Sort

abbrev ordS (x y : Int × Int) : Prop := x.2 ≠ 0 ∧ x.2 ≤ y.1
structure Sp.Wf (M : Sp) : Prop where
  ok : M.Ok
  small : ∀ k ∈ M.keys, k.size ≤ 40
  span : ∀ k, ∀ x ∈ M.all k, 1 ≤ x.1 ∧ x.1 ≤ M.last ∧ (x.2 = 0 ∨ (x.1 < x.2 ∧ x.2 ≤ M.last))
  order : ∀ k, (M.all k).Pairwise ordS
theorem Sp.Wf.empty : Sp.Wf .empty := ⟨empty_Ok, fun k h => by simp [Sp.empty] at h, fun k x h => by simp [Sp.empty] at h, fun k => .nil⟩
theorem closed_all {l : List (Int × Int)} (ho : l.Pairwise ordS) (hn : openOf l = none) : ∀ x ∈ l, x.2 ≠ 0 := by
  intro x hx
  have hne : l ≠ [] := List.ne_nil_of_mem hx
  have e := List.dropLast_concat_getLast hne
  rw [← e, List.pairwise_append] at ho
  rw [← e, List.mem_append] at hx
  rcases hx with hx | hx
  · exact (ho.2.2 x hx (l.getLast hne) (List.mem_singleton.2 rfl)).1
  · simp at hx
    subst hx
    intro h0
    unfold openOf at hn
    rw [List.getLast?_eq_some_getLast hne] at hn
    simp only [] at hn
    rw [if_pos h0] at hn; cases hn
theorem Sp.Wf.put {M : Sp} (h : M.Wf) {key : ByteArray} (hs : key.size ≤ 40) (rev : Int) : (M.put key rev).1.Wf := by
  have hs' : key.size ≤ maxLen := by simp only [maxLen]; omega
  cases hp : (M.put key rev).2 with
  | false => rw [put_false hp]; exact h
  | true =>
    obtain ⟨h1, h2, h3, h4⟩ := put_true hp
    have hl : (M.put key rev).1.last = rev := by rw [h4]
    have hk : (M.put key rev).1.keys = if hasKey M.keys key then M.keys else insertAt M.keys (rank M.keys key) key := by rw [h4]
    refine ⟨put_Ok h.ok hs' rev, fun k hk' => ?_, fun k x hx => ?_, fun k => ?_⟩
    · rw [hk] at hk'
      split at hk'
      · exact h.small k hk'
      · rcases mem_insertAt.1 hk' with rfl | hk'
        · exact hs
        · exact h.small k hk'
    · rw [hl]
      rw [put_all hp] at hx
      split at hx
      · rw [List.mem_append] at hx
        rcases hx with hx | hx
        · have := h.span key x hx; omega
        · simp at hx; subst hx; exact ⟨h1, Int.le_refl _, .inl rfl⟩
      · have := h.span k x hx; omega
    · rw [put_all hp]
      split
      · rw [List.pairwise_append]
        refine ⟨h.order key, List.pairwise_singleton _ _, fun x hx y hy => ?_⟩
        simp at hy; subst hy
        have := h.span key x hx
        have h0 := closed_all (h.order key) h3 x hx
        exact ⟨h0, by simp only []; omega⟩
      · exact h.order k
theorem Sp.Wf.drop {M : Sp} (h : M.Wf) (key : ByteArray) (rev : Int) : (M.drop key rev).1.Wf := by
  cases hp : (M.drop key rev).2 with
  | false => rw [drop_false hp]; exact h
  | true =>
    obtain ⟨h2, f, hf, h3, h4⟩ := drop_true hp
    have hl : (M.drop key rev).1.last = rev := by rw [h4]
    have e := openOf_some hf
    have hall := drop_all hp hf
    have hfs := h.span key (f, 0) (by rw [e]; simp)
    have hor := h.order key
    refine ⟨drop_Ok h.ok key rev, ?_, fun k x hx => ?_, fun k => ?_⟩
    · rw [h4]; exact h.small
    · rw [hl]
      rw [hall] at hx
      split at hx
      · rw [List.mem_append] at hx
        rcases hx with hx | hx
        · have := h.span key x (List.dropLast_subset _ hx); omega
        · simp at hx; subst hx; simp only [] at hfs ⊢; omega
      · have := h.span k x hx; omega
    · rw [hall]
      split
      · rw [e, List.pairwise_append] at hor
        rw [List.pairwise_append]
        refine ⟨hor.1, List.pairwise_singleton _ _, fun x hx y hy => ?_⟩
        simp at hy; subst hy
        exact hor.2.2 x hx (f, 0) (by simp)
      · exact h.order k
theorem Sp.Wf.trim {M : Sp} (h : M.Wf) (rev : Int) : (M.trim rev).Wf := by
  refine ⟨trim_Ok h.ok rev, fun k hk => ?_, fun k x hx => ?_, fun k => ?_⟩
  · have hk : k ∈ M.keys.filter _ := hk
    exact h.small k (List.mem_filter.1 hk).1
  · have hx : x ∈ trimL rev (M.all k) := hx
    exact h.span k x (List.mem_filter.1 hx).1
  · show (trimL rev (M.all k)).Pairwise _
    exact (h.order k).sublist List.filter_sublist
theorem Sp.Wf.step {M : Sp} (h : M.Wf) {x : Act} (hs : x.key.size ≤ 40) : (step M x).Wf := by
  unfold Go.Proofs.step; split
  · exact h.put hs _
  · exact h.drop _ _

/-! ### keys of a revision -/
def keysL (M : Sp) (rev : Int) : List ByteArray := M.keys.filter fun k => M.has k rev
theorem one_holds {l : List (Int × Int)} (ho : l.Pairwise ordS) (r : Int) : (l.filter (Go.Proofs.holds r)).length = if l.any (Go.Proofs.holds r) then 1 else 0 := by
  have hp : (l.filter (Go.Proofs.holds r)).Pairwise fun _ _ => False := by
    have h1 := ho.sublist (List.filter_sublist (p := Go.Proofs.holds r))
    refine h1.imp_of_mem fun {x y} hx hy h => ?_
    have hx := (List.mem_filter.1 hx).2
    have hy := (List.mem_filter.1 hy).2
    unfold Go.Proofs.holds at hx hy
    simp at hx hy
    obtain ⟨h2, h3⟩ := h
    rcases hx.2 with h4 | h4
    · exact h2 h4
    · omega
  cases e : l.filter (Go.Proofs.holds r) with
  | nil =>
    have : l.any (Go.Proofs.holds r) = false := by
      rw [List.any_eq_false]; intro x hx hh
      have : x ∈ l.filter (Go.Proofs.holds r) := List.mem_filter.2 ⟨hx, hh⟩
      rw [e] at this; simp at this
    rw [this]; rfl
  | cons x t =>
    have h2 : l.any (Go.Proofs.holds r) = true := by
      rw [List.any_eq_true]
      have : x ∈ l.filter (Go.Proofs.holds r) := by rw [e]; simp
      exact ⟨x, (List.mem_filter.1 this).1, (List.mem_filter.1 this).2⟩
    rw [h2]
    cases t with
    | nil => rfl
    | cons y t =>
      rw [e] at hp
      exact absurd ((List.pairwise_cons.1 hp).1 y (by simp)) id
theorem count_keys {M : Sp} (h : M.Wf) (r : Int) : M.count r = (keysL M r).length := by
  unfold Sp.count keysL pairs
  induction M.keys with
  | nil => rfl
  | cons k l ih =>
    rw [List.flatMap_cons, List.filter_append, List.length_append, ih, List.filter_cons]
    have e : ((pairsOf M k).filter fun x => Go.Proofs.holds r x.2).length = if M.has k r then 1 else 0 := by
      unfold pairsOf Sp.has
      rw [List.filter_map, List.length_map]
      exact one_holds (h.order k) r
    rw [e]
    split <;> simp <;> omega
theorem keysL_trim (M : Sp) {rev r : Int} (h : rev ≤ r) : keysL (M.trim rev) r = keysL M r := by
  unfold keysL
  show (M.keys.filter _).filter _ = _
  rw [List.filter_filter]
  refine List.filter_congr fun k _ => ?_
  rw [has_trim M h]
  cases hh : M.has k r with
  | false => rfl
  | true =>
    have hT := has_trim M h k
    rw [hh] at hT
    have : trimL rev (M.all k) ≠ [] := by
      intro e
      unfold Sp.has at hT
      have hT : (trimL rev (M.all k)).any _ = true := hT
      rw [e] at hT; simp at hT
    simp [this]
theorem events_trim {M : Sp} (h : M.Wf) (rev r : Int) : (M.trim rev).events rev r = M.events rev r := by
  unfold Sp.events
  congr 1
  rw [pairs_trim]
  refine flat_filter _ _ _ fun x hx hg => ?_
  have hg : Go.Proofs.gone rev x.2 = true := by simpa using hg
  have hs := h.span x.1 x.2 ((mem_pairs h.ok).1 hx)
  unfold Go.Proofs.gone at hg
  simp at hg
  have hm : rev ≤ max0 rev := by unfold max0; split <;> omega
  unfold evOf evA evB
  rw [if_neg (by omega), if_neg (by omega)]; rfl
theorem trim_trimN (M : Sp) (rev : Int) : (M.trim rev).trimN rev = 0 := by
  rw [trimN_eq, pairs_trim, List.filter_filter, List.length_eq_zero_iff, List.filter_eq_nil_iff]
  intro x _
  cases Go.Proofs.gone rev x.2 <;> simp

/-! ### what became of one key -/
def alt (s : Bool) : List Ev → Option Bool
  | [] => some s
  | e :: l => if s = e.add then none else alt e.add l
theorem alt_append (s : Bool) (l l' : List Ev) : alt s (l ++ l') = (alt s l).bind fun s' => alt s' l' := by
  induction l generalizing s with
  | nil => rfl
  | cons e l ih =>
    rw [List.cons_append]
    show (if s = e.add then none else alt e.add (l ++ l')) = (if s = e.add then none else alt e.add l).bind fun s' => alt s' l'
    split
    · rfl
    · exact ih _
theorem max0_of {a : Int} (h : 0 ≤ a) : max0 a = a := by unfold max0; split <;> omega
def okS (x : Int × Int) : Prop := 1 ≤ x.1 ∧ (x.2 = 0 ∨ x.1 < x.2)
theorem alt_one {a b : Int} (ha : 0 ≤ a) (hab : a ≤ b) (k : ByteArray) : ∀ l : List (Int × Int), (∀ x ∈ l, okS x) → l.Pairwise ordS →
    alt (l.any (Go.Proofs.holds a)) ((l.map fun x => (k, x)).flatMap (evOf a b)) = some (l.any (Go.Proofs.holds b)) := by
  intro l
  induction l with
  | nil => exact fun _ _ => rfl
  | cons x l ih =>
    intro hok ho
    obtain ⟨f, t⟩ := x
    have hx := hok (f, t) (by simp)
    rw [List.pairwise_cons] at ho
    have ih := ih (fun y hy => hok y (List.mem_cons_of_mem _ hy)) ho.2
    -- what lies behind x
    have later : ∀ y ∈ l, t ≠ 0 ∧ t ≤ y.1 ∧ 1 ≤ y.1 ∧ (y.2 = 0 ∨ y.1 < y.2) := fun y hy => ⟨(ho.1 y hy).1, (ho.1 y hy).2, (hok y (List.mem_cons_of_mem _ hy)).1, (hok y (List.mem_cons_of_mem _ hy)).2⟩
    have noHold : ∀ r, (t = 0 ∨ r < t) → l.any (Go.Proofs.holds r) = false := by
      intro r hr
      rw [List.any_eq_false]
      intro y hy hh
      have := later y hy
      unfold Go.Proofs.holds at hh
      simp at hh
      omega
    have noEv : (t = 0 ∨ b < t) → (l.map fun x => (k, x)).flatMap (evOf a b) = [] := by
      intro hr
      rw [List.flatMap_eq_nil_iff]
      intro z hz
      rw [List.mem_map] at hz
      obtain ⟨y, hy, rfl⟩ := hz
      have := later y hy
      unfold evOf evA evB
      rw [max0_of ha, if_neg (by simp only []; omega), if_neg (by simp only []; omega)]; rfl
    rw [List.map_cons, List.flatMap_cons, List.any_cons, List.any_cons, alt_append]
    have hev : evOf a b (k, (f, t)) = (if f > a ∧ f ≤ b then [(⟨f, k, true⟩ : Ev)] else []) ++ (if t > a ∧ t ≤ b then [(⟨t, k, false⟩ : Ev)] else []) := by
      unfold evOf evA evB; rw [max0_of ha]
    have hx1 : 1 ≤ f := hx.1
    have hx2 : t = 0 ∨ f < t := hx.2
    have H : ∀ r, Go.Proofs.holds r (f, t) = (decide (f ≤ r) && (decide (t = 0) || decide (t > r))) := fun r => by
      unfold Go.Proofs.holds
      have : (t == 0) = decide (t = 0) := by rw [Bool.eq_iff_iff]; simp
      rw [← this]
    rw [hev, H, H]
    by_cases c1 : t = 0
    · -- open: nothing lies behind
      rw [noHold a (.inl c1), noHold b (.inl c1), noEv (.inl c1)]
      by_cases c2 : f ≤ a
      · rw [if_neg (by omega), if_neg (by omega)]
        have e1 : decide (f ≤ a) = true := by simpa using c2
        have e2 : decide (f ≤ b) = true := by simp; omega
        rw [e1, e2, c1]; rfl
      · have e1 : decide (f ≤ a) = false := by simpa using c2
        by_cases c3 : f ≤ b
        · have e2 : decide (f ≤ b) = true := by simpa using c3
          rw [if_pos (by omega), if_neg (by omega), e1, e2, c1]; rfl
        · have e2 : decide (f ≤ b) = false := by simpa using c3
          rw [if_neg (by omega), if_neg (by omega), e1, e2]; rfl
    · have h12 : f < t := by omega
      have d0 : decide (t = 0) = false := by simpa using c1
      by_cases c2 : t ≤ a
      · -- it ended ahead
        have e1 : decide (t > a) = false := by simp; omega
        have e2 : decide (t > b) = false := by simp; omega
        rw [if_neg (by omega), if_neg (by omega), d0, e1, e2]
        simp only [Bool.or_false, Bool.and_false, Bool.false_or]
        exact ih
      · have e1 : decide (t > a) = true := by simp; omega
        have la := noHold a (.inr (by omega))
        rw [la] at ih
        by_cases c3 : t ≤ b
        · have e2 : decide (t > b) = false := by simp; omega
          rw [if_pos (show t > a ∧ t ≤ b by omega), d0, e1, e2, la]
          simp only [Bool.or_false, Bool.and_false, Bool.false_or, Bool.and_true, Bool.or_true]
          by_cases c4 : f ≤ a
          · have e3 : decide (f ≤ a) = true := by simpa using c4
            rw [if_neg (by omega), e3]
            exact ih
          · have e3 : decide (f ≤ a) = false := by simpa using c4
            rw [if_pos (by omega), e3]
            exact ih
        · have e2 : decide (t > b) = true := by simp; omega
          rw [if_neg (show ¬ (t > a ∧ t ≤ b) by omega), d0, e1, e2, la, noHold b (.inr (by omega)), noEv (.inr (by omega))]
          simp only [Bool.or_false, Bool.and_false, Bool.false_or, Bool.and_true, Bool.or_true, List.append_nil]
          by_cases c4 : f ≤ a
          · have e3 : decide (f ≤ a) = true := by simpa using c4
            have e4 : decide (f ≤ b) = true := by simp; omega
            rw [if_neg (by omega), e3, e4]; rfl
          · have e3 : decide (f ≤ a) = false := by simpa using c4
            by_cases c5 : f ≤ b
            · have e4 : decide (f ≤ b) = true := by simpa using c5
              rw [if_pos (by omega), e3, e4]; rfl
            · have e4 : decide (f ≤ b) = false := by simpa using c5
              rw [if_neg (by omega), e3, e4]; rfl
theorem one_sorted {a b : Int} (ha : 0 ≤ a) (k : ByteArray) : ∀ l : List (Int × Int), (∀ x ∈ l, okS x) → l.Pairwise ordS → ((l.map fun x => (k, x)).flatMap (evOf a b)).Pairwise evLe := by
  intro l
  induction l with
  | nil => exact fun _ _ => .nil
  | cons x l ih =>
    intro hok ho
    rw [List.pairwise_cons] at ho
    have ih := ih (fun y hy => hok y (List.mem_cons_of_mem _ hy)) ho.2
    rw [List.map_cons, List.flatMap_cons, List.pairwise_append]
    have hx := hok x (by simp)
    obtain ⟨f, t⟩ := x
    refine ⟨?_, ih, fun e he e' he' => ?_⟩
    · unfold evOf evA evB
      rw [max0_of ha]
      simp only []
      split <;> split <;> simp
      rename_i h1 h2
      unfold evLe evLt okS at *
      simp only [] at hx ⊢
      omega
    · rw [List.mem_flatMap] at he'
      obtain ⟨z, hz, he'⟩ := he'
      rw [List.mem_map] at hz
      obtain ⟨y, hy, rfl⟩ := hz
      have hlt := ho.1 y hy
      have hy' := hok y (List.mem_cons_of_mem _ hy)
      unfold evOf evA evB at he he'
      rw [max0_of ha, List.mem_append] at he he'
      unfold okS at hx hy'
      unfold ordS at hlt
      simp only [] at he he' hx hlt
      unfold evLe evLt
      rcases he with he | he <;> split at he <;> (try (simp at he; done)) <;> rcases he' with he' | he' <;> split at he' <;> (try (simp at he'; done)) <;> simp at he he' <;> subst he <;> subst he' <;> simp only []
      · omega
      · omega
      · have e1 : worth ⟨y.1, k, true⟩ = 1 := rfl
        have e2 : worth ⟨t, k, false⟩ = 0 := rfl
        rw [e1, e2, show Go.L.lt k k = false from Go.L.lt_irrefl k]
        simp
        omega
      · omega
theorem events_key {M : Sp} (h : M.Wf) {a b : Int} (ha : 0 ≤ a) (k : ByteArray) : (M.events a b).filter (fun e => decide (e.key = k)) = (pairsOf M k).flatMap (evOf a b) := by
  have hok : ∀ x ∈ M.all k, okS x := fun x hx => by have := h.span k x hx; unfold okS; omega
  refine sorted_eq ((sortE_pairwise _).sublist List.filter_sublist) (one_sorted ha k _ hok (h.order k)) ?_
  refine ((sortE_perm _).filter _).trans ?_
  refine ((List.Perm.flatMap_right _ (pairs_split h.ok k)).filter _).trans ?_
  rw [List.flatMap_append, List.filter_append]
  have key_ev : ∀ (x : KS) (e : Ev), e ∈ evOf a b x → e.key = x.1 := by
    intro x e he
    unfold evOf evA evB at he
    rw [List.mem_append] at he
    rcases he with he | he <;> split at he <;> simp at he <;> subst he <;> rfl
  have e1 : ((pairsOf M k).flatMap (evOf a b)).filter (fun e => decide (e.key = k)) = (pairsOf M k).flatMap (evOf a b) := by
    rw [List.filter_eq_self]
    intro e he
    rw [List.mem_flatMap] at he
    obtain ⟨x, hx, he⟩ := he
    unfold pairsOf at hx
    rw [List.mem_map] at hx
    obtain ⟨y, _, rfl⟩ := hx
    simp [key_ev _ _ he]
  have e2 : ((restOf M k).flatMap (evOf a b)).filter (fun e => decide (e.key = k)) = [] := by
    rw [List.filter_eq_nil_iff]
    intro e he
    rw [List.mem_flatMap] at he
    obtain ⟨x, hx, he⟩ := he
    rw [key_ev _ _ he]
    simp [mem_rest hx]
  rw [e1, e2, List.append_nil]
theorem lead {M : Sp} (h : M.Wf) {a b : Int} (ha : 0 ≤ a) (hab : a ≤ b) (k : ByteArray) : alt (M.has k a) ((M.events a b).filter fun e => decide (e.key = k)) = some (M.has k b) := by
  rw [events_key h ha]
  exact alt_one ha hab k _ (fun x hx => by have := h.span k x hx; unfold okS; omega) (h.order k)
end Go.Proofs
