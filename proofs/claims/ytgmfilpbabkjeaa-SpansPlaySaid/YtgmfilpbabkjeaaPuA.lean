/- Spans, pure: all spans in one row ('pairs') behind put, drop, trim; counts. Seat s14. -/
import Derived.Test.YtgmfilpbabkjeaaSpY
set_option linter.unusedVariables false
set_option linter.unusedSimpArgs false
set_option maxRecDepth 100000
namespace Go.Proofs
open Go.L Go.RowKit Go.Sort

theorem nodup_of_rising {l : List ByteArray} (h : l.Pairwise fun a b => lt a b = true) : l.Nodup :=
  h.imp fun {a b} h e => by subst e; rw [show lt a a = false from Go.L.lt_irrefl a] at h; cases h
theorem flat_filter {α β : Type} (g : α → List β) (p : α → Bool) : ∀ l : List α, (∀ x ∈ l, p x = false → g x = []) → (l.filter p).flatMap g = l.flatMap g := by
  intro l
  induction l with
  | nil => exact fun _ => rfl
  | cons x l ih =>
    intro h
    have ih := ih fun y hy => h y (List.mem_cons_of_mem _ hy)
    cases hp : p x with
    | true => rw [List.filter_cons, if_pos hp, List.flatMap_cons, List.flatMap_cons, ih]
    | false => rw [List.filter_cons, if_neg (by simp [hp]), List.flatMap_cons, h x (by simp) hp, List.nil_append, ih]
theorem perm_flat {β : Type} {g : ByteArray → List β} {l l' : List ByteArray} (h : l.Nodup) (h' : l'.Nodup) (hg : ∀ x, g x ≠ [] → (x ∈ l ↔ x ∈ l')) : (l.flatMap g).Perm (l'.flatMap g) := by
  have e : ∀ l : List ByteArray, (l.filter fun x => !(g x).isEmpty).flatMap g = l.flatMap g := fun l => flat_filter g _ l fun x _ hx => by simpa using hx
  rw [← e l, ← e l']
  refine List.Perm.flatMap_right g ?_
  rw [List.perm_ext_iff_of_nodup (h.sublist List.filter_sublist) (h'.sublist List.filter_sublist)]
  intro x
  rw [List.mem_filter, List.mem_filter]
  constructor
  · rintro ⟨h1, h2⟩; exact ⟨(hg x (by simpa using h2)).1 h1, h2⟩
  · rintro ⟨h1, h2⟩; exact ⟨(hg x (by simpa using h2)).2 h1, h2⟩
theorem pairsOf_nil {M : Sp} {k : ByteArray} (h : pairsOf M k ≠ []) : M.all k ≠ [] := by
  intro e; apply h; unfold pairsOf; rw [e]; rfl
def restOf (M : Sp) (key : ByteArray) : List KS := (M.keys.filter fun k => !decide (k = key)).flatMap (pairsOf M)
theorem pairs_split {M : Sp} (h : M.Ok) (key : ByteArray) : (pairs M).Perm (pairsOf M key ++ restOf M key) := by
  have hn := nodup_of_rising h.rising
  have e : pairsOf M key ++ restOf M key = (key :: M.keys.filter fun k => !decide (k = key)).flatMap (pairsOf M) := by rw [List.flatMap_cons]; rfl
  rw [e]
  refine perm_flat hn (List.nodup_cons.2 ⟨fun hm => by simp at hm, hn.sublist List.filter_sublist⟩) fun x hx => ?_
  have hm := h.mem x (pairsOf_nil hx)
  rw [List.mem_cons, List.mem_filter]
  by_cases e : x = key
  · simp [e]; exact e ▸ hm
  · simp [e, hm]
theorem rest_off {M M' : Sp} (h : M.Ok) (h' : M'.Ok) {key : ByteArray} (he : ∀ k, k ≠ key → M'.all k = M.all k) : (restOf M' key).Perm (restOf M key) := by
  have e : restOf M' key = (M'.keys.filter fun k => !decide (k = key)).flatMap (pairsOf M) := by
    unfold restOf
    rw [List.flatMap_def, List.flatMap_def]
    congr 1
    refine List.map_congr_left fun k hk => ?_
    rw [List.mem_filter] at hk
    unfold pairsOf
    rw [he k (by simpa using hk.2)]
  rw [e]
  refine perm_flat ((nodup_of_rising h'.rising).sublist List.filter_sublist) ((nodup_of_rising h.rising).sublist List.filter_sublist) fun x hx => ?_
  have hx := pairsOf_nil hx
  rw [List.mem_filter, List.mem_filter]
  constructor
  · rintro ⟨_, h2⟩; exact ⟨h.mem x hx, h2⟩
  · rintro ⟨_, h2⟩; refine ⟨h'.mem x ?_, h2⟩; rw [he x (by simpa using h2)]; exact hx
theorem mem_rest {M : Sp} {key : ByteArray} {x : KS} (h : x ∈ restOf M key) : x.1 ≠ key := by
  unfold restOf at h
  rw [List.mem_flatMap] at h
  obtain ⟨k, hk, hx⟩ := h
  rw [List.mem_filter] at hk
  unfold pairsOf at hx
  rw [List.mem_map] at hx
  obtain ⟨y, _, rfl⟩ := hx
  simpa using hk.2
theorem mem_pairs {M : Sp} (h : M.Ok) {x : KS} : x ∈ pairs M ↔ x.2 ∈ M.all x.1 := by
  unfold pairs
  rw [List.mem_flatMap]
  constructor
  · rintro ⟨k, _, hx⟩
    unfold pairsOf at hx
    rw [List.mem_map] at hx
    obtain ⟨y, hy, rfl⟩ := hx
    exact hy
  · intro hx
    refine ⟨x.1, h.mem _ (List.ne_nil_of_mem hx), ?_⟩
    unfold pairsOf
    exact List.mem_map.2 ⟨x.2, hx, rfl⟩

/-! ### put -/
theorem put_true {M : Sp} {key : ByteArray} {rev : Int} (h : (M.put key rev).2 = true) :
    1 ≤ rev ∧ M.last ≤ rev ∧ openOf (M.all key) = none ∧ (M.put key rev).1 = ⟨updA M.all key (M.all key ++ [(rev, 0)]), if hasKey M.keys key then M.keys else insertAt M.keys (rank M.keys key) key, rev⟩ := by
  unfold Sp.put at h ⊢
  by_cases h1 : rev < 1
  · rw [if_pos h1] at h; cases h
  rw [if_neg h1] at h ⊢
  by_cases h2 : rev < M.last
  · rw [if_pos h2] at h; cases h
  rw [if_neg h2] at h ⊢
  cases h3 : openOf (M.all key) with
  | some f => rw [h3] at h; cases h
  | none => exact ⟨by omega, by omega, rfl, rfl⟩
theorem put_false {M : Sp} {key : ByteArray} {rev : Int} (h : (M.put key rev).2 = false) : (M.put key rev).1 = M := by
  unfold Sp.put at h ⊢
  by_cases h1 : rev < 1
  · rw [if_pos h1]
  rw [if_neg h1] at h ⊢
  by_cases h2 : rev < M.last
  · rw [if_pos h2]
  rw [if_neg h2] at h ⊢
  cases h3 : openOf (M.all key) with
  | some f => rfl
  | none => rw [h3] at h; cases h
theorem put_is {M : Sp} {key : ByteArray} {rev : Int} (h1 : 1 ≤ rev) (h2 : M.last ≤ rev) (h3 : openOf (M.all key) = none) : (M.put key rev).2 = true := by
  unfold Sp.put; rw [if_neg (by omega), if_neg (by omega), h3]
theorem put_isnt {M : Sp} {key : ByteArray} {rev f : Int} (h3 : openOf (M.all key) = some f) : (M.put key rev).2 = false := by
  unfold Sp.put
  split
  · rfl
  · split
    · rfl
    · rw [h3]
theorem put_all {M : Sp} {key : ByteArray} {rev : Int} (h : (M.put key rev).2 = true) (k : ByteArray) : (M.put key rev).1.all k = if k = key then M.all key ++ [(rev, 0)] else M.all k := by
  rw [(put_true h).2.2.2]; rfl
theorem put_Ok {M : Sp} (h : M.Ok) {key : ByteArray} (hs : key.size ≤ maxLen) (rev : Int) : (M.put key rev).1.Ok := by
  cases hp : (M.put key rev).2 with
  | false => rw [put_false hp]; exact h
  | true => rw [(put_true hp).2.2.2]; exact put_ok h hs rev
theorem pairs_put {M : Sp} (h : M.Ok) {key : ByteArray} (hs : key.size ≤ maxLen) {rev : Int} (hp : (M.put key rev).2 = true) : (pairs (M.put key rev).1).Perm (pairs M ++ [(key, (rev, 0))]) := by
  have h' := put_Ok h hs rev
  have e : pairsOf (M.put key rev).1 key = pairsOf M key ++ [(key, (rev, 0))] := by
    unfold pairsOf; rw [put_all hp, if_pos rfl, List.map_append]; rfl
  refine (pairs_split h' key).trans ?_
  rw [e]
  refine (List.Perm.append_left _ (rest_off h h' (key := key) fun k hk => by rw [put_all hp, if_neg hk])).trans ?_
  refine List.Perm.trans ?_ ((pairs_split h key).symm.append_right _)
  rw [List.append_assoc, List.append_assoc]
  exact List.Perm.append_left _ List.perm_append_comm

/-! ### drop -/
theorem drop_true {M : Sp} {key : ByteArray} {rev : Int} (h : (M.drop key rev).2 = true) :
    M.last ≤ rev ∧ ∃ f, openOf (M.all key) = some f ∧ f < rev ∧ (M.drop key rev).1 = ⟨updA M.all key (setLast (M.all key) f rev), M.keys, rev⟩ := by
  unfold Sp.drop at h ⊢
  by_cases h2 : rev < M.last
  · rw [if_pos h2] at h; cases h
  rw [if_neg h2] at h ⊢
  cases h3 : openOf (M.all key) with
  | none => rw [h3] at h; cases h
  | some f =>
    rw [h3] at h
    simp only [] at h ⊢
    by_cases h4 : f ≥ rev
    · rw [if_pos h4] at h; cases h
    · rw [if_neg h4]; exact ⟨by omega, f, rfl, by omega, rfl⟩
theorem drop_false {M : Sp} {key : ByteArray} {rev : Int} (h : (M.drop key rev).2 = false) : (M.drop key rev).1 = M := by
  unfold Sp.drop at h ⊢
  by_cases h2 : rev < M.last
  · rw [if_pos h2]
  rw [if_neg h2] at h ⊢
  cases h3 : openOf (M.all key) with
  | none => rfl
  | some f =>
    rw [h3] at h
    simp only [] at h ⊢
    by_cases h4 : f ≥ rev
    · rw [if_pos h4]
    · rw [if_neg h4] at h; cases h
theorem drop_is {M : Sp} {key : ByteArray} {rev f : Int} (h2 : M.last ≤ rev) (h3 : openOf (M.all key) = some f) (h4 : f < rev) : (M.drop key rev).2 = true := by
  unfold Sp.drop; rw [if_neg (by omega), h3]; simp only []; rw [if_neg (by omega)]
theorem drop_isnt {M : Sp} {key : ByteArray} {rev : Int} (h3 : ∀ f, openOf (M.all key) = some f → rev ≤ f) : (M.drop key rev).2 = false := by
  unfold Sp.drop
  split
  · rfl
  · cases h : openOf (M.all key) with
    | none => rfl
    | some f => simp only []; rw [if_pos (h3 f h)]
theorem openOf_some {l : List (Int × Int)} {f : Int} (h : openOf l = some f) : l = l.dropLast ++ [(f, 0)] := by
  obtain ⟨hne, hl⟩ := openOf_last h
  have h1 := List.dropLast_concat_getLast hne
  have h2 : l.getLast hne = (f, 0) := by
    rw [List.getLast_eq_getElem hne]
    exact (List.getElem_eq_iff (by have := List.length_pos_iff.2 hne; omega)).2 hl
  rw [h2] at h1; exact h1.symm
theorem setLast_eq {l : List (Int × Int)} {f r : Int} (h : openOf l = some f) : setLast l f r = l.dropLast ++ [(f, r)] := by
  have e := openOf_some h
  generalize l.dropLast = l0 at e
  subst e
  unfold setLast
  simp
theorem drop_all {M : Sp} {key : ByteArray} {rev f : Int} (h : (M.drop key rev).2 = true) (hf : openOf (M.all key) = some f) (k : ByteArray) : (M.drop key rev).1.all k = if k = key then (M.all key).dropLast ++ [(f, rev)] else M.all k := by
  obtain ⟨_, f', h1, _, h2⟩ := drop_true h
  rw [hf] at h1; cases h1
  rw [h2]
  show updA _ _ _ _ = _
  unfold updA
  rw [setLast_eq hf]
theorem drop_Ok {M : Sp} (h : M.Ok) (key : ByteArray) (rev : Int) : (M.drop key rev).1.Ok := by
  cases hp : (M.drop key rev).2 with
  | false => rw [drop_false hp]; exact h
  | true =>
    obtain ⟨_, f, h1, _, h2⟩ := drop_true hp
    refine ⟨?_, fun k hk => ?_, ?_⟩
    · rw [h2]; exact h.rising
    · have hk' : k ∈ M.keys := by
        refine h.mem k fun e => hk ?_
        rw [drop_all hp h1]
        split
        · rename_i e2; subst e2; rw [e] at h1; cases h1
        · exact e
      rw [h2]; exact hk'
    · rw [h2]; exact h.size
theorem pairs_drop {M : Sp} (h : M.Ok) {key : ByteArray} {rev : Int} (hp : (M.drop key rev).2 = true) :
    ∃ f, openOf (M.all key) = some f ∧ f < rev ∧ ∃ rest : List KS, (pairs M).Perm ((key, (f, 0)) :: rest) ∧ (pairs (M.drop key rev).1).Perm ((key, (f, rev)) :: rest) := by
  obtain ⟨_, f, h1, h2, _⟩ := drop_true hp
  have h' := drop_Ok h key rev
  refine ⟨f, h1, h2, (M.all key).dropLast.map (fun x => (key, x)) ++ restOf M key, ?_, ?_⟩
  · refine (pairs_split h key).trans ?_
    have e : pairsOf M key = (M.all key).dropLast.map (fun x => (key, x)) ++ [(key, (f, 0))] := by
      unfold pairsOf
      conv => lhs; rw [openOf_some h1]
      rw [List.map_append]; rfl
    rw [e, ← List.cons_append]
    exact List.Perm.append_right _ (List.perm_append_comm)
  · refine (pairs_split h' key).trans ?_
    have e : pairsOf (M.drop key rev).1 key = (M.all key).dropLast.map (fun x => (key, x)) ++ [(key, (f, rev))] := by
      unfold pairsOf
      rw [drop_all hp h1, if_pos rfl, List.map_append]; rfl
    rw [e, ← List.cons_append]
    exact List.Perm.append (List.perm_append_comm) (rest_off h h' (key := key) fun k hk => by rw [drop_all hp h1, if_neg hk])

/-! ### trim -/
theorem pairs_trim (M : Sp) (rev : Int) : pairs (M.trim rev) = (pairs M).filter fun x => !gone rev x.2 := by
  unfold pairs
  show ((M.keys.filter fun k => !decide (trimL rev (M.all k) = [])).flatMap (pairsOf (M.trim rev))) = _
  rw [flat_filter]
  · induction M.keys with
    | nil => rfl
    | cons k l ih =>
      rw [List.flatMap_cons, List.flatMap_cons, List.filter_append, ih]
      congr 1
      unfold pairsOf
      show (trimL rev (M.all k)).map _ = _
      unfold trimL
      rw [List.filter_map]
      rfl
  · intro k _ hk
    unfold pairsOf
    show (trimL rev (M.all k)).map _ = _
    have : trimL rev (M.all k) = [] := by simpa using hk
    rw [this]; rfl
theorem filter_len {α : Type} (p : α → Bool) (l : List α) : l.length - (l.filter fun x => !p x).length = (l.filter p).length := by
  induction l with
  | nil => rfl
  | cons x l ih =>
    have h1 := List.length_filter_le (fun x => !p x) l
    cases h : p x <;> simp [h] <;> omega
theorem trimN_eq (M : Sp) (rev : Int) : M.trimN rev = ((pairs M).filter fun x => gone rev x.2).length := by
  unfold Sp.trimN pairs
  induction M.keys with
  | nil => rfl
  | cons k l ih =>
    rw [List.map_cons, List.sum_cons, List.flatMap_cons, List.filter_append, List.length_append, ih]
    congr 1
    unfold lost trimL
    rw [filter_len]
    unfold pairsOf
    rw [List.filter_map, List.length_map]
    rfl
theorem trim_Ok {M : Sp} (h : M.Ok) (rev : Int) : (M.trim rev).Ok := by
  refine ⟨h.rising.sublist List.filter_sublist, fun k hk => ?_, fun k hk => h.size k ?_⟩
  · have hk : trimL rev (M.all k) ≠ [] := hk
    show k ∈ M.keys.filter _
    rw [List.mem_filter]
    refine ⟨h.mem k fun e => hk (by rw [e]; rfl), by simp [hk]⟩
  · have hk : k ∈ M.keys.filter _ := hk
    exact (List.mem_filter.1 hk).1
theorem empty_Ok : Sp.Ok .empty := ⟨.nil, fun k h => absurd rfl h, fun k h => by simp [Sp.empty] at h⟩

/-! ### counts, and what is there -/
def cnt1 (rev : Int) (x : KS) : Nat := if holds rev x.2 then 1 else 0
theorem count_perm {M : Sp} {l : List KS} (h : (pairs M).Perm l) (rev : Int) : M.count rev = cntP rev l := (h.filter _).length_eq
theorem cntP_cons (rev : Int) (x : KS) (l : List KS) : cntP rev (x :: l) = cnt1 rev x + cntP rev l := by
  unfold cntP cnt1; rw [List.filter_cons]; split <;> simp <;> omega
theorem count_put {M : Sp} (h : M.Ok) {key : ByteArray} (hs : key.size ≤ maxLen) {rev : Int} (hp : (M.put key rev).2 = true) (r : Int) : (M.put key rev).1.count r = M.count r + cnt1 r (key, (rev, 0)) := by
  rw [count_perm (pairs_put h hs hp), cntP_snoc]; rfl
theorem count_drop {M : Sp} (h : M.Ok) {key : ByteArray} {rev : Int} (hp : (M.drop key rev).2 = true) {f : Int} (hf : openOf (M.all key) = some f) (r : Int) : (M.drop key rev).1.count r + cnt1 r (key, (f, 0)) = M.count r + cnt1 r (key, (f, rev)) := by
  obtain ⟨f', h1, _, rest, h2, h3⟩ := pairs_drop h hp
  rw [hf] at h1; cases h1
  rw [count_perm h3, count_perm h2, cntP_cons, cntP_cons]; omega
theorem holds_gone {rev r : Int} (h : rev ≤ r) {x : Int × Int} (hx : holds r x = true) : gone rev x = false := by
  unfold holds at hx; unfold gone
  simp at hx ⊢
  intro h1
  rcases hx.2 with h2 | h2
  · exact absurd h2 h1
  · omega
theorem count_trim (M : Sp) {rev r : Int} (h : rev ≤ r) : (M.trim rev).count r = M.count r := by
  unfold Sp.count
  rw [pairs_trim, List.filter_filter]
  congr 1
  refine List.filter_congr fun x _ => ?_
  cases hx : holds r x.2 with
  | false => rfl
  | true => rw [holds_gone h hx]; rfl
theorem has_trim (M : Sp) {rev r : Int} (h : rev ≤ r) (k : ByteArray) : (M.trim rev).has k r = M.has k r := by
  unfold Sp.has
  show (trimL rev (M.all k)).any _ = _
  unfold trimL
  rw [List.any_filter]
  congr 1
  funext x
  cases hx : holds r x with
  | false => simp
  | true => rw [holds_gone h hx]; rfl
end Go.Proofs
