/- Every order of a region comes to what the canonical reading says ('drawS_sound'). No program in sight. -/
import Derived.Test.YtgmfilpbabkjeaaLiftS
set_option linter.unusedVariables false
set_option linter.unusedSimpArgs false
namespace Go.L
open Go.RowKit

section
variable {P : Program} {r : Option Nat} {A : Ann} {n : Nat}

theorem foldl_or_mono {acc : List Nat} {j : Nat} : ∀ {ds : List Nat} {m : Nat}, m.testBit j = true → (ds.foldl (fun m d => m ||| 2 ^ d ||| acc.getD d 0) m).testBit j = true := by
  intro ds
  induction ds with
  | nil => exact fun h => h
  | cons d ds ih => exact fun h => ih (by simp [Nat.testBit_or, h])
theorem testBit_maskOf_of {acc : List Nat} {j d : Nat} : ∀ {ds : List Nat} {m : Nat}, d ∈ ds → (j = d ∨ (acc.getD d 0).testBit j = true) → (ds.foldl (fun m d => m ||| 2 ^ d ||| acc.getD d 0) m).testBit j = true := by
  intro ds
  induction ds with
  | nil => intro m h; simp at h
  | cons e ds ih =>
    intro m h hj
    rcases List.mem_cons.1 h with rfl | h
    · rw [List.foldl_cons]
      refine foldl_or_mono ?_
      rcases hj with rfl | hj
      · simp [Nat.testBit_or, Nat.testBit_two_pow]
      · simp only [Nat.testBit_or, hj, Bool.or_true]
    · exact ih h hj
theorem mask_of_dep {ops : Array Oper} {i d j : Nat} {o : Oper} (hg : Good ops) (hi : ops[i]? = some o) (hd : d ∈ depsOf o) (h : ((masks ops).getD d 0).testBit j = true) :
    ((masks ops).getD i 0).testBit j = true := by
  obtain ⟨acc', h1, h2⟩ := masksFrom_at ops.toList [] i o (by simpa using hi)
  simp only [List.length_nil, Nat.zero_add] at h1 h2
  have e : (masks ops).getD i 0 = maskOf acc' o := h1
  rw [e]
  exact testBit_maskOf_of hd (.inr (by rw [h2 d (hg.less i o d hi hd)]; exact h))
theorem mask_of_mem {ops : Array Oper} {i d : Nat} {o : Oper} (hg : Good ops) (hi : ops[i]? = some o) (hd : d ∈ depsOf o) : ((masks ops).getD i 0).testBit d = true := by
  obtain ⟨acc', h1, h2⟩ := masksFrom_at ops.toList [] i o (by simpa using hi)
  simp only [List.length_nil, Nat.zero_add] at h1 h2
  have e : (masks ops).getD i 0 = maskOf acc' o := h1
  rw [e]
  exact testBit_maskOf_of hd (.inl rfl)
theorem filter_len_le {p q : Nat → Bool} : ∀ {l : List Nat}, (∀ x ∈ l, p x = true → q x = true) → (l.filter p).length ≤ (l.filter q).length := by
  intro l
  induction l with
  | nil => exact fun _ => Nat.le_refl _
  | cons x l ih =>
    intro h
    have ih := ih fun y hy => h y (List.mem_cons_of_mem _ hy)
    have hx := h x (by simp)
    simp only [List.filter_cons]
    cases hp : p x with
    | false => cases hq : q x <;> simp <;> omega
    | true => rw [hx hp]; simp; omega
theorem filter_len_lt {p q : Nat → Bool} {y : Nat} : ∀ {l : List Nat}, (∀ x ∈ l, p x = true → q x = true) → y ∈ l → p y = false → q y = true → (l.filter p).length < (l.filter q).length := by
  intro l
  induction l with
  | nil => intro _ h; simp at h
  | cons x l ih =>
    intro h hy hp hq
    rcases List.mem_cons.1 hy with rfl | hy
    · have := filter_len_le (p := p) (q := q) (l := l) fun z hz => h z (List.mem_cons_of_mem _ hz)
      simp only [List.filter_cons, hp, hq]; simp; omega
    · have ih := ih (fun z hz => h z (List.mem_cons_of_mem _ hz)) hy hp hq
      have hx := h x (by simp)
      simp only [List.filter_cons]
      cases hp' : p x with
      | false => cases hq' : q x <;> simp <;> omega
      | true => rw [hx hp']; simp; omega
theorem mask_trans {ops : Array Oper} (hg : Good ops) : ∀ (a b c : Nat), a < ops.size → ((masks ops).getD a 0).testBit b = true → ((masks ops).getD b 0).testBit c = true → ((masks ops).getD a 0).testBit c = true := by
  intro a
  induction a using Nat.strongRecOn with
  | _ a ih =>
    intro b c ha hb hc
    have ho : ops[a]? = some ops[a] := Array.getElem?_eq_getElem ha
    obtain ⟨d, hd, h⟩ := mask_dep hg ho hb
    have hlt := hg.less a _ d ho hd
    rcases h with rfl | h
    · exact mask_of_dep hg ho hd hc
    · exact mask_of_dep hg ho hd (ih d hlt b c (by omega) h hc)
theorem lo_mono {ops : Array Oper} {i d : Nat} {o : Oper} {es : List Nat} (hg : Good ops) (hi : ops[i]? = some o) (hd : d ∈ depsOf o) : loOf (masks ops) es d ≤ loOf (masks ops) es i :=
  filter_len_le fun x _ h => mask_of_dep hg hi hd h
theorem hang_dep {ops : Array Oper} (hg : Good ops) {i j t : Nat} {o oj : Oper} (hi : ops[i]? = some o) (hh : hangs ops o t) (hj : ops[j]? = some oj) (hd : oj.dst = some t) : j ∈ depsOf o := by
  rcases hh with h | ⟨j', want, hgd, hb⟩
  · exact hg.slot i o t j oj hi h hj hd
  · cases hj' : ops[j']? with
    | none => rw [hj'] at hb; cases hb
    | some o' =>
      rw [hj'] at hb
      have : j' = j := hg.dst j' j o' oj t hj' hj hb hd
      subst this
      exact hg.guard i o j' want hi hgd

theorem rdStage_out {ops : Array Oper} (hg : Good ops) {es : List Nat} {k : Nat} {w wOld : World} : ∀ (idx : List Nat) (F : Fr) (K : Fr → Prop), idx.Pairwise (· < ·) →
    (∀ i ∈ idx, ∀ o, ops[i]? = some o → isRead o.op = true → loOf (masks ops) es i < k → k ≤ hiOf (masks ops) es i → RdRes P n ops o F wOld) →
    rdStage P A n ops (masks ops) es k w idx F K → ∃ F', K F' ∧
      (∀ s, (∀ i ∈ idx, ∀ o, ops[i]? = some o → isRead o.op = true → loOf (masks ops) es i = k → o.dst ≠ some s) → F' s = F s) ∧
      (∀ i ∈ idx, ∀ o, ops[i]? = some o → isRead o.op = true → (loOf (masks ops) es i = k ∨ (loOf (masks ops) es i < k ∧ k ≤ hiOf (masks ops) es i)) → RdRes P n ops o F' w) := by
  intro idx
  induction idx with
  | nil => exact fun F K _ _ h => ⟨F, h, fun _ _ => rfl, fun i hi => by simp at hi⟩
  | cons i rest ih =>
    intro F K hp hold h
    have hp' := (List.pairwise_cons.1 hp).2
    have hlt : ∀ j ∈ rest, i < j := (List.pairwise_cons.1 hp).1
    unfold rdStage at h
    cases hi : ops[i]? with
    | none =>
      rw [hi] at h
      obtain ⟨F', hK, h1, h2⟩ := ih F K hp' (fun j hj => hold j (List.mem_cons_of_mem _ hj)) h
      refine ⟨F', hK, fun s hs => h1 s fun j hj => hs j (List.mem_cons_of_mem _ hj), fun j hj o ho => ?_⟩
      rcases List.mem_cons.1 hj with rfl | hj
      · rw [hi] at ho; cases ho
      · exact h2 j hj o ho
    | some o =>
      rw [hi] at h
      simp only [] at h
      cases hr : isRead o.op with
      | false =>
        rw [hr] at h
        obtain ⟨F', hK, h1, h2⟩ := ih F K hp' (fun j hj => hold j (List.mem_cons_of_mem _ hj)) h
        refine ⟨F', hK, fun s hs => h1 s fun j hj => hs j (List.mem_cons_of_mem _ hj), fun j hj o' ho hr' => ?_⟩
        rcases List.mem_cons.1 hj with rfl | hj
        · rw [hi] at ho; cases ho; rw [hr] at hr'; cases hr'
        · exact h2 j hj o' ho hr'
      | true =>
        rw [hr] at h
        simp only [cond_true] at h
        -- what the rest turns is not what i hangs on, nor its own slot
        have keep : ∀ (F1 F' : Fr), (∀ s, (∀ j ∈ rest, ∀ oj, ops[j]? = some oj → isRead oj.op = true → loOf (masks ops) es j = k → oj.dst ≠ some s) → F' s = F1 s) →
            (∀ t, hangs ops o t → F' t = F1 t) ∧ (∀ d, o.dst = some d → F' d = F1 d) := by
          intro F1 F' h1
          refine ⟨fun t ht => h1 t fun j hj oj hoj hrj hlj hd => ?_, fun d hd => h1 d fun j hj oj hoj hrj hlj hd' => ?_⟩
          · have := hg.less i o j hi (hang_dep hg hi ht hoj hd)
            have := hlt j hj; omega
          · have := hg.dst i j o oj d hi hoj hd hd'
            have := hlt j hj; omega
        cases hlo : Nat.beq (loOf (masks ops) es i) k with
        | true =>
          rw [hlo] at h
          simp only [cond_true] at h
          have hlo := Nat.eq_of_beq_eq_true hlo
          have fresh : ∀ d, o.dst = some d → ¬ hangs ops o d := fun d hd hh => by
            have := hg.less i o i hi (hang_dep hg hi hh hi hd); omega
          have next : ∀ v : Value, rdStage P A n ops (masks ops) es k w rest (putF F o.dst v) K → RdRes P n ops o (putF F o.dst v) w → ∃ F', K F' ∧
              (∀ s, (∀ j ∈ i :: rest, ∀ o, ops[j]? = some o → isRead o.op = true → loOf (masks ops) es j = k → o.dst ≠ some s) → F' s = F s) ∧
              (∀ j ∈ i :: rest, ∀ o, ops[j]? = some o → isRead o.op = true → (loOf (masks ops) es j = k ∨ (loOf (masks ops) es j < k ∧ k ≤ hiOf (masks ops) es j)) → RdRes P n ops o F' w) := by
            intro v h hR
            have hput : ∀ s, o.dst ≠ some s → putF F o.dst v s = F s := by
              intro s hs
              cases hd : o.dst with
              | none => rfl
              | some d =>
                show upd F d v s = F s
                have : Nat.beq s d = false := by
                  cases hb : Nat.beq s d with
                  | false => rfl
                  | true => have := Nat.eq_of_beq_eq_true hb; subst this; exact absurd hd hs
                simp only [upd, this, cond_false]
            obtain ⟨F', hK, h1, h2⟩ := ih (putF F o.dst v) K hp' (fun j hj oj hoj hrj hl hk => by
              have hold' := hold j (List.mem_cons_of_mem _ hj) oj hoj hrj hl hk
              refine hold'.congr hrj (fun t ht => hput t fun hd => ?_) (fun d hd => hput d fun hd' => ?_)
              · have := lo_mono (es := es) hg hoj (hang_dep hg hoj ht hi hd); omega
              · have := hg.dst i j o oj d hi hoj hd' hd
                have := hlt j hj; omega) h
            refine ⟨F', hK, fun s hs => ?_, fun j hj oj hoj hrj hl => ?_⟩
            · rw [h1 s fun j hj => hs j (List.mem_cons_of_mem _ hj)]
              exact hput s (hs i (by simp) o hi hr hlo)
            · rcases List.mem_cons.1 hj with rfl | hj
              · rw [hi] at hoj; cases hoj
                obtain ⟨k1, k2⟩ := keep _ _ h1
                exact hR.congr hr k1 k2
              · exact h2 j hj oj hoj hrj hl
          have same : ∀ (v : Value) t, hangs ops o t → putF F o.dst v t = F t := by
            intro v t ht
            cases hd : o.dst with
            | none => rfl
            | some d =>
              show upd F d v t = F t
              have : Nat.beq t d = false := by
                cases hb : Nat.beq t d with
                | false => rfl
                | true => have := Nat.eq_of_beq_eq_true hb; subst this; exact absurd ht (fresh t hd)
              simp only [upd, this, cond_false]
          have own : ∀ (v : Value) d, o.dst = some d → putF F o.dst v d = v := by
            intro v d hd
            rw [hd]
            show upd F d v d = v
            simp [upd]
          rcases guarded_out h with ⟨hw, h⟩ | ⟨hw, h⟩
          · obtain ⟨v, hk, e1, e2⟩ := rdOp_sound hr h
            have he := ev_hangs (n := n) (same v)
            have hx := execOp_congr (ρ := ev n (putF F o.dst v)) (ρ' := ev n F) o (noSelect_read hr) he
            refine next v hk ⟨fun _ => ⟨v, fun d hd => own v d hd, by rw [hx]; exact e1, fun hwd w' => by rw [hx]; exact e2 (by rw [← wdep_congr he]; exact hwd) w'⟩, fun hw' => ?_⟩
            rw [wants_hangs (same v), hw] at hw'; cases hw'
          · refine next undef h ⟨fun hw' => ?_, fun _ d hd => own undef d hd⟩
            rw [wants_hangs (same undef), hw] at hw'; cases hw'
        | false =>
          rw [hlo] at h
          simp only [cond_false] at h
          have hne : loOf (masks ops) es i ≠ k := fun e => by rw [e] at hlo; simp at hlo
          have fin : rdStage P A n ops (masks ops) es k w rest F K → (loOf (masks ops) es i < k → k ≤ hiOf (masks ops) es i → RdRes P n ops o F w) → ∃ F', K F' ∧
              (∀ s, (∀ j ∈ i :: rest, ∀ o, ops[j]? = some o → isRead o.op = true → loOf (masks ops) es j = k → o.dst ≠ some s) → F' s = F s) ∧
              (∀ j ∈ i :: rest, ∀ o, ops[j]? = some o → isRead o.op = true → (loOf (masks ops) es j = k ∨ (loOf (masks ops) es j < k ∧ k ≤ hiOf (masks ops) es j)) → RdRes P n ops o F' w) := by
            intro h hR
            obtain ⟨F', hK, h1, h2⟩ := ih F K hp' (fun j hj => hold j (List.mem_cons_of_mem _ hj)) h
            refine ⟨F', hK, fun s hs => h1 s fun j hj => hs j (List.mem_cons_of_mem _ hj), fun j hj oj hoj hrj hl => ?_⟩
            rcases List.mem_cons.1 hj with rfl | hj
            · rw [hi] at hoj; cases hoj
              obtain ⟨k1, k2⟩ := keep _ _ h1
              exact (hR (hl.resolve_left hne).1 (hl.resolve_left hne).2).congr hr k1 k2
            · exact h2 j hj oj hoj hrj hl
          cases hc : (Nat.blt (loOf (masks ops) es i) k && Nat.ble k (hiOf (masks ops) es i) && wdep (ev n F) o.op) with
          | true =>
            rw [hc] at h
            simp only [cond_true] at h
            obtain ⟨hchk, h⟩ := h
            refine fin h fun hl hk => ?_
            have hO := hold i (by simp) o hi hr hl hk
            rcases guarded_out hchk with ⟨hw, h⟩ | ⟨hw, _⟩
            · obtain ⟨v, hk, e1, e2⟩ := rdOp_sound hr h
              exact ⟨fun _ => ⟨v, fun d hd => by rw [hd] at hk; exact hk.symm, e1, e2⟩, hO.2⟩
            · exact ⟨fun hw' => (by rw [hw] at hw'; cases hw'), hO.2⟩
          | false =>
            rw [hc] at h
            simp only [cond_false] at h
            refine fin h fun hl hk => ?_
            have hO := hold i (by simp) o hi hr hl hk
            have hwd : wdep (ev n F) o.op = false := by
              cases hwd : wdep (ev n F) o.op with
              | false => rfl
              | true =>
                have h1 : Nat.blt (loOf (masks ops) es i) k = true := by simpa [Nat.blt_eq] using hl
                have h2 : Nat.ble k (hiOf (masks ops) es i) = true := by simpa using hk
                rw [h1, h2, hwd] at hc; cases hc
            refine ⟨fun hw => ?_, hO.2⟩
            obtain ⟨v, h1, h2, h3⟩ := hO.1 hw
            exact ⟨v, h1, h3 hwd w, h3⟩

/-- What is left to be read when k effects are over. -/
def Resid (P : Program) (r : Option Nat) (A : Ann) (n : Nat) (ops : Array Oper) (K : KF) (X : List PanicEntry → KF) (l : List Nat) (k : Nat) (F : Fr) (D : List Deferred) (w : World) : Prop :=
  match l with
  | [] => K F D w
  | e :: l => match ops[e]? with
    | none => False
    | some o =>
      guarded n ops o F
        (fun f'' => stepOp P r A n o f'' D w (fun v D' w' => stages P r A n ops (masks ops) (effs ops) K X l (k + 1) (putF f'' o.dst v) D' w') (fun c D' w' => ∀ g : Fr, X c g D' w'))
        (fun f'' => stages P r A n ops (masks ops) (effs ops) K X l (k + 1) (putF f'' o.dst undef) D w)
theorem stages_eq {ops : Array Oper} {K : KF} {X : List PanicEntry → KF} {l : List Nat} {k : Nat} {F : Fr} {D : List Deferred} {w : World}
    (h : stages P r A n ops (masks ops) (effs ops) K X l k F D w) : rdStage P A n ops (masks ops) (effs ops) k w (List.range ops.size) F fun F' => Resid P r A n ops K X l k F' D w := by
  cases l with
  | nil => exact h
  | cons e l => exact h
structure Inv (P : Program) (n : Nat) (ops : Array Oper) (listed : Array Bool) (k : Nat) (l : List Nat) (f F : Fr) (w : World) : Prop where
  size : listed.size = ops.size
  closed : Closed ops (fun i => listed.getD i false)
  effs : ∃ pre, effs ops = pre ++ l ∧ pre.length = k ∧ (∀ e ∈ pre, listed.getD e false = true) ∧ (∀ e ∈ l, listed.getD e false = false)
  reads : ∀ (i : Nat) (o : Oper), ops[i]? = some o → isRead o.op = true → loOf (masks ops) (L.effs ops) i ≤ k → k ≤ hiOf (masks ops) (L.effs ops) i → RdRes P n ops o F w
  done : ∀ (i : Nat) (o : Oper), ops[i]? = some o → isRead o.op = true → listed.getD i false = true → loOf (masks ops) (L.effs ops) i ≤ k
  same : ∀ s, (∀ (i : Nat) (o : Oper), ops[i]? = some o → o.dst = some s → listed.getD i false = true) → f s = F s
theorem listed_lt {ops : Array Oper} {listed : Array Bool} (h : listed.size = ops.size) {i : Nat} (hi : listed.getD i false = true) : i < ops.size := by
  rcases Nat.lt_or_ge i listed.size with h' | h'
  · omega
  · simp [Array.getD, show ¬ i < listed.size by omega] at hi
theorem mem_ready {ops : Array Oper} {listed : Array Bool} (hs : listed.size = ops.size) {i : Nat} (h : i ∈ Region.ready .any ops listed) :
    ∃ o, ops[i]? = some o ∧ listed.getD i false = false ∧ ∀ d ∈ depsOf o, listed.getD d false = true := by
  unfold Region.ready at h
  obtain ⟨hr, hc⟩ := List.mem_filter.1 h
  have hlt : i < ops.size := List.mem_range.1 hr
  simp only [Bool.and_eq_true, Bool.not_eq_true'] at hc
  have ho : ops[i]? = some ops[i] := Array.getElem?_eq_getElem hlt
  refine ⟨_, ho, ?_, fun d hd => ?_⟩
  · have := hc.1
    simp only [Array.getD, hs, hlt, dite_true] at this ⊢
    exact this
  · have h2 := hc.2
    rw [ho] at h2
    simp only [Option.map_some, Option.getD_some] at h2
    obtain ⟨e, he, rfl⟩ := List.mem_map.1 hd
    obtain ⟨he1, he2⟩ := List.mem_filter.1 he
    have := (Array.all_eq_true_iff_forall_mem.1 h2) e (by simpa using he1)
    rw [he2] at this; simpa using this
theorem ready_nil {ops : Array Oper} {listed : Array Bool} (hg : Good ops) (hs : listed.size = ops.size) (h : Region.ready .any ops listed = []) : ∀ i, i < ops.size → listed.getD i false = true := by
  intro i
  induction i using Nat.strongRecOn with
  | _ i ih =>
    intro hlt
    cases hl : listed.getD i false with
    | true => rfl
    | false =>
      exfalso
      have ho : ops[i]? = some ops[i] := Array.getElem?_eq_getElem hlt
      have hm : i ∈ Region.ready .any ops listed := by
        unfold Region.ready
        refine List.mem_filter.2 ⟨List.mem_range.2 hlt, ?_⟩
        simp only [Bool.and_eq_true, Bool.not_eq_true']
        refine ⟨?_, ?_⟩
        · simp only [Array.getD, hs, hlt, dite_true] at hl ⊢; exact hl
        · rw [ho]
          simp only [Option.map_some, Option.getD_some]
          refine Array.all_eq_true_iff_forall_mem.2 fun e he => ?_
          cases hb : Region.binds .any e with
          | false => rfl
          | true =>
            have hd : e.on ∈ depsOf ops[i] := List.mem_map.2 ⟨e, List.mem_filter.2 ⟨by simpa using he, hb⟩, rfl⟩
            have hlt' := hg.less i _ _ ho hd
            have := ih e.on hlt' (by omega)
            simp [this]
      rw [h] at hm; simp at hm
theorem getD_set {listed : Array Bool} {i j : Nat} (hi : i < listed.size) : (listed.setIfInBounds i true).getD j false = if j = i then true else listed.getD j false := by
  simp only [Array.getD_eq_getD_getElem?, Array.getElem?_setIfInBounds]
  by_cases e : i = j
  · subst e; simp [hi]
  · have : ¬ j = i := fun h => e h.symm
    simp [e, this]
theorem mem_effs {ops : Array Oper} {i : Nat} : i ∈ effs ops ↔ ∃ o, ops[i]? = some o ∧ isRead o.op = false := by
  unfold effs
  rw [List.mem_filter]
  constructor
  · rintro ⟨h1, h2⟩
    have hlt := List.mem_range.1 h1
    rw [Array.getElem?_eq_getElem hlt] at h2
    exact ⟨_, Array.getElem?_eq_getElem hlt, by simpa using h2⟩
  · rintro ⟨o, ho, hr⟩
    have hlt := (Array.getElem?_eq_some_iff.1 ho).1
    refine ⟨List.mem_range.2 hlt, ?_⟩
    rw [ho]; simp [hr]
theorem chain_at : ∀ {l : List Nat} {ms : List Nat} {pre : List Nat} {a b : Nat} {post : List Nat}, chainOk ms l = true → l = pre ++ a :: b :: post → (ms.getD b 0).testBit a = true := by
  intro l ms pre
  induction pre generalizing l with
  | nil => intro a b post h e; subst e; simp only [List.nil_append, chainOk, Bool.and_eq_true] at h; exact h.1
  | cons x pre ih =>
    intro a b post h e
    subst e
    cases pre with
    | nil => simp only [List.cons_append, List.nil_append, chainOk, Bool.and_eq_true] at h; exact h.2.1
    | cons y pre => simp only [List.cons_append, chainOk, Bool.and_eq_true] at h; exact ih (l := y :: (pre ++ a :: b :: post)) h.2 rfl
theorem effs_nodup (ops : Array Oper) : (effs ops).Nodup := List.Nodup.sublist (List.filter_sublist) List.nodup_range
theorem last_or_mem {x : Nat} : ∀ {l : List Nat}, x ∈ l → ∃ pre, (pre = [] ∧ ∃ post, l = x :: post) ∨ ∃ a, ∃ p post, pre = p ++ [a] ∧ l = p ++ a :: x :: post := by
  intro l
  induction l with
  | nil => intro h; simp at h
  | cons y l ih =>
    intro h
    rcases List.mem_cons.1 h with rfl | h
    · exact ⟨[], .inl ⟨rfl, l, rfl⟩⟩
    · obtain ⟨pre, h | h⟩ := ih h
      · obtain ⟨_, post, rfl⟩ := h
        exact ⟨[y], .inr ⟨y, [], post, rfl, rfl⟩⟩
      · obtain ⟨a, p, post, _, rfl⟩ := h
        exact ⟨(y :: p) ++ [a], .inr ⟨a, y :: p, post, rfl, rfl⟩⟩

theorem stepOp_congr {o : Oper} {f F : Fr} {D : List Deferred} {w : World} {K : KV} {X : KX} (hs : ∀ cs b, o.op ≠ .select cs b) (h : ∀ x ∈ o.op.operands, ev n F x = ev n f x) (hst : stepOp P r A n o F D w K X) : stepOp P r A n o f D w K X := by
  have hsem : o.semAt r (ev n F) = o.semAt r (ev n f) := by
    unfold Oper.semAt
    cases r with
    | none => exact execOp_congr o hs h
    | some l =>
      cases ho : o.op <;> first | exact execOp_congr o hs h | skip
      case defer c =>
        simp only []
        rw [resolve_congr c _ (fun x hx => h x (by rw [ho]; simpa [Op.operands] using hx))]
  have hraw : rawK P r A n o F D w K X = rawK P r A n o f D w K X := by unfold rawK; rw [hsem]
  have hown := own_congr (o := o.op) h
  unfold stepOp at hst ⊢
  rw [← hown]
  have hsp := own_spec (ev n F) o.op
  cases hO : Own.of (ev n F) o.op with
  | load t a =>
    rw [hO] at hst hsp
    have hsp : o.op = .load t a := hsp
    have ha := h a (by rw [hsp]; simp [Op.operands])
    simp only [] at hst ⊢
    rw [← ha]; exact hst
  | nilCheck x =>
    rw [hO] at hst hsp
    have hsp : o.op = .nilCheck x := hsp
    have ha := h x (by rw [hsp]; simp [Op.operands])
    simp only [] at hst ⊢
    rw [← ha]; exact hst
  | indexAddr t x i =>
    rw [hO] at hst hsp
    have hsp : o.op = .indexAddr t x i := hsp
    have ha := h x (by rw [hsp]; simp [Op.operands])
    have hb := h i (by rw [hsp]; simp [Op.operands])
    simp only [] at hst ⊢
    rw [← ha, ← hb]; exact hst
  | index t x i =>
    rw [hO] at hst hsp
    have hsp : o.op = .index t x i := hsp
    have ha := h x (by rw [hsp]; simp [Op.operands])
    have hb := h i (by rw [hsp]; simp [Op.operands])
    simp only [] at hst ⊢
    rw [← ha, ← hb, ← hraw]; exact hst
  | slice t x lo hi =>
    rw [hO] at hst hsp
    have hsp : o.op = .slice t x lo hi none := hsp
    have ha := h x (by rw [hsp]; simp [Op.operands])
    have hlo : lo.map (ev n F) = lo.map (ev n f) := by
      cases lo with
      | none => rfl
      | some y => simp only [Option.map_some]; rw [h y (by rw [hsp]; simp [Op.operands])]
    have hhi : hi.map (ev n F) = hi.map (ev n f) := by
      cases hi with
      | none => rfl
      | some y => simp only [Option.map_some]; rw [h y (by rw [hsp]; simp [Op.operands])]
    simp only [] at hst ⊢
    rw [← ha, ← hlo, ← hhi]; exact hst
  | pick c a b =>
    rw [hO] at hst hsp
    have hsp : o.op = .pick c a b := hsp
    have h1 := h c (by rw [hsp]; simp [Op.operands])
    have h2 := h a (by rw [hsp]; simp [Op.operands])
    have h3 := h b (by rw [hsp]; simp [Op.operands])
    simp only [] at hst ⊢
    rw [← h1, ← h2, ← h3]; exact hst
  | cat t x y u =>
    rw [hO] at hst hsp
    have hsp : o.op = .binOp .add t x y u := hsp
    have h1 := h x (by rw [hsp]; simp [Op.operands])
    have h2 := h y (by rw [hsp]; simp [Op.operands])
    simp only [] at hst ⊢
    rw [← h1, ← h2, ← hraw]; exact hst
  | call g args ts =>
    rw [hO] at hst hsp
    have hsp : o.op = .call { callee := .value g, args := args, argTypes := ts } := hsp
    have h1 := h g (by rw [hsp]; simp [Op.operands, Call.operands])
    have h2 : args.toList.map (ev n F) = args.toList.map (ev n f) := List.map_congr_left fun x hx => h x (by rw [hsp]; simp [Op.operands, Call.operands]; right; simpa using hx)
    simp only [] at hst ⊢
    rw [← h1, ← h2, ← hraw]; exact hst
  | nileq neg t x c u =>
    rw [hO] at hst hsp
    have hsp : o.op = .binOp (if neg then .neq else .eql) t x (.const c) u := hsp
    have h1 := h x (by rw [hsp]; simp [Op.operands])
    simp only [] at hst ⊢
    rw [← h1]; exact hst
  | run =>
    rw [hO] at hst
    simp only [] at hst ⊢
    have hse : semOf (ev n F) o = semOf (ev n f) o := by
      unfold semOf
      cases ho : o.op <;> (try simp only []) <;> (rw [ho] at h)
      all_goals first
        | rfl
        | (simp only [Op.operands, List.mem_toArray, List.mem_cons, List.not_mem_nil, or_false, forall_eq_or_imp, forall_eq] at h; simp_all; done)
        | skip
      all_goals (try (simp [Op.operands] at h; simp_all; done))
      case call c =>
        obtain ⟨callee, args, ts⟩ := c
        cases callee <;> try rfl
        case builtin b =>
          have h2 : args.toList.map (ev n F) = args.toList.map (ev n f) := List.map_congr_left fun x hx => h x (by simp [Op.operands, Call.operands]; simpa using hx)
          simp only [h2]
    rw [← hse]; exact hst
  | other =>
    rw [hO] at hst
    simp only [] at hst ⊢
    rw [← hraw]; exact hst
end
end Go.L
