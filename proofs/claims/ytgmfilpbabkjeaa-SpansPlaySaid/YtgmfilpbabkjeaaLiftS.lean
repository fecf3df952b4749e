/- That the canonical reading of a region whose order is open is sound for every order ('drawS_sound'), and monotone. No program in sight. -/
import Derived.Test.YtgmfilpbabkjeaaLiftR
set_option linter.unusedVariables false
set_option linter.unusedSimpArgs false
namespace Go.L
open Go.RowKit

/-! ### frames alike off some slots -/
def elemN (i : Nat) : List Nat → Bool
  | [] => false
  | j :: l => Nat.beq i j || elemN i l
def dstsOf (ops : Array Oper) : List Nat := ops.toList.filterMap (·.dst)
theorem elemN_append (i : Nat) (l l' : List Nat) : elemN i (l ++ l') = (elemN i l || elemN i l') := by
  induction l with
  | nil => rfl
  | cons j l ih => simp only [List.cons_append, elemN, ih, Bool.or_assoc]
theorem elemN_iff {i : Nat} {l : List Nat} : elemN i l = true ↔ i ∈ l := by
  induction l with
  | nil => simp [elemN]
  | cons j l ih => simp only [elemN, Bool.or_eq_true, ih, List.mem_cons, Nat.beq_eq]
/-- Off some slots two frames are alike. -/
def agree (W : List Nat) (f f' : Fr) : Prop := ∀ i, elemN i W = false → f' i = f i
theorem agree.refl (W : List Nat) (f : Fr) : agree W f f := fun _ _ => rfl
theorem agree.trans {W W' : List Nat} {f f' f'' : Fr} (h : agree W f f') (h' : agree W' f' f'') : agree (W ++ W') f f'' := fun i hi => by
  rw [elemN_append, Bool.or_eq_false_iff] at hi
  exact (h' i hi.2).trans (h i hi.1)
theorem agree.sub {W W' : List Nat} {f f' : Fr} (h : agree W f f') (hs : ∀ i, elemN i W = true → elemN i W' = true) : agree W' f f' := fun i hi => h i (by
  cases hw : elemN i W with
  | false => rfl
  | true => rw [hs i hw] at hi; cases hi)

theorem agree_put {ops : Array Oper} {f0 f : Fr} {i : Nat} {o : Oper} {v : Value} (hi : ops[i]? = some o) (hf : agree (dstsOf ops) f0 f) : agree (dstsOf ops) f0 (putF f o.dst v) := by
  intro j hj
  cases ho : o.dst with
  | none => exact hf j hj
  | some d =>
    have hm : elemN d (dstsOf ops) = true := elemN_iff.2 (by
      unfold dstsOf
      rw [List.mem_filterMap]
      exact ⟨o, Array.mem_toList_iff.2 (Array.mem_of_getElem? hi), ho⟩)
    have hne : Nat.beq j d = false := by
      cases hb : Nat.beq j d with
      | false => rfl
      | true => have := Nat.eq_of_beq_eq_true hb; subst this; rw [hm] at hj; cases hj
    show upd f d v j = f0 j
    simp only [upd, hne, cond_false]; exact hf j hj


section
variable {P : Program} {r : Option Nat} {A : Ann} {n : Nat}

theorem yielded_of {ops : Array Oper} {f : Fr} {D : List Deferred} {j d : Nat} {b : Bool} (hj : (ops[j]?).bind (·.dst) = some d) (hd : d < n) (hb : f d = .bool b) :
    yielded ops (mkA n f D).tmps j = some b := by
  unfold yielded
  rw [hj]
  simp [tmps_mkA, hd, hb]
/-- Is the operation carried out, by its guard? -/
def wants (n : Nat) (ops : Array Oper) (o : Oper) (f : Fr) : Bool := Region.wanted o (yielded ops (mkA n f []).tmps)
theorem wants_eq {ops : Array Oper} {o : Oper} {f : Fr} (D : List Deferred) : Region.wanted o (yielded ops (mkA n f D).tmps) = wants n ops o f := rfl
theorem guarded_out {ops : Array Oper} {o : Oper} {f : Fr} {yes no : Fr → Prop} (h : guarded n ops o f yes no) :
    (wants n ops o f = true ∧ yes f) ∨ (wants n ops o f = false ∧ no f) := by
  unfold guarded at h
  split at h
  · rename_i hg
    exact .inl ⟨by unfold wants Region.wanted; rw [hg], h⟩
  · rename_i j want hg
    split at h
    · exact h.elim
    · rename_i d hj
      split at h
      · rename_i b hb
        have hd : d < n := by
          rcases Nat.lt_or_ge d n with h' | h'
          · exact h'
          · have : Nat.blt d n = false := by
              cases hbl : Nat.blt d n with
              | false => rfl
              | true => exact absurd (by simpa [Nat.blt_eq] using hbl) (by omega)
            rw [this] at hb; simp [undef] at hb
        have hblt : Nat.blt d n = true := by simpa [Nat.blt_eq] using hd
        rw [hblt] at hb
        have hb : f d = .bool b := hb
        have hy := yielded_of (n := n) (D := []) hj hd hb
        have hw : wants n ops o f = (b == want) := by
          unfold wants Region.wanted; rw [hg]; simp only [hy]; cases b <;> cases want <;> rfl
        rw [hw]
        cases b with
        | true =>
          simp only [iteP] at h
          rw [upd_self hb, keepB_eq] at h
          cases hk : (true == want) with
          | true => rw [hk] at h; exact .inl ⟨rfl, h⟩
          | false => rw [hk] at h; exact .inr ⟨rfl, h⟩
        | false =>
          simp only [iteP] at h
          rw [upd_self hb, keepB_eq] at h
          cases hk : (false == want) with
          | true => rw [hk] at h; exact .inl ⟨rfl, h⟩
          | false => rw [hk] at h; exact .inr ⟨rfl, h⟩
      · rename_i vs hb
        have hy : yielded ops (mkA n f []).tmps j = none := by
          unfold yielded
          rw [hj]
          simp only [Option.bind_some, tmps_mkA]
          by_cases hl : d < n
          · have hbl : Nat.blt d n = true := by simpa [Nat.blt_eq] using hl
            rw [hbl] at hb
            have hb : f d = .tuple vs := hb
            simp [hl, hb]
          · simp [hl]
        refine .inr ⟨?_, h⟩
        unfold wants Region.wanted; rw [hg]; simp only [hy]; rfl
      · exact h.elim

/-- The slots on which an operation hangs: its operands', its guard's. -/
def hangs (ops : Array Oper) (o : Oper) (t : Nat) : Prop := t ∈ slotsOf o.op ∨ ∃ j want, o.guard = some (j, want) ∧ (ops[j]?).bind (·.dst) = some t
theorem ev_hangs {ops : Array Oper} {o : Oper} {f F : Fr} (h : ∀ t, hangs ops o t → f t = F t) : ∀ x ∈ o.op.operands, ev n f x = ev n F x := by
  intro x hx
  cases x with
  | tmp t =>
    have := h t (.inl (List.mem_filterMap.2 ⟨.tmp t, by simpa using hx, rfl⟩))
    simp only [ev, this]
  | const v => rfl
  | global g => rfl
  | func k => rfl
theorem wants_hangs {ops : Array Oper} {o : Oper} {f F : Fr} (h : ∀ t, hangs ops o t → f t = F t) : wants n ops o f = wants n ops o F := by
  unfold wants Region.wanted
  cases hg : o.guard with
  | none => rfl
  | some g =>
    obtain ⟨j, want⟩ := g
    simp only []
    have : yielded ops (mkA n f []).tmps j = yielded ops (mkA n F []).tmps j := by
      unfold yielded
      cases hj : (ops[j]?).bind (·.dst) with
      | none => rfl
      | some d =>
        have := h d (.inr ⟨j, want, hg, hj⟩)
        simp only [Option.bind_some, tmps_mkA, this]
    rw [this]
theorem noSelect_read {o : Op} (h : isRead o = true) : ∀ cs b, o ≠ .select cs b := by rintro cs b rfl; cases h

/-- What a read comes to in a frame that holds its result already. -/
def RdRes (P : Program) (n : Nat) (ops : Array Oper) (o : Oper) (F : Fr) (w : World) : Prop :=
  (wants n ops o F = true → ∃ v, (∀ d, o.dst = some d → F d = v) ∧ (execOp (ev n F) o).run P w = .ok (.value v) w ∧ (wdep (ev n F) o.op = false → ∀ w', (execOp (ev n F) o).run P w' = .ok (.value v) w')) ∧
  (wants n ops o F = false → ∀ d, o.dst = some d → F d = undef)
theorem own_congr {o : Op} {e e' : Operand → Value} (h : ∀ x ∈ o.operands, e x = e' x) : Own.of e o = Own.of e' o := by
  cases o <;> try rfl
  case slice t x lo hi m => cases m <;> rfl
  case binOp op t x y u =>
    have hx : e x = e' x := h x (by simp [Op.operands])
    cases op <;> try rfl
    all_goals (simp only [Own.of, ownEq, hx])
  case convert s d x =>
    have hx : e x = e' x := h x (by simp [Op.operands])
    simp only [Own.of, hx]
  case call c =>
    obtain ⟨callee, args, ts⟩ := c
    cases callee <;> try rfl
    case builtin b =>
      simp only [Own.of]
      unfold ownBuiltin
      split <;> try rfl
      rename_i x hx
      have hm : x ∈ args := by
        have : x ∈ args.toList := by rw [hx]; simp
        simpa using this
      have hx' : e x = e' x := h x (by simp [Op.operands, Call.operands, hm])
      rw [hx']
theorem wdep_congr {o : Op} {e e' : Operand → Value} (h : ∀ x ∈ o.operands, e x = e' x) : wdep e o = wdep e' o := by unfold wdep; rw [own_congr h]
theorem RdRes.congr {ops : Array Oper} {o : Oper} {f F : Fr} {w : World} (hr : isRead o.op = true) (h : ∀ t, hangs ops o t → f t = F t) (hd : ∀ d, o.dst = some d → f d = F d) (hR : RdRes P n ops o F w) : RdRes P n ops o f w := by
  have he := ev_hangs (n := n) h
  have hx := execOp_congr (ρ := ev n f) (ρ' := ev n F) o (noSelect_read hr) he
  refine ⟨fun hw => ?_, fun hw d hd' => ?_⟩
  · rw [wants_hangs h] at hw
    obtain ⟨v, h1, h2, h3⟩ := hR.1 hw
    refine ⟨v, fun d hd' => (hd d hd').trans (h1 d hd'), by rw [hx]; exact h2, fun hwd w' => ?_⟩
    rw [hx]; exact h3 (by rw [← wdep_congr he]; exact hwd) w'
  · rw [wants_hangs h] at hw
    exact (hd d hd').trans (hR.2 hw d hd')

/-! ### the looks, as facts -/
theorem distinctB_spec : ∀ {l : List Nat}, distinctB l = true → l.Nodup := by
  intro l
  induction l with
  | nil => exact fun _ => List.nodup_nil
  | cons d l ih =>
    intro h
    simp only [distinctB, Bool.and_eq_true, Bool.not_eq_true'] at h
    refine List.nodup_cons.2 ⟨fun hm => ?_, ih h.2⟩
    have : l.any (Nat.beq d) = true := List.any_eq_true.2 ⟨d, hm, by simp⟩
    rw [this] at h; cases h.1
structure Good (ops : Array Oper) : Prop where
  dst : ∀ (i j : Nat) (oi oj : Oper) (d : Nat), ops[i]? = some oi → ops[j]? = some oj → oi.dst = some d → oj.dst = some d → i = j
  less : ∀ (i : Nat) (o : Oper) (d : Nat), ops[i]? = some o → d ∈ depsOf o → d < i
  guard : ∀ (i : Nat) (o : Oper) (j : Nat) (want : Bool), ops[i]? = some o → o.guard = some (j, want) → j ∈ depsOf o
  slot : ∀ (i : Nat) (o : Oper) (t j : Nat) (oj : Oper), ops[i]? = some o → t ∈ slotsOf o.op → ops[j]? = some oj → oj.dst = some t → j ∈ depsOf o
  chain : chainOk (masks ops) (effs ops) = true
  nosel : ∀ (i : Nat) (o : Oper), ops[i]? = some o → noSel o.op = true
theorem any_beq {l : List Nat} {j : Nat} (h : l.any (Nat.beq j) = true) : j ∈ l := by
  obtain ⟨x, hx, e⟩ := List.any_eq_true.1 h
  have := Nat.eq_of_beq_eq_true e; subst this; exact hx
theorem good_of {ops : Array Oper} (h : drawOk ops = true) : Good ops := by
  simp only [drawOk, Bool.and_eq_true] at h
  obtain ⟨⟨hd, hc⟩, ho⟩ := h
  have hop : ∀ i o, ops[i]? = some o → opOk ops i o = true := by
    intro i o hi
    have hlt : i < ops.size := (Array.getElem?_eq_some_iff.1 hi).1
    have := List.all_eq_true.1 ho i (List.mem_range.2 hlt)
    rw [hi] at this; exact this
  have hnd := distinctB_spec hd
  refine ⟨?_, ?_, ?_, ?_, hc, fun i o hi => by have := hop i o hi; simp only [opOk, Bool.and_eq_true] at this; exact this.1.1.1⟩
  · intro i j oi oj d hi hj hdi hdj
    have key : ∀ (l : List Oper) (i j : Nat), (l.filterMap (·.dst)).Nodup → l[i]? = some oi → l[j]? = some oj → i = j := by
      intro l
      induction l with
      | nil => intro i j _ h; simp at h
      | cons o l ih =>
        intro i j hn h1 h2
        have mem : ∀ (k : Nat) (ok : Oper), l[k]? = some ok → ok.dst = some d → d ∈ l.filterMap (·.dst) := fun k ok hk hd => List.mem_filterMap.2 ⟨ok, List.mem_of_getElem? hk, hd⟩
        cases i with
        | zero =>
          cases j with
          | zero => rfl
          | succ j =>
            simp at h1 h2; subst h1
            rw [List.filterMap_cons, hdi] at hn
            exact absurd (mem j oj h2 hdj) (List.nodup_cons.1 hn).1
        | succ i =>
          cases j with
          | zero =>
            simp at h1 h2; subst h2
            rw [List.filterMap_cons, hdj] at hn
            exact absurd (mem i oi h1 hdi) (List.nodup_cons.1 hn).1
          | succ j =>
            simp at h1 h2
            have hn' : (l.filterMap (·.dst)).Nodup := by
              rw [List.filterMap_cons] at hn
              split at hn
              · exact hn
              · exact (List.nodup_cons.1 hn).2
            rw [ih i j hn' h1 h2]
    exact key ops.toList i j hnd (by simpa using hi) (by simpa using hj)
  · intro i o d hi hd
    have := hop i o hi
    simp only [opOk, Bool.and_eq_true] at this
    have := List.all_eq_true.1 this.1.1.2 d hd
    simpa [Nat.blt_eq] using this
  · intro i o j want hi hg
    have := hop i o hi
    simp only [opOk, Bool.and_eq_true] at this
    have h2 := this.1.2
    rw [hg] at h2
    exact any_beq h2
  · intro i o t j oj hi ht hj hdj
    have := hop i o hi
    simp only [opOk, Bool.and_eq_true] at this
    have h2 := List.all_eq_true.1 this.2 t ht
    have hlt : j < ops.size := (Array.getElem?_eq_some_iff.1 hj).1
    have h3 := List.all_eq_true.1 h2 j (List.mem_range.2 hlt)
    rw [hj] at h3
    simp only [hdj] at h3
    have hb : Nat.beq t t = true := by simp
    rw [hb] at h3
    exact any_beq (by simpa using h3)
theorem masksFrom_length : ∀ (l : List Oper) (acc : List Nat), (masksFrom acc l).length = acc.length + l.length := by
  intro l
  induction l with
  | nil => intro acc; rfl
  | cons o l ih => intro acc; rw [masksFrom, ih]; simp; omega
theorem masksFrom_old : ∀ (l : List Oper) (acc : List Nat) (i : Nat), i < acc.length → (masksFrom acc l).getD i 0 = acc.getD i 0 := by
  intro l
  induction l with
  | nil => intro acc i _; rfl
  | cons o l ih =>
    intro acc i hi
    rw [masksFrom, ih _ _ (by simp; omega)]
    simp [List.getD_eq_getElem?_getD, List.getElem?_append_left hi]
theorem masksFrom_at : ∀ (l : List Oper) (acc : List Nat) (i : Nat) (o : Oper), l[i]? = some o → ∃ acc', (masksFrom acc l).getD (acc.length + i) 0 = maskOf acc' o ∧ ∀ d, d < acc.length + i → acc'.getD d 0 = (masksFrom acc l).getD d 0 := by
  intro l
  induction l with
  | nil => intro acc i o h; simp at h
  | cons o' l ih =>
    intro acc i o h
    cases i with
    | zero =>
      simp at h; subst h
      refine ⟨acc, ?_, fun d hd => ?_⟩
      · rw [masksFrom, masksFrom_old _ _ _ (by simp)]
        simp [List.getD_eq_getElem?_getD]
      · rw [masksFrom, masksFrom_old _ _ _ (by simp; omega)]
        simp [List.getD_eq_getElem?_getD, List.getElem?_append_left (show d < acc.length by omega)]
    | succ i =>
      obtain ⟨acc', h1, h2⟩ := ih (acc ++ [maskOf acc o']) i o (by simpa using h)
      refine ⟨acc', ?_, fun d hd => ?_⟩
      · rw [masksFrom, ← h1]
        have : acc.length + (i + 1) = (acc ++ [maskOf acc o']).length + i := by simp; omega
        rw [this]
      · rw [masksFrom]; exact h2 d (by simp; omega)
theorem testBit_maskOf {acc : List Nat} {j : Nat} {ds : List Nat} : ∀ {m : Nat}, (ds.foldl (fun m d => m ||| 2 ^ d ||| acc.getD d 0) m).testBit j = true → m.testBit j = true ∨ ∃ d ∈ ds, j = d ∨ (acc.getD d 0).testBit j = true := by
  induction ds with
  | nil => exact fun h => .inl h
  | cons d ds ih =>
    intro m h
    rcases ih h with h | ⟨e, he, h⟩
    · simp only [Nat.testBit_or, Bool.or_eq_true] at h
      rcases h with (h | h) | h
      · exact .inl h
      · refine .inr ⟨d, by simp, .inl ?_⟩
        rw [Nat.testBit_two_pow] at h
        have := of_decide_eq_true h; omega
      · exact .inr ⟨d, by simp, .inr h⟩
    · exact .inr ⟨e, by simp [he], h⟩
theorem mask_dep {ops : Array Oper} {i j : Nat} {o : Oper} (hg : Good ops) (hi : ops[i]? = some o) (h : ((masks ops).getD i 0).testBit j = true) :
    ∃ d ∈ depsOf o, j = d ∨ ((masks ops).getD d 0).testBit j = true := by
  obtain ⟨acc', h1, h2⟩ := masksFrom_at ops.toList [] i o (by simpa using hi)
  simp only [List.length_nil, Nat.zero_add] at h1 h2
  have : (masks ops).getD i 0 = maskOf acc' o := h1
  rw [this] at h
  rcases testBit_maskOf h with h | ⟨d, hd, h⟩
  · simp at h
  · refine ⟨d, hd, h.imp id fun h => ?_⟩
    rw [h2 d (hg.less i o d hi hd)] at h; exact h
/-- What is listed is closed under waiting. -/
def Closed (ops : Array Oper) (L : Nat → Bool) : Prop := ∀ i o, ops[i]? = some o → L i = true → ∀ d ∈ depsOf o, L d = true
theorem closed_mask {ops : Array Oper} {L : Nat → Bool} (hg : Good ops) (hc : Closed ops L) (hL : ∀ i, L i = true → i < ops.size) : ∀ i j, L i = true → ((masks ops).getD i 0).testBit j = true → L j = true := by
  intro i
  induction i using Nat.strongRecOn with
  | _ i ih =>
    intro j hi h
    have hlt := hL i hi
    have ho : ops[i]? = some ops[i] := Array.getElem?_eq_getElem hlt
    obtain ⟨d, hd, h⟩ := mask_dep hg ho h
    have hLd := hc i _ ho hi d hd
    rcases h with rfl | h
    · exact hLd
    · exact ih d (hg.less i _ d ho hd) j hLd h
end
end Go.L
