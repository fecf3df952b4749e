/- Every order of a region comes to what the canonical reading says: the simulation ('sim'), and 'drawS_sound', 'DrawS_mono'. No program in sight. -/
import Derived.Test.YtgmfilpbabkjeaaLiftT
set_option linter.unusedVariables false
set_option linter.unusedSimpArgs false
namespace Go.L
open Go.RowKit

section
variable {P : Program} {r : Option Nat} {A : Ann} {n : Nat}

theorem lo_le {ops : Array Oper} {listed : Array Bool} {k : Nat} {l : List Nat} {i : Nat} {o : Oper} (hg : Good ops) (hsz : listed.size = ops.size) (hcl : Closed ops (fun i => listed.getD i false))
    (heff : ∃ pre, effs ops = pre ++ l ∧ pre.length = k ∧ (∀ e ∈ pre, listed.getD e false = true) ∧ (∀ e ∈ l, listed.getD e false = false))
    (hi : ops[i]? = some o) (hd : ∀ d ∈ depsOf o, listed.getD d false = true) : loOf (masks ops) (effs ops) i ≤ k := by
  obtain ⟨pre, he, hk, h1, h2⟩ := heff
  have hm : ∀ j, ((masks ops).getD i 0).testBit j = true → listed.getD j false = true := by
    intro j hj
    obtain ⟨d, hdm, h⟩ := mask_dep hg hi hj
    rcases h with rfl | h
    · exact hd _ hdm
    · exact closed_mask hg hcl (fun i hi => listed_lt hsz hi) d j (hd d hdm) h
  unfold loOf
  rw [he, List.filter_append, List.length_append]
  have hz : (l.filter fun e => ((masks ops).getD i 0).testBit e).length = 0 := by
    rw [List.length_eq_zero_iff, List.filter_eq_nil_iff]
    intro e hel ht
    have := hm e ht
    rw [h2 e hel] at this; cases this
  rw [hz, Nat.add_zero, ← hk]
  exact List.length_filter_le _ _

theorem hi_ge {ops : Array Oper} {listed : Array Bool} {k : Nat} {l : List Nat} {i : Nat} (hg : Good ops) (hsz : listed.size = ops.size) (hcl : Closed ops (fun i => listed.getD i false))
    (heff : ∃ pre, effs ops = pre ++ l ∧ pre.length = k ∧ (∀ e ∈ pre, listed.getD e false = true) ∧ (∀ e ∈ l, listed.getD e false = false))
    (hl : listed.getD i false = false) : k ≤ hiOf (masks ops) (effs ops) i := by
  obtain ⟨pre, he, hk, h1, h2⟩ := heff
  unfold hiOf
  rw [he, List.filter_append, List.length_append]
  have : (pre.filter fun e => !((masks ops).getD e 0).testBit i).length = pre.length := by
    rw [List.filter_eq_self.2]
    intro e hp
    cases hb : ((masks ops).getD e 0).testBit i with
    | false => rfl
    | true =>
      have := closed_mask hg hcl (fun i hi => listed_lt hsz hi) e i (h1 e hp) hb
      rw [hl] at this; cases this
  omega
theorem chain_all {ops : Array Oper} (hg : Good ops) : ∀ {pre : List Nat} {i : Nat} {l : List Nat}, (∀ e ∈ pre ++ i :: l, e < ops.size) → chainOk (masks ops) (pre ++ i :: l) = true → ∀ e ∈ pre, ((masks ops).getD i 0).testBit e = true := by
  have key : ∀ (m : Nat) {pre : List Nat} {i : Nat} {l : List Nat}, pre.length = m → (∀ e ∈ pre ++ i :: l, e < ops.size) → chainOk (masks ops) (pre ++ i :: l) = true → ∀ e ∈ pre, ((masks ops).getD i 0).testBit e = true := by
   intro m
   induction m with
   | zero => intro pre i l hm _ _ e he; have : pre = [] := by simpa using hm
             subst this; simp at he
   | succ m ih =>
    intro pre i l hm hlt hc e he
    obtain ⟨p, a, rfl⟩ : ∃ p a, pre = p ++ [a] := by
      refine ⟨pre.dropLast, pre.getLast (by intro h; simp [h] at hm), ?_⟩
      exact (List.dropLast_concat_getLast _).symm
    have h1 : ((masks ops).getD i 0).testBit a = true := chain_at (pre := p) (a := a) (b := i) (post := l) hc (by simp)
    rcases List.mem_append.1 he with h | h
    · have h2 := ih (pre := p) (i := a) (l := i :: l) (by simpa using hm) (fun x hx => hlt x (by simpa using hx)) (by simpa using hc) e h
      exact mask_trans hg i a e (hlt i (by simp)) h1 h2
    · simp at h; subst h; exact h1
  exact fun {pre i l} => key pre.length rfl
theorem lo_gt {ops : Array Oper} {k : Nat} {pre l : List Nat} {i j : Nat} {o oj : Oper} (hg : Good ops) (he : effs ops = pre ++ i :: l) (hk : pre.length = k) (hc : chainOk (masks ops) (pre ++ i :: l) = true)
    (hi : ops[i]? = some o) (hj : ops[j]? = some oj) (hd : i ∈ depsOf oj) : k + 1 ≤ loOf (masks ops) (effs ops) j := by
  have hlt : ∀ e ∈ pre ++ i :: l, e < ops.size := by
    intro e hm
    rw [← he] at hm
    obtain ⟨o', ho', _⟩ := mem_effs.1 hm
    exact (Array.getElem?_eq_some_iff.1 ho').1
  have hall := chain_all hg hlt hc
  unfold loOf
  rw [he, List.filter_append, List.length_append, List.filter_cons]
  have h1 : (pre.filter fun e => ((masks ops).getD j 0).testBit e).length = pre.length := by
    rw [List.filter_eq_self.2]
    intro e hp
    exact mask_of_dep hg hj hd (hall e hp)
  rw [if_pos (mask_of_mem hg hj hd)]
  simp only [List.length_cons]
  omega

theorem sim (hP : NoNG P) {ops : Array Oper} (hg : Good ops) {K : KF} {X : List PanicEntry → KF} {Q : Exit → Act → World → Prop}
    (hK : ∀ f D w, K f D w → Q .normal (mkA n f D) w) (hX : ∀ c f D w, X c f D w → Q (.panic c) (mkA n f D) w) :
    ∀ (fuel : Nat) (listed : Array Bool) (k : Nat) (l : List Nat) (f F : Fr) (D : List Deferred) (w : World), Inv P n ops listed k l f F w → Resid P r A n ops K X l k F D w →
      ((List.range ops.size).filter fun i => !listed.getD i false).length ≤ fuel → wpAnyIn (FR r) 0 P .any ops Q fuel listed (mkA n f D) w := by
  intro fuel
  have fin : ∀ (listed : Array Bool) (k : Nat) (l : List Nat) (f F : Fr) (D : List Deferred) (w : World), Inv P n ops listed k l f F w → Resid P r A n ops K X l k F D w → Region.ready .any ops listed = [] → Q .normal (mkA n f D) w := by
    intro listed k l f F D w hI hR hn
    have hall := ready_nil hg hI.size hn
    obtain ⟨pre, he, hk, h1, h2⟩ := hI.effs
    cases l with
    | nil =>
      have : f = F := funext fun s => hI.same s fun i o hi _ => hall i (Array.getElem?_eq_some_iff.1 hi).1
      subst this
      exact hK _ _ _ hR
    | cons e l =>
      have hm : e ∈ effs ops := by rw [he]; simp
      obtain ⟨o, ho, _⟩ := mem_effs.1 hm
      have := hall e (Array.getElem?_eq_some_iff.1 ho).1
      rw [h2 e (by simp)] at this; cases this
  induction fuel with
  | zero =>
    intro listed k l f F D w hI hR hc
    have hn : Region.ready .any ops listed = [] := by
      cases hr : Region.ready .any ops listed with
      | nil => rfl
      | cons i t =>
        exfalso
        obtain ⟨o, ho, hl, _⟩ := mem_ready hI.size (i := i) (by rw [hr]; simp)
        have hm : i ∈ (List.range ops.size).filter fun i => !listed.getD i false := List.mem_filter.2 ⟨List.mem_range.2 (Array.getElem?_eq_some_iff.1 ho).1, by simp [hl]⟩
        have := List.length_pos_of_mem hm
        omega
    exact ⟨hn, fin listed k l f F D w hI hR hn⟩
  | succ fuel ih =>
    intro listed k l f F D w hI hR hc
    refine ⟨fun hn => fin listed k l f F D w hI hR hn, fun i hi => ?_⟩
    obtain ⟨o, ho, hl, hd⟩ := mem_ready hI.size hi
    have hlt : i < listed.size := by rw [hI.size]; exact (Array.getElem?_eq_some_iff.1 ho).1
    have hset : ∀ j, (listed.setIfInBounds i true).getD j false = if j = i then true else listed.getD j false := fun j => getD_set hlt
    have hcnt : ((List.range ops.size).filter fun j => !(listed.setIfInBounds i true).getD j false).length ≤ fuel := by
      have := filter_len_lt (p := fun j => !(listed.setIfInBounds i true).getD j false) (q := fun j => !listed.getD j false) (y := i) (l := List.range ops.size)
        (fun x _ hx => by rw [hset] at hx; by_cases e : x = i <;> simp_all) (List.mem_range.2 (Array.getElem?_eq_some_iff.1 ho).1) (by rw [hset]; simp) (by simp [hl])
      omega
    have hcl : Closed ops (fun j => (listed.setIfInBounds i true).getD j false) := by
      intro j oj hj hLj d hdj
      show (listed.setIfInBounds i true).getD d false = true
      have hLj : (listed.setIfInBounds i true).getD j false = true := hLj
      rw [hset] at hLj ⊢
      by_cases e : d = i
      · simp [e]
      · rw [if_neg e]
        by_cases e2 : j = i
        · subst e2; rw [ho] at hj; cases hj; exact hd d hdj
        · rw [if_neg e2] at hLj; exact hI.closed j oj hj hLj d hdj
    -- on what the operation hangs the two frames are alike
    have hhang : ∀ t, hangs ops o t → f t = F t := fun t ht => hI.same t fun j oj hj hdj => hd j (hang_dep hg ho ht hj hdj)
    have hev : ∀ x ∈ o.op.operands, ev n f x = ev n F x := ev_hangs hhang
    have hlo := lo_le hg hI.size hI.closed hI.effs ho hd
    unfold wpOpIn
    rw [ho]
    have hW : Region.wanted o (yielded ops (mkA n f D).tmps) = wants n ops o F := (wants_eq D).trans (wants_hangs hhang)
    simp only [hW]
    cases hr : isRead o.op with
    | true =>
      have hhi : k ≤ hiOf (masks ops) (effs ops) i := hi_ge hg hI.size hI.closed hI.effs hl
      have hRd := hI.reads i o ho hr hlo hhi
      -- the next state
      have next : ∀ v : Value, (∀ d, o.dst = some d → F d = v) → wpAnyIn (FR r) 0 P .any ops Q fuel (listed.setIfInBounds i true) (mkA n (putF f o.dst v) D) w := by
        intro v hv
        refine ih _ k l _ F D w ⟨by simp [hI.size], hcl, ?_, ?_, ?_, ?_⟩ hR hcnt
        · obtain ⟨pre, he, hk, h1, h2⟩ := hI.effs
          refine ⟨pre, he, hk, fun e hp => ?_, fun e hp => ?_⟩
          · rw [hset]; split
            · rfl
            · exact h1 e hp
          · rw [hset]
            have : e ≠ i := by
              rintro rfl
              have hm : e ∈ effs ops := by rw [he]; simp [hp]
              obtain ⟨o', ho', hr'⟩ := mem_effs.1 hm
              rw [ho] at ho'; cases ho'; rw [hr] at hr'; cases hr'
            rw [if_neg this]; exact h2 e hp
        · exact hI.reads
        · intro j oj hj hrj hlj
          rw [hset] at hlj
          by_cases e : j = i
          · subst e; exact hlo
          · rw [if_neg e] at hlj; exact hI.done j oj hj hrj hlj
        · intro s hs
          by_cases e : o.dst = some s
          · rw [e]; show upd f s v s = F s
            simp [upd, hv s e]
          · have hfs : putF f o.dst v s = f s := by
              cases hdst : o.dst with
              | none => rfl
              | some d =>
                show upd f d v s = f s
                have : Nat.beq s d = false := by
                  cases hb : Nat.beq s d with
                  | false => rfl
                  | true => have := Nat.eq_of_beq_eq_true hb; subst this; exact absurd hdst e
                simp only [upd, this, cond_false]
            rw [hfs]
            refine hI.same s fun j oj hj hdj => ?_
            have := hs j oj hj hdj
            rw [hset] at this
            by_cases e2 : j = i
            · subst e2; rw [ho] at hj; cases hj; exact absurd hdj e
            · rw [if_neg e2] at this; exact this
      cases hw : wants n ops o F with
      | true =>
        obtain ⟨v, h1, h2, h3⟩ := hRd.1 hw
        rw [if_pos rfl]
        refine ⟨fun _ _ => trivial, ?_⟩
        have hro : (FR r).round = r := rfl
        have hnd : ∀ c, o.op ≠ .defer c := by intro c hc; rw [hc] at hr; cases hr
        rw [hro, ev_eq, Oper.semAt_eq _ _ _ hnd, execOp_congr o (noSelect_read hr) hev, h2]
        show wpAnyIn (FR r) 0 P .any ops Q fuel (listed.setIfInBounds i true) ((mkA n f D).put o.dst v) w
        rw [put_mkA]; exact next v h1
      | false =>
        rw [if_neg (by simp)]
        refine ⟨fun _ _ => trivial, ?_⟩
        rw [put_mkA]; exact next undef (hRd.2 hw)
    | false =>
      -- an effect: it is the next one
      obtain ⟨pre, he, hk, h1, h2⟩ := hI.effs
      have hmem : i ∈ effs ops := mem_effs.2 ⟨o, ho, hr⟩
      have hil : i ∈ l := by
        rw [he] at hmem
        rcases List.mem_append.1 hmem with h | h
        · rw [h1 i h] at hl; cases hl
        · exact h
      obtain ⟨l', rfl⟩ : ∃ l', l = i :: l' := by
        obtain ⟨_, h | ⟨a, p, post, _, hlp⟩⟩ := last_or_mem hil
        · obtain ⟨_, post, hp⟩ := h; exact ⟨post, hp⟩
        · exfalso
          have hch := chain_at (pre := pre ++ p) (a := a) (b := i) (post := post) hg.chain (by rw [he, hlp]; simp)
          obtain ⟨d, hdm, h⟩ := mask_dep hg ho hch
          have hla : listed.getD a false = true := by
            rcases h with rfl | h
            · exact hd _ hdm
            · exact closed_mask hg hI.closed (fun i hi => listed_lt hI.size hi) d a (hd d hdm) h
          rw [h2 a (by rw [hlp]; simp)] at hla; cases hla
      have hnd := effs_nodup ops
      -- the next state, behind the effect
      have next : ∀ (v : Value) (D' : List Deferred) (w' : World), stages P r A n ops (masks ops) (effs ops) K X l' (k + 1) (putF F o.dst v) D' w' → wpAnyIn (FR r) 0 P .any ops Q fuel (listed.setIfInBounds i true) (mkA n (putF f o.dst v) D') w' := by
        intro v D' w' hst
        have hfresh : ∀ t, hangs ops o t → o.dst ≠ some t := fun t ht hdt => by
          have := hg.less i o i ho (hang_dep hg ho ht ho hdt); omega
        have hput : ∀ (g : Fr) s, o.dst ≠ some s → putF g o.dst v s = g s := by
          intro g s hs
          cases hdst : o.dst with
          | none => rfl
          | some d =>
            show upd g d v s = g s
            have : Nat.beq s d = false := by
              cases hb : Nat.beq s d with
              | false => rfl
              | true => have := Nat.eq_of_beq_eq_true hb; subst this; exact absurd hdst hs
            simp only [upd, this, cond_false]
        have heff' : ∃ pre, effs ops = pre ++ l' ∧ pre.length = k + 1 ∧ (∀ e ∈ pre, (listed.setIfInBounds i true).getD e false = true) ∧ (∀ e ∈ l', (listed.setIfInBounds i true).getD e false = false) := by
          refine ⟨pre ++ [i], by rw [he]; simp, by simp [hk], fun e hp => ?_, fun e hp => ?_⟩
          · rw [hset]
            rcases List.mem_append.1 hp with h | h
            · split
              · rfl
              · exact h1 e h
            · simp at h; simp [h]
          · rw [hset]
            have : e ≠ i := by
              rintro rfl
              rw [he] at hnd
              have := (List.nodup_append.1 hnd).2.1
              exact absurd hp (List.nodup_cons.1 this).1
            rw [if_neg this]; exact h2 e (by simp [hp])
        have hunread : ∀ (j : Nat) (oj : Oper), ops[j]? = some oj → isRead oj.op = true → loOf (masks ops) (effs ops) j = k + 1 → listed.getD j false = false := by
          intro j oj hj hrj hlo'
          cases hlj : listed.getD j false with
          | false => rfl
          | true => have := hI.done j oj hj hrj hlj; omega
        have hrd := stages_eq hst
        obtain ⟨F', hRes, hsame, hreads⟩ := rdStage_out (wOld := w) hg (List.range ops.size) (putF F o.dst v) _ List.pairwise_lt_range (fun j hj oj hoj hrj hlt' hle => by
          have hRj := hI.reads j oj hoj hrj (by omega) (by omega)
          refine hRj.congr hrj (fun t ht => hput F t fun hdt => ?_) (fun d hdj => hput F d fun hdt => ?_)
          · have hdep := hang_dep hg hoj ht ho hdt
            have := lo_gt hg he hk (by rw [← he]; exact hg.chain) ho hoj hdep
            omega
          · have := hg.dst i j o oj d ho hoj hdt hdj
            subst this; rw [ho] at hoj; cases hoj; rw [hr] at hrj; cases hrj) hrd
        refine ih _ (k + 1) l' _ F' D' w' ⟨by simp [hI.size], hcl, heff', ?_, ?_, ?_⟩ hRes hcnt
        · intro j oj hj hrj hlo' hhi'
          refine hreads j (List.mem_range.2 (Array.getElem?_eq_some_iff.1 hj).1) oj hj hrj ?_
          by_cases e : loOf (masks ops) (effs ops) j = k + 1
          · exact .inl e
          · exact .inr ⟨by omega, hhi'⟩
        · intro j oj hj hrj hlj
          rw [hset] at hlj
          by_cases e : j = i
          · subst e; rw [ho] at hj; cases hj; rw [hr] at hrj; cases hrj
          · rw [if_neg e] at hlj; have := hI.done j oj hj hrj hlj; omega
        · intro s hs
          have hsF : F' s = putF F o.dst v s := hsame s fun j hj oj hoj hrj hlo' hdj => by
            have h3 := hs j oj hoj hdj
            have h4 := hunread j oj hoj hrj hlo'
            rw [hset] at h3
            by_cases e : j = i
            · subst e; rw [ho] at hoj; cases hoj; rw [hr] at hrj; cases hrj
            · rw [if_neg e, h4] at h3; cases h3
          rw [hsF]
          by_cases e : o.dst = some s
          · rw [e]; show upd f s v s = upd F s v s; simp [upd]
          · rw [hput f s e, hput F s e]
            refine hI.same s fun j oj hj hdj => ?_
            have := hs j oj hj hdj
            rw [hset] at this
            by_cases e2 : j = i
            · subst e2; rw [ho] at hj; cases hj; exact absurd hdj e
            · rw [if_neg e2] at this; exact this
      have hRes : guarded n ops o F
        (fun f'' => stepOp P r A n o f'' D w (fun v D' w' => stages P r A n ops (masks ops) (effs ops) K X l' (k + 1) (putF f'' o.dst v) D' w') (fun c D' w' => ∀ g : Fr, X c g D' w'))
        (fun f'' => stages P r A n ops (masks ops) (effs ops) K X l' (k + 1) (putF f'' o.dst undef) D w) := by
        have := hR
        unfold Resid at this
        simp only [ho] at this
        exact this
      rcases guarded_out hRes with ⟨hw, h⟩ | ⟨hw, h⟩
      · rw [hw, if_pos rfl]
        have hns : ∀ cs b, o.op ≠ .select cs b := by
          intro cs b hc
          have := hg.nosel i o ho
          rw [hc] at this; cases this
        refine stepOp_sound hP ⟨fun v D' w' hk => ?_, fun c w' hx => hX c f _ _ (hx f)⟩ (stepOp_congr hns (fun x hx => (hev x hx).symm) h)
        rw [put_mkA]; exact next v D' w' hk
      · rw [hw, if_neg (by simp)]
        refine ⟨fun _ _ => trivial, ?_⟩
        rw [put_mkA]; exact next undef D w h

theorem drawS_any (hP : NoNG P) {ops : Array Oper} {K : KF} {X : List PanicEntry → KF} {Q : Exit → Act → World → Prop}
    (hok : drawOk ops = true) (hK : ∀ f D w, K f D w → Q .normal (mkA n f D) w) (hX : ∀ c f D w, X c f D w → Q (.panic c) (mkA n f D) w) {f : Fr} {D : List Deferred} {w : World}
    (h : DrawS P r A n ops K X f D w) : wpAnyIn (FR r) 0 P .any ops Q ops.size (Array.replicate ops.size false) (mkA n f D) w.drew := by
  have hg := good_of hok
  have hrd := stages_eq h
  have hl0 : ∀ i, (Array.replicate ops.size false).getD i false = false := by intro i; simp [Array.getD_eq_getD_getElem?, Array.getElem?_replicate]; split <;> rfl
  obtain ⟨F', hRes, hsame, hreads⟩ := rdStage_out (wOld := w) hg (List.range ops.size) f _ List.pairwise_lt_range (fun i hi o ho hr hlt _ => by omega) hrd
  refine sim hP hg hK hX ops.size _ 0 (effs ops) f F' D w.drew ⟨by simp, ?_, ⟨[], rfl, rfl, fun e he => by simp at he, fun e _ => hl0 e⟩, ?_, ?_, ?_⟩ hRes ?_
  · intro i o hi hL
    have hL : (Array.replicate ops.size false).getD i false = true := hL
    rw [hl0] at hL; cases hL
  · intro i o hi hr hlo hhi
    exact hreads i (List.mem_range.2 (Array.getElem?_eq_some_iff.1 hi).1) o hi hr (.inl (by omega))
  · intro i o hi hr hL
    rw [hl0] at hL; cases hL
  · intro s hs
    exact (hsame s fun i hi o ho hr hlo hd => by have := hs i o ho hd; rw [hl0] at this; cases this).symm
  · exact Nat.le_trans (List.length_filter_le _ _) (by simp)

theorem drawS_sound (hP : NoNG P) (hm : P.follows .mixedOrders = true) {id : Nat} {ops : Array Oper} {K : KF} {X : List PanicEntry → KF} {Q : Exit → Act → World → Prop}
    (hok : drawOk ops = true) (hK : ∀ f D w, K f D w → Q .normal (mkA n f D) w) (hX : ∀ c f D w, X c f D w → Q (.panic c) (mkA n f D) w) {f : Fr} {D : List Deferred} {w : World}
    (h : DrawS P r A n ops K X f D w) : (Code.region id ops true).wpIn (FR r) 0 P Q (mkA n f D) w :=
  wpIn_region_any hm (drawS_any hP hok hK hX h)

/-! ### a last operation that waits for all the others -/
def lastOk (ops : Array Oper) : Bool :=
  match ops.back? with
  | some o => (depsOf o).all (fun d => Nat.blt d (ops.size - 1)) && (List.range (ops.size - 1)).all fun i => (depsOf o).any (Nat.beq i)
  | none => false
def lastQ (Q : Exit → Act → World → Prop) (L : Act → World → Prop) : Exit → Act → World → Prop
  | .normal, a, w => L a w
  | e, a, w => Q e a w
theorem wpIn_lastQ {o : Oper} {a : Act} {w : World} {K K' : Act → World → Prop} {F : Fence} {m : Nat} {Q : Exit → Act → World → Prop} {L : Act → World → Prop} (h : ∀ a w, K a w → K' a w)
    (hh : o.wpIn F m P a w K (lastQ Q L)) : o.wpIn F m P a w K' Q := by
  unfold Oper.wpIn at *
  refine ⟨hh.1, ?_⟩
  have hh := hh.2
  generalize (o.semAt F.round a.eval).run P w = r at *
  cases r with
  | ok x w' =>
    cases x <;> simp only [Oper.uponIn] at hh ⊢ <;>
      first
        | exact h _ _ hh
        | exact ⟨hh.1, CallsIn.mono hh.2 (fun e w'' he => by cases e <;> first | exact h _ _ he | exact he)⟩
        | exact ⟨hh.1, RowsIn.mono hh.2 (fun _ _ he => h _ _ he)⟩
        | exact ⟨hh.1, RoundIn.mono hh.2 (fun e w'' he => by cases e <;> first | exact h _ _ he | exact he)⟩
        | exact hh
  | halt x w' => cases x <;> simp only [Oper.uponIn] at hh ⊢ <;> exact hh
theorem any_pop {F : Fence} {c : Nat} {ops : Array Oper} {m : Nat} (hm : ops.size = m + 1) (hl : lastOk ops = true) (hg : Good ops.pop) {Q : Exit → Act → World → Prop} :
    ∀ (fuel : Nat) (listed listed' : Array Bool) (a : Act) (w : World), listed.size = m + 1 → listed'.size = m → (∀ i, i < m → listed.getD i false = listed'.getD i false) → listed.getD m false = false →
      wpAnyIn F c P .any ops.pop (lastQ Q (wpOpsIn F c P ops Q [m])) fuel listed' a w → wpAnyIn F c P .any ops Q (fuel + 1) listed a w := by
  have hps : ops.pop.size = m := by simp [hm]
  have hpop : ∀ i, i < m → ops.pop[i]? = ops[i]? := by intro i hi; rw [Array.getElem?_pop]; simp [hm]; omega
  obtain ⟨o, hlo⟩ : ∃ o, ops[m]? = some o := ⟨ops[m], Array.getElem?_eq_getElem (by omega)⟩
  have hbk : ops.back? = some o := by rw [Array.back?_eq_getElem?, hm]; exact hlo
  have hless : ∀ d ∈ depsOf o, d < m := by
    intro d hd
    unfold lastOk at hl
    rw [hbk] at hl
    simp only [Bool.and_eq_true] at hl
    have := List.all_eq_true.1 hl.1 d hd
    simp [Nat.blt_eq] at this; omega
  have hdeps : ∀ i, i < m → i ∈ depsOf o := by
    intro i hi
    unfold lastOk at hl
    rw [hbk] at hl
    simp only [Bool.and_eq_true] at hl
    exact any_beq (List.all_eq_true.1 hl.2 i (List.mem_range.2 (by omega)))
  have rdy : ∀ (ops : Array Oper) (listed : Array Bool), listed.size = ops.size → ∀ i o, ops[i]? = some o → listed.getD i false = false → (∀ d ∈ depsOf o, listed.getD d false = true) → i ∈ Region.ready .any ops listed := by
    intro ops listed hs i o ho hli hd
    have hlt : i < ops.size := (Array.getElem?_eq_some_iff.1 ho).1
    unfold Region.ready
    refine List.mem_filter.2 ⟨List.mem_range.2 hlt, ?_⟩
    simp only [Bool.and_eq_true, Bool.not_eq_true']
    refine ⟨?_, ?_⟩
    · simp only [Array.getD, hs, hlt, dite_true] at hli ⊢; exact hli
    · rw [ho]
      simp only [Option.map_some, Option.getD_some]
      refine Array.all_eq_true_iff_forall_mem.2 fun e he => ?_
      cases hb : Region.binds .any e with
      | false => rfl
      | true => simp [hd e.on (List.mem_map.2 ⟨e, List.mem_filter.2 ⟨by simpa using he, hb⟩, rfl⟩)]
  -- all others are listed: the last one
  have last : ∀ (fuel : Nat) (listed : Array Bool) (a : Act) (w : World), listed.size = m + 1 → (∀ i, i < m → listed.getD i false = true) → listed.getD m false = false →
      wpOpsIn F c P ops Q [m] a w → wpAnyIn F c P .any ops Q (fuel + 1) listed a w := by
    intro fuel listed a w hs hall hlm h
    refine ⟨fun hn => ?_, fun i hi => ?_⟩
    · have := rdy ops listed (by omega) m o hlo hlm (fun d hd => hall d (hless d hd))
      rw [hn] at this; simp at this
    · obtain ⟨o', ho', hl', _⟩ := mem_ready (by omega) hi
      have him : i = m := by
        have hlt := (Array.getElem?_eq_some_iff.1 ho').1
        rcases Nat.lt_or_ge i m with h' | h'
        · rw [hall i h'] at hl'; cases hl'
        · omega
      subst him
      rw [wpOpsIn_cons] at h
      refine wpOpIn_mono (fun a w h => ?_) h
      have hn : Region.ready .any ops (listed.setIfInBounds i true) = [] := by
        rw [List.eq_nil_iff_forall_not_mem]
        intro j hj
        obtain ⟨oj, hoj, hlj, _⟩ := mem_ready (by simp; omega) hj
        rw [getD_set (by omega)] at hlj
        have hlt := (Array.getElem?_eq_some_iff.1 hoj).1
        by_cases e : j = i
        · simp [e] at hlj
        · rw [if_neg e, hall j (by omega)] at hlj; cases hlj
      exact wpAnyIn_done hn h _
  intro fuel
  induction fuel with
  | zero =>
    intro listed listed' a w hs hs' hag hlm h
    have hall := ready_nil hg (by omega) h.1
    exact last 0 listed a w hs (fun i hi => (hag i hi).trans (hall i (by omega))) hlm h.2
  | succ fuel ih =>
    intro listed listed' a w hs hs' hag hlm h
    by_cases hn : Region.ready .any ops.pop listed' = []
    · have hall := ready_nil hg (by omega) hn
      exact last (fuel + 1) listed a w hs (fun i hi => (hag i hi).trans (hall i (by omega))) hlm (h.1 hn)
    · refine ⟨fun he => absurd (List.eq_nil_iff_forall_not_mem.2 fun i hi => ?_) hn, fun i hi => ?_⟩
      · obtain ⟨oi, hoi, hli, hdi⟩ := mem_ready (by omega) hi
        have hlt : i < m := by have := (Array.getElem?_eq_some_iff.1 hoi).1; omega
        have := rdy ops listed (by omega) i oi ((hpop i hlt).symm.trans hoi) ((hag i hlt).trans hli) (fun d hd => by
          have := hg.less i oi d hoi hd
          exact (hag d (by omega)).trans (hdi d hd))
        rw [he] at this; simp at this
      · obtain ⟨oi, hoi, hli, hdi⟩ := mem_ready (by omega) hi
        have hlt' := (Array.getElem?_eq_some_iff.1 hoi).1
        have hlt : i < m := by
          rcases Nat.lt_or_ge i m with h' | h'
          · exact h'
          · exfalso
            have him : i = m := by omega
            subst him
            rw [hlo] at hoi; cases hoi
            refine hn (List.eq_nil_iff_forall_not_mem.2 fun j hj => ?_)
            obtain ⟨oj, hoj, hlj, _⟩ := mem_ready (by omega) hj
            have hjm : j < i := by have := (Array.getElem?_eq_some_iff.1 hoj).1; omega
            rw [← hag j hjm, hdi j (hdeps j hjm)] at hlj; cases hlj
        have hpi : ops.pop[i]? = some oi := (hpop i hlt).trans hoi
        have hmem : i ∈ Region.ready .any ops.pop listed' := rdy ops.pop listed' (by omega) i oi hpi ((hag i hlt).symm.trans hli) (fun d hd => by
          have := hg.less i oi d hpi hd
          exact (hag d (by omega)).symm.trans (hdi d hd))
        have h2 := h.2 i hmem
        have hstep : ∀ a w, wpAnyIn F c P .any ops.pop (lastQ Q (wpOpsIn F c P ops Q [m])) fuel (listed'.setIfInBounds i true) a w → wpAnyIn F c P .any ops Q (fuel + 1) (listed.setIfInBounds i true) a w := by
          intro a w h
          refine ih _ _ a w (by simp [hs]) (by simp [hs']) (fun j hj => ?_) ?_ h
          · rw [getD_set (by omega), getD_set (by omega)]; split
            · rfl
            · exact hag j hj
          · rw [getD_set (by omega), if_neg (by omega)]; exact hlm
        unfold wpOpIn at h2 ⊢
        rw [hpi] at h2; rw [hoi]
        simp only [] at h2 ⊢
        have hy : Region.wanted oi (yielded ops.pop a.tmps) = Region.wanted oi (yielded ops a.tmps) := by
          unfold Region.wanted
          cases hgd : oi.guard with
          | none => rfl
          | some jw =>
            obtain ⟨j, want⟩ := jw
            have hj := hg.less i oi j hpi (hg.guard i oi j want hpi hgd)
            simp only [yielded, hpop j (by omega)]
        rw [hy] at h2
        split
        · rename_i hw; rw [if_pos hw] at h2; exact wpIn_lastQ hstep h2
        · rename_i hw; rw [if_neg hw] at h2; exact ⟨h2.1, hstep _ _ h2.2⟩

/-! ### monotony -/
theorem guarded_mono {ops : Array Oper} {o : Oper} {f : Fr} {yes no yes' no' : Fr → Prop} (h : guarded n ops o f yes no) (h1 : yes f → yes' f) (h2 : no f → no' f) : guarded n ops o f yes' no' := by
  unfold guarded at h ⊢
  split at h
  · exact h1 h
  · split at h
    · exact h
    · split at h
      · rename_i b hb
        rename_i d _ _
        have hself : f d = .bool b := by
          cases hl : Nat.blt d n with
          | false => rw [hl] at hb; simp [undef] at hb
          | true => rw [hl] at hb; exact hb
        cases b with
        | true => simp only [iteP, upd_self hself] at h ⊢; exact bif_mono h h1 h2
        | false => simp only [iteP, upd_self hself] at h ⊢; exact bif_mono h h1 h2
      · exact h2 h
      · exact h
theorem rdOp_mono {o : Oper} {f : Fr} {w : World} {K K' : Value → Prop} (hk : ∀ v, K v → K' v) (h : rdOp P A n o f w K) : rdOp P A n o f w K' := by
  have hpure : pureK P n o f K → pureK P n o f K' := fun h => by
    obtain ⟨v, e, h⟩ := valueOf_out h
    show valueOf _ K'
    rw [e]; exact hk _ h
  unfold rdOp at h ⊢
  cases ho : Own.of (ev n f) o.op with
  | load t a => rw [ho] at h; exact ldK_mono hk h
  | nilCheck x =>
    rw [ho] at h
    have h : nilK (ev n f x) K := h
    show nilK (ev n f x) K'
    unfold nilK at h ⊢
    split at h
    · exact onSome_mono h fun p h => hk _ h
    · exact hk _ h
    · exact h
  | indexAddr t x i => rw [ho] at h; exact idxK_mono hk h
  | index t x i =>
    rw [ho] at h
    simp only [] at h ⊢
    split at h
    · exact strIx_mono hk h
    · exact hpure h
  | slice t x lo hi => rw [ho] at h; exact slK_mono hk h
  | pick c a b =>
    rw [ho] at h
    have h : pickK (ev n f c) (ev n f a) (ev n f b) K := h
    show pickK (ev n f c) (ev n f a) (ev n f b) K'
    unfold pickK at h ⊢
    split at h
    · exact iteP_mono h (hk _) (hk _)
    · exact h
  | cat t x y u =>
    rw [ho] at h
    refine bif_mono h (fun h => ?_) hpure
    unfold catK at h ⊢
    split at h
    · exact ⟨h.1, hk _ h.2⟩
    · exact h
  | call g args ts => rw [ho] at h; exact h
  | nileq neg t x c u =>
    rw [ho] at h
    refine bif_mono h (fun h => ?_) (fun h => h)
    split at h
    · cases neg <;> exact hk _ h
    · exact h
  | run => rw [ho] at h; obtain ⟨v, e, h⟩ := h; exact ⟨v, e, exV_mono h hk⟩
  | other => rw [ho] at h; exact hpure h
theorem rdStage_mono {ops : Array Oper} {f0 : Fr} {ms es : List Nat} {k : Nat} {w : World} : ∀ (idx : List Nat) {F : Fr} {K K' : Fr → Prop}, agree (dstsOf ops) f0 F → (∀ F', agree (dstsOf ops) f0 F' → K F' → K' F') →
    rdStage P A n ops ms es k w idx F K → rdStage P A n ops ms es k w idx F K' := by
  intro idx
  induction idx with
  | nil => exact fun ha hk h => hk _ ha h
  | cons i rest ih =>
    intro F K K' ha hk h
    unfold rdStage at h ⊢
    split at h
    · exact ih ha hk h
    · rename_i o hi
      refine bif_mono h (fun h => ?_) (ih ha hk)
      refine bif_mono h (fun h => ?_) (fun h => ?_)
      · exact guarded_mono h (fun h => rdOp_mono (fun v h => ih (agree_put hi ha) hk h) h) (fun h => ih (agree_put hi ha) hk h)
      · exact bif_mono h (fun h => ⟨h.1, ih ha hk h.2⟩) (ih ha hk)
theorem stages_mono {ops : Array Oper} {f0 : Fr} {ms es : List Nat} : ∀ (l : List Nat) {k : Nat} {K K' : KF} {X X' : List PanicEntry → KF} {F : Fr} {D : List Deferred} {w : World},
    (∀ f' D w, agree (dstsOf ops) f0 f' → K f' D w → K' f' D w) → (∀ c f' D w, X c f' D w → X' c f' D w) → agree (dstsOf ops) f0 F →
    stages P r A n ops ms es K X l k F D w → stages P r A n ops ms es K' X' l k F D w := by
  intro l
  induction l with
  | nil => exact fun hK hX ha h => rdStage_mono _ ha (fun F' hf h => hK _ _ _ hf h) h
  | cons e l ih =>
    intro k K K' X X' F D w hK hX ha h
    refine rdStage_mono _ ha (fun F' hf h => ?_) h
    cases he : ops[e]? with
    | none => rw [he] at h; exact h
    | some o =>
      rw [he] at h
      exact guarded_mono h (fun h => stepOp_mono (fun v D w h => ih hK hX (agree_put he hf) h) (fun c D w h g => hX _ _ _ _ (h g)) h) (fun h => ih hK hX (agree_put he hf) h)
end
end Go.L
