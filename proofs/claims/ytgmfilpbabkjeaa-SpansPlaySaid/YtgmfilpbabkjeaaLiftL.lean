/- The reading of regions and code as propositions ('liftIdx', 'lift'), and that it is sound for the machine's steps ('lift_sound', 'calls_of_lift'). No program in sight. -/
import Derived.Test.YtgmfilpbabkjeaaLiftU
set_option linter.unusedVariables false
set_option linter.unusedSimpArgs false
namespace Go.L
open Go.RowKit

section
variable {P : Program} {r : Option Nat} {A : Ann} {n : Nat}

/-! ### a region, in a given order -/
def liftIdx (P : Program) (r : Option Nat) (A : Ann) (n : Nat) (ops : Array Oper) (K : KF) (X : List PanicEntry → KF) : List Nat → KF
  | [], f, D, w => K f D w
  | i :: rest, f, D, w =>
    match ops[i]? with
    | none => liftIdx P r A n ops K X rest f D w
    | some o =>
      match o.guard with
      | none => stepOp P r A n o f D w (fun v D' w' => liftIdx P r A n ops K X rest (putF f o.dst v) D' w') (fun c D' w' => X c f D' w')
      | some (j, want) =>
        match (ops[j]?).bind (·.dst) with
        | none => False
        | some d =>
          match (bif Nat.blt d n then f d else undef) with
          | .bool b =>
            iteP b
              (bif keepB true want then stepOp P r A n o (upd f d (.bool true)) D w (fun v D' w' => liftIdx P r A n ops K X rest (putF (upd f d (.bool true)) o.dst v) D' w') (fun c D' w' => X c (upd f d (.bool true)) D' w')
               else liftIdx P r A n ops K X rest (putF (upd f d (.bool true)) o.dst undef) D w)
              (bif keepB false want then stepOp P r A n o (upd f d (.bool false)) D w (fun v D' w' => liftIdx P r A n ops K X rest (putF (upd f d (.bool false)) o.dst v) D' w') (fun c D' w' => X c (upd f d (.bool false)) D' w')
               else liftIdx P r A n ops K X rest (putF (upd f d (.bool false)) o.dst undef) D w)
          | .tuple _ => liftIdx P r A n ops K X rest (putF f o.dst undef) D w
          | _ => False

theorem liftIdx_sound (hP : NoNG P) {ops : Array Oper} {K : KF} {X : List PanicEntry → KF} {Q : Exit → Act → World → Prop}
    (hK : ∀ f D w, K f D w → Q .normal (mkA n f D) w) (hX : ∀ c f D w, X c f D w → Q (.panic c) (mkA n f D) w) :
    ∀ (l : List Nat) (f : Fr) (D : List Deferred) (w : World), liftIdx P r A n ops K X l f D w → wpOpsIn (FR r) 0 P ops Q l (mkA n f D) w := by
  intro l
  induction l with
  | nil => exact fun f D w h => hK f D w h
  | cons i rest ih =>
    intro f D w h
    unfold liftIdx at h
    unfold wpOpsIn
    split at h
    · rename_i hi; rw [hi]; exact ih f D w h
    · rename_i o hi
      rw [hi]
      simp only []
      have key : ∀ f, stepOp P r A n o f D w (fun v D' w' => liftIdx P r A n ops K X rest (putF f o.dst v) D' w') (fun c D' w' => X c f D' w') →
          o.wpIn (FR r) 0 P (mkA n f D) w (wpOpsIn (FR r) 0 P ops Q rest) Q := by
        intro f h
        refine stepOp_sound hP ⟨fun v D' w' hk => ?_, fun c w' hx => hX _ _ _ _ hx⟩ h
        rw [put_mkA]; exact ih _ _ _ hk
      split at h
      · rename_i hg
        have : Region.wanted o (yielded ops (mkA n f D).tmps) = true := by unfold Region.wanted; rw [hg]
        rw [if_pos this]
        exact key f h
      · rename_i j want hg
        split at h
        · exact h.elim
        · rename_i d hj
          split at h
          · rename_i b hb
            have hd : d < n := by
              rcases Nat.lt_or_ge d n with h' | h'
              · exact h'
              · have : Nat.blt d n = false := by
                  cases hbl : Nat.blt d n with
                  | false => rfl
                  | true => exact absurd (by simpa [Nat.blt_eq] using hbl) (by omega)
                rw [this] at hb; simp [undef] at hb
            have hblt : Nat.blt d n = true := by simpa [Nat.blt_eq] using hd
            rw [hblt] at hb
            have hb : f d = .bool b := hb
            have hy := yielded_of (n := n) (D := D) hj hd hb
            have hw : Region.wanted o (yielded ops (mkA n f D).tmps) = (b == want) := by
              unfold Region.wanted; rw [hg]; simp only [hy]; cases b <;> cases want <;> rfl
            rw [hw]
            cases b with
            | true =>
              simp only [iteP] at h
              rw [upd_self hb, keepB_eq] at h
              cases hk : (true == want) with
              | true => rw [hk] at h; rw [if_pos rfl]; exact key f h
              | false => rw [hk] at h; rw [if_neg (by simp)]; refine ⟨fun _ _ => trivial, ?_⟩; rw [put_mkA]; exact ih _ _ _ h
            | false =>
              simp only [iteP] at h
              rw [upd_self hb, keepB_eq] at h
              cases hk : (false == want) with
              | true => rw [hk] at h; rw [if_pos rfl]; exact key f h
              | false => rw [hk] at h; rw [if_neg (by simp)]; refine ⟨fun _ _ => trivial, ?_⟩; rw [put_mkA]; exact ih _ _ _ h
          · rename_i vs hb
            have hy : yielded ops (mkA n f D).tmps j = none := by
              unfold yielded
              rw [hj]
              simp only [Option.bind_some, tmps_mkA]
              by_cases hl : d < n
              · have hbl : Nat.blt d n = true := by simpa [Nat.blt_eq] using hl
                rw [hbl] at hb
                have hb : f d = .tuple vs := hb
                simp [hl, hb]
              · simp [hl]
            have hw : Region.wanted o (yielded ops (mkA n f D).tmps) = false := by
              unfold Region.wanted; rw [hg]; simp only [hy]; rfl
            rw [hw, if_neg (by simp)]
            refine ⟨fun _ _ => trivial, ?_⟩
            rw [put_mkA]; exact ih _ _ _ h
          · exact h.elim

/-! ### code -/
def thenKE (k : KF) (K : KE) : KE
  | .normal, f, D, w => k f D w
  | e, f, D, w => K e f D w
def inBlkK (id : Nat) (K : KE) : KE
  | .exit id', f, D, w => bif Nat.beq id' id then K .normal f D w else K (.exit id') f D w
  | e, f, D, w => K e f D w
/-- The frame at a loop's head: some slots carried, what the body writes forgotten, the others as they were. -/
def look (i : Nat) : List Nat → List Value → Option Value
  | s :: ss, v :: vs => bif Nat.beq i s then some v else look i ss vs
  | _, _ => none
def hd (f : Fr) (wr : List Nat) (z : Fr) (slots : List Nat) (vs : List Value) : Fr := fun i =>
  match look i slots vs with
  | some v => v
  | none => bif elemN i wr then z i else f i
def firstRegion : Code → Nat
  | .region id _ _ => id
  | .seq a _ => firstRegion a
  | .cond _ a _ => firstRegion a
  | .block _ b => firstRegion b
  | .loop b => firstRegion b
  | _ => 0
def writes (A : Ann) : Code → List Nat
  | .region _ ops _ => dstsOf ops
  | .seq a b => writes A a ++ writes A b
  | .cond _ a b => writes A a ++ writes A b
  | .block _ b => writes A b
  | .loop b => (A.loop (firstRegion b)).1 ++ (A.loop (firstRegion b)).2.2
  | _ => []
def allIn (l l' : List Nat) : Bool := l.all fun i => elemN i l'
def eqD (D' D : List Deferred) (p : Prop) : Prop :=
  match D', D with
  | [], [] => p
  | D', D => D' = D ∧ p
theorem eqD_out {D' D : List Deferred} {p : Prop} (h : eqD D' D p) : D' = D ∧ p := by
  unfold eqD at h
  split at h
  · exact ⟨rfl, h⟩
  · exact h
def LoopP (a : List Nat × List S2 × List Nat) (ok : Bool) (step : KE → KF) (K : KE) (f : Fr) (D : List Deferred) (w : World) : Prop :=
  bif ok then
    ∃ I : TL2 a.2.1 (Nat → World → Prop),
      (∃ k, appL2 a.2.1 I (a.1.map f) fun J => J k w) ∧
      allL2 a.2.1 fun vs => ∀ (k : Nat) (w' : World), (appL2 a.2.1 I vs fun J => J k w') → ∀ z : Fr,
        step (thenKE (fun f' D' w'' => eqD D' D (∃ k', k' < k ∧ appL2 a.2.1 I (a.1.map f') fun J => J k' w'')) K) (hd f a.2.2 z a.1 vs) D w'
  else False
/-- A region whose order is open: any order that the model may draw. -/
def DrawP (P : Program) (r : Option Nat) (A : Ann) (n : Nat) (ops : Array Oper) (K : KF) (X : List PanicEntry → KF) (f : Fr) (D : List Deferred) (w : World) : Prop :=
  ∀ t, liftIdx P r A n ops K X (Region.schedule (P.follows .mixedOrders) ops t) f D w.drew
/-! ### a range over a function: the record is any that is told by its state and its pending jump -/
abbrev Rec := LoopState → Option Code → Obj
def roundEnd (l : Nat) (rec : Rec) (K : Value → World → Prop) : KE
  | .normal, _, _, w => w.heap[l]? = some (rec .busy none) ∧ K (.bool true) (w.putObj l (rec .ready none))
  | .ret, _, _, w => w.heap[l]? = some (rec .busy none) ∧ K (.bool false) (w.putObj l (rec .done (some .ret)))
  | .exit id, _, _, w => w.heap[l]? = some (rec .busy none) ∧ K (.bool false) (w.putObj l (rec .done (some (.exit id))))
  | .goto t, _, _, w => w.heap[l]? = some (rec .busy none) ∧ K (.bool false) (w.putObj l (rec .done (some (.goto t))))
  | _, _, _, _ => False
def rangeAfter (K : KE) (f : Fr) (D : List Deferred) : Option Code → World → Prop
  | none, w => K .normal f D w
  | some .ret, w => K .ret f D w
  | some (.exit id), w => K (.exit id) f D w
  | some (.goto t), w => K (.goto t) f D w
  | _, _ => False
def putArgs (f : Fr) : List Nat → List Value → Fr
  | p :: ps, v :: vs => putArgs (upd f p v) ps vs
  | _, _ => f
def noKE : KE := fun _ _ _ _ => False
/-- The jumps by which a round may be left. -/
def jumps : Code → List Code
  | .ret => [.ret]
  | .exit id => [.exit id]
  | .goto t => [.goto t]
  | .seq a b => jumps a ++ jumps b
  | .cond _ a b => jumps a ++ jumps b
  | .block _ b => jumps b
  | .loop b => jumps b
  | .scope b => jumps b
  | _ => []
def anyP {α : Type} (φ : α → Prop) : List α → Prop
  | [] => False
  | x :: l => φ x ∨ anyP φ l
theorem anyP_out {α : Type} {φ : α → Prop} : ∀ {l : List α}, anyP φ l → ∃ x, φ x := by
  intro l
  induction l with
  | nil => exact fun h => h.elim
  | cons x l ih => exact fun h => h.elim (fun h => ⟨x, h⟩) ih
theorem anyP_mono {α : Type} {φ ψ : α → Prop} (h : ∀ x, φ x → ψ x) : ∀ {l : List α}, anyP φ l → anyP ψ l := by
  intro l
  induction l with
  | nil => exact fun h => h
  | cons x l ih => exact fun h' => h'.elim (fun h' => .inl (h _ h')) (fun h' => .inr (ih h'))
def RangeK (P : Program) (js : List Code) (shs : List S2) (ps : List Nat) (g : Value) (assign body : Nat → KE → KF) (K : KE) (f : Fr) (D : List Deferred) (w : World) : Prop :=
  bif Nat.beq shs.length ps.length then
    ∃ (k : Nat) (first cap : Array Value), g = .func (.func k) first cap ∧ bodied P k = true ∧ ∀ rec : Rec,
      (allL2 shs fun args => ∀ (w' : World) (K' : Value → World → Prop), w'.heap[w.heap.size + 1]? = some (rec .ready none) →
        assign (w.heap.size + 1) (thenKE (fun f' D' w1 => w1.heap[w.heap.size + 1]? = some (rec .ready none) ∧
          body (w.heap.size + 1) (roundEnd (w.heap.size + 1) rec K') f' D' (w1.putObj (w.heap.size + 1) (rec .busy none))) noKE) (putArgs f ps args) [] w' →
        yieldAny P (w.heap.size + 1) args.toArray w' K') →
      Calls P k (first ++ #[.func (.yield (w.heap.size + 1)) #[] #[]] ++ cap) ((w.alloc (.deferred (some []))).alloc (rec .ready none))
        (endK (fun _ w3 => (w3.heap[w.heap.size + 1]? = some (rec .ready none) ∧ rangeAfter K f ({ target := .collected w.heap.size, args := #[] } :: D) none (w3.putObj (w.heap.size + 1) (rec .exhausted none))) ∨
          anyP (fun c => w3.heap[w.heap.size + 1]? = some (rec .done (some c)) ∧ rangeAfter K f ({ target := .collected w.heap.size, args := #[] } :: D) (some c) (w3.putObj (w.heap.size + 1) (rec .exhausted (some c)))) js)
          (fun _ _ => False))
  else False
/-- Where the annotation of such a loop lies. -/
def rangeKey (l : List Nat) : Nat := 1000000 + l.headD 0
def isNone' : Option Nat → Bool
  | none => true
  | some _ => false
def lift (P : Program) : Option Nat → Ann → Nat → Code → KE → KF
  | r, A, n, .skip, K, f, D, w => K .normal f D w
  | r, A, n, .label _, K, f, D, w => K .normal f D w
  | r, A, n, .ret, K, f, D, w => K .ret f D w
  | r, A, n, .exit id, K, f, D, w => K (.exit id) f D w
  | r, A, n, .goto l, K, f, D, w => K (.goto l) f D w
  | r, A, n, .region _ ops draw, K, f, D, w =>
    bif draw then
      (bif drawOk ops then DrawS P r A n ops (fun f D w => K .normal f D w) (fun c f D w => K (.panic c) f D w) f D w
       else bif lastOk ops && drawOk ops.pop then
         DrawS P r A n ops.pop (fun f D w => liftIdx P r A n ops (fun f D w => K .normal f D w) (fun c f D w => K (.panic c) f D w) [ops.size - 1] f D w) (fun c f D w => K (.panic c) f D w) f D w
       else DrawP P r A n ops (fun f D w => K .normal f D w) (fun c f D w => K (.panic c) f D w) f D w)
    else liftIdx P r A n ops (fun f D w => K .normal f D w) (fun c f D w => K (.panic c) f D w) (List.range ops.size) f D w
  | r, A, n, .seq a b, K, f, D, w => lift P r A n a (thenKE (lift P r A n b K) K) f D w
  | r, A, n, .cond c a b, K, f, D, w =>
    match ev n f c with
    | .bool t => iteP t (lift P r A n a K f D w) (lift P r A n b K f D w)
    | _ => False
  | r, A, n, .block id b, K, f, D, w => lift P r A n b (inBlkK id K) f D w
  | r, A, n, .loop b, K, f, D, w => LoopP (A.loop (firstRegion b)) (allIn (writes A b) ((A.loop (firstRegion b)).1 ++ (A.loop (firstRegion b)).2.2)) (lift P r A n b) K f D w
  | r, A, n, .rangeFunc g ps a b, K, f, D, w =>
    bif isNone' r then RangeK P (jumps b) (A.loop (rangeKey ps.toList)).2.1 ps.toList (ev n f g) (fun l => lift P (some l) A n a) (fun l => lift P (some l) A n b) K f D w else False
  | _, _, _, _, _, _, _, _ => False

theorem guard_of_match {v : Value} {T : Bool → Prop} {U : Prop} (h : match v with | .bool b => T b | .tuple _ => U | _ => False) : (∃ b, v = .bool b ∧ T b) ∨ (∃ vs, v = .tuple vs ∧ U) := by
  cases v <;> first | exact .inl ⟨_, rfl, h⟩ | exact .inr ⟨_, rfl, h⟩ | exact h.elim
theorem bool_of_match {v : Value} {T : Bool → Prop} (h : match v with | .bool b => T b | _ => False) : ∃ b, v = .bool b ∧ T b := by
  cases v <;> first | exact ⟨_, rfl, h⟩ | exact h.elim
theorem liftIdx_mono {ops : Array Oper} {f0 : Fr} : ∀ (l : List Nat) {K K' : KF} {X X' : List PanicEntry → KF} {f : Fr} {D : List Deferred} {w : World},
    (∀ f' D w, agree (dstsOf ops) f0 f' → K f' D w → K' f' D w) → (∀ c f' D w, agree (dstsOf ops) f0 f' → X c f' D w → X' c f' D w) → agree (dstsOf ops) f0 f →
    liftIdx P r A n ops K X l f D w → liftIdx P r A n ops K' X' l f D w := by
  intro l
  induction l with
  | nil => exact fun hK hX ha h => hK _ _ _ ha h
  | cons i rest ih =>
    intro K K' X X' f D w hK hX ha h
    unfold liftIdx at h ⊢
    split at h
    · exact ih hK hX ha h
    · rename_i o hi
      have hput : ∀ (f : Fr) (v : Value), agree (dstsOf ops) f0 f → agree (dstsOf ops) f0 (putF f o.dst v) := by
        intro f v hf j hj
        cases ho : o.dst with
        | none => exact hf j hj
        | some d =>
          have hm : elemN d (dstsOf ops) = true := elemN_iff.2 (by
            unfold dstsOf
            rw [List.mem_filterMap]
            exact ⟨o, Array.mem_toList_iff.2 (Array.mem_of_getElem? hi), ho⟩)
          have hne : Nat.beq j d = false := by
            cases hb : Nat.beq j d with
            | false => rfl
            | true => have := Nat.eq_of_beq_eq_true hb; subst this; rw [hm] at hj; cases hj
          show upd f d v j = f0 j
          simp only [upd, hne, cond_false]; exact hf j hj
      have hstep : ∀ f, agree (dstsOf ops) f0 f → stepOp P r A n o f D w (fun v D' w' => liftIdx P r A n ops K X rest (putF f o.dst v) D' w') (fun c D' w' => X c f D' w') →
          stepOp P r A n o f D w (fun v D' w' => liftIdx P r A n ops K' X' rest (putF f o.dst v) D' w') (fun c D' w' => X' c f D' w') :=
        fun f hf h => stepOp_mono (fun v D w h => ih hK hX (hput f v hf) h) (fun c D w h => hX _ _ _ _ hf h) h
      split at h
      · exact hstep f ha h
      · rename_i j want hg
        split at h
        · exact h
        · rename_i d hj
          rcases guard_of_match h with ⟨b, hb, h⟩ | ⟨vs, hb, h⟩
          case inr => rw [hb]; exact ih hK hX (hput f _ ha) h
          rw [hb]
          show iteP b _ _
          have hself : f d = .bool b := by
            cases hl : Nat.blt d n with
            | false => rw [hl] at hb; simp [undef] at hb
            | true => rw [hl] at hb; exact hb
          cases b with
          | true =>
            have hu := upd_self hself
            simp only [iteP, hu] at h ⊢
            exact bif_mono h (hstep f ha) (ih hK hX (hput f _ ha))
          | false =>
            have hu := upd_self hself
            simp only [iteP, hu] at h ⊢
            exact bif_mono h (hstep f ha) (ih hK hX (hput f _ ha))
theorem look_map (i : Nat) (f : Fr) : ∀ slots : List Nat, look i slots (slots.map f) = if elemN i slots = true then some (f i) else none := by
  intro slots
  induction slots with
  | nil => rfl
  | cons s ss ih =>
    simp only [List.map_cons, look, elemN, Bool.or_eq_true]
    cases hb : Nat.beq i s with
    | true => have := Nat.eq_of_beq_eq_true hb; subst this; simp
    | false => simp only [cond_false, ih]; simp
theorem look_none {i : Nat} : ∀ {slots : List Nat} {vs : List Value}, elemN i slots = false → look i slots vs = none := by
  intro slots
  induction slots with
  | nil => intro vs _; cases vs <;> rfl
  | cons s ss ih =>
    intro vs h
    simp only [elemN, Bool.or_eq_false_iff] at h
    cases vs with
    | nil => rfl
    | cons v vs => simp only [look, h.1, cond_false]; exact ih h.2
theorem hd_agree (f : Fr) (wr : List Nat) (z : Fr) (slots : List Nat) (vs : List Value) : agree (slots ++ wr) f (hd f wr z slots vs) := by
  intro i hi
  rw [elemN_append, Bool.or_eq_false_iff] at hi
  unfold hd
  rw [look_none hi.1]
  simp [hi.2]
theorem hd_self {f f' : Fr} {wr slots : List Nat} (h : agree (slots ++ wr) f f') : hd f wr f' slots (slots.map f') = f' := by
  funext i
  unfold hd
  rw [look_map]
  by_cases hs : elemN i slots = true
  · rw [if_pos hs]
  · rw [if_neg hs]
    cases hw : elemN i wr with
    | true => rfl
    | false => exact (h i (by rw [elemN_append]; simp [hw]; simpa using hs)).symm

theorem LoopP_mono {a : List Nat × List S2 × List Nat} {ok : Bool} {step : KE → KF} {K K' : KE} {f : Fr} {D : List Deferred} {w : World}
    (hstep : ∀ z vs D w (k : KF), step (thenKE k K) (hd f a.2.2 z a.1 vs) D w → step (thenKE k K') (hd f a.2.2 z a.1 vs) D w)
    (h : LoopP a ok step K f D w) : LoopP a ok step K' f D w := by
  refine bif_mono h (fun h => ?_) id
  obtain ⟨I, h0, hr⟩ := h
  refine ⟨I, h0, ?_⟩
  have : ∀ (l : List S2) (φ ψ : List Value → Prop), (∀ v, φ v → ψ v) → allL2 l φ → allL2 l ψ := by
    have all1_mono : ∀ (s : S1) {K K' : Value → Prop}, all1 s K → (∀ v, K v → K' v) → all1 s K' := by
      intro s K K' h hk
      cases s with
      | slice => exact fun a l c => hk _ (h a l c)
      | int k => exact fun x => hk _ (h x)
      | bool => exact fun x => hk _ (h x)
      | str => exact fun x => hk _ (h x)
      | ptr => exact fun x => hk _ (h x)
      | map => exact fun x => hk _ (h x)
      | any => exact fun x => hk _ (h x)
    have allL_mono : ∀ (l : List S1) {K K' : List Value → Prop}, allL l K → (∀ v, K v → K' v) → allL l K' := by
      intro l
      induction l with
      | nil => exact fun h hk => hk _ h
      | cons s l ih => exact fun h hk => all1_mono s h fun v h => ih h fun vs h => hk _ h
    intro l
    induction l with
    | nil => exact fun φ ψ hk h => hk _ h
    | cons s l ih =>
      intro φ ψ hk h
      cases s with
      | one s => exact all1_mono s h fun v h => ih _ _ (fun vs h => hk _ h) h
      | agg ss => exact allL_mono ss h fun vs h => ih _ _ (fun vs h => hk _ h) h
  refine this _ _ _ (fun vs h k w' hI z => ?_) hr
  exact hstep z vs D w' _ (h k w' hI z)

theorem lift_mono (c : Code) : ∀ {f0 : Fr} {K K' : KE} {f : Fr} {D : List Deferred} {w : World},
    (∀ e f' D w, agree (writes A c) f0 f' → K e f' D w → K' e f' D w) → (∀ c f' D w, K (.panic c) f' D w → K' (.panic c) f' D w) → agree (writes A c) f0 f → lift P r A n c K f D w → lift P r A n c K' f D w := by
  induction c with
  | skip => exact fun hK hp ha h => hK _ _ _ _ ha h
  | label l => exact fun hK hp ha h => hK _ _ _ _ ha h
  | ret => exact fun hK hp ha h => hK _ _ _ _ ha h
  | exit id => exact fun hK hp ha h => hK _ _ _ _ ha h
  | goto l => exact fun hK hp ha h => hK _ _ _ _ ha h
  | region id ops draw =>
    intro f0 K K' f D w hK hp ha h
    refine bif_mono h (fun h => bif_mono h (fun h => ?_) (fun h => bif_mono h (fun h => ?_) (fun h t => ?_))) (fun h => ?_)
    · exact stages_mono (f0 := f0) _ (fun f' D w hf h => hK _ _ _ _ hf h) (fun c f' D w h => hp _ _ _ _ h) ha h
    · refine stages_mono (f0 := f) _ (fun f' D w hf h => liftIdx_mono (f0 := f0) _ (fun f' D w hf h => hK _ _ _ _ hf h) (fun c f' D w hf h => hK _ _ _ _ hf h) (fun i hi => ?_) h) (fun c f' D w h => hp _ _ _ _ h) (agree.refl _ _) h
      refine (hf i ?_).trans (ha i hi)
      cases hb : elemN i (dstsOf ops.pop) with
      | false => rfl
      | true =>
        exfalso
        have hm : elemN i (dstsOf ops) = true := by
          rw [elemN_iff] at hb ⊢
          unfold dstsOf at hb ⊢
          rw [List.mem_filterMap] at hb ⊢
          obtain ⟨o, ho, hd⟩ := hb
          exact ⟨o, by rw [Array.toList_pop] at ho; exact List.dropLast_subset _ ho, hd⟩
        rw [show elemN i (dstsOf ops) = false from hi] at hm; cases hm
    · exact liftIdx_mono (f0 := f0) _ (fun f' D w hf h => hK _ _ _ _ hf h) (fun c f' D w hf h => hK _ _ _ _ hf h) ha (h t)
    · exact liftIdx_mono (f0 := f0) _ (fun f' D w hf h => hK _ _ _ _ hf h) (fun c f' D w hf h => hK _ _ _ _ hf h) ha h
  | seq a b iha ihb =>
    intro f0 K K' f D w hK hp ha h
    refine iha (f0 := f) (K := thenKE (lift P r A n b K) K) (K' := thenKE (lift P r A n b K') K') (fun e f' D' w' hf h => ?_) (fun c f' D w h => hp c f' D w h) (agree.refl _ _) h
    have hff : agree (writes A a ++ writes A b) f0 f' := fun i hi => by
      have hi' := hi
      rw [elemN_append, Bool.or_eq_false_iff] at hi'
      exact (hf i hi'.1).trans (ha i hi)
    cases e with
    | normal => exact ihb (f0 := f') (K := K) (K' := K') (fun e f'' D w hf' h => hK _ _ _ _ (fun i hi => by
        have hi' := hi
        rw [show writes A (a.seq b) = writes A a ++ writes A b from rfl, elemN_append, Bool.or_eq_false_iff] at hi'
        exact (hf' i hi'.2).trans (hff i hi)) h) hp (agree.refl _ _) h
    | exit id => exact hK _ _ _ _ hff h
    | goto l => exact hK _ _ _ _ hff h
    | ret => exact hK _ _ _ _ hff h
    | panic c => exact hK _ _ _ _ hff h
    | outgrown => exact hK _ _ _ _ hff h
  | cond c a b iha ihb =>
    intro f0 K K' f D w hK hp ha h
    unfold lift at h ⊢
    obtain ⟨t, ht, h⟩ := bool_of_match h
    rw [ht]
    refine iteP_mono h (fun h => ?_) (fun h => ?_)
    · refine iha (f0 := f) (fun e f' D w hf h => hK _ _ _ _ (fun i hi => ?_) h) hp (agree.refl _ _) h
      have hi' := hi
      rw [show writes A (Code.cond c a b) = writes A a ++ writes A b from rfl, elemN_append, Bool.or_eq_false_iff] at hi'
      exact (hf i hi'.1).trans (ha i hi)
    · refine ihb (f0 := f) (fun e f' D w hf h => hK _ _ _ _ (fun i hi => ?_) h) hp (agree.refl _ _) h
      have hi' := hi
      rw [show writes A (Code.cond c a b) = writes A a ++ writes A b from rfl, elemN_append, Bool.or_eq_false_iff] at hi'
      exact (hf i hi'.2).trans (ha i hi)
  | block id b ih =>
    intro f0 K K' f D w hK hp ha h
    refine ih (f0 := f0) (K := inBlkK id K) (K' := inBlkK id K') (fun e f' D w hf h => ?_) (fun c f' D w h => hp c f' D w h) ha h
    cases e with
    | exit id' => exact bif_mono h (hK _ _ _ _ hf) (hK _ _ _ _ hf)
    | normal => exact hK _ _ _ _ hf h
    | goto l => exact hK _ _ _ _ hf h
    | ret => exact hK _ _ _ _ hf h
    | panic c => exact hK _ _ _ _ hf h
    | outgrown => exact hK _ _ _ _ hf h
  | loop b ih =>
    intro f0 K K' f D w hK hp ha h
    unfold lift at h ⊢
    cases hok : allIn (writes A b) ((A.loop (firstRegion b)).1 ++ (A.loop (firstRegion b)).2.2) with
    | false => rw [hok] at h; exact False.elim h
    | true =>
      rw [hok] at h
      refine LoopP_mono (fun z vs D w k h => ?_) h
      refine ih (f0 := hd f (A.loop (firstRegion b)).2.2 z (A.loop (firstRegion b)).1 vs) (K := thenKE k K) (K' := thenKE k K') (fun e f' D w hf h => ?_) (fun c f' D w h => hp c f' D w h) (agree.refl _ _) h
      have hff : agree (writes A (Code.loop b)) f0 f' := fun i hi => by
        have h1 : elemN i (writes A b) = false := by
          cases hw : elemN i (writes A b) with
          | false => rfl
          | true =>
            have := List.all_eq_true.1 hok i (elemN_iff.1 hw)
            rw [show elemN i ((A.loop (firstRegion b)).1 ++ (A.loop (firstRegion b)).2.2) = false from hi] at this
            cases this
        exact (hf i h1).trans ((hd_agree f _ z _ vs i hi).trans (ha i hi))
      cases e with
      | normal => exact h
      | exit id => exact hK _ _ _ _ hff h
      | goto l => exact hK _ _ _ _ hff h
      | ret => exact hK _ _ _ _ hff h
      | panic c => exact hK _ _ _ _ hff h
      | outgrown => exact hK _ _ _ _ hff h
  | rangeFunc g ps a b iha ihb =>
    intro f0 K K' f D w hK hp ha h
    refine bif_mono h (fun h => bif_mono h (fun h => ?_) id) id
    obtain ⟨k, first, cap, e, hb, h⟩ := h
    refine ⟨k, first, cap, e, hb, fun rec hy => (h rec hy).mono ?_⟩
    have haft : ∀ c D w, rangeAfter K f D c w → rangeAfter K' f D c w := by
      intro c D w h
      unfold rangeAfter at h ⊢
      split at h
      · exact hK _ _ _ _ ha h
      · exact hK _ _ _ _ ha h
      · exact hK _ _ _ _ ha h
      · exact hK _ _ _ _ ha h
      · exact h
    rintro (v | c | _) w' h
    · rcases h with ⟨h1, h2⟩ | h
      · exact .inl ⟨h1, haft _ _ _ h2⟩
      · exact .inr (anyP_mono (fun c h => ⟨h.1, haft _ _ _ h.2⟩) h)
    · exact h
    · exact h
  | scope b ih => exact fun hK hp ha h => False.elim h
  | refuse why => exact fun hK hp ha h => False.elim h
end
end Go.L
