/- That the reading of code as a proposition is sound for the machine ('lift_sound'), and for a call ('calls_of_lift'). No program in sight. -/
import Derived.Test.YtgmfilpbabkjeaaLiftL
set_option linter.unusedVariables false
set_option linter.unusedSimpArgs false
namespace Go.L
open Go.RowKit

section
variable {P : Program} {r : Option Nat} {A : Ann} {n : Nat}

theorem least {p : Nat → Prop} (h : ∃ k, p k) : ∃ k, p k ∧ ∀ j, j < k → ¬ p j := by
  obtain ⟨k, hk⟩ := h
  induction k using Nat.strongRecOn with
  | _ k ih =>
    by_cases hj : ∃ j, j < k ∧ p j
    · obtain ⟨j, hjk, hj⟩ := hj; exact ih j hjk hj
    · exact ⟨k, hk, fun j hjk hp => hj ⟨j, hjk, hp⟩⟩
/-- A loop by a relation with a number that every round lowers. -/
theorem wpIn_loop_fuel {F : Fence} {m : Nat} {c : Code} {Q : Exit → Act → World → Prop} {a : Act} {w : World} (J : Nat → Act → World → Prop) (h0 : ∃ k, J k a w)
    (round : ∀ k a w, J k a w → c.wpIn F m P (Exit.then (fun a' w' => ∃ k', k' < k ∧ J k' a' w') Q) a w) : (Code.loop c).wpIn F m P Q a w := by
  classical
  let μ : Act → World → Nat := fun a w => if h : ∃ k, J k a w then Classical.choose (least h) else 0
  refine wpIn_loop (fun a w => ∃ k, J k a w) μ h0 ?_
  intro a w hk
  have hμ : J (μ a w) a w ∧ ∀ j, j < μ a w → ¬ J j a w := by
    have : μ a w = Classical.choose (least hk) := by simp [μ, hk]
    rw [this]; exact Classical.choose_spec (least hk)
  refine wpIn_mono (round (μ a w) a w hμ.1) ?_
  intro e a' w' hq
  cases e with
  | normal =>
    obtain ⟨k', hlt, hJ⟩ := hq
    refine ⟨⟨k', hJ⟩, ?_⟩
    have hex : ∃ k, J k a' w' := ⟨k', hJ⟩
    have h2 : μ a' w' = Classical.choose (least hex) := by simp [μ, hex]
    have h3 := (Classical.choose_spec (least hex)).2
    have : μ a' w' ≤ k' := by
      rw [h2]
      rcases Nat.lt_or_ge k' (Classical.choose (least hex)) with h' | h'
      · exact absurd hJ (h3 k' h')
      · exact h'
    omega
  | exit id => exact hq
  | goto l => exact hq
  | ret => exact hq
  | panic c => exact hq
  | outgrown => exact hq

theorem app1_of {T : Type} : ∀ {s : S1} {I : T1 s T} {v : Value} {K : T → Prop} {φ : Value → Prop}, app1 s I v K → all1 s φ → φ v := by
  intro s I v K φ h ha
  cases s <;> cases v <;> first | exact False.elim h | exact ha _ _ _ | skip
  all_goals first | (exact ha _; done) | skip
  case int.int k k' x =>
    obtain ⟨hk, _⟩ := bif_out h
    have := kb_eq hk; subst this; exact ha x
theorem app1_some {T : Type} : ∀ {s : S1} {I : T1 s T} {v : Value} {K : T → Prop}, app1 s I v K → ∃ t, K t := by
  intro s I v K h
  cases s <;> cases v <;> first | exact False.elim h | exact ⟨_, h⟩ | exact ⟨_, (bif_out h).2⟩
theorem appL_of {T : Type} : ∀ {l : List S1} {I : TL l T} {vs : List Value} {K : T → Prop} {φ : List Value → Prop}, appL l I vs K → allL l φ → φ vs := by
  intro l
  induction l with
  | nil => intro I vs K φ h ha; cases vs with
    | nil => exact ha
    | cons v vs => exact False.elim h
  | cons s l ih =>
    intro I vs K φ h ha
    cases vs with
    | nil => exact False.elim h
    | cons v vs =>
      obtain ⟨I', h'⟩ := app1_some (s := s) (v := v) (T := TL l T) (K := fun I' => appL l I' vs K) h
      exact ih (φ := fun vs => φ (v :: vs)) h' (app1_of (s := s) (v := v) (T := TL l T) (φ := fun v => allL l fun vs => φ (v :: vs)) h ha)
theorem appL_some {T : Type} : ∀ {l : List S1} {I : TL l T} {vs : List Value} {K : T → Prop}, appL l I vs K → ∃ t, K t := by
  intro l
  induction l with
  | nil => intro I vs K h; cases vs with
    | nil => exact ⟨_, h⟩
    | cons v vs => exact False.elim h
  | cons s l ih =>
    intro I vs K h
    cases vs with
    | nil => exact False.elim h
    | cons v vs =>
      obtain ⟨I', h'⟩ := app1_some (s := s) (v := v) (T := TL l T) (K := fun I' => appL l I' vs K) h
      exact ih h'
theorem app2_of {T : Type} {s : S2} {I : T2 s T} {v : Value} {K : T → Prop} {φ : Value → Prop} (h : app2 s I v K) (ha : all2 s φ) : φ v := by
  cases s with
  | one s => exact app1_of (T := T) (s := s) (v := v) h ha
  | agg l =>
    cases v <;> try exact False.elim h
    case agg cs =>
      have := appL_of (T := T) (l := l) (vs := cs.toList) (φ := fun vs => φ (.agg vs.toArray)) h ha
      simpa using this
theorem app2_some {T : Type} {s : S2} {I : T2 s T} {v : Value} {K : T → Prop} (h : app2 s I v K) : ∃ t, K t := by
  cases s with
  | one s => exact app1_some (T := T) (s := s) (v := v) h
  | agg l =>
    cases v <;> try exact False.elim h
    case agg cs => exact appL_some (T := T) (l := l) (vs := cs.toList) h
theorem appL2_of {T : Type} : ∀ {l : List S2} {I : TL2 l T} {vs : List Value} {K : T → Prop} {φ : List Value → Prop}, appL2 l I vs K → allL2 l φ → φ vs := by
  intro l
  induction l with
  | nil => intro I vs K φ h ha; cases vs with
    | nil => exact ha
    | cons v vs => exact False.elim h
  | cons s l ih =>
    intro I vs K φ h ha
    cases vs with
    | nil => exact False.elim h
    | cons v vs =>
      obtain ⟨I', h'⟩ := app2_some (s := s) (v := v) (T := TL2 l T) (K := fun I' => appL2 l I' vs K) h
      exact ih (φ := fun vs => φ (v :: vs)) h' (app2_of (s := s) (v := v) (T := TL2 l T) (φ := fun v => allL2 l fun vs => φ (v :: vs)) h ha)

theorem getD_rep (k i : Nat) : (Array.replicate k false).getD i false = false := by simp [Array.getD_eq_getD_getElem?, Array.getElem?_replicate]; split <;> rfl
theorem all1_of {s : S1} {φ : Value → Prop} (h : ∀ v, φ v) : all1 s φ := by
  cases s with
  | slice => exact fun a l c => h _
  | int k => exact fun x => h _
  | bool => exact fun x => h _
  | str => exact fun x => h _
  | ptr => exact fun x => h _
  | map => exact fun x => h _
  | any => exact fun x => h _
theorem allL_of : ∀ {l : List S1} {φ : List Value → Prop}, (∀ vs, φ vs) → allL l φ := by
  intro l
  induction l with
  | nil => exact fun h => h _
  | cons s l ih => exact fun h => all1_of fun v => ih fun vs => h _
theorem all2_of {s : S2} {φ : Value → Prop} (h : ∀ v, φ v) : all2 s φ := by
  cases s with
  | one s => exact all1_of h
  | agg l => exact allL_of fun vs => h _
theorem allL2_of : ∀ {l : List S2} {φ : List Value → Prop}, (∀ vs, vs.length = l.length → φ vs) → allL2 l φ := by
  intro l
  induction l with
  | nil => exact fun h => h _ rfl
  | cons s l ih => exact fun h => all2_of fun v => ih fun vs hl => h _ (by simp [hl])
theorem putArgs_mkA {D : List Deferred} : ∀ (ps : List Nat) (vs : List Value) (f : Fr), ((ps.zip vs).foldl (fun tmps (x : Nat × Value) => tmps.setIfInBounds x.1 x.2) (mkA n f D).tmps) = (mkA n (putArgs f ps vs) D).tmps := by
  intro ps
  induction ps with
  | nil => intro vs f; rfl
  | cons p ps ih =>
    intro vs f
    cases vs with
    | nil => rfl
    | cons v vs =>
      have := ih vs (upd f p v)
      have e := congrArg Act.tmps (put_mkA n f D (some p) v)
      simp only [Act.put, putF] at e
      simp only [List.zip_cons_cons, List.foldl_cons, putArgs]
      rw [e]; exact this
theorem callFunc_enter (hP : NoNG P) {k : Nat} {args : Array Value} {w : World} (hb : bodied P k = true) : (callFunc k args).run P w = .ok (.enter k args) w := callFunc_ok hP hb
theorem lift_sound (hP : NoNG P) (hm : P.follows .mixedOrders = true) (c : Code) : ∀ {r : Option Nat} {K : KE} {Q : Exit → Act → World → Prop} {f : Fr} {D : List Deferred} {w : World},
    (∀ e f D w, K e f D w → Q e (mkA n f D) w) → lift P r A n c K f D w → c.wpIn (FR r) 0 P Q (mkA n f D) w := by
  induction c with
  | skip => exact fun hK h => wpIn_skip (hK _ _ _ _ h)
  | label l => exact fun hK h => wpIn_label (hK _ _ _ _ h)
  | ret => exact fun hK h => wpIn_ret (hK _ _ _ _ h)
  | exit id => exact fun hK h => wpIn_exit (hK _ _ _ _ h)
  | goto l => exact fun hK h => wpIn_goto (hK _ _ _ _ h)
  | region id ops draw =>
    intro r K Q f D w hK h
    cases draw with
    | false => exact wpIn_region (liftIdx_sound hP (fun f D w h => hK _ _ _ _ h) (fun c f D w h => hK _ _ _ _ h) _ _ _ _ h)
    | true =>
      have h : (bif drawOk ops then DrawS P r A n ops (fun f D w => K .normal f D w) (fun c f D w => K (.panic c) f D w) f D w
       else bif lastOk ops && drawOk ops.pop then
         DrawS P r A n ops.pop (fun f D w => liftIdx P r A n ops (fun f D w => K .normal f D w) (fun c f D w => K (.panic c) f D w) [ops.size - 1] f D w) (fun c f D w => K (.panic c) f D w) f D w
       else DrawP P r A n ops (fun f D w => K .normal f D w) (fun c f D w => K (.panic c) f D w) f D w) := h
      cases hok : drawOk ops with
      | true => rw [hok] at h; exact drawS_sound hP hm hok (fun f D w h => hK _ _ _ _ h) (fun c f D w h => hK _ _ _ _ h) h
      | false =>
       rw [hok] at h
       cases hok2 : lastOk ops && drawOk ops.pop with
       | true =>
        rw [hok2] at h
        have h : DrawS P r A n ops.pop (fun f D w => liftIdx P r A n ops (fun f D w => K .normal f D w) (fun c f D w => K (.panic c) f D w) [ops.size - 1] f D w) (fun c f D w => K (.panic c) f D w) f D w := h
        simp only [Bool.and_eq_true] at hok2
        have hpos : ops.size = (ops.size - 1) + 1 := by
          have h1 := hok2.1
          unfold lastOk at h1
          split at h1
          · rename_i o ho
            rw [Array.back?_eq_getElem?] at ho
            have := (Array.getElem?_eq_some_iff.1 ho).1
            omega
          · cases h1
        refine wpIn_region_any hm ?_
        have h2 := drawS_any (Q := lastQ Q (wpOpsIn (FR r) 0 P ops Q [ops.size - 1])) hP hok2.2 (fun f D w h => liftIdx_sound hP (fun f D w h => hK _ _ _ _ h) (fun c f D w h => hK _ _ _ _ h) _ _ _ _ h) (fun c f D w h => hK _ _ _ _ h) h
        have h3 := any_pop hpos hok2.1 (good_of hok2.2) ops.pop.size (Array.replicate ops.size false) (Array.replicate ops.pop.size false) _ _ (by simp; omega) (by simp)
          (fun i hi => (getD_rep _ _).trans (getD_rep _ _).symm)
          (getD_rep _ _) h2
        have e : ops.pop.size + 1 = ops.size := by simp; omega
        rw [e] at h3; exact h3
       | false =>
       rw [hok2] at h
       exact wpIn_region_draw fun t => liftIdx_sound hP (fun f D w h => hK _ _ _ _ h) (fun c f D w h => hK _ _ _ _ h) _ _ _ _ (h t)
  | seq a b iha ihb =>
    intro r K Q f D w hK h
    refine wpIn_seq (iha (fun e f' D' w' h => ?_) h)
    cases e with
    | normal => exact ihb hK h
    | exit id => exact hK _ _ _ _ h
    | goto l => exact hK _ _ _ _ h
    | ret => exact hK _ _ _ _ h
    | panic c => exact hK _ _ _ _ h
    | outgrown => exact hK _ _ _ _ h
  | cond c a b iha ihb =>
    intro r K Q f D w hK h
    unfold lift at h
    obtain ⟨t, ht, h⟩ := bool_of_match h
    refine wpIn_cond ((eval_mkA n f D c).trans ht) ?_
    cases t with
    | true => exact iha hK h
    | false => exact ihb hK h
  | block id b ih =>
    intro r K Q f D w hK h
    refine wpIn_block (ih (fun e f' D' w' h => ?_) h)
    cases e with
    | exit id' =>
      show if id' = id then _ else _
      by_cases hid : id' = id
      · rw [if_pos hid]
        subst hid
        have : Nat.beq id' id' = true := by simp
        have h : (bif Nat.beq id' id' then K .normal f' D' w' else K (.exit id') f' D' w') := h
        rw [this] at h
        exact hK _ _ _ _ h
      · rw [if_neg hid]
        have : Nat.beq id' id = false := by
          cases hb : Nat.beq id' id with
          | false => rfl
          | true => exact absurd (Nat.eq_of_beq_eq_true hb) hid
        have h : (bif Nat.beq id' id then K .normal f' D' w' else K (.exit id') f' D' w') := h
        rw [this] at h
        exact hK _ _ _ _ h
    | normal => exact hK _ _ _ _ h
    | goto l => exact hK _ _ _ _ h
    | ret => exact hK _ _ _ _ h
    | panic c => exact hK _ _ _ _ h
    | outgrown => exact hK _ _ _ _ h
  | loop b ih =>
    intro r K Q f D w hK h
    unfold lift at h
    cases hok : allIn (writes A b) ((A.loop (firstRegion b)).1 ++ (A.loop (firstRegion b)).2.2) with
    | false => rw [hok] at h; exact False.elim h
    | true =>
      rw [hok] at h
      generalize A.loop (firstRegion b) = a at h hok
      obtain ⟨slots, shs, wr⟩ := a
      obtain ⟨I, h0, hr⟩ := h
      simp only [] at h0 hr hok
      refine wpIn_loop_fuel (fun k a w => ∃ f', a = mkA n f' D ∧ agree (slots ++ wr) f f' ∧ appL2 shs I (slots.map f') fun J => J k w) ?_ ?_
      · obtain ⟨k, h0⟩ := h0
        exact ⟨k, f, rfl, agree.refl _ _, h0⟩
      · rintro k _ w' ⟨f', rfl, hag, hI⟩
        have hb := appL2_of hI hr k w' hI f'
        rw [hd_self hag] at hb
        refine ih (K := thenKE (fun f'' D' w'' => eqD D' D (∃ k', k' < k ∧ appL2 shs I (slots.map f'') fun J => J k' w'') ∧ agree (slots ++ wr) f f'') K) ?_ ?_
        · intro e f'' D' w'' h
          cases e with
          | normal =>
            obtain ⟨h, hag'⟩ := h
            obtain ⟨rfl, k', hlt, hJ⟩ := eqD_out h
            exact ⟨k', hlt, f'', rfl, hag', hJ⟩
          | exit id => exact hK _ _ _ _ h
          | goto l => exact hK _ _ _ _ h
          | ret => exact hK _ _ _ _ h
          | panic c => exact hK _ _ _ _ h
          | outgrown => exact hK _ _ _ _ h
        · refine lift_mono b (f0 := f') (K := thenKE (fun f' D' w'' => eqD D' D (∃ k', k' < k ∧ appL2 shs I (slots.map f') fun J => J k' w'')) K)
            (K' := thenKE (fun f'' D' w'' => eqD D' D (∃ k', k' < k ∧ appL2 shs I (slots.map f'') fun J => J k' w'') ∧ agree (slots ++ wr) f f'') K) (fun e f'' D' w'' hf h => ?_) (fun c f' D w h => h) (agree.refl _ _) hb
          have hag' : agree (slots ++ wr) f f'' := fun i hi => by
            have h1 : elemN i (writes A b) = false := by
              cases hw : elemN i (writes A b) with
              | false => rfl
              | true =>
                have := List.all_eq_true.1 hok i (elemN_iff.1 hw)
                rw [hi] at this; cases this
            exact (hf i h1).trans (hag i hi)
          cases e with
          | normal => exact ⟨h, hag'⟩
          | exit id => exact h
          | goto l => exact h
          | ret => exact h
          | panic c => exact h
          | outgrown => exact h
  | rangeFunc g ps a b iha ihb =>
    intro r K Q f D w hK h
    obtain ⟨hr, h⟩ := bif_out h
    have hr : r = none := by cases r with
      | none => rfl
      | some l => cases hr
    subst hr
    have h : RangeK P (jumps b) (A.loop (rangeKey ps.toList)).2.1 ps.toList (ev n f g) (fun l => lift P (some l) A n a) (fun l => lift P (some l) A n b) K f D w := h
    unfold RangeK at h
    obtain ⟨hsz, h⟩ := bif_out h
    obtain ⟨k, first, cap, hg, hb, h⟩ := h
    have hsz := Nat.eq_of_beq_eq_true hsz
    refine wpIn_rangeFunc fun fn _ => ?_
    obtain ⟨rec, hrec⟩ : ∃ rec : LoopState → Option Code → Loop, rec = fun st pe => { state := st, pending := pe, fn, tmps := (mkA n f D).tmps, params := ps, assign := a, body := b, defers := w.heap.size } := ⟨_, rfl⟩
    have h := h (fun s p => .loop (rec s p))
    obtain ⟨W1, hW1⟩ : ∃ W1 : World, W1 = (w.alloc (.deferred (some []))).alloc (.loop { state := .ready, pending := none, fn, tmps := (mkA n f D).tmps, params := ps, assign := a, body := b, defers := w.heap.size }) := ⟨_, rfl⟩
    refine ⟨w.heap.size + 1, [{ target := .collected w.heap.size, args := #[] }], W1, { target := .fn (.func k) cap, args := first ++ #[.func (.yield (w.heap.size + 1)) #[] #[]] }, W1, k,
      first ++ #[.func (.yield (w.heap.size + 1)) #[] #[]] ++ cap, W1, by rw [hW1]; exact run_enterLoop_outer _ _ _ _ _, ?_, fun _ _ => trivial, ?_, fun hd => by simp [FR, Fence.wide] at hd, ?_⟩
    · have hg' : (mkA n f D).eval g = .func (.func k) first cap := (eval_mkA n f D g).trans hg
      simp only [resolve, hg', Deferred.ofValue]
      simp [pure, Sem.run, Act.eval]
    · exact callFunc_enter hP hb
    have hW : W1 = (w.alloc (.deferred (some []))).alloc (.loop (rec .ready none)) := by rw [hW1, hrec]
    rw [hW]
    refine callsIn_FR ((h ?_).mono ?_)
    · -- one round
      refine allL2_of fun args hl w' K' hl1 hround => ?_
      have hy := run_yield (P := P) (args := args.toArray) hl1 (by rw [hrec]; simp [hl, hsz])
      have e1 : ((ps.zip args.toArray).foldl (fun tmps (x : Nat × Value) => tmps.setIfInBounds x.1 x.2) (mkA n f D).tmps) = (mkA n (putArgs f ps.toList args) []).tmps := by
        rw [← Array.foldl_toList, Array.toList_zip]
        exact (putArgs_mkA (D := D) ps.toList args f).trans rfl
      refine ⟨fn, (mkA n (putArgs f ps.toList args) []).tmps, a, b, ?_, roundIn_of_wpIn (F := FR none) trivial ?_⟩
      · rw [hy, ← e1, hrec]
      · refine iha (r := some (w.heap.size + 1)) ?_ hround
        intro e f' D' w1 he
        cases e with
        | normal =>
          obtain ⟨hl2, he⟩ := he
          refine ⟨_, run_beginRound hl2 (by rw [hrec]), ?_⟩
          have hbusy : ({ rec .ready none with state := .busy } : Loop) = rec .busy none := by rw [hrec]
          rw [hbusy]
          refine ihb (r := some (w.heap.size + 1)) ?_ he
          intro e f'' D'' w2 h2
          cases e with
          | normal => exact ⟨_, _, run_endRound none h2.1, by have := h2.2; rw [hrec] at this ⊢; exact this⟩
          | ret => exact ⟨_, _, run_endRound (some .ret) h2.1, by have := h2.2; rw [hrec] at this ⊢; exact this⟩
          | exit id => exact ⟨_, _, run_endRound (some (.exit id)) h2.1, by have := h2.2; rw [hrec] at this ⊢; exact this⟩
          | goto t => exact ⟨_, _, run_endRound (some (.goto t)) h2.1, by have := h2.2; rw [hrec] at this ⊢; exact this⟩
          | panic c => exact False.elim h2
          | outgrown => exact False.elim h2
        | ret => exact False.elim he
        | exit id => exact False.elim he
        | goto t => exact False.elim he
        | panic c => exact False.elim he
        | outgrown => exact False.elim he
    · -- behind the call
      rintro (v | c | _) w3 h3
      · rcases h3 with ⟨h1, h2⟩ | h3
        · refine ⟨_, _, run_endLoop h1 (by rw [hrec]; simp), ?_⟩
          rw [hrec] at h2 ⊢
          exact hK _ _ _ _ h2
        · obtain ⟨c, h1, h2⟩ := anyP_out h3
          refine ⟨_, _, run_endLoop h1 (by rw [hrec]; simp), ?_⟩
          rw [hrec] at h2 ⊢
          show c.wpIn _ _ _ _ _ _
          unfold rangeAfter at h2
          split at h2
          · rename_i hc; cases hc
          · rename_i hc; cases hc; exact wpIn_ret (hK _ _ _ _ h2)
          · rename_i hc; cases hc; exact wpIn_exit (hK _ _ _ _ h2)
          · rename_i hc; cases hc; exact wpIn_goto (hK _ _ _ _ h2)
          · exact h2.elim
      · exact h3.elim
      · exact h3.elim
  | scope b ih => exact fun hK h => False.elim h
  | refuse why => exact fun hK h => False.elim h

/-! ### a call -/
def argsF (args : List Value) : Fr := fun i => args.getD i undef
/-- The shape of a result's cell stands far off, beyond the slots. -/
def cellAt (t : Nat) : Nat := 100000 + t
def resK (P : Program) (A : Ann) (n : Nat) (f : Fr) (w : World) (l : List ResultVar) (K : List Value → Prop) : Prop :=
  match l with
  | [] => K []
  | .tmp t :: l => resK P A n f w l fun vs => K (ev n f (.tmp t) :: vs)
  | .cell a t :: l => ldK P t (A.sh (cellAt a)) (ev n f (.tmp a)) w fun v => resK P A n f w l fun vs => K (v :: vs)
def retV : List Value → Value
  | [v] => v
  | vs => .tuple vs.toArray
/-- A deferred call, on the way out. -/
def callsD (P : Program) (k : Nat) (args : Array Value) (u : FrameMode) (w : World) (K : Value → FrameMode → World → Prop) (X : List PanicEntry → FrameMode → World → Prop) : Prop :=
  bodied P k = true ∧ CallsDIn (FR none) 0 P k args u w fun
    | .returned v, u', w' => K v u' w'
    | .panicked c, u', w' => X c u' w'
    | .outgrown, _, _ => False
def isRun : FrameMode → Bool
  | .run => true
  | _ => false
def leaveK (P : Program) (A : Ann) (fn : Func) (R : Ending → World → Prop) (f : Fr) : List Deferred → FrameMode → World → Prop
  | [], .returning, w => resK P A fn.ntmps f w fn.results.toList fun vs => R (.returned (retV vs)) w
  | [], .panicking c, w => R (.panicked c) w
  | [], .run, _ => False
  | d :: ds, u, w => bif isRun u then False else
    match d.target with
    | .collected b => w.heap[b]? = some (.deferred (some [])) ∧ leaveK P A fn R f ds u (w.putObj b (.deferred none))
    | .fn (.func k) cap => callsD P k (d.args ++ cap) u w (fun _ u' w' => leaveK P A fn R f ds (settle u') w') (fun c u' w' => leaveK P A fn R f ds (raised u' c) w')
    | _ => False
def retK (P : Program) (A : Ann) (fn : Func) (R : Ending → World → Prop) : KE
  | .normal, f, D, w => leaveK P A fn R f D .returning w
  | .ret, f, D, w => leaveK P A fn R f D .returning w
  | .panic c, f, D, w => leaveK P A fn R f D (.panicking c) w
  | _, _, _, _ => False
theorem resK_out {l : List ResultVar} {f : Fr} {w : World} : ∀ {K : List Value → Prop}, resK P A n f w l K →
    ∃ vs, K vs ∧ (l.mapM (m := Sem) fun x => match x with | .tmp t => pure (ev n f (.tmp t)) | .cell a t => do loadVar t (← asAddr (ev n f (.tmp a)))).run P w = .ok vs w := by
  induction l with
  | nil => exact fun h => ⟨[], h, rfl⟩
  | cons x l ih =>
    intro K h
    cases x with
    | tmp t =>
      obtain ⟨vs, hk, e⟩ := ih h
      refine ⟨_, hk, ?_⟩
      rw [List.mapM_cons]
      simp only [pure_bind]
      rw [run_bind_ok e]; rfl
    | cell a t =>
      have h : ldK P t (A.sh (cellAt a)) (ev n f (.tmp a)) w fun v => resK P A n f w l fun vs => K (v :: vs) := h
      obtain ⟨v, e0, h'⟩ := ldK_sound h
      obtain ⟨vs, hk, e⟩ := ih h'
      refine ⟨_, hk, ?_⟩
      have hp : ∃ p, ev n f (.tmp a) = .pointer (some p) := by
        unfold ldK at h
        split at h
        · rename_i o hx
          obtain ⟨p, rfl, _⟩ := onSome_out h
          exact ⟨p, hx⟩
        · exact h.elim
      obtain ⟨p, hp⟩ := hp
      rw [hp] at e0
      have e1 : (do loadVar t (← asAddr (ev n f (.tmp a))) : Sem Value).run P w = .ok v w := by rw [hp]; exact e0
      rw [List.mapM_cons]
      simp only []
      rw [run_bind_ok e1, run_bind_ok e]; rfl
theorem results_of {fn : Func} {f : Fr} {D : List Deferred} {w : World} {K : List Value → Prop} (h : resK P A fn.ntmps f w fn.results.toList K) :
    ∃ vs, K vs ∧ (results fn (mkA fn.ntmps f D).tmps).run P w = .ok (retV vs) w := by
  obtain ⟨vs, hk, e⟩ := resK_out (P := P) (w := w) h
  refine ⟨vs, hk, ?_⟩
  unfold results
  rw [Array.mapM_eq_mapM_toList]
  have e2 : (fn.results.toList.mapM (m := Sem) fun x => match x with | .tmp t => pure ((mkA fn.ntmps f D).tmps.getD t undef) | .cell a t => do loadVar t (← asAddr ((mkA fn.ntmps f D).tmps.getD a undef))).run P w = .ok vs w := by
    have hf : ∀ t, (mkA fn.ntmps f D).tmps.getD t undef = ev fn.ntmps f (.tmp t) := fun t => eval_mkA fn.ntmps f D (.tmp t)
    simp only [hf]; exact e
  rw [map_eq_pure_bind, bind_assoc]
  refine Eq.trans (run_bind_ok (P := P) (a := vs) (w' := w) ?_) ?_
  · exact e2
  simp only [pure_bind]
  cases vs with
  | nil => rfl
  | cons v vs => cases vs with
    | nil => rfl
    | cons u vs => rfl
theorem leave_sound (hP : NoNG P) {fn : Func} {f : Fr} {R : Ending → World → Prop} {D0 : List Deferred} : ∀ (D : List Deferred) (u : FrameMode) (w : World), leaveK P A fn R f D u w → LeavesInM (FR none) 0 P fn (mkA fn.ntmps f D0).tmps R D u w := by
  intro D
  induction D with
  | nil =>
    intro u w h
    cases u with
    | run => exact h.elim
    | returning => obtain ⟨vs, hk, hr⟩ := results_of (P := P) (D := D0) (w := w) h; exact ⟨_, hr, hk⟩
    | panicking c => exact h
  | cons d ds ih =>
    intro u w h
    unfold leaveK at h
    cases hu : isRun u with
    | true => rw [hu] at h; exact h.elim
    | false =>
    rw [hu] at h
    refine ⟨(by rintro rfl; cases hu), ?_⟩
    obtain ⟨tg, dargs⟩ := d
    simp only [cond_false] at h
    cases tg with
    | collected b =>
      exact .inl ⟨b, _, rfl, run_takeDeferred h.1, ih _ _ h.2⟩
    | fn fv cap =>
      cases fv with
      | func k =>
        obtain ⟨hb, h⟩ := h
        refine .inr ⟨fun hd => by simp [FR, Fence.wide] at hd, .func k, cap, k, dargs ++ cap, rfl, ?_, fun _ _ => trivial, ?_⟩
        · exact callFunc_ok hP hb
        · refine ⟨h.1, fun c cs hc hr => ?_⟩
          obtain ⟨e, u', w', fr, hq, rest⟩ := h.2 c cs hc hr
          refine ⟨e, u', w', fr, ?_, rest⟩
          cases e with
          | returned v => exact ih _ _ hq
          | panicked c => exact ih _ _ hq
          | outgrown => exact hq.elim
      | _ => exact h.elim
    | _ => exact h.elim
theorem calls_of_lift (hP : NoNG P) (hm : P.follows .mixedOrders = true) {A : Ann} {k : FuncId} {fn : Func} {c : Code} {args : List Value} {w : World} {R : Ending → World → Prop}
    (hf : P.funcs[k]? = some fn) (hb : fn.body = some c) (hn : Nat.ble args.length fn.ntmps = true) (h : lift P none A fn.ntmps c (retK P A fn R) (argsF args) [] w) : Calls P k args.toArray w R := by
  refine calls_of_FR (r := none) (n := 0) (callsIn_of_wp_marks hf hb trivial ?_ rfl)
  have e : ({ tmps := args.toArray ++ Array.replicate (fn.ntmps - args.toArray.size) undef, defers := [] } : Act) = mkA fn.ntmps (argsF args) [] := by
    unfold mkA
    congr 1
    have hle : args.length ≤ fn.ntmps := Nat.le_of_ble_eq_true hn
    apply Array.ext_getElem?
    intro i
    simp only [Array.getElem?_ofFn, argsF]
    by_cases h1 : i < args.length
    · rw [Array.getElem?_append_left (by simpa using h1)]
      have : i < fn.ntmps := by omega
      simp [this, h1, List.getD_eq_getElem?_getD]
    · rw [Array.getElem?_append_right (by simpa using h1)]
      by_cases h2 : i < fn.ntmps
      · have h3 : i - args.length < fn.ntmps - args.length := by omega
        have h4 : args[i]? = none := List.getElem?_eq_none (by omega)
        simp [h2, h3, h4, List.getD_eq_getElem?_getD, Array.getElem?_replicate]
      · have h3 : ¬ i - args.length < fn.ntmps - args.length := by omega
        simp [h2, h3, Array.getElem?_replicate]
  rw [e]
  refine lift_sound hP hm c (fun e f D w h => ?_) h
  cases e with
  | normal => exact leave_sound hP D _ w h
  | ret => exact leave_sound hP D _ w h
  | panic c => exact leave_sound hP D _ w h
  | exit id => exact False.elim h
  | goto l => exact False.elim h
  | outgrown => exact False.elim h
end
end Go.L
