/- That the reading of an operation is sound for the machine ('stepOp_sound'), and monotone. No program in sight. -/
import Derived.Test.YtgmfilpbabkjeaaLiftB
set_option linter.unusedVariables false
set_option linter.unusedSimpArgs false
namespace Go.L
open Go.RowKit

section
variable {P : Program} {r : Option Nat} {A : Ann} {n : Nat}

theorem ownEq_spec (neg : Bool) (e : Operand → Value) (t : TypeId) (x y : Operand) (u : TypeId) :
    (∃ c, y = .const c ∧ ownEq neg e t x y u = .nileq neg t x c u) ∨ ownEq neg e t x y u = .run ∨ ownEq neg e t x y u = .other := by
  unfold ownEq
  cases y with
  | const c =>
    simp only []
    cases isNilV c with
    | true => exact .inl ⟨c, rfl, rfl⟩
    | false => cases isAggV (e x) with
      | true => exact .inr (.inl rfl)
      | false => exact .inr (.inr rfl)
  | tmp s =>
    simp only []
    cases isAggV (e x) with
      | true => exact .inr (.inl rfl)
      | false => exact .inr (.inr rfl)
  | global s =>
    simp only []
    cases isAggV (e x) with
      | true => exact .inr (.inl rfl)
      | false => exact .inr (.inr rfl)
  | func s =>
    simp only []
    cases isAggV (e x) with
      | true => exact .inr (.inl rfl)
      | false => exact .inr (.inr rfl)
def runnable : Builtin → Bool
  | .append | .copy | .delete | .clear | .len => true
  | _ => false
theorem ownBuiltin_spec (e : Operand → Value) (b : Builtin) (args : List Operand) :
    (ownBuiltin e b args = .run ∧ runnable b = true) ∨ ownBuiltin e b args = .other := by
  unfold ownBuiltin
  split
  · exact .inl ⟨rfl, rfl⟩
  · exact .inl ⟨rfl, rfl⟩
  · exact .inl ⟨rfl, rfl⟩
  · exact .inl ⟨rfl, rfl⟩
  · rename_i x
    cases isMapV (e x) with
    | true => exact .inl ⟨rfl, rfl⟩
    | false => exact .inr rfl
  · exact .inr rfl
theorem own_spec (e : Operand → Value) (o : Op) : (match Own.of e o with
    | .load t a => o = .load t a
    | .nilCheck x => o = .nilCheck x
    | .indexAddr t x i => o = .indexAddr t x i
    | .index t x i => o = .index t x i
    | .slice t x lo hi => o = .slice t x lo hi none
    | .pick c a b => o = .pick c a b
    | .cat t x y u => o = .binOp .add t x y u
    | .call g args ts => o = .call { callee := .value g, args := args, argTypes := ts }
    | .nileq neg t x c u => o = .binOp (if neg then .neq else .eql) t x (.const c) u
    | .run => True
    | .other => True) := by
  generalize hx : Own.of e o = z
  unfold Own.of at hx
  split at hx
  case h_8 t x y u => subst hx; rcases ownEq_spec false e t x y u with ⟨c, rfl, h⟩ | h | h <;> rw [h] <;> first | rfl | trivial
  case h_9 t x y u => subst hx; rcases ownEq_spec true e t x y u with ⟨c, rfl, h⟩ | h | h <;> rw [h] <;> first | rfl | trivial
  case h_11 b args ts => subst hx; rcases ownBuiltin_spec e b args.toList with ⟨h, _⟩ | h <;> rw [h] <;> trivial
  case h_19 s d x => subst hx; cases isIntV (e x) <;> trivial
  all_goals (subst hx; first | rfl | trivial)
def isUnit : Op → Bool
  | .mapUpdate .. | .insert .. | .entryStore .. => true
  | _ => false
theorem run_spec {e : Operand → Value} {o : Oper} (h : Own.of e o.op = .run) : (∀ c, o.op ≠ .defer c) ∧ ∀ (P : Program) (w w' : World) (v : Value), (semOf e o).run P w = .ok v w' →
    ((isUnit o.op = false ∧ (execOp e o).run P w = .ok (.value v) w') ∨ (isUnit o.op = true ∧ (execOp e o).run P w = .ok .skip w' ∧ v = undef)) := by
  have hrun : ∀ {s : Sem Value} {P : Program} {w w' : World} {v : Value}, s.run P w = .ok v w' → (do pure (Next.value (← s)) : Sem Next).run P w = .ok (.value v) w' := fun h => run_value h
  have hunit : ∀ {s : Sem Unit} {P : Program} {w w' : World} {v : Value}, (unitV s).run P w = .ok v w' → (do s; pure Next.skip : Sem Next).run P w = .ok .skip w' ∧ v = undef := by
    intro s P w w' v h
    unfold unitV at h
    have e1 : (do s; pure undef : Sem Value).run P w = (s.run P w).andThen fun _ w => .ok undef w := Sem.run_bind ..
    have e2 : (do s; pure Next.skip : Sem Next).run P w = (s.run P w).andThen fun _ w => .ok .skip w := Sem.run_bind ..
    rw [e1] at h
    rw [e2]
    cases hs : s.run P w with
    | ok a w1 => rw [hs] at h; simp only [Result.andThen] at h ⊢; cases h; exact ⟨rfl, rfl⟩
    | halt x w1 => rw [hs] at h; simp only [Result.andThen] at h; cases h
  have hspec := own_spec e o.op
  cases hop : o.op with
  | call c =>
    obtain ⟨callee, args, ts⟩ := c
    refine ⟨fun c => by simp, ?_⟩
    rw [hop] at h
    cases callee with
    | value g => exact absurd h (by simp [Own.of])
    | invoke r m => exact absurd h (by simp [Own.of])
    | builtin b =>
      have hb : runnable b = true := by
        rcases ownBuiltin_spec e b args.toList with ⟨_, h'⟩ | h'
        · exact h'
        · have h2 : ownBuiltin e b args.toList = .run := h
          rw [h'] at h2; cases h2
      intro P w w' v hs
      refine .inl ⟨rfl, ?_⟩
      have hm : (args.toList.map e).toArray = args.map e := by apply Array.ext'; simp
      unfold semOf at hs
      unfold execOp
      rw [hop] at hs ⊢
      simp only [hm] at hs
      simp only [resolve, pure_bind, invoke, builtin]
      cases b <;> first | (simp [runnable] at hb; done) | exact hrun hs
  | lookup t x i c => exact ⟨fun c => by simp, fun P w w' v hs => .inl ⟨rfl, by unfold semOf at hs; unfold execOp; rw [hop] at hs ⊢; exact hrun hs⟩⟩
  | mapEntry t x i => exact ⟨fun c => by simp, fun P w w' v hs => .inl ⟨rfl, by unfold semOf at hs; unfold execOp; rw [hop] at hs ⊢; exact hrun hs⟩⟩
  | next t x => exact ⟨fun c => by simp, fun P w w' v hs => .inl ⟨rfl, by unfold semOf at hs; unfold execOp; rw [hop] at hs ⊢; exact hrun hs⟩⟩
  | entry t => exact ⟨fun c => by simp, fun P w w' v hs => .inl ⟨rfl, by unfold semOf at hs; unfold execOp; rw [hop] at hs ⊢; exact hrun hs⟩⟩
  | convert s d x => exact ⟨fun c => by simp, fun P w w' v hs => .inl ⟨rfl, by unfold semOf at hs; unfold execOp; rw [hop] at hs ⊢; exact hrun hs⟩⟩
  | binOp op t x y u => exact ⟨fun c => by simp, fun P w w' v hs => .inl ⟨rfl, by unfold semOf at hs; unfold execOp; rw [hop] at hs ⊢; exact hrun hs⟩⟩
  | mapUpdate t m k x => exact ⟨fun c => by simp, fun P w w' v hs => .inr ⟨rfl, by unfold semOf at hs; unfold execOp; rw [hop] at hs ⊢; exact hunit hs⟩⟩
  | insert t m k x => exact ⟨fun c => by simp, fun P w w' v hs => .inr ⟨rfl, by unfold semOf at hs; unfold execOp; rw [hop] at hs ⊢; exact hunit hs⟩⟩
  | entryStore t m k x => exact ⟨fun c => by simp, fun P w w' v hs => .inr ⟨rfl, by unfold semOf at hs; unfold execOp; rw [hop] at hs ⊢; exact hunit hs⟩⟩
  | slice t x lo hi m => rw [hop] at h; cases m <;> exact absurd h (by simp [Own.of])
  | defer c => rw [hop] at h; exact absurd h (by simp [Own.of])
  | _ => rw [hop] at h; exact absurd h (by simp [Own.of])

theorem stepOp_sound (hP : NoNG P) {o : Oper} {f : Fr} {D : List Deferred} {w : World} {next : Act → World → Prop} {Q : Exit → Act → World → Prop} {K : KV} {X : KX}
    (hA : AfterOp o n f D next Q K X) (h : stepOp P r A n o f D w K X) : o.wpIn (FR r) 0 P (mkA n f D) w next Q := by
  have hs := own_spec (ev n f) o.op
  unfold stepOp at h
  cases ho : Own.of (ev n f) o.op with
  | load t a =>
    rw [ho] at h hs
    have hs : o.op = .load t a := hs
    obtain ⟨v, e, hk⟩ := ldK_sound (w := w) h
    exact wpIn_value hA (by rw [hs]; intro c; simp) (by unfold execOp; rw [hs]; exact run_value e) hk
  | nilCheck x =>
    rw [ho] at h hs
    have hs : o.op = .nilCheck x := hs
    have h : nilK (ev n f x) fun v => K v D w := h
    unfold nilK at h
    split at h
    · rename_i p hx
      obtain ⟨q, rfl, hk⟩ := onSome_out h
      exact wpIn_value hA (by rw [hs]; intro c; simp) (by unfold execOp; rw [hs]; simp only [hx]; rfl) hk
    · rename_i k a b hx
      exact wpIn_value hA (by rw [hs]; intro c; simp) (by unfold execOp; rw [hs]; simp only [hx]; rfl) h
    · exact h.elim
  | indexAddr t x i =>
    rw [ho] at h hs
    have hs : o.op = .indexAddr t x i := hs
    obtain ⟨v, e, hk⟩ := idxK_sound (w := w) h
    exact wpIn_value hA (by rw [hs]; intro c; simp) (by unfold execOp; rw [hs]; exact run_value e) hk
  | index t x i =>
    rw [ho] at h hs
    have hs : o.op = .index t x i := hs
    simp only [] at h
    split at h
    · rename_i s hu hx
      obtain ⟨v, e, hk⟩ := strIx_sound (w := w) hu h
      exact wpIn_value hA (by rw [hs]; intro c; simp) (by unfold execOp; rw [hs]; simp only [hx]; exact run_value e) hk
    · exact rawK_sound hA h
  | slice t x lo hi =>
    rw [ho] at h hs
    have hs : o.op = .slice t x lo hi none := hs
    obtain ⟨v, e, hk⟩ := slK_sound (w := w) h
    exact wpIn_value hA (by rw [hs]; intro c; simp) (by unfold execOp; rw [hs]; exact run_value e) hk
  | pick c a b =>
    rw [ho] at h hs
    have hs : o.op = .pick c a b := hs
    have h : pickK (ev n f c) (ev n f a) (ev n f b) fun v => K v D w := h
    unfold pickK at h
    split at h
    · rename_i t hc
      cases t with
      | true => exact wpIn_value hA (by rw [hs]; intro c; simp) (v := ev n f a) (by unfold execOp; rw [hs]; simp only [hc, asBool, pure_bind]; rfl) h
      | false => exact wpIn_value hA (by rw [hs]; intro c; simp) (v := ev n f b) (by unfold execOp; rw [hs]; simp only [hc, asBool, pure_bind]; rfl) h
    · exact h.elim
  | cat t x y u =>
    rw [ho] at h hs
    have hs : o.op = .binOp .add t x y u := hs
    simp only [] at h
    cases hb : isStr (ev n f x) with
    | false => rw [hb] at h; exact rawK_sound hA h
    | true =>
      rw [hb] at h
      have h : catK (ev n f x) (ev n f y) fun v => K v D w := h
      unfold catK at h
      split at h
      · rename_i a b hx hy
        obtain ⟨hsz, hk⟩ := h
        refine wpIn_value hA (by rw [hs]; intro c; simp) (v := .string (a ++ b)) ?_ hk
        unfold execOp; rw [hs]
        simp only [hx, hy]
        refine run_value ?_
        have e1 : (eqGuard .add t x y (.string a) (.string b)).run P w = .ok () w := rfl
        rw [run_bind_ok e1]
        show (Op.stringOp .add a b).run P w = _
        unfold Op.stringOp
        simp only []
        rw [if_neg (by omega)]; rfl
      · exact h.elim
  | call g args ts =>
    rw [ho] at h hs
    have hs : o.op = .call { callee := .value g, args := args, argTypes := ts } := hs
    simp only [] at h
    split at h
    · rename_i k first cap hg
      exact callK_sound hP hA hs hg h
    · rename_i l first cap hg
      exact yieldK_sound hA hs hg h
    · exact rawK_sound hA h
  | nileq neg t x c u =>
    rw [ho] at h hs
    have hs : o.op = .binOp (if neg then .neq else .eql) t x (.const c) u := hs
    obtain ⟨hc, h⟩ := bif_out h
    split at h
    · rename_i b hb
      have e := nilEq_run (x := x) (neg := neg) (w := w) hc hb
      have hk : K (.bool (if neg then !b else b)) D w := by cases neg <;> exact h
      exact wpIn_value hA (by rw [hs]; intro c; simp) (by unfold execOp; rw [hs]; exact run_value e) hk
    · exact h.elim
  | run =>
    rw [ho] at h
    obtain ⟨v, w', e, hk⟩ := h
    have hk := exV_out hk
    obtain ⟨hd, hr⟩ := run_spec ho
    refine ⟨fun _ _ => trivial, ?_⟩
    have hro : (FR r).round = r := rfl
    rw [hro, ev_eq, Oper.semAt_eq _ _ _ hd]
    rcases hr P w w' v e with ⟨_, e2⟩ | ⟨_, e2, rfl⟩
    · rw [e2]; exact hA.1 _ _ _ hk
    · rw [e2]; exact hA.1 _ _ _ hk
  | other =>
    rw [ho] at h
    exact rawK_sound hA h

theorem semK_mono {α : Type} {X X' : Value → World → Prop} (hX : ∀ v w, X v w → X' v w) (s : Sem α) : ∀ (w : World) {K K' : α → World → Prop}, (∀ a w, K a w → K' a w) → semK P X s w K → semK P X' s w K' := by
  induction s with
  | pure a => exact fun w K K' hK h => hK _ _ h
  | load m a k ih => exact fun w K K' hK h => let ⟨v, hv, h⟩ := h; ⟨v, hv, ih v w hK h⟩
  | store m a v k ih =>
    intro w K K' hK h
    simp only [semK] at h ⊢
    cases hs : storable v with
    | true => rw [hs] at h; exact ⟨h.1, h.2.1, ih _ hK h.2.2⟩
    | false => rw [hs] at h; exact h
  | new o k ih => exact fun w K K' hK h => ih _ _ hK h
  | shape r k ih => exact fun w K K' hK h => ih _ _ hK h
  | freeze a n k ih => exact fun w K K' hK h => ih _ hK h
  | frozen a k ih => exact fun w K K' hK h => ih _ _ hK h
  | getObj r k ih => exact fun w K K' hK h => let ⟨o, h1, h2, h⟩ := h; ⟨o, h1, h2, ih o w hK h⟩
  | setObj r o k ih => exact fun w K K' hK h => ⟨h.1, ih _ hK h.2⟩
  | choose q k ih =>
    intro w K K' hK h
    simp only [semK] at h ⊢
    cases hq : q.forced with
    | true => rw [hq] at h; exact ih _ _ hK h
    | false => rw [hq] at h; exact ih _ _ hK h
  | sys c k ih => exact fun w K K' hK h => h
  | program k ih => exact fun w K K' hK h => ih _ _ hK h
  | mark m k ih => exact fun w K K' hK h => ih _ hK h
  | halt x => intro w K K' hK h; cases x <;> first | exact hX _ _ h | exact h
theorem endK_mono {V V' : Value → World → Prop} {C C' : List PanicEntry → World → Prop} (hV : ∀ v w, V v w → V' v w) (hC : ∀ c w, C c w → C' c w) {e : Ending} {w : World} (h : endK V C e w) : endK V' C' e w := by
  cases e with
  | returned v => exact hV _ _ h
  | panicked c => exact hC _ _ h
  | outgrown => exact h
theorem nextK_mono {sh : S3} {D : List Deferred} {K K' : KV} {X X' : KX} (hK : ∀ v D w, K v D w → K' v D w) (hX : ∀ c D w, X c D w → X' c D w) {x : Next} {w : World} (h : nextK P r sh D K X x w) : nextK P r sh D K' X' x w := by
  cases x <;> simp only [nextK] at h ⊢ <;> try exact h
  case value v => exact hK _ _ _ h
  case skip => exact hK _ _ _ h
  case defer d => exact hK _ _ _ h
  case enter k args => exact h.mono fun e w' he => endK_mono (fun v w h => exV_mono h fun v h => hK _ _ _ h) (fun c w h => hX _ _ _ h) he
  case round l k tmps assign body => exact h.mono fun e w' he => endK_mono (fun v w h => exV_mono h fun v h => hK _ _ _ h) (fun c w h => hX _ _ _ h) he
theorem onSome_mono {α : Type} {o : Option α} {K K' : α → Prop} (h : onSome o K) (hk : ∀ x, K x → K' x) : onSome o K' := by
  cases o with
  | none => exact h
  | some x => exact hk _ h
theorem iteP_mono {b : Bool} {A A' B B' : Prop} (h : iteP b A B) (h1 : A → A') (h2 : B → B') : iteP b A' B' := by
  cases b with
  | true => exact h1 h
  | false => exact h2 h
theorem bif_mono {b : Bool} {A A' B B' : Prop} (h : bif b then A else B) (h1 : A → A') (h2 : B → B') : bif b then A' else B' := by
  cases b with
  | true => exact h1 h
  | false => exact h2 h
theorem ldCells_mono {p : Addr} {w : World} : ∀ {l : List S1} {i : Nat} {K K' : List Value → Prop}, (∀ v, K v → K' v) → ldCells p w i l K → ldCells p w i l K' := by
  intro l
  induction l with
  | nil => exact fun hk h => hk _ h
  | cons s l ih => exact fun hk h => ex1_mono h fun v h => ⟨h.1, ih (fun vs h => hk _ h) h.2⟩
theorem ldK_mono {t : TypeId} {sh : S3} {x : Value} {w : World} {K K' : Value → Prop} (hk : ∀ v, K v → K' v) (h : ldK P t sh x w K) : ldK P t sh x w K' := by
  cases x <;> try exact h
  case pointer o =>
    refine onSome_mono (h : onSome o _) fun p h => ?_
    cases sh with
    | tup l => exact h
    | one s =>
      cases s with
      | one s => exact bif_mono h (fun h => ex1_mono h fun v h => ⟨h.1, hk _ h.2⟩) id
      | agg l => exact bif_mono h (fun h => ldCells_mono (fun vs h => hk _ h) h) id
theorem idxK_mono {t : TypeId} {x ix : Value} {K K' : Value → Prop} (hk : ∀ v, K v → K' v) (h : idxK P t x ix K) : idxK P t x ix K' := by
  unfold idxK at h ⊢
  split at h
  · exact bif_mono h (fun h => ⟨h.1, onSome_mono h.2 fun p h => hk _ h⟩) id
  · exact bif_mono h (fun h => ⟨h.1, onSome_mono h.2 fun p h => hk _ h⟩) id
  · exact h
theorem strIx_mono {s : ByteArray} {ix : Value} {K K' : Value → Prop} (hk : ∀ v, K v → K' v) (h : strIx s ix K) : strIx s ix K' := by
  unfold strIx at h ⊢
  split at h
  · exact ⟨h.1, hk _ h.2⟩
  · exact h
theorem slK_mono {t : TypeId} {x : Value} {lo hi : Option Value} {K K' : Value → Prop} (hk : ∀ v, K v → K' v) (h : slK P t x lo hi K) : slK P t x lo hi K' := by
  unfold slK at h ⊢
  split at h
  · unfold slStr at h ⊢
    split at h <;> first | exact hk _ h | exact ⟨h.1, hk _ h.2⟩ | exact h
  · refine bif_mono h (fun h => ?_) id
    unfold slSl at h ⊢
    split at h <;> first | exact hk _ h | exact ⟨h.1, hk _ h.2⟩ | exact h
  · exact h
theorem rawK_mono {o : Oper} {f : Fr} {D : List Deferred} {w : World} {K K' : KV} {X X' : KX} (hK : ∀ v D w, K v D w → K' v D w) (hX : ∀ c D w, X c D w → X' c D w)
    (h : rawK P r A n o f D w K X) : rawK P r A n o f D w K' X' :=
  semK_mono (fun v w h => hX _ _ _ h) _ _ (fun a w h => nextK_mono hK hX h) h
theorem stepOp_mono {o : Oper} {f : Fr} {D : List Deferred} {w : World} {K K' : KV} {X X' : KX} (hK : ∀ v D w, K v D w → K' v D w) (hX : ∀ c D w, X c D w → X' c D w)
    (h : stepOp P r A n o f D w K X) : stepOp P r A n o f D w K' X' := by
  unfold stepOp at h ⊢
  cases ho : Own.of (ev n f) o.op with
  | load t a => rw [ho] at h; exact ldK_mono (fun v h => hK _ _ _ h) h
  | nilCheck x =>
    rw [ho] at h
    have h : nilK (ev n f x) fun v => K v D w := h
    show nilK (ev n f x) fun v => K' v D w
    unfold nilK at h ⊢
    split at h
    · exact onSome_mono h fun p h => hK _ _ _ h
    · exact hK _ _ _ h
    · exact h
  | indexAddr t x i => rw [ho] at h; exact idxK_mono (fun v h => hK _ _ _ h) h
  | index t x i =>
    rw [ho] at h
    simp only [] at h ⊢
    split at h
    · exact strIx_mono (fun v h => hK _ _ _ h) h
    · exact rawK_mono hK hX h
  | slice t x lo hi => rw [ho] at h; exact slK_mono (fun v h => hK _ _ _ h) h
  | pick c a b =>
    rw [ho] at h
    have h : pickK (ev n f c) (ev n f a) (ev n f b) fun v => K v D w := h
    show pickK (ev n f c) (ev n f a) (ev n f b) fun v => K' v D w
    unfold pickK at h ⊢
    split at h
    · exact iteP_mono h (hK _ _ _) (hK _ _ _)
    · exact h
  | cat t x y u =>
    rw [ho] at h
    refine bif_mono h (fun h => ?_) (rawK_mono hK hX)
    unfold catK at h ⊢
    split at h
    · exact ⟨h.1, hK _ _ _ h.2⟩
    · exact h
  | call g args ts =>
    rw [ho] at h
    simp only [] at h ⊢
    split at h
    · refine bif_mono h (fun h => h.mono fun e w' he => endK_mono (fun v w h => exV_mono h fun v h => hK _ _ _ h) (fun c w h => hX _ _ _ h) he) ?_
      rintro ⟨v, w', e, h⟩
      exact ⟨v, w', e, exV_mono h fun v h => hK _ _ _ h⟩
    · exact yieldAny_mono (fun v w h => exV_mono h fun v h => hK _ _ _ h) h
    · exact rawK_mono hK hX h
  | nileq neg t x c u =>
    rw [ho] at h
    refine bif_mono h (fun h => ?_) id
    split at h
    · cases neg <;> exact hK _ _ _ h
    · exact h
  | run => rw [ho] at h; obtain ⟨v, w', e, h⟩ := h; exact ⟨v, w', e, exV_mono h fun v h => hK _ _ _ h⟩
  | other => rw [ho] at h; exact rawK_mono hK hX h
end
end Go.L
