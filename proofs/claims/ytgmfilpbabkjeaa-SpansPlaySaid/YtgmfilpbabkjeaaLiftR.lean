/- A region whose order is open, read in one canonical order: every read as early as may be, and told again behind each effect that it may follow ('stages'). Sound for every order that the model may draw ('stages_sound'). No program in sight. -/
import Derived.Test.YtgmfilpbabkjeaaLiftC
import Derived.OrdersIn
set_option linter.unusedVariables false
set_option linter.unusedSimpArgs false
namespace Go.L
open Go.RowKit

/-! ### reads -/
def evalP {α : Type} (P : Program) : Sem α → Option α
  | .pure a => some a
  | .program k => evalP P (k P)
  | _ => none
theorem evalP_run {α : Type} {P : Program} (s : Sem α) : ∀ {a : α}, evalP P s = some a → ∀ w, s.run P w = .ok a w := by
  induction s with
  | pure b => intro a h w; cases h; rfl
  | program k ih => intro a h w; exact ih P h w
  | _ => intro a h; cases h
def valueOf : Option Next → (Value → Prop) → Prop
  | some (.value v), K => K v
  | _, _ => False
def pureK (P : Program) (n : Nat) (o : Oper) (f : Fr) (K : Value → Prop) : Prop := valueOf (evalP P (execOp (ev n f) o)) K
def rdRunK (P : Program) (s : Sem Value) (w : World) (K : Value → Prop) : Prop := ∃ v, s.run P w = .ok v w ∧ K v
def isRead : Op → Bool
  | .move _ | .assign _ | .pick .. | .load .. | .nilCheck _ | .binOp .. | .unOp .. | .convert .. | .makeInterface .. | .makeFunc .. | .fieldAddr .. | .field ..
  | .indexAddr .. | .index .. | .lookup .. | .extract .. | .build .. | .slice .. => true
  | .call { callee := .builtin b, .. } => match b with | .len | .cap | .min | .max => true | _ => false
  | _ => false
def rdOp (P : Program) (A : Ann) (n : Nat) (o : Oper) (f : Fr) (w : World) (K : Value → Prop) : Prop :=
  match Own.of (ev n f) o.op with
  | .load t a => ldK P t (A.at o.dst) (ev n f a) w K
  | .nilCheck x => nilK (ev n f x) K
  | .indexAddr t x i => idxK P t (ev n f x) (ev n f i) K
  | .index t x i =>
    match P.underlying t, ev n f x with
    | some .string, .string s => strIx s (ev n f i) K
    | _, _ => pureK P n o f K
  | .slice t x lo hi => slK P t (ev n f x) (lo.map (ev n f)) (hi.map (ev n f)) K
  | .pick c a b => pickK (ev n f c) (ev n f a) (ev n f b) K
  | .cat t x y u => bif isStr (ev n f x) then catK (ev n f x) (ev n f y) K else pureK P n o f K
  | .call _ _ _ => False
  | .nileq neg t x c u =>
    bif nilFits P t c then
      match nilEq P t (ev n f x) with
      | some b => (match neg with | true => K (.bool (!b)) | false => K (.bool b))
      | none => False
    else False
  | .run => rdRunK P (semOf (ev n f) o) w fun v => exV (A.at o.dst) v K
  | .other => pureK P n o f K
/-- Does a read look at the memory? -/
def wdep (e : Operand → Value) (o : Op) : Bool :=
  match Own.of e o with
  | .load .. => true
  | .run => true
  | _ => false
/-- An effect or a read with its guard. -/
def guarded (n : Nat) (ops : Array Oper) (o : Oper) (f : Fr) (yes no : Fr → Prop) : Prop :=
  match o.guard with
  | none => yes f
  | some (j, want) =>
    match (ops[j]?).bind (·.dst) with
    | none => False
    | some d =>
      match (bif Nat.blt d n then f d else undef) with
      | .bool b => iteP b (bif keepB true want then yes (upd f d (.bool true)) else no (upd f d (.bool true))) (bif keepB false want then yes (upd f d (.bool false)) else no (upd f d (.bool false)))
      | .tuple _ => no f
      | _ => False

/-! ### who waits for whom -/
def depsOf (o : Oper) : List Nat := (o.after.toList.filter (Region.binds .any)).map (·.on)
def maskOf (acc : List Nat) (o : Oper) : Nat := (depsOf o).foldl (fun m d => m ||| 2 ^ d ||| acc.getD d 0) 0
def masksFrom : List Nat → List Oper → List Nat
  | acc, [] => acc
  | acc, o :: l => masksFrom (acc ++ [maskOf acc o]) l
def masks (ops : Array Oper) : List Nat := masksFrom [] ops.toList
def effs (ops : Array Oper) : List Nat := (List.range ops.size).filter fun i => match ops[i]? with | some o => !isRead o.op | none => false
def loOf (ms : List Nat) (es : List Nat) (i : Nat) : Nat := (es.filter fun e => (ms.getD i 0).testBit e).length
def hiOf (ms : List Nat) (es : List Nat) (i : Nat) : Nat := (es.filter fun e => !(ms.getD e 0).testBit i).length
def slotsOf (o : Op) : List Nat := o.operands.toList.filterMap fun | .tmp t => some t | _ => none
/-- The looks that the reading rests on. -/
def chainOk (ms : List Nat) : List Nat → Bool
  | e :: e' :: l => (ms.getD e' 0).testBit e && chainOk ms (e' :: l)
  | _ => true
def distinctB : List Nat → Bool
  | [] => true
  | d :: l => !(l.any (Nat.beq d)) && distinctB l
def noSel : Op → Bool
  | .select .. => false
  | _ => true
def opOk (ops : Array Oper) (i : Nat) (o : Oper) : Bool :=
  noSel o.op && (depsOf o).all (fun d => Nat.blt d i) &&
  (match o.guard with | none => true | some (j, _) => (depsOf o).any (Nat.beq j)) &&
  (slotsOf o.op).all fun t => (List.range ops.size).all fun j => match ops[j]? with
    | some o' => (match o'.dst with | some d => !(Nat.beq d t) || (depsOf o).any (Nat.beq j) | none => true)
    | none => true
def drawOk (ops : Array Oper) : Bool :=
  distinctB (ops.toList.filterMap (·.dst)) && chainOk (masks ops) (effs ops) &&
  (List.range ops.size).all fun i => match ops[i]? with | some o => opOk ops i o | none => true

/-! ### the stages -/
def rdStage (P : Program) (A : Ann) (n : Nat) (ops : Array Oper) (ms es : List Nat) (k : Nat) (w : World) : List Nat → Fr → (Fr → Prop) → Prop
  | [], f, K => K f
  | i :: rest, f, K =>
    match ops[i]? with
    | none => rdStage P A n ops ms es k w rest f K
    | some o =>
      bif isRead o.op then
        bif Nat.beq (loOf ms es i) k then
          guarded n ops o f (fun f' => rdOp P A n o f' w fun v => rdStage P A n ops ms es k w rest (putF f' o.dst v) K) (fun f' => rdStage P A n ops ms es k w rest (putF f' o.dst undef) K)
        else bif Nat.blt (loOf ms es i) k && Nat.ble k (hiOf ms es i) && wdep (ev n f) o.op then
          guarded n ops o f (fun f' => rdOp P A n o f' w fun v => v = (match o.dst with | some d => f d | none => v)) (fun _ => True) ∧ rdStage P A n ops ms es k w rest f K
        else rdStage P A n ops ms es k w rest f K
      else rdStage P A n ops ms es k w rest f K
def stages (P : Program) (r : Option Nat) (A : Ann) (n : Nat) (ops : Array Oper) (ms es : List Nat) (K : KF) (X : List PanicEntry → KF) : List Nat → Nat → KF
  | [], k, f, D, w => rdStage P A n ops ms es k w (List.range ops.size) f fun f' => K f' D w
  | e :: l, k, f, D, w => rdStage P A n ops ms es k w (List.range ops.size) f fun f' =>
    match ops[e]? with
    | none => False
    | some o =>
      guarded n ops o f'
        (fun f'' => stepOp P r A n o f'' D w (fun v D' w' => stages P r A n ops ms es K X l (k + 1) (putF f'' o.dst v) D' w') (fun c D' w' => ∀ g : Fr, X c g D' w'))
        (fun f'' => stages P r A n ops ms es K X l (k + 1) (putF f'' o.dst undef) D w)
def DrawS (P : Program) (r : Option Nat) (A : Ann) (n : Nat) (ops : Array Oper) (K : KF) (X : List PanicEntry → KF) (f : Fr) (D : List Deferred) (w : World) : Prop :=
  stages P r A n ops (masks ops) (effs ops) K X (effs ops) 0 f D w.drew

section
variable {P : Program} {r : Option Nat} {A : Ann} {n : Nat}

/-! ### a read is sound -/
theorem valueOf_out {x : Option Next} {K : Value → Prop} (h : valueOf x K) : ∃ v, x = some (.value v) ∧ K v := by
  unfold valueOf at h
  split at h
  · exact ⟨_, rfl, h⟩
  · exact h.elim
theorem pureK_sound {o : Oper} {f : Fr} {K : Value → Prop} (h : pureK P n o f K) : ∃ v, K v ∧ ∀ w, (execOp (ev n f) o).run P w = .ok (.value v) w := by
  obtain ⟨v, e, hk⟩ := valueOf_out h
  exact ⟨v, hk, evalP_run _ e⟩
theorem rdOp_sound {o : Oper} {f : Fr} {w : World} {K : Value → Prop} (hr : isRead o.op = true) (h : rdOp P A n o f w K) :
    ∃ v, K v ∧ (execOp (ev n f) o).run P w = .ok (.value v) w ∧ (wdep (ev n f) o.op = false → ∀ w', (execOp (ev n f) o).run P w' = .ok (.value v) w') := by
  have hs := own_spec (ev n f) o.op
  have all : ∀ {v}, K v → (∀ w', (execOp (ev n f) o).run P w' = .ok (.value v) w') → ∃ v, K v ∧ (execOp (ev n f) o).run P w = .ok (.value v) w ∧ (wdep (ev n f) o.op = false → ∀ w', (execOp (ev n f) o).run P w' = .ok (.value v) w') :=
    fun hk h => ⟨_, hk, h w, fun _ => h⟩
  have pure' : pureK P n o f K → ∃ v, K v ∧ (execOp (ev n f) o).run P w = .ok (.value v) w ∧ (wdep (ev n f) o.op = false → ∀ w', (execOp (ev n f) o).run P w' = .ok (.value v) w') := fun h => by
    obtain ⟨v, hk, h⟩ := pureK_sound h; exact all hk h
  unfold rdOp at h
  cases ho : Own.of (ev n f) o.op with
  | load t a =>
    rw [ho] at h hs
    have hs : o.op = .load t a := hs
    obtain ⟨v, e, hk⟩ := ldK_sound (w := w) h
    refine ⟨v, hk, by unfold execOp; rw [hs]; exact run_value e, fun hw => ?_⟩
    unfold wdep at hw; rw [ho] at hw; cases hw
  | nilCheck x =>
    rw [ho] at h hs
    have hs : o.op = .nilCheck x := hs
    have h : nilK (ev n f x) K := h
    unfold nilK at h
    split at h
    · rename_i p hx
      obtain ⟨q, rfl, hk⟩ := onSome_out h
      exact all hk fun w' => by unfold execOp; rw [hs]; simp only [hx]; rfl
    · rename_i k a b hx
      exact all h fun w' => by unfold execOp; rw [hs]; simp only [hx]; rfl
    · exact h.elim
  | indexAddr t x i =>
    rw [ho] at h hs
    have hs : o.op = .indexAddr t x i := hs
    have h : idxK P t (ev n f x) (ev n f i) K := h
    have one : ∀ v0 : Value, idxK P t (ev n f x) (ev n f i) (fun u => u = v0) → ∀ w', (Instr.indexAt t (ev n f x) (ev n f i)).run P w' = .ok v0 w' := by
      intro v0 h w'
      obtain ⟨v, e, rfl⟩ := idxK_sound (w := w') h
      exact e
    have key : ∃ v, K v ∧ ∀ w', (Instr.indexAt t (ev n f x) (ev n f i)).run P w' = .ok v w' := by
      unfold idxK at h
      split at h
      · rename_i e a l c k j hu hx hj
        obtain ⟨he, hb, h2⟩ := bif_out h
        obtain ⟨p, rfl, hk⟩ := onSome_out h2
        exact ⟨_, hk, one _ (by unfold idxK; rw [hu, hx, hj]; simp only [he, cond_true]; exact ⟨hb, rfl⟩)⟩
      · rename_i m e o' k j hu hx hj
        obtain ⟨he, hb, h2⟩ := bif_out h
        obtain ⟨p, rfl, hk⟩ := onSome_out h2
        exact ⟨_, hk, one _ (by unfold idxK; rw [hu, hx, hj]; simp only [he, cond_true]; exact ⟨hb, rfl⟩)⟩
      · exact h.elim
    obtain ⟨v, hk, e⟩ := key
    exact all hk fun w' => by unfold execOp; rw [hs]; exact run_value (e w')
  | index t x i =>
    rw [ho] at h hs
    have hs : o.op = .index t x i := hs
    simp only [] at h
    split at h
    · rename_i s hu hx
      have h : strIx s (ev n f i) K := h
      unfold strIx at h
      split at h
      · rename_i k j hj
        refine all h.2 fun w' => ?_
        have hh : strIx s (ev n f i) (fun u => u = .int .u8 (byt s j)) := by unfold strIx; rw [hj]; exact ⟨h.1, rfl⟩
        obtain ⟨v, e, rfl⟩ := strIx_sound (w := w') hu hh
        unfold execOp; rw [hs]; simp only [hx]; exact run_value e
      · exact h.elim
    · exact pure' h
  | slice t x lo hi =>
    rw [ho] at h hs
    have hs : o.op = .slice t x lo hi none := hs
    have key : ∀ {a : Value} {l h' : Option Value} {K : Value → Prop}, slK P t a l h' K → ∃ v, K v ∧ ∀ w', (Instr.sliceAt t a l h' none).run P w' = .ok v w' := by
      intro a l h' K h
      have one : ∀ v0 : Value, slK P t a l h' (fun u => u = v0) → ∀ w', (Instr.sliceAt t a l h' none).run P w' = .ok v0 w' := by
        intro v0 h w'
        obtain ⟨v, e, rfl⟩ := slK_sound (w := w') h
        exact e
      unfold slK at h
      split at h
      · rename_i s hu
        unfold slStr at h
        split at h
        · exact ⟨_, h, one _ (by unfold slK; rw [hu]; exact rfl)⟩
        · exact ⟨_, h.2, one _ (by unfold slK; rw [hu]; exact ⟨h.1, rfl⟩)⟩
        · exact ⟨_, h.2, one _ (by unfold slK; rw [hu]; exact ⟨h.1, rfl⟩)⟩
        · exact ⟨_, h.2, one _ (by unfold slK; rw [hu]; exact ⟨h.1, rfl⟩)⟩
        · exact h.elim
      · rename_i e b m c hu
        obtain ⟨he, h⟩ := bif_out h
        unfold slSl at h
        split at h
        · exact ⟨_, h, one _ (by unfold slK; rw [hu]; simp only [he, cond_true]; exact rfl)⟩
        · exact ⟨_, h.2, one _ (by unfold slK; rw [hu]; simp only [he, cond_true]; exact ⟨h.1, rfl⟩)⟩
        · exact ⟨_, h.2, one _ (by unfold slK; rw [hu]; simp only [he, cond_true]; exact ⟨h.1, rfl⟩)⟩
        · exact ⟨_, h.2, one _ (by unfold slK; rw [hu]; simp only [he, cond_true]; exact ⟨h.1, rfl⟩)⟩
        · exact h.elim
      · exact h.elim
    obtain ⟨v, hk, e⟩ := key h
    exact all hk fun w' => by unfold execOp; rw [hs]; exact run_value (e w')
  | pick c a b =>
    rw [ho] at h hs
    have hs : o.op = .pick c a b := hs
    have h : pickK (ev n f c) (ev n f a) (ev n f b) K := h
    unfold pickK at h
    split at h
    · rename_i t hc
      cases t with
      | true => exact all (v := ev n f a) h fun w' => by unfold execOp; rw [hs]; simp only [hc, asBool, pure_bind]; rfl
      | false => exact all (v := ev n f b) h fun w' => by unfold execOp; rw [hs]; simp only [hc, asBool, pure_bind]; rfl
    · exact h.elim
  | cat t x y u =>
    rw [ho] at h hs
    have hs : o.op = .binOp .add t x y u := hs
    simp only [] at h
    cases hb : isStr (ev n f x) with
    | false => rw [hb] at h; exact pure' h
    | true =>
      rw [hb] at h
      have h : catK (ev n f x) (ev n f y) K := h
      unfold catK at h
      split at h
      · rename_i a b hx hy
        obtain ⟨hsz, hk⟩ := h
        refine all hk fun w' => ?_
        unfold execOp; rw [hs]
        simp only [hx, hy]
        refine run_value ?_
        have e1 : (eqGuard .add t x y (.string a) (.string b)).run P w' = .ok () w' := rfl
        rw [run_bind_ok e1]
        show (Op.stringOp .add a b).run P w' = _
        unfold Op.stringOp
        simp only []
        rw [if_neg (by omega)]; rfl
      · exact h.elim
  | call g args ts => rw [ho] at h; exact False.elim h
  | nileq neg t x c u =>
    rw [ho] at h hs
    have hs : o.op = .binOp (if neg then .neq else .eql) t x (.const c) u := hs
    obtain ⟨hc, h⟩ := bif_out h
    split at h
    · rename_i b hb
      have hk : K (.bool (if neg then !b else b)) := by cases neg <;> exact h
      exact all hk fun w' => by unfold execOp; rw [hs]; exact run_value (nilEq_run (x := x) (neg := neg) (w := w') hc hb)
    · exact h.elim
  | run =>
    rw [ho] at h
    obtain ⟨v, e, hk⟩ := h
    have hk := exV_out hk
    obtain ⟨hd, hrun⟩ := run_spec ho
    refine ⟨v, hk, ?_, fun hw => ?_⟩
    · rcases hrun P w w v e with ⟨_, e2⟩ | ⟨hu, e2, rfl⟩
      · exact e2
      · exfalso
        revert hu hr
        cases o.op <;> simp [isUnit, isRead]
    · unfold wdep at hw; rw [ho] at hw; cases hw
  | other => rw [ho] at h; exact pure' h
end
end Go.L
