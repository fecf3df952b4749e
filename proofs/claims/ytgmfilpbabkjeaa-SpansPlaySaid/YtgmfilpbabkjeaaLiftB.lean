/- The reading of operations, regions and code as propositions ('stepOp', 'liftIdx', 'lift'), and that it is sound for the machine's steps ('lift_sound', 'calls_of_lift'). No program in sight. -/
import Derived.Test.YtgmfilpbabkjeaaLiftA
set_option linter.unusedVariables false
set_option linter.unusedSimpArgs false
namespace Go.L
open Go.RowKit

def iteP (b : Bool) (A B : Prop) : Prop :=
  match b with
  | true => A
  | false => B
def onSome {α : Type} (o : Option α) (K : α → Prop) : Prop :=
  match o with
  | some x => K x
  | none => False
theorem onSome_out {α : Type} {o : Option α} {K : α → Prop} (h : onSome o K) : ∃ x, o = some x ∧ K x := by
  cases o with
  | none => exact h.elim
  | some x => exact ⟨x, rfl, h⟩
theorem iteP_of {b : Bool} {A B : Prop} (h1 : b = true → A) (h2 : b = false → B) : iteP b A B := by cases b <;> simp_all [iteP]
theorem iteP_true {b : Bool} {A B : Prop} (hb : b = true) (h : A) : iteP b A B := by subst hb; exact h
theorem iteP_false {b : Bool} {A B : Prop} (hb : b = false) (h : B) : iteP b A B := by subst hb; exact h
def keepB (b want : Bool) : Bool := match b, want with | true, true => true | false, false => true | _, _ => false
theorem keepB_eq (b want : Bool) : keepB b want = (b == want) := by cases b <;> cases want <;> rfl
theorem upd_self {f : Fr} {d : Nat} {v : Value} (h : f d = v) : upd f d v = f := by
  funext i
  unfold upd
  by_cases e : i = d
  · subst e; simp [h]
  · have : Nat.beq i d = false := by
      cases hb : Nat.beq i d with
      | false => rfl
      | true => exact absurd (Nat.eq_of_beq_eq_true hb) e
    simp [this]
def bodied (P : Program) (k : Nat) : Bool :=
  match P.funcs[k]? with
  | some fn => fn.body.isSome
  | none => false
def endK (KV : Value → World → Prop) (KX : List PanicEntry → World → Prop) : Ending → World → Prop
  | .returned v, w => KV v w
  | .panicked c, w => KX c w
  | .outgrown, _ => False
/-- No function of the program bears the one name that the machine asks for. -/
def NoNG (P : Program) : Prop := ∀ (k : Nat) (fn : Func), P.funcs[k]? = some fn → (fn.name == "runtime.NumGoroutine") = false

structure Ann where
  sh : Nat → S3
  loop : Nat → List Nat × List S2 × List Nat
def Ann.at (A : Ann) (d : Option Nat) : S3 :=
  match d with
  | some d => A.sh d
  | none => .one (.one .any)

abbrev KV := Value → List Deferred → World → Prop
abbrev KX := List PanicEntry → List Deferred → World → Prop
abbrev KF := Fr → List Deferred → World → Prop
abbrev KE := Exit → Fr → List Deferred → World → Prop

theorem ex1_mono {s : S1} {K K' : Value → Prop} (h : ex1 s K) (hk : ∀ v, K v → K' v) : ex1 s K' := by
  cases s with
  | slice => obtain ⟨a, l, c, h⟩ := h; exact ⟨a, l, c, hk _ h⟩
  | int k => obtain ⟨x, h⟩ := h; exact ⟨x, hk _ h⟩
  | bool => obtain ⟨x, h⟩ := h; exact ⟨x, hk _ h⟩
  | str => obtain ⟨x, h⟩ := h; exact ⟨x, hk _ h⟩
  | ptr => obtain ⟨x, h⟩ := h; exact ⟨x, hk _ h⟩
  | map => obtain ⟨x, h⟩ := h; exact ⟨x, hk _ h⟩
  | any => obtain ⟨x, h⟩ := h; exact ⟨x, hk _ h⟩
theorem exL_mono {l : List S1} : ∀ {K K' : List Value → Prop}, exL l K → (∀ v, K v → K' v) → exL l K' := by
  induction l with
  | nil => exact fun h hk => hk _ h
  | cons s l ih => exact fun h hk => ex1_mono h fun v h => ih h fun vs h => hk _ h
theorem ex2_mono {s : S2} {K K' : Value → Prop} (h : ex2 s K) (hk : ∀ v, K v → K' v) : ex2 s K' := by
  cases s with
  | one s => exact ex1_mono h hk
  | agg l => exact exL_mono (l := l) h fun vs h => hk _ h
theorem exL2_mono {l : List S2} : ∀ {K K' : List Value → Prop}, exL2 l K → (∀ v, K v → K' v) → exL2 l K' := by
  induction l with
  | nil => exact fun h hk => hk _ h
  | cons s l ih => exact fun h hk => ex2_mono h fun v h => ih h fun vs h => hk _ h
theorem ex3_mono {s : S3} {K K' : Value → Prop} (h : ex3 s K) (hk : ∀ v, K v → K' v) : ex3 s K' := by
  cases s with
  | one s => exact ex2_mono h hk
  | tup l => exact exL2_mono (l := l) h fun vs h => hk _ h
theorem exV_mono {s : S3} {v : Value} {K K' : Value → Prop} (h : exV s v K) (hk : ∀ v, K v → K' v) : exV s v K' := by
  unfold exV at h ⊢
  split at h
  · exact hk _ h
  · exact ex3_mono h fun v h => ⟨h.1, hk _ h.2⟩

/-! ### operations of their own -/
/-- A call of a function that the machine does itself. -/
def externK (P : Program) (k : Nat) (args : Array Value) (w : World) (K : Value → World → Prop) : Prop :=
  ∃ v w', (callFunc k args).run P w = .ok (.value v) w' ∧ K v w'
/-- A call, whether the function has a body or not. -/
def callAny (P : Program) (k : Nat) (args : Array Value) (w : World) (K : Value → World → Prop) (X : List PanicEntry → World → Prop) : Prop :=
  bif bodied P k then Calls P k args w (endK K X) else externK P k args w K
/-- A call of a loop's yield: one round of it. -/
def yieldAny (P : Program) (l : Nat) (args : Array Value) (w : World) (K : Value → World → Prop) : Prop :=
  ∃ k tmps assign body, (Instr.yield l args).run P w = .ok (.round l k tmps assign body) w ∧ RoundIn (FR none) 0 P l k tmps assign body w (endK K fun _ _ => False)
def callK (P : Program) (k : Nat) (args : List Value) (sh : S3) (D : List Deferred) (w : World) (K : KV) (X : KX) : Prop :=
  callAny P k args.toArray w (fun v w' => exV sh v fun v => K v D w') (fun c w' => X c D w')
def nextK (P : Program) (r : Option Nat) (sh : S3) (D : List Deferred) (K : KV) (X : KX) : Next → World → Prop
  | .value v, w => K v D w
  | .skip, w => K undef D w
  | .defer d, w => K undef (d :: D) w
  | .enter k args, w => Calls P k args w (endK (fun v w' => exV sh v fun v => K v D w') (fun c w' => X c D w'))
  | .round l k tmps assign body, w => RoundIn (FR r) 0 P l k tmps assign body w (endK (fun v w' => exV sh v fun v => K v D w') (fun c w' => X c D w'))
  | _, _ => False
def isAggB (P : Program) (t : TypeId) : Bool :=
  match P.underlying t with
  | some (.struct _) => true
  | some (.array _ _) => true
  | _ => false
def okType (P : Program) (t : TypeId) : Bool := (P.underlying t).isSome
def szOf (P : Program) (t : TypeId) : Nat :=
  match P.info? t with
  | some i => i.size
  | none => 0
def ldCells (p : Addr) (w : World) : Nat → List S1 → (List Value → Prop) → Prop
  | _, [], K => K []
  | i, s :: l, K => ex1 s fun v => w.cell? (p.add i) = some v ∧ ldCells p w (i + 1) l fun vs => K (v :: vs)
def ldK (P : Program) (t : TypeId) (sh : S3) (x : Value) (w : World) (K : Value → Prop) : Prop :=
  match x with
  | .pointer o => onSome o fun p =>
    match sh with
    | .one (.one s) => bif okType P t && !isAggB P t then (ex1 s fun v => w.cell? p = some v ∧ K v) else False
    | .one (.agg l) => bif isAggB P t && (P.info? t).isSome && Nat.beq l.length (szOf P t) then ldCells p w 0 l fun vs => K (.agg vs.toArray) else False
    | _ => False
  | _ => False
def idxK (P : Program) (t : TypeId) (x ix : Value) (K : Value → Prop) : Prop :=
  match P.underlying t, x, ix with
  | some (.slice e), .slice a l _, .int _ i => bif (P.info? e).isSome then (0 ≤ i ∧ i < (l : Int)) ∧ onSome a fun p => K (.pointer (some (p.add (i.toNat * szOf P e)))) else False
  | some (.array n e), .pointer o, .int _ i => bif (P.info? e).isSome then (0 ≤ i ∧ i < (n : Int)) ∧ onSome o fun p => K (.pointer (some (p.add (i.toNat * szOf P e)))) else False
  | _, _, _ => False
/-- The byte at a place of a string. -/
def byt (s : ByteArray) (i : Int) : Int := ((s.data.toList.getD i.toNat 0).toNat : Int)
def strIx (s : ByteArray) (ix : Value) (K : Value → Prop) : Prop :=
  match ix with
  | .int _ i => (0 ≤ i ∧ i < (s.size : Int)) ∧ K (.int .u8 (byt s i))
  | _ => False
def slA (a : Option Addr) (l c sz : Nat) : Option Addr := if c = l then a else a.map (·.add (l * sz))
def slStr (s : ByteArray) (lo hi : Option Value) (K : Value → Prop) : Prop :=
  match lo, hi with
  | none, none => K (.string (s.extract 0 s.size))
  | some (.int _ l), none => (0 ≤ l ∧ l ≤ (s.size : Int)) ∧ K (.string (s.extract l.toNat s.size))
  | none, some (.int _ h) => (0 ≤ h ∧ h ≤ (s.size : Int)) ∧ K (.string (s.extract 0 h.toNat))
  | some (.int _ l), some (.int _ h) => ((0 ≤ h ∧ h ≤ (s.size : Int)) ∧ (0 ≤ l ∧ l ≤ (h.toNat : Int))) ∧ K (.string (s.extract l.toNat h.toNat))
  | _, _ => False
def slSl (sz : Nat) (a : Option Addr) (n c : Nat) (lo hi : Option Value) (K : Value → Prop) : Prop :=
  match lo, hi with
  | none, none => K (.slice (slA a 0 c sz) (n - 0) (c - 0))
  | some (.int _ l), none => (0 ≤ l ∧ l ≤ (n : Int)) ∧ K (.slice (slA a l.toNat c sz) (n - l.toNat) (c - l.toNat))
  | none, some (.int _ h) => (0 ≤ h ∧ h ≤ (c : Int)) ∧ K (.slice (slA a 0 c sz) (h.toNat - 0) (c - 0))
  | some (.int _ l), some (.int _ h) => ((0 ≤ h ∧ h ≤ (c : Int)) ∧ (0 ≤ l ∧ l ≤ (h.toNat : Int))) ∧ K (.slice (slA a l.toNat c sz) (h.toNat - l.toNat) (c - l.toNat))
  | _, _ => False
def slK (P : Program) (t : TypeId) (x : Value) (lo hi : Option Value) (K : Value → Prop) : Prop :=
  match P.underlying t, x with
  | some .string, .string s => slStr s lo hi K
  | some (.slice e), .slice a n c => bif (P.info? e).isSome then slSl (szOf P e) a n c lo hi K else False
  | _, _ => False
def nilK (x : Value) (K : Value → Prop) : Prop :=
  match x with
  | .pointer o => onSome o fun p => K (.pointer (some p))
  | .func (.func k) a b => K (.func (.func k) a b)
  | _ => False
def pickK (c a b : Value) (K : Value → Prop) : Prop :=
  match c with
  | .bool t => iteP t (K a) (K b)
  | _ => False
/-- string + string -/
def catK (a b : Value) (K : Value → Prop) : Prop :=
  match a, b with
  | .string x, .string y => ((x.size + y.size : Nat) : Int) ≤ IntKind.i64.max ∧ K (.string (x ++ y))
  | _, _ => False
def isStr : Value → Bool
  | .string _ => true
  | _ => false

/-- Which operations are read in a way of their own. -/
inductive Own where
  | load (t : TypeId) (a : Operand) | nilCheck (x : Operand) | indexAddr (t : TypeId) (x i : Operand) | index (t : TypeId) (x i : Operand)
  | slice (t : TypeId) (x : Operand) (lo hi : Option Operand) | pick (c a b : Operand) | cat (t : TypeId) (x y : Operand) (u : TypeId)
  | call (g : Operand) (args : Array Operand) (ts : Array TypeId)
  | nileq (neg : Bool) (t : TypeId) (x : Operand) (c : Value) (u : TypeId)
  | run
  | other
def isNilV : Value → Bool
  | .pointer none | .slice none _ _ | .map none | .nilFunc | .nilIface => true
  | _ => false
def isAggV : Value → Bool
  | .agg _ => true
  | _ => false
def isMapV : Value → Bool
  | .map _ => true
  | _ => false
def isIntV : Value → Bool
  | .int _ _ => true
  | _ => false
def ownEq (neg : Bool) (e : Operand → Value) (t : TypeId) (x y : Operand) (u : TypeId) : Own :=
  match y with
  | .const c => bif isNilV c then .nileq neg t x c u else (bif isAggV (e x) then .run else .other)
  | _ => bif isAggV (e x) then .run else .other
def ownBuiltin (e : Operand → Value) (b : Builtin) (args : List Operand) : Own :=
  match b, args with
  | .append, _ => .run
  | .copy, _ => .run
  | .delete, _ => .run
  | .clear, _ => .run
  | .len, [x] => bif isMapV (e x) then .run else .other
  | _, _ => .other
def Own.of (e : Operand → Value) : Op → Own
  | .load t a => .load t a
  | .nilCheck x => .nilCheck x
  | .indexAddr t x i => .indexAddr t x i
  | .index t x i => .index t x i
  | .slice t x lo hi none => .slice t x lo hi
  | .pick c a b => .pick c a b
  | .binOp .add t x y u => .cat t x y u
  | .binOp .eql t x y u => ownEq false e t x y u
  | .binOp .neq t x y u => ownEq true e t x y u
  | .call { callee := .value g, args, argTypes } => .call g args argTypes
  | .call { callee := .builtin b, args, argTypes := _ } => ownBuiltin e b args.toList
  | .lookup .. => .run
  | .mapUpdate .. => .run
  | .insert .. => .run
  | .mapEntry .. => .run
  | .entryStore .. => .run
  | .next .. => .run
  | .entry .. => .run
  | .convert s d x => bif isIntV (e x) then .other else .run
  | _ => .other
def nilEq (P : Program) (t : TypeId) (x : Value) : Option Bool :=
  match P.underlying t, x with
  | some (.pointer _), .pointer o => some o.isNone
  | some (.slice _), .slice a _ _ => some a.isNone
  | some (.map _ _), .map o => some o.isNone
  | some (.func _ _ _), .nilFunc => some true
  | some (.func _ _ _), .func _ _ _ => some false
  | some (.interface _), .nilIface => some true
  | some (.interface _), .iface _ _ => some false
  | _, _ => none
def nilFits (P : Program) (t : TypeId) (c : Value) : Bool :=
  match P.underlying t, c with
  | some (.pointer _), .pointer none => true
  | some (.slice _), .slice none _ _ => true
  | some (.map _ _), .map none => true
  | some (.func _ _ _), .nilFunc => true
  | some (.interface _), .nilIface => true
  | _, _ => false
def unitV (s : Sem Unit) : Sem Value := do s; pure undef
/-- What is run whole: a law of its own says what it comes to. -/
def semOf (e : Operand → Value) (o : Oper) : Sem Value :=
  match o.op with
  | .call { callee := .builtin b, args, argTypes } =>
    match b with
    | .append => Builtin.append_ argTypes o.type (args.toList.map e).toArray
    | .copy => Builtin.copy_ argTypes o.type (args.toList.map e).toArray
    | .delete => Builtin.delete_ argTypes o.type (args.toList.map e).toArray
    | .clear => Builtin.clear_ argTypes o.type (args.toList.map e).toArray
    | .min => Builtin.min_ argTypes o.type (args.toList.map e).toArray
    | .max => Builtin.max_ argTypes o.type (args.toList.map e).toArray
    | .len => Builtin.len_ argTypes o.type (args.toList.map e).toArray
    | _ => stuck ""
  | .lookup t x i c => Instr.lookup t (e x) (e i) c
  | .mapUpdate t m k x => unitV (Instr.mapUpdate t (e m) (e k) (e x))
  | .insert t m k x => unitV (Instr.mapUpdate t (e m) (e k) (e x))
  | .mapEntry t m k => Instr.mapEntry t (e m) (e k)
  | .entryStore t m s x => unitV (Instr.entryStore t (e m) (e s) (e x))
  | .next it s => Instr.next (e it) s o.type
  | .entry it => Instr.entry (e it)
  | .convert s d x => convert s d (e x)
  | .binOp op t x y _ => do eqGuard op t x y (e x) (e y); binOp op t (e x) (e y)
  | _ => stuck ""
def runK (P : Program) (s : Sem Value) (w : World) (Φ : Value → World → Prop) : Prop := ∃ v w', s.run P w = .ok v w' ∧ Φ v w'
def rawK (P : Program) (r : Option Nat) (A : Ann) (n : Nat) (o : Oper) (f : Fr) (D : List Deferred) (w : World) (K : KV) (X : KX) : Prop :=
  semK P (fun v w' => X [{ v, recovered := false }] D w') (o.semAt r (ev n f)) w (nextK P r (A.at o.dst) D K X)
def stepOp (P : Program) (r : Option Nat) (A : Ann) (n : Nat) (o : Oper) (f : Fr) (D : List Deferred) (w : World) (K : KV) (X : KX) : Prop :=
  match Own.of (ev n f) o.op with
  | .load t a => ldK P t (A.at o.dst) (ev n f a) w fun v => K v D w
  | .nilCheck x => nilK (ev n f x) fun v => K v D w
  | .indexAddr t x i => idxK P t (ev n f x) (ev n f i) fun v => K v D w
  | .index t x i =>
    match P.underlying t, ev n f x with
    | some .string, .string s => strIx s (ev n f i) fun v => K v D w
    | _, _ => rawK P r A n o f D w K X
  | .slice t x lo hi => slK P t (ev n f x) (lo.map (ev n f)) (hi.map (ev n f)) fun v => K v D w
  | .pick c a b => pickK (ev n f c) (ev n f a) (ev n f b) fun v => K v D w
  | .cat t x y u => bif isStr (ev n f x) then catK (ev n f x) (ev n f y) (fun v => K v D w) else rawK P r A n o f D w K X
  | .call g args ts =>
    match ev n f g with
    | .func (.func k) first cap => callK P k (first.toList ++ args.toList.map (ev n f) ++ cap.toList) (A.at o.dst) D w K X
    | .func (.yield l) first _ => yieldAny P l (first.toList ++ args.toList.map (ev n f)).toArray w fun v w' => exV (A.at o.dst) v fun v => K v D w'
    | _ => rawK P r A n o f D w K X
  | .nileq neg t x c u =>
    bif nilFits P t c then
      match nilEq P t (ev n f x) with
      | some b => (match neg with | true => K (.bool (!b)) D w | false => K (.bool b) D w)
      | none => False
    else False
  | .run => runK P (semOf (ev n f) o) w fun v w' => exV (A.at o.dst) v fun v => K v D w'
  | .other => rawK P r A n o f D w K X

/-! ### soundness of an operation -/
section
variable {P : Program} {r : Option Nat} {A : Ann} {n : Nat}

def AfterOp (o : Oper) (n : Nat) (f : Fr) (D : List Deferred) (next : Act → World → Prop) (Q : Exit → Act → World → Prop) (K : KV) (X : KX) : Prop :=
  (∀ v D' w', K v D' w' → next ((mkA n f D').put o.dst v) w') ∧ (∀ c w', X c D w' → Q (.panic c) (mkA n f D) w')

theorem upon_of_next {o : Oper} {f : Fr} {D : List Deferred} {next : Act → World → Prop} {Q : Exit → Act → World → Prop} {K : KV} {X : KX}
    (hA : AfterOp o n f D next Q K X) {sh : S3} {x : Next} {w : World} (h : nextK P r sh D K X x w) :
    o.uponIn (FR r) 0 P (mkA n f D) next Q (.ok x w) := by
  cases x <;> simp only [nextK] at h <;> try exact h.elim
  case value v => exact hA.1 _ _ _ h
  case skip => exact hA.1 _ _ _ h
  case defer d => exact hA.1 _ _ _ h
  case enter k args =>
    refine ⟨fun hd => by simp [FR, Fence.wide] at hd, callsIn_FR (h.mono ?_)⟩
    intro e w' he
    cases e with
    | returned v => exact exV_out (K := fun v => next ((mkA n f D).put o.dst v) w') (by
        have he' : exV sh v fun v => K v D w' := he
        exact exV_mono he' fun v h => hA.1 _ _ _ h)
    | panicked c => exact hA.2 _ _ he
    | outgrown => exact he.elim
  case round l k tmps assign body =>
    refine ⟨fun hd => by simp [FR, Fence.wide] at hd, h.mono ?_⟩
    intro e w' he
    cases e with
    | returned v => exact exV_out (K := fun v => next ((mkA n f D).put o.dst v) w') (by
        have he' : exV sh v fun v => K v D w' := he
        exact exV_mono he' fun v h => hA.1 _ _ _ h)
    | panicked c => exact hA.2 _ _ he
    | outgrown => exact he.elim

theorem ev_eq (f : Fr) (D : List Deferred) : (mkA n f D).eval = ev n f := funext fun x => eval_mkA n f D x

theorem rawK_sound {o : Oper} {f : Fr} {D : List Deferred} {w : World} {next : Act → World → Prop} {Q : Exit → Act → World → Prop} {K : KV} {X : KX}
    (hA : AfterOp o n f D next Q K X) (h : rawK P r A n o f D w K X) : o.wpIn (FR r) 0 P (mkA n f D) w next Q := by
  refine ⟨fun _ _ => trivial, ?_⟩
  have hr : (FR r).round = r := rfl
  rw [hr, ev_eq]
  rcases semK_run _ _ _ h with ⟨a, w', e, hk⟩ | ⟨v, w', e, hx⟩
  · rw [e]; exact upon_of_next hA hk
  · rw [e]; exact hA.2 _ _ hx

/-- An operation that comes to a value, the world staying. -/
theorem wpIn_value {o : Oper} {f : Fr} {D : List Deferred} {w : World} {next : Act → World → Prop} {Q : Exit → Act → World → Prop} {K : KV} {X : KX}
    (hA : AfterOp o n f D next Q K X) (hd : ∀ c, o.op ≠ .defer c) {v : Value} (he : (execOp (ev n f) o).run P w = .ok (.value v) w) (h : K v D w) :
    o.wpIn (FR r) 0 P (mkA n f D) w next Q := by
  refine ⟨fun _ _ => trivial, ?_⟩
  have hr : (FR r).round = r := rfl
  rw [hr, ev_eq, Oper.semAt_eq _ _ _ hd, he]
  exact hA.1 _ _ _ h

theorem run_bind_ok {α β : Type} {s : Sem α} {g : α → Sem β} {w w' : World} {a : α} (h : s.run P w = .ok a w') : (s >>= g).run P w = (g a).run P w' := by
  have e : (s >>= g).run P w = (s.run P w).andThen fun a w => (g a).run P w := Sem.run_bind ..
  rw [e, h]; rfl
theorem run_underlying {t : TypeId} {w : World} {d : TypeDesc} (h : P.underlying t = some d) : (underlying t).run P w = .ok d w := by
  simp [underlying, program, bind, Sem.bind, Sem.run, h, pure]
theorem run_typeInfo {t : TypeId} {w : World} {d : TypeInfo} (h : P.info? t = some d) : (typeInfo t).run P w = .ok d w := by
  simp [typeInfo, program, bind, Sem.bind, Sem.run, h, pure]
theorem run_isAgg {t : TypeId} {w : World} (h : okType P t = true) : (isAgg t).run P w = .ok (isAggB P t) w := by
  unfold okType at h
  obtain ⟨d, hd⟩ := Option.isSome_iff_exists.1 h
  unfold isAgg isAggB
  rw [run_bind_ok (run_underlying hd), hd]
  cases d <;> rfl
theorem okType_of_agg {t : TypeId} (h : isAggB P t = true) : okType P t = true := by
  unfold isAggB at h; unfold okType
  split at h <;> simp_all
theorem run_sizeOf {t : TypeId} {w : World} (h : (P.info? t).isSome = true) : (sizeOf t).run P w = .ok (szOf P t) w := by
  obtain ⟨i, hi⟩ := Option.isSome_iff_exists.1 h
  simp [sizeOf, typeInfo, program, szOf, hi, bind, Sem.bind, pure, Sem.run]
theorem ldCells_out {p : Addr} {w : World} : ∀ {l : List S1} {i : Nat} {K : List Value → Prop}, ldCells p w i l K →
    ∃ vs, vs.length = l.length ∧ (∀ j (v : Value), vs[j]? = some v → w.cell? (p.add (i + j)) = some v) ∧ K vs := by
  intro l
  induction l with
  | nil => exact fun h => ⟨[], rfl, fun j v h => by simp at h, h⟩
  | cons s l ih =>
    intro i K h
    obtain ⟨v, hv, h⟩ := ex1_some h
    obtain ⟨vs, hl, hc, h⟩ := ih h
    refine ⟨v :: vs, by simp [hl], fun j u hu => ?_, h⟩
    cases j with
    | zero => simp at hu; subst hu; exact hv
    | succ j => have := hc j u (by simpa using hu); rw [show i + (j + 1) = i + 1 + j by omega]; exact this
theorem run_loadCellsFrom {p : Addr} {w : World} : ∀ (m i : Nat) (acc : Array Value) (vs : List Value), vs.length = m → (∀ j (v : Value), vs[j]? = some v → w.cell? (p.add (i + j)) = some v) →
    (loadCellsFrom p i m acc).run P w = .ok (acc ++ vs.toArray) w := by
  intro m
  induction m with
  | zero => intro i acc vs hl _; have : vs = [] := by simpa using hl
            subst this; simp [loadCellsFrom, pure, Sem.run]
  | succ m ih =>
    intro i acc vs hl hc
    cases vs with
    | nil => simp at hl
    | cons v vs =>
      have h0 := hc 0 v (by simp)
      have := ih (i + 1) (acc.push v) vs (by simpa using hl) (fun j u hu => by have := hc (j + 1) u (by simpa using hu); rw [show i + 1 + j = i + (j + 1) by omega]; exact this)
      simp only [Nat.add_zero] at h0
      simp only [loadCellsFrom, load, bind, Sem.bind, Sem.run, h0]
      rw [this]; simp
theorem bif_out {b : Bool} {A : Prop} (h : bif b then A else False) : b = true ∧ A := by
  cases b with
  | true => exact ⟨rfl, h⟩
  | false => exact h.elim
theorem ldK_sound {t : TypeId} {sh : S3} {x : Value} {w : World} {K : Value → Prop} (h : ldK P t sh x w K) : ∃ v, (Instr.loadAt t x).run P w = .ok v w ∧ K v := by
  unfold ldK at h
  split at h
  · obtain ⟨p, rfl, h'⟩ := onSome_out h
    clear h
    have hs : (Instr.sureAddr (.pointer (some p))).run P w = .ok p w := rfl
    cases sh with
    | tup l => exact h'.elim
    | one s2 =>
    cases s2 with
    | one s =>
      obtain ⟨hb, h⟩ := bif_out (A := ex1 s fun v => w.cell? p = some v ∧ K v) h'
      simp only [Bool.and_eq_true, Bool.not_eq_true'] at hb
      obtain ⟨v, hv, hk⟩ := ex1_some h
      refine ⟨v, ?_, hk⟩
      unfold Instr.loadAt; rw [run_bind_ok hs]; unfold loadVar
      rw [run_bind_ok (run_isAgg hb.1), hb.2]; simp [load, Sem.run, hv]
    | agg l =>
      obtain ⟨hb, h⟩ := bif_out (A := ldCells p w 0 l fun vs => K (.agg vs.toArray)) h'
      simp only [Bool.and_eq_true] at hb
      obtain ⟨vs, hl, hc, hk⟩ := ldCells_out (l := l) h
      refine ⟨_, ?_, hk⟩
      unfold Instr.loadAt; rw [run_bind_ok hs]; unfold loadVar
      rw [run_bind_ok (run_isAgg (okType_of_agg hb.1.1)), hb.1.1]
      simp only [if_true]
      rw [run_bind_ok (run_sizeOf hb.1.2)]
      have hn : vs.length = szOf P t := hl.trans (Nat.eq_of_beq_eq_true hb.2)
      have := run_loadCellsFrom (P := P) (p := p) (w := w) (szOf P t) 0 #[] vs hn (fun j v hv => hc j v hv)
      unfold loadCells; rw [run_bind_ok this]; simp [pure, Sem.run]
  · exact h.elim
theorem idxK_sound {t : TypeId} {x ix : Value} {w : World} {K : Value → Prop} (h : idxK P t x ix K) : ∃ v, (Instr.indexAt t x ix).run P w = .ok v w ∧ K v := by
  unfold idxK at h
  split at h
  · rename_i e a l c k i hu
    obtain ⟨he, ⟨h0, h1⟩, h2⟩ := bif_out h
    obtain ⟨p, rfl, hk⟩ := onSome_out h2
    refine ⟨_, ?_, hk⟩
    unfold Instr.indexAt
    rw [run_bind_ok (a := (k, i)) (w' := w) rfl]
    simp only []
    rw [run_bind_ok (run_underlying hu)]
    simp only [pure_bind]
    rw [run_bind_ok (run_underlying hu)]
    simp only [pure_bind]
    rw [if_pos ⟨h0, h1⟩, run_bind_ok (run_sizeOf he)]
    rfl
  · rename_i m e o k i hu
    obtain ⟨he, ⟨h0, h1⟩, h2⟩ := bif_out h
    obtain ⟨p, rfl, hk⟩ := onSome_out h2
    refine ⟨_, ?_, hk⟩
    unfold Instr.indexAt
    rw [run_bind_ok (a := (k, i)) (w' := w) rfl]
    simp only []
    rw [run_bind_ok (run_underlying hu)]
    simp only [Instr.sureAddr, pure_bind]
    rw [run_bind_ok (run_underlying hu)]
    simp only [pure_bind]
    rw [if_pos ⟨h0, h1⟩, run_bind_ok (run_sizeOf he)]
    rfl
  · exact h.elim
theorem strIx_sound {t : TypeId} {s : ByteArray} {ix : Value} {w : World} {K : Value → Prop} (hu : P.underlying t = some .string) (h : strIx s ix K) :
    ∃ v, (Instr.index t (.string s) ix).run P w = .ok v w ∧ K v := by
  unfold strIx at h
  split at h
  · rename_i k i
    obtain ⟨⟨h0, h1⟩, hk⟩ := h
    refine ⟨_, ?_, hk⟩
    unfold Instr.index
    rw [run_bind_ok (a := (k, i)) (w' := w) rfl]
    simp only []
    rw [run_bind_ok (run_underlying hu)]
    have hi : i.toNat < s.size := by omega
    have hg : s[i.toNat]? = some s[i.toNat] := by simp [getElem?_pos, hi]
    simp only [if_pos h0, hg]
    have : byt s i = (s[i.toNat].toNat : Int) := by
      unfold byt
      have hl : i.toNat < s.data.toList.length := by simpa using hi
      rw [List.getD_eq_getElem?_getD, List.getElem?_eq_getElem hl]
      rfl
    rw [this]; rfl
  · exact h.elim
theorem sliceBound_ok {k : IntKind} {i : Int} {y : Nat} {c : BoundsCode} {w : World} (h : 0 ≤ i ∧ i ≤ (y : Int)) : (Instr.sliceBound (.int k i) y c).run P w = .ok i.toNat w := by
  unfold Instr.sliceBound
  rw [run_bind_ok (a := (k, i)) (w' := w) rfl]
  simp only [if_pos h]; rfl
theorem slStr_sound {t : TypeId} {s : ByteArray} {lo hi : Option Value} {w : World} {K : Value → Prop} (hu : P.underlying t = some .string) (h : slStr s lo hi K) :
    ∃ v, (Instr.slice t (.string s) lo hi none).run P w = .ok v w ∧ K v := by
  unfold slStr at h
  have hgo : ∀ l h : Nat, (Instr.sliceBounds false s.size s.size lo hi none).run P w = .ok (l, h, s.size) w → (Instr.slice t (.string s) lo hi none).run P w = .ok (.string (s.extract l h)) w := by
    intro l h hb
    unfold Instr.slice
    rw [run_bind_ok (run_underlying hu)]
    simp only [Option.isSome_none, if_false, Bool.false_eq_true]
    rw [run_bind_ok hb]; rfl
  split at h
  · refine ⟨_, hgo 0 s.size ?_, h⟩; rfl
  · obtain ⟨hb, hk⟩ := h
    refine ⟨_, hgo _ _ ?_, hk⟩
    simp only [Instr.sliceBounds, pure_bind, Option.isSome_none, Bool.false_eq_true, if_false]
    rw [run_bind_ok (sliceBound_ok hb)]; rfl
  · obtain ⟨hb, hk⟩ := h
    refine ⟨_, hgo _ _ ?_, hk⟩
    simp only [Instr.sliceBounds, pure_bind, Option.isSome_none, Bool.false_eq_true, if_false]
    rw [run_bind_ok (sliceBound_ok hb)]; rfl
  · obtain ⟨⟨hb, hb'⟩, hk⟩ := h
    refine ⟨_, hgo _ _ ?_, hk⟩
    simp only [Instr.sliceBounds, pure_bind, Option.isSome_none, Bool.false_eq_true, if_false]
    rw [run_bind_ok (sliceBound_ok hb), run_bind_ok (sliceBound_ok hb')]; rfl
  · exact h.elim
theorem slSl_sound {t e : TypeId} {a : Option Addr} {m c : Nat} {lo hi : Option Value} {w : World} {K : Value → Prop} (hu : P.underlying t = some (.slice e)) (he : (P.info? e).isSome = true) (h : slSl (szOf P e) a m c lo hi K) :
    ∃ v, (Instr.slice t (.slice a m c) lo hi none).run P w = .ok v w ∧ K v := by
  unfold slSl at h
  have hgo : ∀ l h : Nat, (Instr.sliceBounds true m c lo hi none).run P w = .ok (l, h, c) w → (Instr.slice t (.slice a m c) lo hi none).run P w = .ok (.slice (slA a l c (szOf P e)) (h - l) (c - l)) w := by
    intro l h hb
    unfold Instr.slice
    rw [run_bind_ok (run_underlying hu)]
    simp only []
    rw [run_bind_ok hb]
    simp only []
    rw [run_bind_ok (run_sizeOf he)]; rfl
  split at h
  · refine ⟨_, hgo 0 m ?_, h⟩; rfl
  · obtain ⟨hb, hk⟩ := h
    refine ⟨_, hgo _ _ ?_, hk⟩
    simp only [Instr.sliceBounds, pure_bind, Option.isSome_none, Bool.false_eq_true, if_false]
    rw [run_bind_ok (sliceBound_ok hb)]; rfl
  · obtain ⟨hb, hk⟩ := h
    refine ⟨_, hgo _ _ ?_, hk⟩
    simp only [Instr.sliceBounds, pure_bind, Option.isSome_none, Bool.false_eq_true, if_false, if_true]
    rw [run_bind_ok (sliceBound_ok hb)]; rfl
  · obtain ⟨⟨hb, hb'⟩, hk⟩ := h
    refine ⟨_, hgo _ _ ?_, hk⟩
    simp only [Instr.sliceBounds, pure_bind, Option.isSome_none, Bool.false_eq_true, if_false, if_true]
    rw [run_bind_ok (sliceBound_ok hb), run_bind_ok (sliceBound_ok hb')]; rfl
  · exact h.elim
theorem slK_sound {t : TypeId} {x : Value} {lo hi : Option Value} {w : World} {K : Value → Prop} (h : slK P t x lo hi K) :
    ∃ v, (Instr.sliceAt t x lo hi none).run P w = .ok v w ∧ K v := by
  unfold slK at h
  split at h
  · rename_i s hu
    obtain ⟨v, e, hk⟩ := slStr_sound (w := w) hu h
    refine ⟨v, ?_, hk⟩
    unfold Instr.sliceAt
    rw [run_bind_ok (run_underlying hu)]; exact e
  · rename_i e a m c hu
    obtain ⟨he, h⟩ := bif_out h
    obtain ⟨v, e, hk⟩ := slSl_sound (w := w) hu he h
    refine ⟨v, ?_, hk⟩
    unfold Instr.sliceAt
    rw [run_bind_ok (run_underlying hu)]; exact e
  · exact h.elim
theorem run_value {s : Sem Value} {v : Value} {w w' : World} (h : s.run P w = .ok v w') : (do pure (Next.value (← s)) : Sem Next).run P w = .ok (.value v) w' := by
  rw [run_bind_ok h]; rfl
theorem callFunc_ok (hP : NoNG P) {k : Nat} {args : Array Value} {w : World} (hb : bodied P k = true) : (callFunc k args).run P w = .ok (.enter k args) w := by
  unfold bodied at hb
  split at hb
  · rename_i fn hf
    have hn := hP k fn hf
    unfold callFunc
    rw [run_bind_ok (a := P) (w' := w) rfl]
    simp only [hf]
    have hnone : fn.body.isNone = false := by cases hb' : fn.body <;> simp_all
    simp only [hn, hnone, Bool.false_eq_true, if_false]
    rfl
  · exact absurd hb (by simp)
theorem callK_sound (hP : NoNG P) {o : Oper} {f : Fr} {D : List Deferred} {w : World} {next : Act → World → Prop} {Q : Exit → Act → World → Prop} {K : KV} {X : KX}
    (hA : AfterOp o n f D next Q K X) {g : Operand} {args : Array Operand} {ts : Array TypeId} (ho : o.op = .call { callee := .value g, args, argTypes := ts }) {k : Nat} {first cap : Array Value}
    (hg : ev n f g = .func (.func k) first cap) {sh : S3} (h : callK P k (first.toList ++ args.toList.map (ev n f) ++ cap.toList) sh D w K X) :
    o.wpIn (FR r) 0 P (mkA n f D) w next Q := by
  unfold callK callAny at h
  have e0 : execOp (ev n f) o = callFunc k (first.toList ++ args.toList.map (ev n f) ++ cap.toList).toArray := by
    unfold execOp
    rw [ho]
    simp only [resolve, hg, Deferred.ofValue, pure_bind, invoke]
    congr 1
    apply Array.ext'
    simp
  have hr : (FR r).round = r := rfl
  cases hb : bodied P k with
  | false =>
    rw [hb] at h
    obtain ⟨v, w', e, h⟩ := h
    refine ⟨fun _ _ => trivial, ?_⟩
    rw [hr, ev_eq, Oper.semAt_eq _ _ _ (by rw [ho]; intro c; simp), e0, e]
    exact hA.1 _ _ _ (exV_out (K := fun v => K v D w') h)
  | true =>
    rw [hb] at h
    refine ⟨fun _ _ => trivial, ?_⟩
    rw [hr, ev_eq, Oper.semAt_eq _ _ _ (by rw [ho]; intro c; simp), e0, callFunc_ok hP hb]
    exact upon_of_next hA (sh := sh) (r := r) h
theorem RoundIn_FR {r : Option Nat} {l k : Nat} {tmps : Array Value} {assign body : Code} {w : World} {R : Ending → World → Prop} (h : RoundIn (FR none) 0 P l k tmps assign body w R) : RoundIn (FR r) 0 P l k tmps assign body w R := h
theorem yieldAny_mono {l : Nat} {args : Array Value} {w : World} {K K' : Value → World → Prop} (hk : ∀ v w, K v w → K' v w) (h : yieldAny P l args w K) : yieldAny P l args w K' := by
  obtain ⟨k, tmps, assign, body, e, h⟩ := h
  refine ⟨k, tmps, assign, body, e, h.mono ?_⟩
  rintro (v | c | _) w' h
  · exact hk _ _ h
  · exact h
  · exact h
theorem yieldK_sound {o : Oper} {f : Fr} {D : List Deferred} {w : World} {next : Act → World → Prop} {Q : Exit → Act → World → Prop} {K : KV} {X : KX}
    (hA : AfterOp o n f D next Q K X) {g : Operand} {args : Array Operand} {ts : Array TypeId} (ho : o.op = .call { callee := .value g, args, argTypes := ts }) {l : Nat} {first cap : Array Value}
    (hg : ev n f g = .func (.yield l) first cap) {sh : S3} (h : yieldAny P l (first.toList ++ args.toList.map (ev n f)).toArray w fun v w' => exV sh v fun v => K v D w') :
    o.wpIn (FR r) 0 P (mkA n f D) w next Q := by
  obtain ⟨k, tmps, assign, body, e, h⟩ := h
  have e0 : execOp (ev n f) o = Instr.yield l (first.toList ++ args.toList.map (ev n f)).toArray := by
    unfold execOp
    rw [ho]
    simp only [resolve, hg, Deferred.ofValue, pure_bind, invoke]
    congr 1
    apply Array.ext'
    simp
  have hr : (FR r).round = r := rfl
  refine ⟨fun _ _ => trivial, ?_⟩
  rw [hr, ev_eq, Oper.semAt_eq _ _ _ (by rw [ho]; intro c; simp), e0, e]
  refine ⟨fun hd => by simp [FR, Fence.wide] at hd, (RoundIn_FR h).mono ?_⟩
  intro e w' he
  cases e with
  | returned v => exact exV_out (K := fun v => next ((mkA n f D).put o.dst v) w') (by
      have he' : exV sh v fun v => K v D w' := he
      exact exV_mono he' fun v h => hA.1 _ _ _ h)
  | panicked c => exact he.elim
  | outgrown => exact he.elim
theorem nilEq_run {t : TypeId} {v c : Value} {b : Bool} {x : Operand} {neg : Bool} {w : World} (hc : nilFits P t c = true) (h : nilEq P t v = some b) :
    (do eqGuard (if neg then .neq else .eql) t x (.const c) v c; binOp (if neg then .neq else .eql) t v c : Sem Value).run P w = .ok (.bool (if neg then !b else b)) w := by
  have hg : (eqGuard (if neg then .neq else .eql) t x (.const c) v c).run P w = .ok () w := by
    unfold nilFits at hc
    unfold nilEq at h
    split at hc <;> split at h <;> simp_all <;> cases neg <;> (try subst_vars) <;> first | rfl | (simp [eqGuard, pure, Sem.run]; done) | skip
  rw [run_bind_ok hg]
  have he : (Op.equal t v c).run P w = .ok b w := by
    unfold nilFits at hc
    unfold nilEq at h
    unfold Op.equal Op.maxDepth Op.equalIn
    split at hc <;> first | (simp at hc; done) | skip
    all_goals (rename_i hu; rw [hu] at h; rw [run_bind_ok (run_underlying hu)])
    all_goals (split at h <;> simp_all)
    all_goals (try subst_vars)
    all_goals first | rfl | (rename_i o; cases o <;> rfl) | (cases ‹Option Addr› <;> rfl) | (cases ‹Option Nat› <;> rfl)
  have hb : ∀ op, (op = .eql → (binOp op t v c) = (do pure (.bool (← Op.equal t v c)))) ∧ (op = .neq → (binOp op t v c) = (do pure (.bool (!(← Op.equal t v c))))) := by
    intro op
    unfold nilFits at hc
    unfold nilEq at h
    constructor <;> (rintro rfl; split at hc <;> split at h <;> simp_all <;> rfl)
  cases neg with
  | true => simp only [if_true]; rw [(hb _).2 rfl, run_bind_ok he]; rfl
  | false => simp only [Bool.false_eq_true, if_false]; rw [(hb _).1 rfl, run_bind_ok he]; rfl
end
end Go.L
