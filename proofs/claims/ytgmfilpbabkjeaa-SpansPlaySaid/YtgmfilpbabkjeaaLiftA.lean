/- A shallow reading of loaded Go code: 'lift' gives, of code, a frame and a world, a plain proposition over numbers, bytes and cells; 'calls_of_lift' says that it suffices for the machine's call. No program in sight. -/
import Derived.RangeFuncIn
import Derived.RangeFuncRecord
import Derived.RangeFuncLeaves
import Derived.Below
import Derived.KernelRfl
set_option linter.unusedVariables false
set_option linter.unusedSimpArgs false
namespace Go.L
open Go.RowKit

/-! ### the fence: wide, with a round -/
def FR (r : Option Nat) : Fence := { Fence.wide with round := r }
theorem callsIn_FR {r : Option Nat} {n : Nat} {P : Program} {f : FuncId} {args : Array Value} {w : World} {R : Ending → World → Prop} (h : Calls P f args w R) : CallsIn (FR r) n P f args w R :=
  (callsIn_wide (n := n)).2 h
theorem calls_of_FR {r : Option Nat} {n : Nat} {P : Program} {f : FuncId} {args : Array Value} {w : World} {R : Ending → World → Prop} (h : CallsIn (FR r) n P f args w R) : Calls P f args w R :=
  (callsIn_wide (n := n)).1 h

/-! ### frames as functions -/
abbrev Fr := Nat → Value
def upd (f : Fr) (d : Nat) (v : Value) : Fr := fun i => bif Nat.beq i d then v else f i
def putF (f : Fr) (d : Option Nat) (v : Value) : Fr :=
  match d with
  | some d => upd f d v
  | none => f
def ev (n : Nat) (f : Fr) : Operand → Value
  | .tmp t => bif Nat.blt t n then f t else undef
  | .const v => v
  | .global g => .pointer (some ⟨g, 0, none⟩)
  | .func k => .func (.func k) #[] #[]
def mkA (n : Nat) (f : Fr) (D : List Deferred) : Act := { tmps := Array.ofFn (n := n) fun i => f i.val, defers := D }
theorem eval_mkA (n : Nat) (f : Fr) (D : List Deferred) (x : Operand) : (mkA n f D).eval x = ev n f x := by
  cases x with
  | tmp t =>
    simp only [Act.eval, mkA, ev]
    by_cases h : t < n
    · have : Nat.blt t n = true := by simpa [Nat.blt_eq] using h
      simp [this, h, Array.getD]
    · have : Nat.blt t n = false := by
        cases hb : Nat.blt t n with
        | false => rfl
        | true => exact absurd (by simpa [Nat.blt_eq] using hb) h
      simp [this, h, Array.getD]
  | const v => rfl
  | global g => rfl
  | func k => rfl
theorem put_mkA (n : Nat) (f : Fr) (D : List Deferred) (d : Option Nat) (v : Value) : (mkA n f D).put d v = mkA n (putF f d v) D := by
  cases d with
  | none => rfl
  | some d =>
    simp only [Act.put, mkA, putF]
    congr 1
    apply Array.ext_getElem?
    intro i
    simp only [Array.getElem?_setIfInBounds, Array.size_ofFn, Array.getElem?_ofFn, upd]
    by_cases e : d = i
    · subst e
      by_cases h : d < n <;> simp [h]
    · have : Nat.beq i d = false := by
        cases hb : Nat.beq i d with
        | false => rfl
        | true => exact absurd (Nat.eq_of_beq_eq_true hb).symm e
      simp [e, this]
theorem tmps_mkA (n : Nat) (f : Fr) (D : List Deferred) (t : Nat) : (mkA n f D).tmps[t]? = if t < n then some (f t) else none := by
  simp [mkA, Array.getElem?_ofFn]

/-! ### operations: the model's own 'Sem', read as a proposition -/
def storable : Value → Bool
  | .agg _ | .tuple _ => false
  | _ => true
def noCells : Obj → Bool
  | .cells .. => false
  | _ => true
/-- A store into a cell. -/
def storeK (w : World) (a : Addr) (v : Value) (K : World → Prop) : Prop := (w.cell? a).isSome = true ∧ w.frozen? a = false ∧ K (w.setCell a v)
/-- A new block. -/
def allocK (w : World) (o : Obj) (K : World → Prop) : Prop := K (w.alloc o)
def semK {α : Type} (P : Program) (X : Value → World → Prop) : Sem α → World → (α → World → Prop) → Prop
  | .pure a, w, K => K a w
  | .load _ a k, w, K => ∃ v, w.cell? a = some v ∧ semK P X (k v) w K
  | .store _ a v k, w, K => bif storable v then storeK w a v fun w' => semK P X k w' K else False
  | .new o k, w, K => allocK w o fun w' => semK P X (k w.heap.size) w' K
  | .shape r k, w, K => semK P X (k (w.shape? r)) w K
  | .freeze a n k, w, K => semK P X k (w.freeze a n) K
  | .frozen a k, w, K => semK P X (k (w.frozen? a)) w K
  | .getObj r k, w, K => ∃ o, w.heap[r]? = some o ∧ noCells o = true ∧ semK P X (k o) w K
  | .setObj r o k, w, K => (∃ o', w.heap[r]? = some o' ∧ noCells o' = true) ∧ semK P X k (w.putObj r o) K
  | .choose q k, w, K => bif q.forced then semK P X (k 0) w K else semK P X (k (q.cut (w.tape w.drawn q))) w.drew K
  | .sys _ _, _, _ => False
  | .program k, w, K => semK P X (k P) w K
  | .mark _ k, w, K => semK P X k w K
  | .halt (.panic v), w, _ => X v w
  | .halt _, _, _ => False

theorem semK_run {α : Type} {P : Program} {X : Value → World → Prop} (s : Sem α) : ∀ (w : World) (K : α → World → Prop), semK P X s w K →
    (∃ a w', s.run P w = .ok a w' ∧ K a w') ∨ (∃ v w', s.run P w = .halt (.panic v) w' ∧ X v w') := by
  induction s with
  | pure a => exact fun w K h => .inl ⟨a, w, rfl, h⟩
  | load m a k ih =>
    rintro w K ⟨v, hv, h⟩
    simp only [Sem.run, hv]; exact ih v w K h
  | store m a v k ih =>
    intro w K h
    have hs : storable v = true := by
      cases hs : storable v with
      | true => rfl
      | false => simp only [semK, hs, cond_false] at h
    simp only [semK, hs, cond_true] at h
    obtain ⟨hc, hf, h⟩ := h
    obtain ⟨u, hu⟩ := Option.isSome_iff_exists.1 hc
    cases v <;> first | (simp [storable] at hs; done) | (simp only [Sem.run, hu, hf]; exact ih _ K h)
  | new o k ih => exact fun w K h => ih _ _ K h
  | shape r k ih => exact fun w K h => ih _ _ K h
  | freeze a n k ih => exact fun w K h => ih _ K h
  | frozen a k ih => exact fun w K h => ih _ _ K h
  | getObj r k ih =>
    rintro w K ⟨o, ho, hn, h⟩
    cases o <;> first | (simp [noCells] at hn; done) | (simp only [Sem.run, ho]; exact ih _ w K h)
  | setObj r o k ih =>
    rintro w K ⟨⟨o', ho, hn⟩, h⟩
    cases o' <;> first | (simp [noCells] at hn; done) | (simp only [Sem.run, ho]; exact ih _ K h)
  | choose q k ih =>
    intro w K h
    simp only [semK] at h
    cases hq : q.forced with
    | true => simp only [hq, cond_true] at h; simp only [Sem.run, hq, if_true]; exact ih 0 w K h
    | false => simp only [hq, cond_false] at h; simp only [Sem.run, hq, if_false, Bool.false_eq_true]; exact ih _ _ K h
  | sys c k ih => exact fun w K h => h.elim
  | program k ih => exact fun w K h => ih _ w K h
  | mark m k ih => exact fun w K h => ih w K h
  | halt x =>
    intro w K h
    cases x <;> first | exact .inr ⟨_, w, rfl, h⟩ | exact False.elim h

/-! ### shapes of values -/
inductive S1 where
  | int (k : IntKind) | bool | str | ptr | slice | map | any
inductive S2 where
  | one (s : S1) | agg (l : List S1)
inductive S3 where
  | one (s : S2) | tup (l : List S2)
def ex1 : S1 → (Value → Prop) → Prop
  | .int k, K => ∃ x : Int, K (.int k x)
  | .bool, K => ∃ x : Bool, K (.bool x)
  | .str, K => ∃ x : ByteArray, K (.string x)
  | .ptr, K => ∃ x : Option Addr, K (.pointer x)
  | .slice, K => ∃ (a : Option Addr) (l c : Nat), K (.slice a l c)
  | .map, K => ∃ x : Option Nat, K (.map x)
  | .any, K => ∃ x : Value, K x
def exL : List S1 → (List Value → Prop) → Prop
  | [], K => K []
  | s :: l, K => ex1 s fun v => exL l fun vs => K (v :: vs)
def ex2 : S2 → (Value → Prop) → Prop
  | .one s, K => ex1 s K
  | .agg l, K => exL l fun vs => K (.agg vs.toArray)
def exL2 : List S2 → (List Value → Prop) → Prop
  | [], K => K []
  | s :: l, K => ex2 s fun v => exL2 l fun vs => K (v :: vs)
def ex3 : S3 → (Value → Prop) → Prop
  | .one s, K => ex2 s K
  | .tup l, K => exL2 l fun vs => K (.tuple vs.toArray)
theorem ex1_some {s : S1} {K : Value → Prop} (h : ex1 s K) : ∃ v, K v := by
  cases s with
  | slice => obtain ⟨a, l, c, h⟩ := h; exact ⟨_, h⟩
  | int k => obtain ⟨x, h⟩ := h; exact ⟨_, h⟩
  | bool => obtain ⟨x, h⟩ := h; exact ⟨_, h⟩
  | str => obtain ⟨x, h⟩ := h; exact ⟨_, h⟩
  | ptr => obtain ⟨x, h⟩ := h; exact ⟨_, h⟩
  | map => obtain ⟨x, h⟩ := h; exact ⟨_, h⟩
  | any => obtain ⟨x, h⟩ := h; exact ⟨_, h⟩
theorem exL_some {l : List S1} : ∀ {K : List Value → Prop}, exL l K → ∃ vs, K vs := by
  induction l with
  | nil => exact fun h => ⟨_, h⟩
  | cons s l ih => intro K h; obtain ⟨v, h⟩ := ex1_some h; obtain ⟨vs, h⟩ := ih h; exact ⟨_, h⟩
theorem ex2_some {s : S2} {K : Value → Prop} (h : ex2 s K) : ∃ v, K v := by
  cases s with
  | one s => exact ex1_some h
  | agg l => obtain ⟨vs, h⟩ := exL_some (l := l) h; exact ⟨_, h⟩
theorem exL2_some {l : List S2} : ∀ {K : List Value → Prop}, exL2 l K → ∃ vs, K vs := by
  induction l with
  | nil => exact fun h => ⟨_, h⟩
  | cons s l ih => intro K h; obtain ⟨v, h⟩ := ex2_some h; obtain ⟨vs, h⟩ := ih h; exact ⟨_, h⟩
theorem ex3_some {s : S3} {K : Value → Prop} (h : ex3 s K) : ∃ v, K v := by
  cases s with
  | one s => exact ex2_some h
  | tup l => obtain ⟨vs, h⟩ := exL2_some (l := l) h; exact ⟨_, h⟩
/-- A value that comes from elsewhere, by its shape. -/
def exV (s : S3) (v : Value) (K : Value → Prop) : Prop :=
  match s with
  | .one (.one .any) => K v
  | s => ex3 s fun v' => v = v' ∧ K v'
theorem exV_out {s : S3} {v : Value} {K : Value → Prop} (h : exV s v K) : K v := by
  unfold exV at h
  split at h
  · exact h
  · obtain ⟨v', rfl, h⟩ := ex3_some h; exact h
/-- All values of some shapes. -/
def all1 : S1 → (Value → Prop) → Prop
  | .int k, K => ∀ x : Int, K (.int k x)
  | .bool, K => ∀ x : Bool, K (.bool x)
  | .str, K => ∀ x : ByteArray, K (.string x)
  | .ptr, K => ∀ x : Option Addr, K (.pointer x)
  | .slice, K => ∀ (a : Option Addr) (l c : Nat), K (.slice a l c)
  | .map, K => ∀ x : Option Nat, K (.map x)
  | .any, K => ∀ x : Value, K x
def allL : List S1 → (List Value → Prop) → Prop
  | [], K => K []
  | s :: l, K => all1 s fun v => allL l fun vs => K (v :: vs)
def all2 : S2 → (Value → Prop) → Prop
  | .one s, K => all1 s K
  | .agg l, K => allL l fun vs => K (.agg vs.toArray)
def allL2 : List S2 → (List Value → Prop) → Prop
  | [], K => K []
  | s :: l, K => all2 s fun v => allL2 l fun vs => K (v :: vs)
/-- A relation over what some shapes hold. -/
def T1 : S1 → Type → Type
  | .int _, T => Int → T
  | .bool, T => Bool → T
  | .str, T => ByteArray → T
  | .ptr, T => Option Addr → T
  | .slice, T => Option Addr → Nat → Nat → T
  | .map, T => Option Nat → T
  | .any, T => Value → T
def TL : List S1 → Type → Type
  | [], T => T
  | s :: l, T => T1 s (TL l T)
def T2 : S2 → Type → Type
  | .one s, T => T1 s T
  | .agg l, T => TL l T
def TL2 : List S2 → Type → Type
  | [], T => T
  | s :: l, T => T2 s (TL2 l T)
def kb : IntKind → IntKind → Bool
  | .i8, .i8 | .i16, .i16 | .i32, .i32 | .i64, .i64 | .u8, .u8 | .u16, .u16 | .u32, .u32 | .u64, .u64 => true
  | _, _ => false
theorem kb_eq {j k : IntKind} (h : kb j k = true) : j = k := by cases j <;> cases k <;> first | rfl | simp [kb] at h
def app1 {T : Type} : (s : S1) → T1 s T → Value → (T → Prop) → Prop
  | .int k, I, .int k' x, K => bif kb k k' then K (I x) else False
  | .bool, I, .bool x, K => K (I x)
  | .str, I, .string x, K => K (I x)
  | .ptr, I, .pointer x, K => K (I x)
  | .slice, I, .slice a l c, K => K (I a l c)
  | .map, I, .map x, K => K (I x)
  | .any, I, x, K => K (I x)
  | _, _, _, _ => False
def appL {T : Type} : (l : List S1) → TL l T → List Value → (T → Prop) → Prop
  | [], I, [], K => K I
  | s :: l, I, v :: vs, K => app1 s I v fun I' => appL l I' vs K
  | _, _, _, _ => False
def app2 {T : Type} : (s : S2) → T2 s T → Value → (T → Prop) → Prop
  | .one s, I, v, K => app1 s I v K
  | .agg l, I, .agg cs, K => appL l I cs.toList K
  | _, _, _, _ => False
def appL2 {T : Type} : (l : List S2) → TL2 l T → List Value → (T → Prop) → Prop
  | [], I, [], K => K I
  | s :: l, I, v :: vs, K => app2 s I v fun I' => appL2 l I' vs K
  | _, _, _, _ => False
end Go.L
