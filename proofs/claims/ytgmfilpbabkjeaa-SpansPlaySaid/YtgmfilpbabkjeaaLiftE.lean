/- The seat's program under the plain reading: what 'shallow.py' leans on. -/
import Derived.Test.YtgmfilpbabkjeaaLiftD
import Derived.Test.YtgmfilpbabkjeaaProg
set_option linter.unusedVariables false
namespace Go.L
def lookN {α : Type} (d : α) (i : Nat) : List (Nat × α) → α
  | [] => d
  | (j, x) :: l => bif Nat.beq i j then x else lookN d i l
def annOf (l : List (Nat × S3)) (m : List (Nat × List Nat × List S2 × List Nat)) : Ann :=
  { sh := fun i => lookN (.one (.one .any)) i l, loop := fun i => lookN ([], [], []) i m }
def bodyOf (fn : Func) : Code := fn.body.getD .skip
def ngOk (P : Program) : Bool := P.funcs.toList.all fun fn => !(fn.name == "runtime.NumGoroutine")
theorem noNG_of {P : Program} (h : ngOk P = true) : NoNG P := by
  intro k fn hf
  have hm : fn ∈ P.funcs.toList := Array.mem_toList_iff.2 (Array.mem_of_getElem? hf)
  have := List.all_eq_true.1 h fn hm
  simpa using this
end Go.L
namespace Go.Proofs
open Go.L
theorem noNG : NoNG Try.prog := noNG_of (by kernel_rfl)
theorem mixedOk : Try.prog.follows .mixedOrders = true := by kernel_rfl
end Go.Proofs
