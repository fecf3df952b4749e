/- The order of Go's strings, and the halving of a binary search. No program in sight. -/
import Derived.Test.YtgmfilpbabkjeaaHeap
import Derived.Sort.Walk0
import Derived.IntWalk
set_option linter.unusedVariables false
set_option linter.unusedSimpArgs false
namespace Go.L
open Go.RowKit

def lt (a b : ByteArray) : Bool := Op.bytesLess a.toList b.toList
theorem lt_iff {a b : ByteArray} : lt a b = true ↔ a.data.toList < b.data.toList := by
  unfold lt; rw [Go.Proofs.bytesLess_eq, Go.Lib.toList_data, Go.Lib.toList_data]; simp
theorem data_inj {a b : ByteArray} (h : a.data.toList = b.data.toList) : a = b := by
  have h1 : a.data = b.data := Array.ext' h
  cases a; cases b; simp_all
theorem toList_inj {a b : ByteArray} : a.toList = b.toList ↔ a = b := by
  rw [Go.Lib.toList_data, Go.Lib.toList_data]; exact ⟨data_inj, fun h => by rw [h]⟩
theorem toList_beq {a b : ByteArray} : (a.toList == b.toList) = decide (a = b) := by
  rw [Bool.eq_iff_iff]; simp [toList_inj]
theorem lt_irrefl (a : ByteArray) : lt a a = false := by
  cases h : lt a a with
  | false => rfl
  | true => exact absurd (lt_iff.1 h) (List.lt_irrefl _)
theorem lt_trans {a b c : ByteArray} (h : lt a b = true) (h' : lt b c = true) : lt a c = true := lt_iff.2 (List.lt_trans (lt_iff.1 h) (lt_iff.1 h'))
theorem lt_asymm {a b : ByteArray} (h : lt a b = true) : lt b a = false := by
  cases h' : lt b a with
  | false => rfl
  | true => have := lt_trans h h'; rw [lt_irrefl] at this; cases this
theorem lt_total {a b : ByteArray} (h : lt a b = false) (h' : lt b a = false) : a = b := by
  have h1 : ¬ a.data.toList < b.data.toList := fun e => by rw [lt_iff.2 e] at h; cases h
  have h2 : ¬ b.data.toList < a.data.toList := fun e => by rw [lt_iff.2 e] at h'; cases h'
  exact data_inj (List.le_antisymm (List.not_lt.1 h2) (List.not_lt.1 h1))
theorem lt_of_not {a b : ByteArray} (h : lt a b = false) (hne : a ≠ b) : lt b a = true := by
  cases h' : lt b a with
  | true => rfl
  | false => exact absurd (lt_total h h') hne
theorem lt_of_lt_of_not {a b c : ByteArray} (h : lt a b = true) (h' : lt c b = false) : lt a c = true := by
  by_cases e : c = b
  · subst e; exact h
  · exact lt_trans h (lt_of_not h' e)

theorem half_mid {a b n : Nat} (hab : a < b) (hb : b ≤ n) (hn : n ≤ 4611686018427387904) :
    IntKind.wrap .i64 (Int.fdiv (IntKind.wrap .u64 (IntKind.wrap .i64 ((a : Int) + (b : Int)))) (2 ^ (min (Int.toNat 1) (IntKind.bits .u64)))) = (((a + b) / 2 : Nat) : Int) := by
  have q1 : IntKind.wrap .i64 ((a : Int) + (b : Int)) = (a : Int) + (b : Int) := IntWalk.i64_in _ (by omega)
  have q2 : IntKind.wrap .u64 ((a : Int) + (b : Int)) = (a : Int) + (b : Int) := IntWalk.u64_in _ (by omega)
  rw [q1, q2]
  have e : (2 : Int) ^ (min (Int.toNat 1) (IntKind.bits .u64)) = 2 := by decide
  rw [e]
  have e2 : Int.fdiv ((a : Int) + (b : Int)) 2 = (((a + b) / 2 : Nat) : Int) := by
    rw [Int.fdiv_eq_ediv_of_nonneg _ (by omega)]; omega
  rw [e2, IntWalk.i64_in _ (by omega)]
end Go.L
