/- Spans: compare. Seat s14. -/
import Derived.Test.YtgmfilpbabkjeaaSpN
import Derived.Test.YtgmfilpbabkjeaaCmpL
set_option linter.unusedVariables false
set_option linter.unusedSimpArgs false
set_option maxRecDepth 100000
namespace Go.Proofs
open Go.L Go.RowKit Go.Sort Go.Shelf

/-- Behind a call that lays blocks and draws alone. -/
def Grown (w w' : World) : Prop := ∃ q os, w' = grow (w.drewN q) os
theorem Grown.refl (w : World) : Grown w w := ⟨0, #[], by simp [grow, World.drewN]⟩
theorem Grown.alloc {w w' : World} (h : Grown w w') (o : Obj) : Grown w (w'.alloc o) := by
  obtain ⟨q, os, rfl⟩ := h
  exact ⟨q, os.push o, by unfold grow World.alloc; simp only [Array.append_push]⟩
theorem Grown.drew {w w' : World} (h : Grown w w') : Grown w w'.drew := by
  obtain ⟨q, os, rfl⟩ := h
  exact ⟨q + 1, os, rfl⟩
theorem Grown.trans {w w' w'' : World} (h : Grown w w') (h' : Grown w' w'') : Grown w w'' := by
  obtain ⟨q, os, rfl⟩ := h
  obtain ⟨q', os', rfl⟩ := h'
  exact ⟨q + q', os ++ os', by simp [grow, World.drewN, Array.append_assoc, Nat.add_assoc]⟩
theorem Grown.keeps {w w' : World} (h : Grown w w') : Keeps no w w' := by
  obtain ⟨q, os, rfl⟩ := h
  exact ⟨rfl, rfl, rfl, by simp [grow, World.drewN], fun k hk _ => by simp [grow, World.drewN, Array.getElem?_append_left hk]⟩

theorem isNaN72 (x : Int) (w : World) : Calls Try.prog 72 #[.int .i64 x] w fun e w' => e = .returned (.bool false) ∧ w' = w := by
  refine F72.calls_of _ ?_
  unfold F72.sh
  exact ⟨by simp, rfl⟩
def cmpI (x y : Int) : Int := if x < y then -1 else if x > y then 1 else 0
theorem Compare57 (x y : Int) (w : World) : Calls Try.prog 57 #[.int .i64 x, .int .i64 y] w fun e w' => e = .returned (.int .i64 (cmpI x y)) ∧ w' = w := by
  refine F57.calls_of _ _ ?_
  unfold F57.sh
  refine (isNaN72 x w).mono ?_
  rintro e w' ⟨rfl, rfl⟩
  refine ⟨_, rfl, ?_⟩
  refine (isNaN72 y _).mono ?_
  rintro e w2 ⟨rfl, rfl⟩
  refine ⟨_, rfl, ?_⟩
  change iteP (decide (x < y)) _ _
  refine iteP_of (fun h1 => ?_) (fun h1 => iteP_of (fun h2 => ?_) (fun h2 => ?_))
  · exact ⟨by simp at h1; simp [cmpI, h1], rfl⟩
  · exact ⟨by simp at h1 h2; unfold cmpI; rw [if_neg (by omega), if_pos (by omega)], rfl⟩
  · exact ⟨by simp at h1 h2; unfold cmpI; rw [if_neg (by omega), if_neg (by omega)], rfl⟩
def cmpS (x y : ByteArray) : Int := Lib.compareBytes x.data.toList y.data.toList
theorem Compare58 (x y : ByteArray) (w : World) : Calls Try.prog 58 #[.string x, .string y] w fun e w' => e = .returned (.int .i64 (cmpS x y)) ∧ w' = w :=
  Any.strings_Compare Try.scmp x y w
theorem worth55 (r : Int) (k : ByteArray) (b : Bool) (w : World) : Calls Try.prog 55 #[.agg #[.int .i64 r, .string k, .bool b]] w fun e w' => e = .returned (.int .i64 (if b then 1 else 0)) ∧ Grown w w' := by
  refine F55.calls_of _ _ _ ?_
  unfold F55.sh
  refine allocK_of ⟨b, cell_of (heap_new _ _) rfl, iteP_of (fun h => ?_) (fun h => ?_)⟩
  · exact ⟨by rw [h]; rfl, (Grown.refl w).alloc _⟩
  · exact ⟨by rw [h]; rfl, (Grown.refl w).alloc _⟩
def orL : List Int → Int
  | [] => 0
  | x :: l => if x ≠ 0 then x else orL l
theorem Or56 (l : List Int) {w : World} {q c : Nat} (hn : l.length ≤ 1000) (hc : ∀ t (h : t < l.length), w.cell? ⟨q, t, none⟩ = some (.int .i64 l[t])) :
    Calls Try.prog 56 #[.slice (some ⟨q, 0, none⟩) l.length c] w fun e w' => e = .returned (.int .i64 (orL l)) ∧ w' = w := by
  refine F56.calls_of _ _ _ ?_
  unfold F56.sh
  refine ⟨fun i k w1 => w1 = w ∧ ∃ a : Nat, i = a ∧ a ≤ l.length ∧ k = l.length - a ∧ orL (l.drop a) = orL l, ⟨l.length, rfl, 0, rfl, by omega, by omega, rfl⟩, ?_⟩
  rintro i k w1 ⟨rfl, a, rfl, ha, rfl, ho⟩ z
  refine iteP_of (fun h0 => ?_) (fun h0 => ?_)
  · have h0 : a < l.length := by simpa using h0
    rw [List.drop_eq_getElem_cons h0] at ho
    refine ⟨⟨by omega, by omega⟩, onSome_of rfl ⟨l[a], ?_, iteP_of (fun h1 => ?_) (fun h1 => ?_)⟩⟩
    · rw [addr_add, Int.toNat_natCast, Nat.zero_add, Nat.mul_one]; exact hc a h0
    · have h1 : l[a] ≠ 0 := by simpa using h1
      exact ⟨by rw [← ho]; unfold orL; rw [if_pos h1], rfl⟩
    · have h1 : l[a] = 0 := by simpa using h1
      rw [IntWalk.i64_in _ (by omega)]
      refine ⟨l.length - (a + 1), by omega, rfl, a + 1, by omega, by omega, rfl, ?_⟩
      rw [← ho]; conv => rhs; unfold orL
      rw [if_neg (by simp [h1])]
  · have h0 : ¬ a < l.length := by simpa using h0
    rw [List.drop_eq_nil_of_le (by omega)] at ho
    exact ⟨by rw [← ho]; rfl, rfl⟩
end Go.Proofs
