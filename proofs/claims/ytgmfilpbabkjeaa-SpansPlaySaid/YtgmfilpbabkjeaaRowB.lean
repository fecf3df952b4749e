/- Opening a slice of whole numbers out of a row's argument. Seat s14. -/
import Derived.Test.YtgmfilpbabkjeaaRowA
import Derived.Test.YtgmfilpbabkjeaaLwT
set_option linter.unusedVariables false
set_option linter.unusedSimpArgs false
set_option maxRecDepth 100000
namespace Go.Proofs
open Go.ChangeShapes Go.WideShapes Go.Deep
theorem und23 : Try.prog.underlying 23 = some (.slice 3) := by kernel_rfl
theorem open_numbers {H : Type} {enc : TypeId × Value → H} {w : World} {a : Option Addr} {len cap : Nat} {d : DataW H} {p : List MemPlace} (h : DataW.Trod enc Try.prog w 0 (fun _ => true) true 23 (.slice a len cap) d p) (hlt : ∀ x ∈ p, x.block < w.heap.size) :
    ∃ l : List Int, l.length = len ∧ IntsAt w a l ∧ len ≤ maxLen := by
  obtain ⟨fuel, hf⟩ := h
  rcases open_ints und23 und3 (by kernel_rfl) hf with ⟨hcs, _⟩ | ⟨x, l, c, zs, hcs, _, hl, hm, hz, _, hcell, hwz⟩
  · simp [Value.cells] at hcs
    obtain ⟨rfl, rfl, rfl⟩ := hcs
    exact ⟨[], rfl, fun i hi => by simp at hi, by simp [maxLen]⟩
  · simp [Value.cells] at hcs
    obtain ⟨rfl, rfl, rfl⟩ := hcs
    have hz : zs.length = cap := by simpa using hz
    refine ⟨zs.take len, by rw [List.length_take]; omega, fun i hi => ?_, by omega⟩
    have hi' : i < len := by rw [List.length_take] at hi; omega
    have hc := hcell i (by omega)
    have hb : x.block < w.heap.size := by have := World.block_lt_of_cell? w (x.add i) hc; rwa [blockAdd] at this
    refine ⟨x, rfl, hb, ?_⟩
    rw [Nat.mul_one, hc, List.getElem_take, List.getD_eq_getElem?_getD, List.getElem?_eq_getElem (by omega)]
    rfl
end Go.Proofs
