/- Opening a slice of acts out of a row's argument. The block on slices of structs is the guide's, copied as it says. Seat s14. -/
import Derived.Test.YtgmfilpbabkjeaaLwE
import Derived.Deep.Slices
import Derived.Deep.Fields
import Derived.ChangeSame
import Derived.WalkKit
import Derived.ProofKit
import Derived.OpenShut
import Derived.ShutString
import Derived.ChangeOld
import Derived.SizedLaws
set_option linter.unusedVariables false
set_option linter.unusedSimpArgs false
set_option maxRecDepth 100000
namespace Go.Proofs
open Go.ChangeShapes Go.WideShapes Go.Deep
section
variable {H : Type} {enc : TypeId × Value → H} {P : Program} {w : World} {base : Nat} {spare : Nat → Bool} {held : Bool}
theorem open_slice_fields {t e : TypeId} {fs : Array Field} {fuel : Nat} {cs : List Value} {x : DataW H × List MemPlace} (ht : P.underlying t = some (.slice e)) (he : P.underlying e = some (.struct fs))
    (hone : oneCellFields P fs = true) (hC : P.cellsOf e = fs.size) (h : DataW.trod enc P w base spare held fuel t cs = some x) :
    (cs = [.slice none 0 0] ∧ x = (.nil, [])) ∨
    ∃ (a : Addr) (len cap m : Nat) (D : Nat → DataW H) (Pl : Nat → List MemPlace), cs = [.slice (some a) len cap] ∧ base ≤ a.block ∧ len ≤ cap ∧ cap ≤ maxLen ∧ m = (if spare a.block then cap else len) ∧
      x = (.slice ((List.range len).map D) ((List.range (m - len)).map fun j => D (len + j)), MemPlace.row a (m * fs.size) ++ (List.range m).flatMap Pl) ∧
      ∀ i, i < m → ∃ (ys : List (DataW H × List MemPlace)) (n : Nat), D i = .agg (ys.map (·.1)) ∧ Pl i = ys.flatMap (·.2) ∧ ys.length = fs.size ∧
        ∀ (j : Nat) (f : Field), fs[j]? = some f → ∃ (v : Value) (y : DataW H × List MemPlace), w.cell? (a.add (i * fs.size + j)) = some v ∧ ys[j]? = some y ∧ DataW.trod enc P w base spare held n f.type [v] = some y := by
  rcases open_slice ht h with h0 | ⟨a, len, cap, m, n, D, Pl, hcs, hb, hl, hm, hmm, hx, hi⟩
  · exact .inl h0
  · refine .inr ⟨a, len, cap, m, D, Pl, hcs, hb, hl, hm, hmm, by rw [hC] at hx; exact hx, fun i him => ?_⟩
    obtain ⟨cs', hc, ht'⟩ := hi i him
    rw [hC] at hc
    obtain ⟨ys, n', hn', hy, hlen, hyl, hf⟩ := DataW.trod_struct he ht'
    obtain ⟨_, hcl, hat⟩ := World.cells?_some hc
    simp only [Prod.mk.injEq] at hy
    refine ⟨ys, n', hy.1, hy.2, hyl, fun j f hj => ?_⟩
    obtain ⟨ho, hk⟩ := hone_of hone j f hj
    have hjl : j < fs.size := (Array.getElem?_eq_some_iff.1 hj).1
    have hcell := hat j hjl
    have hv : cs'[j]? = some (cs'[j]'(by omega)) := List.getElem?_eq_getElem (by omega)
    have h1 := hf j f hj
    rw [ho, hk] at h1
    have hone' : (cs'.drop j).take 1 = [cs'[j]'(by omega)] := by
      rw [List.drop_eq_getElem_cons (by omega)]
      rfl
    rw [hone'] at h1
    have hys : ys[j]? = some (ys[j]'(by omega)) := List.getElem?_eq_getElem (by omega)
    refine ⟨_, _, ?_, hys, h1.trans hys⟩
    rw [← Go.Deep.add_add, hcell, hv]
end
theorem und32 : ∃ f0 f1 f2 : Field, Try.prog.underlying 32 = some (.struct #[f0, f1, f2]) ∧ f0.type = 5 ∧ f1.type = 9 ∧ f2.type = 3 := by
  have h : (Try.prog.underlying 32).map (fun d => match d with | .struct fs => fs.toList.map (·.type) | _ => []) = some [5, 9, 3] := by kernel_rfl
  cases e : Try.prog.underlying 32 with
  | none => rw [e] at h; cases h
  | some d =>
    rw [e] at h
    cases d <;> try (simp at h; done)
    case struct fs =>
      obtain ⟨l⟩ := fs
      match l, h with
      | [a, b, c], h => simp at h; exact ⟨a, b, c, rfl, h.1, h.2.1, h.2.2⟩
theorem und22 : Try.prog.underlying 22 = some (.slice 32) := by kernel_rfl
theorem und5 : Try.prog.underlying 5 = some (.int .u8) := by kernel_rfl
theorem one32 : ∀ fs, Try.prog.underlying 32 = some (.struct fs) → oneCellFields Try.prog fs = true ∧ Try.prog.cellsOf 32 = fs.size := by
  have h : (Try.prog.underlying 32).map (fun d => match d with | .struct fs => oneCellFields Try.prog fs && Nat.beq (Try.prog.cellsOf 32) fs.size | _ => false) = some true := by kernel_rfl
  intro fs e
  rw [e] at h
  simp at h
  exact h
/-- The acts that an argument holds. -/
theorem open_acts {H : Type} {enc : TypeId × Value → H} {w : World} {a : Option Addr} {len cap : Nat} {d : DataW H} {p : List MemPlace} (h : DataW.Trod enc Try.prog w 0 (fun _ => true) true 22 (.slice a len cap) d p) (hlt : ∀ x ∈ p, x.block < w.heap.size) :
    ∃ l : List Act, l.length = len ∧ ActsAt w a l ∧ len ≤ maxLen := by
  obtain ⟨fuel, hf⟩ := h
  obtain ⟨f0, f1, f2, hs, t0, t1, t2⟩ := und32
  obtain ⟨ho, hC⟩ := one32 _ hs
  rcases open_slice_fields und22 hs ho hC hf with ⟨hcs, _⟩ | ⟨x, len', cap', m, D, Pl, hcs, _, hl, hm, hmm, hx, hi⟩
  · simp [Value.cells] at hcs
    obtain ⟨rfl, rfl, rfl⟩ := hcs
    exact ⟨[], rfl, fun i hi => by simp at hi, by simp [maxLen]⟩
  · simp [Value.cells] at hcs
    obtain ⟨rfl, rfl, rfl⟩ := hcs
    have hm' : m = cap := by simpa using hmm
    have each : ∀ i, i < len → ∃ y : Act, w.cell? (x.add (i * 3)) = some (.int .u8 y.kind) ∧ w.cell? ((x.add (i * 3)).add 1) = some (.string y.key) ∧ w.cell? ((x.add (i * 3)).add 2) = some (.int .i64 y.rev) := by
      intro i hil
      obtain ⟨ys, n, _, _, _, hfl⟩ := hi i (by omega)
      obtain ⟨v0, y0, c0, _, h0⟩ := hfl 0 f0 rfl
      obtain ⟨v1, y1, c1, _, h1⟩ := hfl 1 f1 rfl
      obtain ⟨v2, y2, c2, _, h2⟩ := hfl 2 f2 rfl
      rw [t0] at h0; rw [t1] at h1; rw [t2] at h2
      obtain ⟨k, e0, _⟩ := DataW.trod_int und5 h0
      obtain ⟨s, e1, _⟩ := DataW.trod_string und9 h1
      obtain ⟨r, e2, _⟩ := DataW.trod_int und3 h2
      simp at e0 e1 e2
      subst e0; subst e1; subst e2
      refine ⟨⟨k, s, r⟩, ?_, ?_, ?_⟩
      · simpa using c0
      · rw [Go.Deep.add_add]; simpa using c1
      · rw [Go.Deep.add_add]; simpa using c2
    have hall : ∀ i : Fin len, ∃ y : Act, w.cell? (x.add (i.val * 3)) = some (.int .u8 y.kind) ∧ w.cell? ((x.add (i.val * 3)).add 1) = some (.string y.key) ∧ w.cell? ((x.add (i.val * 3)).add 2) = some (.int .i64 y.rev) := fun i => each i.val i.isLt
    refine ⟨List.ofFn fun i => (hall i).choose, by simp, fun i hi' => ?_, by omega⟩
    have hil : i < len := by simpa using hi'
    have := (hall ⟨i, hil⟩).choose_spec
    have hb : x.block < w.heap.size := World.block_lt_of_cell? w (x.add (i * 3)) this.1 |> fun h => by rwa [blockAdd] at h
    refine ⟨x, rfl, hb, ?_, ?_, ?_⟩
    · simpa using this.1
    · simpa using this.2.1
    · simpa using this.2.2
end Go.Proofs
