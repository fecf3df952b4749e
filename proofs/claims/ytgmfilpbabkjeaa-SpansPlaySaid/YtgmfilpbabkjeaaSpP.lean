/- Spans: compare over events. Seat s14. -/
import Derived.Test.YtgmfilpbabkjeaaSpO
set_option linter.unusedVariables false
set_option linter.unusedSimpArgs false
set_option maxRecDepth 100000
namespace Go.Proofs
open Go.L Go.RowKit Go.Sort Go.Shelf

structure Ev where
  rev : Int
  key : ByteArray
  add : Bool
deriving Inhabited, DecidableEq
def encE (e : Ev) : List Value := [.int .i64 e.rev, .string e.key, .bool e.add]
def worth (e : Ev) : Int := if e.add then 1 else 0
def cmpE (a b : Ev) : Int := orL [cmpI a.rev b.rev, cmpS a.key b.key, cmpI (worth a) (worth b)]
theorem Compare42 (a b : Ev) (w : World) : Calls Try.prog 42 #[.agg (encE a).toArray, .agg (encE b).toArray] w fun e w' => e = .returned (.int .i64 (cmpE a b)) ∧ Grown w w' := by
  refine F42.calls_of _ _ _ _ _ _ ?_
  unfold F42.sh
  refine allocK_of (allocK_of ?_)
  have na := heap_new w (.cells #[.int .i64 a.rev, .string a.key, .bool a.add] 49)
  have g1 := (Grown.refl w).alloc (.cells #[.int .i64 a.rev, .string a.key, .bool a.add] 49)
  generalize hw1 : w.alloc (.cells #[.int .i64 a.rev, .string a.key, .bool a.add] 49) = w1 at *
  have nb := heap_new w1 (.cells #[.int .i64 b.rev, .string b.key, .bool b.add] 49)
  have na2 := ((Keeps.refl (S := no)).alloc (.cells #[.int .i64 b.rev, .string b.key, .bool b.add] 49)).heap na id
  have g2 := g1.alloc (.cells #[.int .i64 b.rev, .string b.key, .bool b.add] 49)
  generalize w1.alloc (.cells #[.int .i64 b.rev, .string b.key, .bool b.add] 49) = w2 at *
  have A0 : ∀ {w' : World}, Keeps no w2 w' → w'.heap[w.heap.size]? = some (.cells #[.int .i64 a.rev, .string a.key, .bool a.add] 49 (0, 0)) := fun hk => hk.heap na2 id
  have B0 : ∀ {w' : World}, Keeps no w2 w' → w'.heap[w1.heap.size]? = some (.cells #[.int .i64 b.rev, .string b.key, .bool b.add] 49 (0, 0)) := fun hk => hk.heap nb id
  have kd : Keeps no w2 w2.drew := (Keeps.refl (S := no)).drew
  have gd := g2.drew
  have Ad := A0 kd
  have Bd := B0 kd
  refine ⟨_, cell_of Ad rfl, _, cell_of Bd rfl, _, cell_of Ad rfl, _, cell_of Bd rfl, _, cell_of Ad rfl, _, cell_of Ad rfl, _, cell_of Ad rfl, _, cell_of Bd rfl, _, cell_of Bd rfl, _, cell_of Bd rfl, ?_⟩
  refine (Compare57 _ _ _).mono ?_
  rintro e w3 ⟨rfl, rfl⟩
  refine ⟨_, rfl, ⟨_, cell_of Ad rfl, rfl⟩, ⟨_, cell_of Bd rfl, rfl⟩, ⟨_, cell_of Ad rfl, _, cell_of Ad rfl, _, cell_of Ad rfl, rfl⟩, ⟨_, cell_of Bd rfl, _, cell_of Bd rfl, _, cell_of Bd rfl, rfl⟩, ?_⟩
  refine (Compare58 _ _ _).mono ?_
  rintro e w5 ⟨rfl, rfl⟩
  refine ⟨_, rfl, ⟨_, cell_of Ad rfl, _, cell_of Ad rfl, _, cell_of Ad rfl, rfl⟩, ⟨_, cell_of Bd rfl, _, cell_of Bd rfl, _, cell_of Bd rfl, rfl⟩, ?_⟩
  refine (worth55 a.rev a.key a.add _).mono ?_
  rintro e w7 ⟨rfl, g7⟩
  have B7 := B0 (kd.transN g7.keeps)
  refine ⟨_, rfl, ⟨_, cell_of B7 rfl, _, cell_of B7 rfl, _, cell_of B7 rfl, rfl⟩, ?_⟩
  refine (worth55 b.rev b.key b.add _).mono ?_
  rintro e w9 ⟨rfl, g9⟩
  refine ⟨_, rfl, ?_⟩
  refine (Compare57 _ _ _).mono ?_
  rintro e w11 ⟨rfl, rfl⟩
  refine ⟨_, rfl, allocK_of ?_⟩
  have nn := heap_new w11 (.cells #[.int .i64 (cmpI a.rev b.rev), .int .i64 (cmpS a.key b.key), .int .i64 (cmpI (worth a) (worth b))] 3)
  refine (Or56 [cmpI a.rev b.rev, cmpS a.key b.key, cmpI (worth a) (worth b)] (q := w11.heap.size) (c := 3) (by simp) (fun t ht => ?_)).mono ?_
  · have : t = 0 ∨ t = 1 ∨ t = 2 := by simp at ht; omega
    rcases this with rfl | rfl | rfl <;> exact cell_of nn rfl
  rintro e w14 ⟨rfl, rfl⟩
  exact ⟨_, rfl, rfl, ((gd.trans g7).trans g9).alloc _⟩
end Go.Proofs
