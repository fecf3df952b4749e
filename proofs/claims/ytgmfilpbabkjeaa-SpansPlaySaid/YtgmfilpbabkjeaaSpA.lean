/- Spans: the pure data, how they lie in memory ('Rep'), and the contracts of New, open. Seat s14. -/
import Derived.Test.YtgmfilpbabkjeaaOrd
import Derived.Test.YtgmfilpbabkjeaaLiftF
import Derived.IntWalk
set_option linter.unusedVariables false
set_option linter.unusedSimpArgs false
set_option maxRecDepth 100000
namespace Go.Proofs
open Go.L Go.RowKit

/-! ### tactics for a reading -/
theorem iteP_of {b : Bool} {X Y : Prop} (h1 : b = true → X) (h2 : b = false → Y) : iteP b X Y := by cases b; exact h2 rfl; exact h1 rfl
theorem onSome_of {α : Type} {o : Option α} {x : α} {K : α → Prop} (h : o = some x) (hk : K x) : onSome o K := by subst h; exact hk
theorem runK_of {P : Program} {s : Sem Value} {w : World} {K : Value → World → Prop} {v : Value} {w' : World} (h : s.run P w = .ok v w') (hk : K v w') : runK P s w K := ⟨v, w', h, hk⟩
theorem rdRunK_of {P : Program} {s : Sem Value} {w : World} {K : Value → Prop} {v : Value} (h : s.run P w = .ok v w) (hk : K v) : rdRunK P s w K := ⟨v, h, hk⟩

/-! ### types -/
theorem und9 : Try.prog.underlying 9 = some .string := by kernel_rfl
theorem und58 : Try.prog.underlying 58 = some (.map 9 66) := by kernel_rfl
theorem zero66 (w : World) : (zeroValue 66).run Try.prog w = .ok (.slice none 0 0) w := by kernel_rfl

/-! ### pure data -/
structure Sp where
  all : ByteArray → List (Int × Int)
  keys : List ByteArray
  last : Int
def encS (x : Int × Int) : List Value := [.int .i64 x.1, .int .i64 x.2]
abbrev lt := Go.L.lt
structure Sp.Ok (M : Sp) : Prop where
  rising : M.keys.Pairwise fun a b => lt a b = true
  mem : ∀ k, M.all k ≠ [] → k ∈ M.keys
  size : ∀ k ∈ M.keys, k.size ≤ maxLen
def openOf (l : List (Int × Int)) : Option Int :=
  match l.getLast? with
  | some (f, t) => if t = 0 then some f else none
  | none => none

/-! ### in memory -/
structure RepX (B : Nat) (w : World) (bs bm : Nat) (kv : Value) (g : ByteArray → Option Value) (N : Nat) (M : Sp) : Prop where
  head : w.heap[bs]? = some (.cells #[.map (some bm), kv, .int .i64 M.last] 60 (0, 0))
  map : MapIs w Try.prog 9 bm N g
  keys : w.ownsRow B 9 1 kv M.keys.length (M.keys.map .string)
  nil : ∀ k, M.all k = [] → g k = none
  row : ∀ k, M.all k ≠ [] → ∃ v, g k = some v ∧ w.ownsRow B 68 2 v (M.all k).length ((M.all k).flatMap encS)
  bsm : bs ≠ bm
  geS : B ≤ bs
  geM : B ≤ bm
  apartK : ∀ q, kv.ownBlock = some q → q ≠ bs ∧ q ≠ bm
  apartG : ∀ k v q, g k = some v → v.ownBlock = some q → q ≠ bs ∧ q ≠ bm ∧ kv.ownBlock ≠ some q
  once : ∀ k v k' v' q, g k = some v → v.ownBlock = some q → g k' = some v' → v'.ownBlock = some q → k' = k
  ok : M.Ok
  lenK : M.keys.length ≤ N
  lenA : ∀ k, (M.all k).length ≤ N
def blocks (bs bm : Nat) (kv : Value) (g : ByteArray → Option Value) (q : Nat) : Prop := q = bs ∨ q = bm ∨ kv.ownBlock = some q ∨ ∃ k v, g k = some v ∧ v.ownBlock = some q
/-- The spans M lie at block bs of w; what is theirs is S. -/
def Rep (B : Nat) (w : World) (bs N : Nat) (M : Sp) (S : Nat → Prop) : Prop := ∃ bm kv g, RepX B w bs bm kv g N M ∧ S = blocks bs bm kv g
theorem RepX.keeps {B bs bm N : Nat} {w w' : World} {kv : Value} {g : ByteArray → Option Value} {M : Sp} {S : Nat → Prop} (h : RepX B w bs bm kv g N M) (hk : Keeps S w w') (hn : ∀ q, blocks bs bm kv g q → ¬ S q) : RepX B w' bs bm kv g N M :=
  { h with
    head := hk.heap h.head (hn _ (.inl rfl))
    map := h.map.keeps hk (hn _ (.inr (.inl rfl)))
    keys := row_keeps h.keys hk fun q hq => hn _ (.inr (.inr (.inl hq)))
    row := fun k hne => by
      obtain ⟨v, hv, hr⟩ := h.row k hne
      exact ⟨v, hv, row_keeps hr hk fun q hq => hn _ (.inr (.inr (.inr ⟨k, v, hv, hq⟩)))⟩ }
theorem Rep.keeps {B bs N : Nat} {w w' : World} {M : Sp} {S S' : Nat → Prop} (h : Rep B w bs N M S) (hk : Keeps S' w w') (hn : ∀ q, S q → ¬ S' q) : Rep B w' bs N M S := by
  obtain ⟨bm, kv, g, h, rfl⟩ := h
  exact ⟨bm, kv, g, h.keeps hk hn, rfl⟩
theorem RepX.ge {B bs bm N : Nat} {w : World} {kv : Value} {g : ByteArray → Option Value} {M : Sp} (h : RepX B w bs bm kv g N M) {q : Nat} (hq : blocks bs bm kv g q) : B ≤ q ∧ q < w.heap.size := by
  rcases hq with rfl | rfl | hq | ⟨k, v, hv, hq⟩
  · exact ⟨h.geS, lt_of_heap h.head⟩
  · exact ⟨h.geM, h.map.lt⟩
  · exact h.keys.lt q hq
  · by_cases hne : M.all k = []
    · rw [h.nil k hne] at hv; cases hv
    · obtain ⟨v', hv', hr⟩ := h.row k hne
      rw [hv] at hv'; cases hv'
      exact hr.lt q hq
theorem Rep.ge {B bs N : Nat} {w : World} {M : Sp} {S : Nat → Prop} (h : Rep B w bs N M S) {q : Nat} (hq : S q) : B ≤ q ∧ q < w.heap.size := by
  obtain ⟨bm, kv, g, h, rfl⟩ := h; exact h.ge hq
theorem Rep.ok {B bs N : Nat} {w : World} {M : Sp} {S : Nat → Prop} (h : Rep B w bs N M S) : M.Ok := by
  obtain ⟨bm, kv, g, h, rfl⟩ := h; exact h.ok

/-! ### New -/
def Sp.empty : Sp := ⟨fun _ => [], [], 0⟩
theorem New_spec {B : Nat} (w : World) (hB : B ≤ w.heap.size) : Calls Try.prog 10 #[] w fun e w' => ∃ bs S, e = .returned (.pointer (some ⟨bs, 0, none⟩)) ∧ Rep B w' bs 0 .empty S ∧ Keeps no w w' ∧ ∀ q, S q → w.heap.size ≤ q := by
  refine F10.calls_of ?_
  unfold F10.sh
  simp only [allocK]
  have hs : (w.alloc (.map #[] 0)).heap.size = w.heap.size + 1 := by simp
  refine ⟨_, _, rfl, ⟨w.heap.size, .slice none 0 0, fun _ => none, ⟨heap_new _ _, ?_, World.ownsRow_nil _ _ _ _, fun _ _ => rfl, fun k h => absurd rfl h, by simp, by simp; omega, hB, by simp [Value.ownBlock], by simp, by simp, ⟨.nil, by simp [Sp.empty], by simp [Sp.empty]⟩, by simp [Sp.empty], by simp [Sp.empty]⟩, rfl⟩, (Keeps.refl.alloc _).alloc _, ?_⟩
  · exact (MapIs.made w Try.prog 9).keeps (Keeps.refl.alloc (S := no) _) id
  · intro q hq
    rcases hq with rfl | rfl | hq | ⟨k, v, hv, hq⟩
    · simp
    · simp
    · simp [Value.ownBlock] at hq
    · cases hv

/-! ### open -/
theorem encS_get {l : List (Int × Int)} {i : Nat} {x : Int × Int} (h : l[i]? = some x) : (l.flatMap encS)[i * 2]? = some (.int .i64 x.1) ∧ (l.flatMap encS)[i * 2 + 1]? = some (.int .i64 x.2) := by
  induction l generalizing i with
  | nil => simp at h
  | cons y l ih =>
    cases i with
    | zero => simp at h; subst h; simp [encS]
    | succ i =>
      simp at h
      have := ih h
      rw [List.flatMap_cons]
      have e1 : (i + 1) * 2 = i * 2 + 2 := by omega
      simp only [encS, List.cons_append, List.nil_append, e1]
      exact ⟨this.1, this.2⟩
theorem wrap_sub_one {n : Nat} (h : 0 < n) (hn : n ≤ maxLen) : IntKind.wrap .i64 ((n : Int) - 1) = ((n - 1 : Nat) : Int) := by
  simp only [maxLen] at hn
  rw [IntWalk.i64_in _ (by omega)]; omega
theorem open_spec {B bs bm N : Nat} {w : World} {kv : Value} {g : ByteArray → Option Value} {M : Sp} (h : RepX B w bs bm kv g N M) (hN : N < maxLen) (key : ByteArray) (hs : key.size ≤ maxLen) :
    Calls Try.prog 26 #[.pointer (some ⟨bs, 0, none⟩), .string key] w fun e w' => w' = w ∧
      ((openOf (M.all key) = none ∧ e = .returned (.pointer none)) ∨ ∃ f v q, openOf (M.all key) = some f ∧ g key = some v ∧ v.ownBlock = some q ∧ e = .returned (.pointer (some ⟨q, 2 * ((M.all key).length - 1), none⟩))) := by
  refine F26.calls_of _ _ ?_
  unfold F26.sh
  refine ⟨some bm, cell_of h.head rfl, runK_of (h.map.look und9 und58 (zero66 _) hs) ?_⟩
  by_cases hne : M.all key = []
  · rw [h.nil key hne]
    refine ⟨none, 0, 0, rfl, ?_⟩
    exact ⟨rfl, .inl ⟨by simp [openOf, hne], rfl⟩⟩
  · obtain ⟨v, hv, hr⟩ := h.row key hne
    have hpos : 0 < (M.all key).length := List.length_pos_iff.2 hne
    obtain ⟨q, hq, hqB, hqs⟩ := row_block hr hpos
    obtain ⟨cap, cur, hve, _, hh, _, hcm, _⟩ := row_heap hr hq
    rw [hv]
    have hlen : (M.all key).length ≤ maxLen := by have := h.lenA key; omega
    refine ⟨some ⟨q, 0, none⟩, (M.all key).length, cap, by simp [hve], ?_⟩
    have hw := wrap_sub_one hpos hlen
    have hl : (M.all key)[(M.all key).length - 1]? = some ((M.all key).getLast hne) := by rw [← List.getLast?_eq_getElem?, List.getLast?_eq_some_getLast hne]
    obtain ⟨c1, c2⟩ := encS_get hl
    refine iteP_of (fun h0 => ?_) (fun _ => ?_)
    · exact absurd (by simpa using h0) hne
    rw [hw]
    refine ⟨⟨by omega, by omega⟩, ((M.all key).getLast hne).2, ?_, ?_⟩
    · have := row_cell hr hq c2
      simpa using this
    · have ho : openOf (M.all key) = if ((M.all key).getLast hne).2 = 0 then some ((M.all key).getLast hne).1 else none := by
        unfold openOf
        rw [List.getLast?_eq_some_getLast hne]
      refine iteP_of (fun h0 => ?_) (fun h0 => ?_)
      · refine ⟨rfl, .inl ⟨?_, rfl⟩⟩
        rw [ho, if_neg (by simpa using h0)]
      · refine ⟨⟨by omega, by omega⟩, rfl, .inr ⟨((M.all key).getLast hne).1, v, q, ?_, rfl, hq, ?_⟩⟩
        · rw [ho, if_pos (by simpa using h0)]
        · simp; omega
end Go.Proofs
