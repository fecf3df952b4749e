/- Spans: has, slices.IndexFunc and ContainsFunc over spans, Has. Seat s14. -/
import Derived.Test.YtgmfilpbabkjeaaSpC
set_option linter.unusedVariables false
set_option linter.unusedSimpArgs false
set_option maxRecDepth 100000
namespace Go.Proofs
open Go.L Go.RowKit

theorem callAny_of {P : Program} {k : Nat} {args : Array Value} {w : World} {K : Value → World → Prop} {X : List PanicEntry → World → Prop} (hb : bodied P k = true) (h : Calls P k args w (endK K X)) : callAny P k args w K X := by
  unfold callAny; rw [hb]; exact h
def holds (rev : Int) (x : Int × Int) : Bool := decide (x.1 ≤ rev) && (x.2 == 0 || decide (x.2 > rev))
theorem has39 (x : Int × Int) (rev : Int) (w : World) : Calls Try.prog 39 #[.agg #[.int .i64 x.1, .int .i64 x.2], .int .i64 rev] w fun e w' => e = .returned (.bool (holds rev x)) ∧ Keeps no w w' := by
  refine F39.calls_of _ _ _ ?_
  unfold F39.sh
  simp only [allocK]
  have h0 := heap_new w (.cells #[.int .i64 x.1, .int .i64 x.2] 68)
  have hk : Keeps no w (w.alloc (.cells #[.int .i64 x.1, .int .i64 x.2] 68)) := Keeps.refl.alloc _
  refine ⟨x.1, cell_of h0 rfl, iteP_of (fun h1 => ⟨x.2, cell_of h0 rfl, iteP_of (fun h2 => ?_) (fun h2 => ⟨x.2, cell_of h0 rfl, ?_⟩)⟩) (fun h1 => ?_)⟩
  · exact ⟨by simp [holds, h1, h2], hk⟩
  · exact ⟨by simp [holds, h1, h2], hk⟩
  · exact ⟨by simp [holds, h1], hk⟩
/-- What a function value of a span says. -/
def Pred (g : Nat) (cap : Array Value) (p : Int × Int → Bool) (w : World) : Prop := bodied Try.prog g = true ∧ ∀ (x : Int × Int) (w1 : World), Keeps no w w1 →
  Calls Try.prog g (.agg #[.int .i64 x.1, .int .i64 x.2] :: cap.toList).toArray w1 fun e w2 => e = .returned (.bool (p x)) ∧ Keeps no w1 w2
theorem _root_.Go.L.Keeps.transN {w w' w'' : World} (h : Keeps no w w') (h' : Keeps no w' w'') : Keeps no w w'' := h.trans h' fun _ h => h.elim
theorem pred38 {b : Nat} {rev : Int} {w : World} (h : w.cell? ⟨b, 0, none⟩ = some (.int .i64 rev)) : Pred 38 #[.pointer (some ⟨b, 0, none⟩)] (holds rev) w := by
  refine ⟨by kernel_rfl, fun x w1 hk => ?_⟩
  refine F38.calls_of _ _ _ ?_
  unfold F38.sh
  simp only [allocK]
  have h0 := heap_new w1 (.cells #[.int .i64 x.1, .int .i64 x.2] 68)
  have hk1 : Keeps no w1 (w1.alloc (.cells #[.int .i64 x.1, .int .i64 x.2] 68)) := Keeps.refl.alloc _
  refine ⟨x.1, cell_of h0 rfl, x.2, cell_of h0 rfl, rev, (hk.transN hk1).cell h id, ?_⟩
  refine (has39 x rev _).mono ?_
  rintro e w2 ⟨rfl, hk2⟩
  exact ⟨_, rfl, rfl, hk1.transN hk2⟩
def idxOf {α : Type} (p : α → Bool) (l : List α) : Int :=
  match l.findIdx? p with
  | some i => i
  | none => -1
theorem idxOf_at {α : Type} {p : α → Bool} {l : List α} {a : Nat} (ha : a < l.length) (h1 : ∀ t (h : t < l.length), t < a → p l[t] = false) (h2 : p l[a] = true) : idxOf p l = a := by
  unfold idxOf
  have : l.findIdx? p = some a := by
    rw [List.findIdx?_eq_some_iff_getElem]
    exact ⟨ha, h2, fun j hj => by simp [h1 j (by omega) hj]⟩
  rw [this]
theorem idxOf_none {α : Type} {p : α → Bool} {l : List α} (h1 : ∀ t (h : t < l.length), p l[t] = false) : idxOf p l = -1 := by
  unfold idxOf
  have : l.findIdx? p = none := by
    rw [List.findIdx?_eq_none_iff]
    intro x hx
    obtain ⟨t, ht, rfl⟩ := List.mem_iff_getElem.1 hx
    exact h1 t ht
  rw [this]
theorem idxOf_ge {α : Type} {p : α → Bool} {l : List α} : decide (idxOf p l ≥ 0) = l.any p := by
  unfold idxOf
  cases h : l.findIdx? p with
  | none => rw [List.findIdx?_eq_none_iff] at h; simp; exact h
  | some i =>
    rw [List.findIdx?_eq_some_iff_getElem] at h
    obtain ⟨hi, hp, _⟩ := h
    have : l.any p = true := List.any_eq_true.2 ⟨_, List.getElem_mem hi, hp⟩
    rw [this]; simp
/-- The cells of a list of spans. -/
def SpanCells (w : World) (q : Nat) (l : List (Int × Int)) : Prop := ∀ t (h : t < l.length), w.cell? ⟨q, t * 2, none⟩ = some (.int .i64 l[t].1) ∧ w.cell? ⟨q, t * 2 + 1, none⟩ = some (.int .i64 l[t].2)
theorem SpanCells.of_row {B : Nat} {w : World} {v : Value} {q : Nat} {l : List (Int × Int)} (h : w.ownsRow B 68 2 v l.length (l.flatMap encS)) (hq : v.ownBlock = some q) : SpanCells w q l := by
  intro t ht
  have := encS_get (List.getElem?_eq_getElem ht)
  exact ⟨row_cell h hq this.1, row_cell h hq this.2⟩
theorem SpanCells.keeps {S : Nat → Prop} {w w' : World} {q : Nat} {l : List (Int × Int)} (h : SpanCells w q l) (hk : Keeps S w w') (hn : ¬ S q) : SpanCells w' q l := fun t ht => ⟨hk.cell (h t ht).1 hn, hk.cell (h t ht).2 hn⟩
theorem Index50 {g : Nat} {cap : Array Value} {p : Int × Int → Bool} {w : World} {l : List (Int × Int)} {a : Option Addr} {q c : Nat} (hp : Pred g cap p w) (hn : l.length ≤ maxLen) (ha : l = [] ∨ a = some ⟨q, 0, none⟩) (hc : SpanCells w q l) :
    Calls Try.prog 50 #[.slice a l.length c, .func (.func g) #[] cap] w fun e w' => e = .returned (.int .i64 (idxOf p l)) ∧ Keeps no w w' := by
  simp only [maxLen] at hn
  refine F50.calls_of _ _ _ _ _ ?_
  unfold F50.sh
  refine ⟨fun i k w1 => Keeps no w w1 ∧ ∃ a : Nat, i = a ∧ a ≤ l.length ∧ k = l.length - a ∧ ∀ t (h : t < l.length), t < a → p l[t] = false, ⟨l.length, Keeps.refl, 0, rfl, by omega, by omega, fun t h h' => by omega⟩, ?_⟩
  rintro i k w1 ⟨hk, a1, rfl, hle, rfl, h1⟩ z
  refine iteP_of (fun h0 => ?_) (fun h0 => ?_)
  · have h0 : a1 < l.length := by simpa using h0
    have hne : l ≠ [] := by rintro rfl; simp at h0
    have hcc := (hc.keeps hk id) a1 h0
    refine ⟨⟨by omega, by omega⟩, onSome_of (ha.resolve_left hne) ⟨l[a1].1, ?_, l[a1].2, ?_, ?_⟩⟩
    · rw [addr_add, Int.toNat_natCast, Nat.zero_add]; exact hcc.1
    · rw [addr_add, addr_add, Int.toNat_natCast, Nat.zero_add]; exact hcc.2
    refine callAny_of hp.1 ((hp.2 l[a1] w1 hk).mono ?_)
    rintro e w2 ⟨rfl, hk2⟩
    refine ⟨_, rfl, iteP_of (fun h2 => ?_) (fun h2 => ?_)⟩
    · exact ⟨by rw [idxOf_at h0 h1 h2], hk.transN hk2⟩
    · rw [IntWalk.i64_in _ (by omega)]
      refine ⟨l.length - (a1 + 1), by omega, hk.transN hk2, a1 + 1, by omega, by omega, rfl, fun t h h' => ?_⟩
      by_cases e : t = a1
      · subst e; exact h2
      · exact h1 t h (by omega)
  · have h0 : ¬ a1 < l.length := by simpa using h0
    exact ⟨by rw [idxOf_none fun t h => h1 t h (by omega)], hk⟩
theorem Contains37 {g : Nat} {cap : Array Value} {p : Int × Int → Bool} {w : World} {l : List (Int × Int)} {a : Option Addr} {q c : Nat} (hp : Pred g cap p w) (hn : l.length ≤ maxLen) (ha : l = [] ∨ a = some ⟨q, 0, none⟩) (hc : SpanCells w q l) :
    Calls Try.prog 37 #[.slice a l.length c, .func (.func g) #[] cap] w fun e w' => e = .returned (.bool (l.any p)) ∧ Keeps no w w' := by
  refine F37.calls_of _ _ _ _ _ ?_
  unfold F37.sh
  refine (Index50 hp hn ha hc).mono ?_
  rintro e w' ⟨rfl, hk⟩
  exact ⟨_, rfl, by rw [idxOf_ge], hk⟩

/-! ### Has -/
def Sp.has (M : Sp) (key : ByteArray) (rev : Int) : Bool := (M.all key).any (holds rev)
theorem Has_nil (key : ByteArray) (rev : Int) (w : World) : Calls Try.prog 19 #[.pointer none, .string key, .int .i64 rev] w fun e w' => e = .returned (.bool false) ∧ Keeps no w w' := by
  refine F19.calls_of _ _ _ ?_
  exact ⟨rfl, Keeps.refl.alloc _⟩
/-- The value at a key, as it is looked up. -/
theorem RepX.find {B bs bm N : Nat} {w : World} {kv : Value} {g : ByteArray → Option Value} {M : Sp} (h : RepX B w bs bm kv g N M) (key : ByteArray) :
    ∃ a c q, (g key).getD (.slice none 0 0) = .slice a (M.all key).length c ∧ (M.all key = [] ∨ a = some ⟨q, 0, none⟩ ∧ blocks bs bm kv g q) ∧ (M.all key ≠ [] → SpanCells w q (M.all key)) := by
  by_cases hne : M.all key = []
  · exact ⟨none, 0, 0, by rw [h.nil key hne, hne]; rfl, .inl hne, fun h => absurd hne h⟩
  · obtain ⟨v, hv, hr⟩ := h.row key hne
    obtain ⟨q, hq, _⟩ := row_block hr (List.length_pos_iff.2 hne)
    obtain ⟨cap, cur, hve, _⟩ := row_heap hr hq
    exact ⟨some ⟨q, 0, none⟩, cap, q, by rw [hv]; exact hve, .inr ⟨rfl, .inr (.inr (.inr ⟨key, v, hv, hq⟩))⟩, fun _ => SpanCells.of_row hr hq⟩
theorem Has_spec {B bs N : Nat} {w : World} {M : Sp} {S : Nat → Prop} (h : Rep B w bs N M S) (hN : N < maxLen) (key : ByteArray) (hs : key.size ≤ maxLen) (rev : Int) :
    Calls Try.prog 19 #[.pointer (some ⟨bs, 0, none⟩), .string key, .int .i64 rev] w fun e w' => e = .returned (.bool (M.has key rev)) ∧ Keeps no w w' := by
  obtain ⟨bm, kv, g, h, rfl⟩ := h
  refine F19.calls_of _ _ _ ?_
  unfold F19.sh
  simp only [allocK]
  have hk1 : Keeps no w (w.alloc (.cells #[.int .i64 rev] 3)) := Keeps.refl.alloc _
  have h1 := h.keeps hk1 (fun q _ h => h)
  obtain ⟨a, c, q, e1, e2, e3⟩ := h1.find key
  refine ⟨some bm, cell_of h1.head rfl, runK_of (h1.map.look und9 und58 (zero66 _) hs) ⟨a, (M.all key).length, c, e1, ?_⟩⟩
  refine (Contains37 (q := q) (pred38 (cell_of (heap_new _ _) rfl)) (by have := h.lenA key; omega) (e2.imp id (·.1)) ?_).mono ?_
  · by_cases hne : M.all key = []
    · intro t ht; rw [hne] at ht; simp at ht
    · exact e3 hne
  · rintro e w2 ⟨rfl, hk2⟩
    exact ⟨_, rfl, rfl, hk1.transN hk2⟩
end Go.Proofs
