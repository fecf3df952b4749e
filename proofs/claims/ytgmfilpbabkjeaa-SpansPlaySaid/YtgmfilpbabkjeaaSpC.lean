/- Spans: slices.BinarySearch over strings that rise, and what it leans on. Seat s14. -/
import Derived.Test.YtgmfilpbabkjeaaSpB
import Derived.Test.YtgmfilpbabkjeaaOrd
set_option linter.unusedVariables false
set_option linter.unusedSimpArgs false
set_option maxRecDepth 100000
namespace Go.Proofs
open Go.L Go.RowKit

theorem isNaN60 (x : ByteArray) (w : World) : Calls Try.prog 60 #[.string x] w fun e w' => e = .returned (.bool false) ∧ w' = w := by
  refine F60.calls_of _ ?_
  unfold F60.sh
  exact ⟨by simp, rfl⟩
theorem isNaN45 (x : ByteArray) (w : World) : Calls Try.prog 45 #[.string x] w fun e w' => e = .returned (.bool false) ∧ w' = w := by
  refine F45.calls_of _ ?_
  unfold F45.sh
  exact ⟨by simp, rfl⟩
theorem Less44 (x y : ByteArray) (w : World) : Calls Try.prog 44 #[.string x, .string y] w fun e w' => e = .returned (.bool (Go.L.lt x y)) ∧ w' = w := by
  refine F44.calls_of _ _ ?_
  unfold F44.sh
  refine (isNaN60 x w).mono ?_
  rintro e w' ⟨rfl, rfl⟩
  exact ⟨false, rfl, rfl, rfl⟩
/-- How many of the keys are below a string. -/
def rank (keys : List ByteArray) (x : ByteArray) : Nat := (keys.filter fun k => Go.L.lt k x).length
theorem rank_eq {keys : List ByteArray} (hr : keys.Pairwise fun a b => Go.L.lt a b = true) {x : ByteArray} {a : Nat} (ha : a ≤ keys.length) (h1 : ∀ t (h : t < keys.length), t < a → Go.L.lt keys[t] x = true)
    (h2 : ∀ t (h : t < keys.length), a ≤ t → Go.L.lt keys[t] x = false) : rank keys x = a := by
  unfold rank
  have e : keys.filter (fun k => Go.L.lt k x) = keys.take a := by
    conv => lhs; rw [← List.take_append_drop a keys]
    rw [List.filter_append]
    have e1 : (keys.take a).filter (fun k => Go.L.lt k x) = keys.take a := by
      rw [List.filter_eq_self]
      intro k hk
      obtain ⟨t, ht, rfl⟩ := List.mem_iff_getElem.1 hk
      rw [List.length_take] at ht
      rw [List.getElem_take]
      exact h1 t (by omega) (by omega)
    have e2 : (keys.drop a).filter (fun k => Go.L.lt k x) = [] := by
      rw [List.filter_eq_nil_iff]
      intro k hk
      obtain ⟨t, ht, rfl⟩ := List.mem_iff_getElem.1 hk
      rw [List.length_drop] at ht
      rw [List.getElem_drop, h2 (a + t) (by omega) (by omega)]
      simp
    rw [e1, e2, List.append_nil]
  rw [e, List.length_take]; omega
theorem rank_le (keys : List ByteArray) (x : ByteArray) : rank keys x ≤ keys.length := List.length_filter_le _ _
theorem rank_lt {keys : List ByteArray} (hr : keys.Pairwise fun a b => Go.L.lt a b = true) {x : ByteArray} : (∀ t (h : t < keys.length), t < rank keys x → Go.L.lt keys[t] x = true) ∧ (∀ t (h : t < keys.length), rank keys x ≤ t → Go.L.lt keys[t] x = false) := by
  induction keys with
  | nil => exact ⟨fun t h => by simp at h, fun t h => by simp at h⟩
  | cons k l ih =>
    obtain ⟨hk, hl⟩ := List.pairwise_cons.1 hr
    have ih := ih hl
    cases h : Go.L.lt k x with
    | true =>
      have e : rank (k :: l) x = rank l x + 1 := by simp [rank, h]
      rw [e]
      refine ⟨fun t ht hta => ?_, fun t ht hta => ?_⟩
      · cases t with
        | zero => exact h
        | succ t => exact ih.1 t (by simpa using ht) (by omega)
      · cases t with
        | zero => omega
        | succ t => exact ih.2 t (by simpa using ht) (by omega)
    | false =>
      have hz : ∀ k' ∈ l, Go.L.lt k' x = false := fun k' hk' => by
        cases h' : Go.L.lt k' x with
        | false => rfl
        | true => rw [Go.L.lt_trans (hk k' hk') h'] at h; cases h
      have e : rank (k :: l) x = 0 := by
        unfold rank
        rw [List.length_eq_zero_iff, List.filter_eq_nil_iff]
        intro k' hk'
        rcases List.mem_cons.1 hk' with rfl | hk'
        · simp [h]
        · simp [hz k' hk']
      rw [e]
      refine ⟨fun t ht hta => by omega, fun t ht _ => ?_⟩
      cases t with
      | zero => exact h
      | succ t => exact hz _ (List.getElem_mem _)
def hasKey (keys : List ByteArray) (x : ByteArray) : Bool := keys.any fun k => decide (k = x)
theorem hasKey_iff {keys : List ByteArray} {x : ByteArray} : hasKey keys x = true ↔ x ∈ keys := by simp [hasKey]
theorem hasKey_not {keys : List ByteArray} {x : ByteArray} (h : x ∉ keys) : hasKey keys x = false := by
  cases h' : hasKey keys x with
  | false => rfl
  | true => exact absurd (hasKey_iff.1 h') h
theorem Search_spec {keys : List ByteArray} (hr : keys.Pairwise fun a b => Go.L.lt a b = true) {w : World} {q o c : Nat} {a : Option Addr} (hn : keys.length ≤ 4611686018427387904)
    (ha : keys = [] ∨ a = some ⟨q, o, none⟩) (hc : ∀ t (h : t < keys.length), w.cell? ⟨q, o + t, none⟩ = some (.string keys[t])) (x : ByteArray) :
    Calls Try.prog 27 #[.slice a keys.length c, .string x] w fun e w' => e = .returned (.tuple #[.int .i64 (rank keys x), .bool (hasKey keys x)]) ∧ w' = w := by
  refine F27.calls_of _ _ _ _ ?_
  unfold F27.sh
  refine ⟨fun i j k w1 => w1 = w ∧ ∃ a b : Nat, i = a ∧ j = b ∧ a ≤ b ∧ b ≤ keys.length ∧ k = b - a ∧ (∀ t (h : t < keys.length), t < a → Go.L.lt keys[t] x = true) ∧ (∀ t (h : t < keys.length), b ≤ t → Go.L.lt keys[t] x = false),
    ⟨keys.length, rfl, 0, keys.length, rfl, rfl, by omega, by omega, by omega, fun t _ h => by omega, fun t h h' => by omega⟩, ?_⟩
  rintro i j k w1 ⟨rfl, a1, b1, rfl, rfl, hab, hb, rfl, h1, h2⟩ z
  refine iteP_of (fun h0 => ?_) (fun h0 => ?_)
  · have h0 : a1 < b1 := by simpa using h0
    rw [half_mid h0 hb hn]
    have hne : keys ≠ [] := by rintro rfl; simp at hb; omega
    have ha' := ha.resolve_left hne
    have hm : (a1 + b1) / 2 < keys.length := by omega
    refine ⟨⟨by omega, by omega⟩, onSome_of ha' ⟨keys[(a1 + b1) / 2], ?_, ?_⟩⟩
    · have := hc _ hm
      rw [addr_add, Int.toNat_natCast, Nat.mul_one]; exact this
    refine (Less44 _ _ _).mono ?_
    rintro e w' ⟨rfl, rfl⟩
    refine ⟨_, rfl, iteP_of (fun h3 => ?_) (fun h3 => ?_)⟩
    · rw [IntWalk.i64_in _ (by omega)]
      refine ⟨b1 - ((a1 + b1) / 2 + 1), by omega, rfl, (a1 + b1) / 2 + 1, b1, by omega, rfl, by omega, hb, rfl, fun t h h4 => ?_, h2⟩
      by_cases e : t = (a1 + b1) / 2
      · subst e; exact h3
      · exact Go.L.lt_trans (List.pairwise_iff_getElem.1 hr t ((a1 + b1) / 2) h hm (by omega)) h3
    · refine ⟨(a1 + b1) / 2 - a1, by omega, rfl, a1, (a1 + b1) / 2, rfl, rfl, by omega, by omega, rfl, h1, fun t h h4 => ?_⟩
      by_cases e : t = (a1 + b1) / 2
      · subst e; exact h3
      · cases h5 : Go.L.lt keys[t] x with
        | false => rfl
        | true => rw [Go.L.lt_trans (List.pairwise_iff_getElem.1 hr ((a1 + b1) / 2) t hm h (by omega)) h5] at h3; cases h3
  · have h0 : a1 = b1 := by have : ¬ a1 < b1 := by simpa using h0
                            omega
    subst h0
    have hrk : rank keys x = a1 := rank_eq hr hb h1 h2
    obtain rfl : a1 = rank keys x := hrk.symm
    clear hrk
    refine iteP_of (fun h3 => ?_) (fun h3 => ?_)
    · have h3 : rank keys x < keys.length := by simpa using h3
      have hne : keys ≠ [] := by rintro rfl; simp at h3
      have ha' := ha.resolve_left hne
      have hcell : w1.cell? ⟨q, o + rank keys x, none⟩ = some (.string keys[rank keys x]) := hc _ h3
      refine ⟨⟨by omega, by omega⟩, onSome_of ha' ⟨keys[rank keys x], by simpa using hcell, iteP_of (fun h4 => ?_) (fun h4 => ?_)⟩⟩
      · rw [toList_beq] at h4
        have h4 : keys[rank keys x] = x := by simpa using h4
        have : x ∈ keys := by rw [← h4]; exact List.getElem_mem _
        exact ⟨by rw [hasKey_iff.2 this], rfl⟩
      · rw [toList_beq] at h4
        have h4 : keys[rank keys x] ≠ x := by simpa using h4
        have hnot : x ∉ keys := by
          intro hm
          obtain ⟨t, ht, he⟩ := List.mem_iff_getElem.1 hm
          rcases Nat.lt_trichotomy t (rank keys x) with h5 | h5 | h5
          · have := h1 t ht h5; rw [he, Go.L.lt_irrefl] at this; cases this
          · subst h5; exact h4 he
          · have := List.pairwise_iff_getElem.1 hr (rank keys x) t h3 ht h5
            rw [he, h2 _ h3 (Nat.le_refl _)] at this; cases this
        refine ⟨⟨by omega, by omega⟩, onSome_of ha' ⟨keys[rank keys x], by simpa using hcell, ?_⟩⟩
        refine (isNaN45 _ _).mono ?_
        rintro e w' ⟨rfl, rfl⟩
        exact ⟨false, rfl, by rw [hasKey_not hnot], rfl⟩
    · have h3 : ¬ rank keys x < keys.length := by simpa using h3
      have hnot : x ∉ keys := by
        intro hm
        obtain ⟨t, ht, he⟩ := List.mem_iff_getElem.1 hm
        have := h1 t ht (by omega); rw [he, Go.L.lt_irrefl] at this; cases this
      exact ⟨by rw [hasKey_not hnot], rfl⟩
end Go.Proofs
