/- Spans: the order of events is a strict order, and total. Seat s14. -/
import Derived.Test.YtgmfilpbabkjeaaSpP
set_option linter.unusedVariables false
set_option linter.unusedSimpArgs false
namespace Go.Proofs
open Go.L Go.RowKit Go.Sort Go.Shelf

theorem cmpB_spec : ∀ x y : List UInt8, (Lib.compareBytes x y < 0 ↔ x < y) ∧ (Lib.compareBytes x y = 0 ↔ x = y)
  | [], [] => by simp [Lib.compareBytes]
  | [], _ :: _ => by simp [Lib.compareBytes]
  | _ :: _, [] => by simp [Lib.compareBytes]
  | a :: x, b :: y => by
    have ih := cmpB_spec x y
    unfold Lib.compareBytes
    rw [List.cons_lt_cons_iff]
    by_cases h1 : a < b
    · simp only [if_pos h1]
      refine ⟨by simp [h1], ?_⟩
      constructor
      · intro h; cases h
      · intro h; injection h with h2 _; subst h2; exact absurd h1 (UInt8.lt_irrefl _)
    · simp only [if_neg h1]
      by_cases h2 : b < a
      · simp only [if_pos h2]
        have hne : a ≠ b := by rintro rfl; exact UInt8.lt_irrefl _ h2
        exact ⟨by simp [h1, hne], by simp [hne]⟩
      · simp only [if_neg h2]
        have he : a = b := UInt8.le_antisymm (UInt8.not_lt.1 h2) (UInt8.not_lt.1 h1)
        subst he
        exact ⟨by simp [ih.1, h1], by simp [ih.2]⟩
theorem cmpS_neg {x y : ByteArray} : cmpS x y < 0 ↔ Go.L.lt x y = true := by rw [Go.L.lt_iff]; exact (cmpB_spec _ _).1
theorem cmpS_zero {x y : ByteArray} : cmpS x y = 0 ↔ x = y := by
  unfold cmpS; rw [(cmpB_spec _ _).2]; exact ⟨Go.L.data_inj, fun h => by rw [h]⟩
theorem cmpI_neg {x y : Int} : cmpI x y < 0 ↔ x < y := by unfold cmpI; split <;> (try split) <;> omega
theorem cmpI_zero {x y : Int} : cmpI x y = 0 ↔ x = y := by unfold cmpI; split <;> (try split) <;> omega
/-- One event stands ahead of another. -/
def evLt (a b : Ev) : Prop := a.rev < b.rev ∨ (a.rev = b.rev ∧ (Go.L.lt a.key b.key = true ∨ (a.key = b.key ∧ worth a < worth b)))
theorem cmpE_neg {a b : Ev} : cmpE a b < 0 ↔ evLt a b := by
  unfold cmpE evLt
  simp only [orL]
  by_cases h1 : cmpI a.rev b.rev = 0
  · have e1 := cmpI_zero.1 h1
    rw [if_neg (by simp [h1])]
    by_cases h2 : cmpS a.key b.key = 0
    · have e2 := cmpS_zero.1 h2
      rw [if_neg (by simp [h2])]
      have hl : Go.L.lt a.key b.key = false := by rw [e2]; exact Go.L.lt_irrefl _
      by_cases h3 : cmpI (worth a) (worth b) = 0
      · have e3 := cmpI_zero.1 h3
        rw [if_neg (by simp [h3])]
        constructor
        · intro h; omega
        · rintro (h | ⟨_, h | ⟨_, h⟩⟩)
          · omega
          · rw [hl] at h; cases h
          · omega
      · rw [if_pos h3, cmpI_neg]
        constructor
        · exact fun h => .inr ⟨e1, .inr ⟨e2, h⟩⟩
        · rintro (h | ⟨_, h | ⟨_, h⟩⟩)
          · omega
          · rw [hl] at h; cases h
          · exact h
    · rw [if_pos h2, cmpS_neg]
      constructor
      · exact fun h => .inr ⟨e1, .inl h⟩
      · rintro (h | ⟨_, h | ⟨h, _⟩⟩)
        · omega
        · exact h
        · exact absurd (cmpS_zero.2 h) h2
  · rw [if_pos h1, cmpI_neg]
    constructor
    · exact .inl
    · rintro (h | ⟨h, _⟩)
      · exact h
      · exact absurd (cmpI_zero.2 h) h1
theorem evLt_irrefl (a : Ev) : ¬ evLt a a := by
  rintro (h | ⟨_, h | ⟨_, h⟩⟩)
  · omega
  · rw [Go.L.lt_irrefl] at h; cases h
  · omega
theorem evLt_trans {a b c : Ev} (h : evLt a b) (h' : evLt b c) : evLt a c := by
  rcases h with h | ⟨e, h⟩
  · rcases h' with h' | ⟨e', _⟩
    · exact .inl (by omega)
    · exact .inl (by omega)
  · rcases h' with h' | ⟨e', h'⟩
    · exact .inl (by omega)
    · refine .inr ⟨by omega, ?_⟩
      rcases h with h | ⟨k, h⟩
      · rcases h' with h' | ⟨k', _⟩
        · exact .inl (Go.L.lt_trans h h')
        · exact .inl (k' ▸ h)
      · rcases h' with h' | ⟨k', h'⟩
        · exact .inl (k ▸ h')
        · exact .inr ⟨k.trans k', by omega⟩
theorem worth_inj {a b : Ev} (h : worth a = worth b) : a.add = b.add := by
  unfold worth at h
  cases ha : a.add <;> cases hb : b.add <;> simp_all
theorem evLt_total {a b : Ev} (h : ¬ evLt a b) (h' : ¬ evLt b a) : a = b := by
  have e1 : a.rev = b.rev := by
    rcases Int.lt_trichotomy a.rev b.rev with h1 | h1 | h1
    · exact absurd (.inl h1) h
    · exact h1
    · exact absurd (.inl h1) h'
  have e2 : a.key = b.key := by
    refine Go.L.lt_total ?_ ?_
    · cases hl : Go.L.lt a.key b.key with
      | false => rfl
      | true => exact absurd (.inr ⟨e1, .inl hl⟩) h
    · cases hl : Go.L.lt b.key a.key with
      | false => rfl
      | true => exact absurd (.inr ⟨e1.symm, .inl hl⟩) h'
  have e3 : worth a = worth b := by
    rcases Int.lt_trichotomy (worth a) (worth b) with h1 | h1 | h1
    · exact absurd (.inr ⟨e1, .inr ⟨e2, h1⟩⟩) h
    · exact h1
    · exact absurd (.inr ⟨e1.symm, .inr ⟨e2.symm, h1⟩⟩) h'
  have e4 := worth_inj e3
  cases a; cases b; simp_all
theorem ltOf_ev {a b : Ev} : ltOf cmpE a b = true ↔ evLt a b := by unfold ltOf; rw [decide_eq_true_iff]; exact cmpE_neg
theorem ltOf_not {a b : Ev} : ltOf cmpE a b = false ↔ ¬ evLt a b := by rw [← ltOf_ev]; simp
theorem ev_swo : SWO (ltOf cmpE) where
  irrefl x := ltOf_not.2 (evLt_irrefl x)
  trans x y z h h' := ltOf_ev.2 (evLt_trans (ltOf_ev.1 h) (ltOf_ev.1 h'))
  ntrans x y z h h' := by
    rw [ltOf_not] at h h' ⊢
    intro hxz
    by_cases h1 : evLt y x
    · exact h' (evLt_trans h1 hxz)
    · have := evLt_total h h1; subst this; exact h' hxz
theorem ev_total (x y : Ev) (h : ltOf cmpE x y = false) (h' : ltOf cmpE y x = false) : x = y := evLt_total (ltOf_not.1 h) (ltOf_not.1 h')
end Go.Proofs
