/- Spans: slices.DeleteFunc over strings; the closures of Trim. Seat s14. -/
import Derived.Test.YtgmfilpbabkjeaaSpI
set_option linter.unusedVariables false
set_option linter.unusedSimpArgs false
set_option maxRecDepth 100000
namespace Go.Proofs
open Go.L Go.RowKit Go.Shelf

def PredT (S : Nat → Prop) (g : Nat) (cap : Array Value) (p : ByteArray → Bool) (D : ByteArray → Prop) (w : World) : Prop := bodied Try.prog g = true ∧ ∀ (x : ByteArray) (w1 : World), D x → Keeps S w w1 →
  Calls Try.prog g (.string x :: cap.toList).toArray w1 fun e w2 => e = .returned (.bool (p x)) ∧ Keeps no w1 w2
theorem Index51 {g : Nat} {cap : Array Value} {p : ByteArray → Bool} {S : Nat → Prop} {D : ByteArray → Prop} {w : World} {l : List ByteArray} {a : Option Addr} {q c : Nat} (hp : PredT S g cap p D w) (hD : ∀ x ∈ l, D x) (hn : l.length ≤ maxLen) (ha : l = [] ∨ a = some ⟨q, 0, none⟩)
    (hc : ∀ t (h : t < l.length), w.cell? ⟨q, t, none⟩ = some (.string l[t])) :
    Calls Try.prog 51 #[.slice a l.length c, .func (.func g) #[] cap] w fun e w' => e = .returned (.int .i64 (idxOf p l)) ∧ Keeps no w w' := by
  simp only [maxLen] at hn
  refine F51.calls_of _ _ _ _ _ ?_
  unfold F51.sh
  refine ⟨fun i k w1 => Keeps no w w1 ∧ ∃ a : Nat, i = a ∧ a ≤ l.length ∧ k = l.length - a ∧ ∀ t (h : t < l.length), t < a → p l[t] = false, ⟨l.length, Keeps.refl, 0, rfl, by omega, by omega, fun t h h' => by omega⟩, ?_⟩
  rintro i k w1 ⟨hk, a1, rfl, hle, rfl, h1⟩ z
  refine iteP_of (fun h0 => ?_) (fun h0 => ?_)
  · have h0 : a1 < l.length := by simpa using h0
    have hne : l ≠ [] := by rintro rfl; simp at h0
    have hcc := hk.cell (hc a1 h0) id
    refine ⟨⟨by omega, by omega⟩, onSome_of (ha.resolve_left hne) ⟨l[a1], ?_, ?_⟩⟩
    · rw [addr_add, Int.toNat_natCast, Nat.zero_add, Nat.mul_one]; exact hcc
    refine callAny_of hp.1 ((hp.2 l[a1] w1 (hD _ (List.getElem_mem _)) (hk.mono fun k _ h => h.elim)).mono ?_)
    rintro e w2 ⟨rfl, hk2⟩
    refine ⟨_, rfl, iteP_of (fun h2 => ?_) (fun h2 => ?_)⟩
    · exact ⟨by rw [idxOf_at h0 h1 h2], hk.transN hk2⟩
    · rw [IntWalk.i64_in _ (by omega)]
      refine ⟨l.length - (a1 + 1), by omega, hk.transN hk2, a1 + 1, by omega, by omega, rfl, fun t h h' => ?_⟩
      by_cases e : t = a1
      · subst e; exact h2
      · exact h1 t h (by omega)
  · have h0 : ¬ a1 < l.length := by simpa using h0
    exact ⟨by rw [idxOf_none fun t h => h1 t h (by omega)], hk⟩
theorem Delete34 {B : Nat} {w : World} {v : Value} {l : List ByteArray} {g : Nat} {cap : Array Value} {p : ByteArray → Bool} {D : ByteArray → Prop} (hr : w.ownsRow B 9 1 v l.length (l.map .string)) (hn : l.length ≤ 4611686018427) (hD : ∀ x ∈ l, D x) (hp : PredT (fun k => v.ownBlock = some k) g cap p D w) :
    Calls Try.prog 34 #[v, .func (.func g) #[] cap] w fun e w' => ∃ v', e = .returned v' ∧ v'.ownBlock = v.ownBlock ∧ w'.ownsRow B 9 1 v' (l.filter fun x => !p x).length ((l.filter fun x => !p x).map .string) ∧ Keeps (fun k => v.ownBlock = some k) w w' := by
  obtain ⟨a, c, hve, hsh⟩ := row_shape hr
  have hcase : (l = [] ∧ v = .slice none 0 0) ∨ ∃ q, v.ownBlock = some q := by
    rcases hsh with ⟨rfl, h0, rfl⟩ | ⟨q, rfl, _⟩
    · exact .inl ⟨List.eq_nil_of_length_eq_zero h0, by rw [hve, h0]⟩
    · exact .inr ⟨q, by rw [hve]; rfl⟩
  have hix : Calls Try.prog 51 #[v, .func (.func g) #[] cap] w fun e w' => e = .returned (.int .i64 (idxOf p l)) ∧ Keeps no w w' := by
    rcases hcase with ⟨rfl, rfl⟩ | ⟨q, hq⟩
    · exact Index51 (q := 0) hp hD (by simp) (.inl rfl) (fun t ht => by simp at ht)
    · obtain ⟨cap', cur, hve', _⟩ := row_heap hr hq
      have hcells : ∀ t (h : t < l.length), w.cell? ⟨q, t, none⟩ = some (.string l[t]) := fun t ht => row_cell hr hq (str_get ht)
      have := Index51 (a := some ⟨q, 0, none⟩) (c := cap') hp hD (by simp only [maxLen]; omega) (.inr rfl) hcells
      conv => arg 3; rw [hve']
      exact this
  rw [hve] at hix
  conv => arg 3; rw [hve]
  refine F34.calls_of _ _ _ _ _ ?_
  unfold F34.sh
  refine hix.mono ?_
  rintro e w1 ⟨rfl, hk1⟩
  refine ⟨_, rfl, iteP_of (fun h0 => ?_) (fun h0 => ?_)⟩
  · have h0 : idxOf p l = -1 := by simpa using h0
    have hall : ∀ x ∈ l, p x = false := by
      unfold idxOf at h0
      cases h1 : l.findIdx? p with
      | some i => rw [h1] at h0; simp at h0
      | none => rw [List.findIdx?_eq_none_iff] at h1; exact h1
    have hf : l.filter (fun x => !p x) = l := List.filter_eq_self.2 fun x hx => by simp [hall x hx]
    rw [← hve]
    exact ⟨v, rfl, rfl, by rw [hf]; exact row_keeps hr hk1 (fun _ _ => id), hk1.mono fun k _ h => h.elim⟩
  · have h0 : idxOf p l ≠ -1 := by simpa using h0
    obtain ⟨i0, hi0, hix0⟩ : ∃ i, l.findIdx? p = some i ∧ idxOf p l = (i : Int) := by
      unfold idxOf at h0 ⊢
      cases h1 : l.findIdx? p with
      | some i => exact ⟨i, rfl, rfl⟩
      | none => rw [h1] at h0; exact absurd rfl h0
    rw [List.findIdx?_eq_some_iff_getElem] at hi0
    obtain ⟨hlt0, hp0, hbefore⟩ := hi0
    rw [hix0, IntWalk.i64_in _ (by omega)]
    obtain ⟨q, hq⟩ := hcase.resolve_left (fun h => by rw [h.1] at hlt0; simp at hlt0)
    obtain ⟨cap', cur0, hve', hbq, hh0, hnc, hcm, hcs, _⟩ := row_heap hr hq
    have hac : a = some ⟨q, 0, none⟩ ∧ c = cap' := by rw [hve] at hve'; simpa using hve'
    obtain ⟨rfl, rfl⟩ := hac
    have hS' : (fun k => v.ownBlock = some k) = fun k => k = q := by funext k; rw [hq]; simp [eq_comm]
    rw [hS'] at hp
    rw [hS']
    refine ⟨fun i j k w3 => Keeps (fun k => k = q) w w3 ∧ ∃ (i' j' : Nat) (L : List ByteArray), i = i' ∧ j = j' ∧ i' < j' ∧ j' ≤ l.length ∧ k = l.length - j' ∧ L.length = l.length ∧ w3.ownsRow B 9 1 v l.length (L.map .string) ∧
        L.take i' = (l.take j').filter (fun x => !p x) ∧ L.drop j' = l.drop j', ⟨l.length - (i0 + 1), hk1.mono fun k _ h => h.elim, i0, i0 + 1, l, rfl, by omega, by omega, by omega, rfl, rfl, row_keeps hr hk1 (fun _ _ => id), ?_, rfl⟩, ?_⟩
    · rw [filter_prefix hlt0, hp0]
      simp only [Bool.not_true, Bool.false_eq_true, if_false, List.append_nil]
      rw [List.filter_eq_self.2]
      intro x hx
      obtain ⟨t, ht, rfl⟩ := List.mem_iff_getElem.1 hx
      rw [List.length_take] at ht
      rw [List.getElem_take]
      have := hbefore t (by omega)
      simpa using this
    rintro i j k w3 ⟨hk3, i', j', L, rfl, rfl, hij, hjn, rfl, hL, hrow, htk, hdr⟩ z
    refine iteP_of (fun h1 => ?_) (fun h1 => ?_)
    · have h1 : j' < l.length := by simpa using h1
      have hLj : L[j']'(by omega) = l[j'] := by
        have e1 : L[j']? = l[j']? := by
          have := congrArg (fun l => l[0]?) hdr
          simpa using this
        rw [List.getElem?_eq_getElem (by omega), List.getElem?_eq_getElem h1] at e1
        simpa using e1
      have hcc := row_cell hrow hq (str_get (l := L) (t := j') (by omega))
      rw [hLj] at hcc
      refine ⟨⟨by omega, by omega⟩, ?_⟩
      show onSome (some (⟨q, 0, none⟩ : Addr)) _
      refine onSome_of rfl ⟨l[j'], ?_, ?_⟩
      · rw [addr_add, Int.toNat_natCast, Nat.zero_add, Nat.mul_one]; exact hcc
      refine callAny_of hp.1 ((hp.2 l[j'] _ (hD _ (List.getElem_mem _)) hk3).mono ?_)
      rintro e w4 ⟨rfl, hk5⟩
      have hk6 := hk3.trans hk5 (fun _ h => h.elim)
      have hrow4 := row_keeps hrow hk5 (fun _ _ => id)
      refine ⟨_, rfl, iteP_of (fun h2 => ?_) (fun h2 => ?_)⟩
      · have h2 : p l[j'] = false := by simpa using h2
        refine ⟨⟨by omega, by omega⟩, ?_⟩
        show onSome (some (⟨q, 0, none⟩ : Addr)) _
        obtain ⟨cc, cur4, _, _, hh4, hcc5, _, hcs4, _⟩ := row_heap hrow4 hq
        refine onSome_of rfl ?_
        rw [addr_add, Int.toNat_natCast, Nat.zero_add, Nat.mul_one]
        refine storeK_of hh4 (by omega) ?_
        rw [IntWalk.i64_in _ (by omega), IntWalk.i64_in _ (by omega)]
        have hr5 := row_set hrow4 hq (j := i') (by rw [hrow4.1]; omega) (.string l[j'])
        rw [← List.map_set] at hr5
        refine ⟨l.length - (j' + 1), by omega, hk6.set (.inl rfl) _ _, i' + 1, j' + 1, L.set i' l[j'], by omega, by omega, by omega, by omega, rfl, by simp [hL], hr5, ?_, ?_⟩
        · rw [filter_prefix h1, h2, ← htk, List.take_set, List.take_add_one, List.getElem?_eq_getElem (by omega)]
          simp only [Option.toList_some, Bool.not_false, if_true]
          rw [List.set_append_right _ _ (by simp; omega)]
          congr 1
          simp; rw [Nat.min_eq_left (by omega)]; simp
        · rw [List.drop_set_of_lt (by omega)]
          have := congrArg (List.drop 1) hdr
          simpa [List.drop_drop] using this
      · have h2 : p l[j'] = true := by simpa using h2
        rw [IntWalk.i64_in _ (by omega)]
        refine ⟨l.length - (j' + 1), by omega, hk6, i', j' + 1, L, rfl, by omega, by omega, by omega, rfl, hL, hrow4, ?_, ?_⟩
        · rw [filter_prefix h1, h2, htk]; simp
        · have := congrArg (List.drop 1) hdr
          simpa [List.drop_drop] using this
    · have h1 : j' = l.length := by have : ¬ j' < l.length := by simpa using h1
                                    omega
      subst h1
      rw [List.take_length] at htk
      have hil : i' = (l.filter fun x => !p x).length := by rw [← htk, List.length_take]; omega
      obtain ⟨cc, cur4, hvv, _, hh4, h5, h6, h7, h8⟩ := row_heap hrow hq
      have hcc : cc = c := by rw [hve] at hvv; simpa using hvv.symm
      subst hcc
      refine ⟨⟨by omega, by omega⟩, ?_⟩
      rw [Int.toNat_natCast]
      refine clear_runK und52 zero9 (by intro v hv; simp [Value.cells] at hv; subst hv; rfl) (by simp [Value.cells]) hh4 (o := i') ?_ (by simp [Value.cells]; omega) ?_
      · by_cases hci : cc = i'
        · left; omega
        · right; unfold slA; rw [if_neg hci]; simp
      · intro w7 cur7 g1 g2 g3 g4
        refine ⟨⟨by omega, by omega⟩, ?_⟩
        have hA : slA (some (⟨q, 0, none⟩ : Addr)) 0 cc 1 = some ⟨q, 0, none⟩ := by unfold slA; split <;> simp
        rw [hA]
        refine ⟨_, rfl, by rw [hq]; rfl, ?_, hk3.trans g4 (fun k h => .inl h)⟩
        rw [Nat.sub_zero, Nat.sub_zero, ← hil]
        refine ⟨?_, .inr ⟨q, cc, cur7, rfl, hbq, g1, by omega, h6, by omega, ?_⟩⟩
        · rw [← htk, List.length_map, List.length_take]; omega
        · have e1 : cur7.toList.take (i' * 1) = cur4.toList.take (i' * 1) := by
            apply List.ext_getElem?
            intro t
            rw [List.getElem?_take, List.getElem?_take]
            split
            · rw [Array.getElem?_toList, Array.getElem?_toList, g3 t (by omega)]
            · rfl
          have e2 : cur4.toList.take (i' * 1) = (cur4.toList.take (l.length * 1)).take (i' * 1) := by rw [List.take_take, Nat.min_eq_left (by omega)]
          rw [e1, e2, h8, ← htk, List.map_take, Nat.mul_one]
end Go.Proofs
