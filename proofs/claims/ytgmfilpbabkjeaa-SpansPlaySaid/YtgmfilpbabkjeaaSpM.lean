/- Spans: Trim's contract. Seat s14. -/
import Derived.Test.YtgmfilpbabkjeaaSpL
set_option linter.unusedVariables false
set_option linter.unusedSimpArgs false
set_option maxRecDepth 100000
namespace Go.Proofs
open Go.L Go.RowKit Go.Maps Go.Sort Go.Shelf

def lost (M : Sp) (rev : Int) (k : ByteArray) : Nat := (M.all k).length - (trimL rev (M.all k)).length
def Sp.trim (M : Sp) (rev : Int) : Sp := ⟨fun k => trimL rev (M.all k), M.keys.filter (fun k => !decide (trimL rev (M.all k) = [])), M.last⟩
def Sp.trimN (M : Sp) (rev : Int) : Nat := (M.keys.map (lost M rev)).sum
def part (M : Sp) (rev : Int) (ks : List ByteArray) (a : Nat) : Sp := ⟨fun k => if hasKey (ks.take a) k then trimL rev (M.all k) else M.all k, M.keys, M.last⟩
def cnt (M : Sp) (rev : Int) (ks : List ByteArray) (a : Nat) : Nat := ((ks.take a).map (lost M rev)).sum
theorem part_succ {M : Sp} {rev : Int} {ks : List ByteArray} {a : Nat} (ha : a < ks.length) : part M rev ks (a + 1) = ⟨updA (part M rev ks a).all ks[a] (trimL rev (M.all ks[a])), M.keys, M.last⟩ := by
  unfold part
  congr 1
  funext k
  show (if hasKey (ks.take (a + 1)) k then _ else _) = _
  unfold updA
  have e : hasKey (ks.take (a + 1)) k = (hasKey (ks.take a) k || decide (ks[a] = k)) := by
    unfold hasKey
    rw [List.take_add_one, List.getElem?_eq_getElem ha]
    simp only [Option.toList_some, List.any_append, List.any_cons, List.any_nil, Bool.or_false]
  rw [e]
  by_cases h : k = ks[a]
  · rw [if_pos h, ← h]; simp
  · rw [if_neg h]
    have : decide (ks[a] = k) = false := by simp; exact fun e => h e.symm
    rw [this, Bool.or_false]
theorem cnt_succ {M : Sp} {rev : Int} {ks : List ByteArray} {a : Nat} (ha : a < ks.length) : cnt M rev ks (a + 1) = cnt M rev ks a + lost M rev ks[a] := by
  unfold cnt
  rw [List.take_add_one, List.getElem?_eq_getElem ha]
  simp only [Option.toList_some, List.map_append, List.map_cons, List.map_nil, List.sum_append, List.sum_cons, List.sum_nil, Nat.add_zero]
theorem cnt_le {M : Sp} {rev : Int} {ks : List ByteArray} {N : Nat} (h : ∀ k, (M.all k).length ≤ N) (a : Nat) : cnt M rev ks a ≤ a * N := by
  unfold cnt
  have : ∀ l : List ByteArray, (l.map (lost M rev)).sum ≤ l.length * N := by
    intro l
    induction l with
    | nil => simp
    | cons x l ih =>
      simp only [List.map_cons, List.sum_cons, List.length_cons, Nat.add_mul, Nat.one_mul]
      have : lost M rev x ≤ N := Nat.le_trans (Nat.sub_le _ _) (h x)
      omega
  refine Nat.le_trans (this _) (Nat.mul_le_mul_right _ ?_)
  rw [List.length_take]; omega
theorem Trim_nil (rev : Int) (w : World) : Calls Try.prog 15 #[.pointer none, .int .i64 rev] w fun e w' => e = .returned (.int .i64 0) ∧ Keeps no w w' := by
  refine F15.calls_of _ _ ?_
  unfold F15.sh
  refine allocK_of (allocK_of ?_)
  have h0 := heap_new w (.cells #[.pointer none] 26)
  exact ⟨none, cell_of ((Keeps.refl (S := no)).alloc _ |>.heap h0 id) rfl, rfl, ((Keeps.refl (S := no)).alloc _).alloc _⟩
set_option maxHeartbeats 1000000 in
theorem Trim_round {B bs bm N b0 a : Nat} {w7 : World} {kv : Value} {ga : ByteArray → Option Value} {M : Sp} {rev : Int} {ks : List ByteArray} (hN : N ≤ 1048576)
    (h : RepX B w7 bs bm kv ga N (part M rev ks a)) (ha : a < ks.length) (hlen : ks.length ≤ N) (hlA : ∀ k, (M.all k).length ≤ N) (hall : (part M rev ks a).all ks[a] = M.all ks[a]) (hne : M.all ks[a] ≠ []) (hs : ks[a].size ≤ maxLen)
    (hb0 : ∀ q, blocks bs bm kv ga q → q ≠ b0 ∧ q ≠ b0 + 1) (hbox : w7.cell? ⟨b0, 0, none⟩ = some (.pointer (some ⟨bs, 0, none⟩))) (hrev : w7.cell? ⟨b0 + 1, 0, none⟩ = some (.int .i64 rev))
    {R : Ending → World → Prop} {J : Int → World → Prop}
    (hJ : ∀ w' g', RepX B w' bs bm kv g' N (part M rev ks (a + 1)) → Keeps (blocks bs bm kv ga) w7 w' → (∀ q, blocks bs bm kv g' q → blocks bs bm kv ga q) → J ((cnt M rev ks (a + 1) : Nat) : Int) w') :
    ∃ x6 : Option Addr, w7.cell? ⟨b0, 0, none⟩ = some (.pointer x6) ∧
    onSome x6 fun p3 =>
    ∃ x7 : Option Nat, w7.cell? p3 = some (.map x7) ∧
    runK Try.prog (Instr.lookup 58 (.map x7) (.string ks[a]) false) w7 fun v3 w8 =>
    ∃ x8a : Option Addr, ∃ x8l : Nat, ∃ x8c : Nat, v3 = .slice x8a x8l x8c ∧
    ∃ x9 : Option Addr, w8.drew.cell? ⟨b0, 0, none⟩ = some (.pointer x9) ∧
    onSome x9 fun p4 =>
    ∃ x10 : Option Nat, w8.drew.cell? p4 = some (.map x10) ∧
    ∃ x11 : Option Addr, w8.drew.cell? ⟨b0, 0, none⟩ = some (.pointer x11) ∧
    onSome x11 fun p5 =>
    ∃ x12 : Option Nat, w8.drew.cell? p5 = some (.map x12) ∧
    rdRunK Try.prog (Instr.lookup 58 (.map x12) (.string ks[a]) false) w8.drew fun v4 =>
    ∃ x13a : Option Addr, ∃ x13l : Nat, ∃ x13c : Nat, v4 = .slice x13a x13l x13c ∧
    Calls Try.prog 33 #[.slice x13a x13l x13c, .func (.func 30) #[] #[.pointer (some ⟨b0 + 1, 0, none⟩)]] w8.drew (endK (fun v5 w9 =>
      ∃ x14a : Option Addr, ∃ x14l : Nat, ∃ x14c : Nat, v5 = .slice x14a x14l x14c ∧
      (∃ x15 : Option Addr, w9.cell? ⟨b0, 0, none⟩ = some (.pointer x15) ∧
        ((.pointer x15) : Value) = (.pointer x9)) ∧
      (∃ x16 : Option Nat, w9.cell? p4 = some (.map x16) ∧
        ((.map x16) : Value) = (.map x10)) ∧
      runK Try.prog (unitV (Instr.mapUpdate 58 (.map x10) (.string ks[a]) (.slice x14a x14l x14c))) w9 fun v6 w11 =>
      ∃ x17 : Option Addr, w11.cell? ⟨b0, 0, none⟩ = some (.pointer x17) ∧
      onSome x17 fun p6 =>
      ∃ x18 : Option Nat, w11.cell? p6 = some (.map x18) ∧
      runK Try.prog (Instr.lookup 58 (.map x18) (.string ks[a]) false) w11 fun v7 w12 =>
      ∃ x19a : Option Addr, ∃ x19l : Nat, ∃ x19c : Nat, v7 = .slice x19a x19l x19c ∧
      ∃ x20 : Option Addr, w12.cell? ⟨b0, 0, none⟩ = some (.pointer x20) ∧
      onSome x20 fun p7 =>
      ∃ x21 : Option Nat, w12.cell? p7 = some (.map x21) ∧
      runK Try.prog (Instr.lookup 58 (.map x21) (.string ks[a]) false) w12 fun v8 w13 =>
      ∃ x22a : Option Addr, ∃ x22l : Nat, ∃ x22c : Nat, v8 = .slice x22a x22l x22c ∧
      iteP ((((x22l : Nat) : Int) == 0)) (
        ∃ x23 : Option Addr, w13.cell? ⟨b0, 0, none⟩ = some (.pointer x23) ∧
        onSome x23 fun p8 =>
        ∃ x24 : Option Nat, w13.cell? p8 = some (.map x24) ∧
        runK Try.prog (Builtin.delete_ #[58, 9] 0 #[.map x24, .string ks[a]]) w13 fun v9 w14 =>
        J ((IntKind.wrap .i64 (((cnt M rev ks a : Nat) : Int) + (IntKind.wrap .i64 (((x8l : Nat) : Int) - ((x19l : Nat) : Int)))))) w14) (
        J ((IntKind.wrap .i64 (((cnt M rev ks a : Nat) : Int) + (IntKind.wrap .i64 (((x8l : Nat) : Int) - ((x19l : Nat) : Int)))))) w13)) (fun c3 w10 => ∀ g : Fr, R (.panicked c3) w10)) := by
  obtain ⟨v, hv, hr⟩ := h.row ks[a] (by rw [hall]; exact hne)
  rw [hall] at hr
  obtain ⟨q, hq, hqB, hqs⟩ := row_block hr (List.length_pos_iff.2 hne)
  obtain ⟨cap, cur, hve, _⟩ := row_heap hr hq
  have hbl : blocks bs bm kv ga q := .inr (.inr (.inr ⟨ks[a], v, hv, hq⟩))
  have hqne := h.apartG ks[a] v q hv hq
  have hb0q := hb0 q hbl
  have hb0s := hb0 bs (.inl rfl)
  have hb0m := hb0 bm (.inr (.inl rfl))
  have hlook : ∀ {w' : World}, MapIs w' Try.prog 9 bm N ga → (Instr.lookup 58 (.map (some bm)) (.string ks[a]) false).run Try.prog w' = .ok v w' := fun hm => by
    have := hm.look und9 und58 (zero66 _) hs (s := ks[a])
    rw [hv] at this; exact this
  refine ⟨_, hbox, onSome_of rfl ⟨some bm, cell_of h.head rfl, runK_of (hlook h.map) ⟨_, _, _, hve, _, hbox, onSome_of rfl ⟨some bm, cell_of (w := w7.drew) h.head rfl, _, hbox, onSome_of rfl ⟨some bm, cell_of (w := w7.drew) h.head rfl,
    rdRunK_of (hlook (h.map.keeps (Keeps.refl (S := no)).drew id)) ⟨_, _, _, hve, ?_⟩⟩⟩⟩⟩⟩
  have hS1 : (fun k => v.ownBlock = some k) = fun k => k = q := by funext k; rw [hq]; simp [eq_comm]
  have hkd : Keeps no w7 w7.drew := (Keeps.refl (S := no)).drew
  have hdel := Delete33 (row_keeps hr hkd (fun _ _ => id)) (by have := hlA ks[a]; omega) (pred30 (S := fun k => v.ownBlock = some k) (w := w7.drew) hrev (by rw [hq]; intro e; cases e; exact hb0q.2 rfl))
  conv at hdel => arg 3; rw [hve]
  refine hdel.mono ?_
  rintro e w9 ⟨v', rfl, hvb, hr9, hk9⟩
  rw [hS1] at hk9
  change w9.ownsRow B 68 2 v' (trimL rev (M.all ks[a])).length ((trimL rev (M.all ks[a])).flatMap encS) at hr9
  obtain ⟨a', c', hve', _⟩ := row_shape hr9
  have hk9' : Keeps (fun k => k = q) w7 w9 := (hkd.mono fun k _ h => h.elim).trans hk9 (fun k h => .inl h)
  have head9 := hk9'.heap h.head (fun e => hqne.1 e.symm)
  have map9 := h.map.keeps hk9' (fun e => hqne.2.1 e.symm)
  have hbox9 := hk9'.cell hbox (fun e => hb0q.1 e.symm)
  refine ⟨_, _, _, hve', ⟨_, hbox9, rfl⟩, ⟨_, cell_of head9 rfl, rfl⟩, ?_⟩
  rw [← hve']
  obtain ⟨w11, hrun11, map11, hturn11⟩ := map9.putOld und9 und58 (by simp only [maxLen]; omega) hs (by rw [hv]; simp) v'
  refine runK_of (unitV_run hrun11) ?_
  have hk11 : Keeps (fun k => k = bm) w9 w11 := (Keeps.refl (S := fun k => k = bm)).turned hturn11 (.inl rfl)
  have head11 := hk11.heap head9 h.bsm
  have hbox11 := hk11.cell hbox9 (fun e => hb0m.1 e.symm)
  have hlook11 : (Instr.lookup 58 (.map (some bm)) (.string ks[a]) false).run Try.prog w11 = .ok v' w11 := by
    have := map11.look und9 und58 (zero66 _) hs (s := ks[a])
    rw [show updG ga ks[a] (some v') ks[a] = some v' by unfold updG; rw [if_pos rfl]] at this
    exact this
  have hcnt : IntKind.wrap .i64 (((cnt M rev ks a : Nat) : Int) + IntKind.wrap .i64 ((((M.all ks[a]).length : Nat) : Int) - (((trimL rev (M.all ks[a])).length : Nat) : Int))) = ((cnt M rev ks (a + 1) : Nat) : Int) := by
    have h1 := cnt_le hlA (ks := ks) (rev := rev) a
    have h2 : (trimL rev (M.all ks[a])).length ≤ (M.all ks[a]).length := List.length_filter_le _ _
    have h3 := hlA ks[a]
    have h4 : a * N ≤ 1048576 * 1048576 := Nat.mul_le_mul (by omega) hN
    rw [cnt_succ ha]
    unfold lost
    have e1 : IntKind.wrap .i64 ((((M.all ks[a]).length : Nat) : Int) - (((trimL rev (M.all ks[a])).length : Nat) : Int)) = (((M.all ks[a]).length : Nat) : Int) - (((trimL rev (M.all ks[a])).length : Nat) : Int) := IntWalk.i64_in _ (by omega)
    rw [e1, IntWalk.i64_in _ (by omega)]
    omega
  have hkA : Keeps (fun k => k = q ∨ k = bm) w7 w11 := (hk9'.mono fun k _ h => .inl h).trans hk11 (fun k h => .inl (.inr h))
  refine ⟨_, hbox11, onSome_of rfl ⟨some bm, cell_of head11 rfl, runK_of hlook11 ⟨_, _, _, hve', _, hbox11, onSome_of rfl ⟨some bm, cell_of head11 rfl, runK_of hlook11 ⟨_, _, _, hve', ?_⟩⟩⟩⟩⟩
  rw [hcnt]
  refine iteP_of (fun h0 => ?_) (fun h0 => ?_)
  · have h0 : trimL rev (M.all ks[a]) = [] := List.eq_nil_of_length_eq_zero (by simpa using h0)
    refine ⟨_, hbox11, onSome_of rfl ⟨some bm, cell_of head11 rfl, ?_⟩⟩
    obtain ⟨w14, hrun14, map14, hturn14⟩ := map11.del und9 und58 hs 0
    refine runK_of hrun14 ?_
    have hk14 : Keeps (fun k => k = bm) w11 w14 := (Keeps.refl (S := fun k => k = bm)).turned hturn14 (.inl rfl)
    have hkB : Keeps (fun k => k = q ∨ k = bm) w7 w14 := hkA.trans hk14 (fun k h => .inl (.inr h))
    have hg : updG (updG ga ks[a] (some v')) ks[a] none = updG ga ks[a] none := by
      funext k; unfold updG; split <;> rfl
    rw [hg] at map14
    refine hJ w14 (updG ga ks[a] none) ?_ (hkB.mono ?_) ?_
    · rw [part_succ ha, h0]
      exact h.strike hkB (fun k hk => by rcases hk with rfl | rfl; exact .inr ⟨v, hv, hq⟩; exact .inl rfl) map14
    · rintro k _ (rfl | rfl)
      · exact hbl
      · exact .inr (.inl rfl)
    · rintro k (h1 | h1 | h1 | ⟨k', v1, h1, h2⟩)
      · exact .inl h1
      · exact .inr (.inl h1)
      · exact .inr (.inr (.inl h1))
      · unfold updG at h1
        by_cases e : k' = ks[a]
        · rw [if_pos e] at h1; cases h1
        · rw [if_neg e] at h1; exact .inr (.inr (.inr ⟨k', v1, h1, h2⟩))
  · have h0 : trimL rev (M.all ks[a]) ≠ [] := by intro e; rw [e] at h0; simp at h0
    refine hJ w11 (updG ga ks[a] (some v')) ?_ (hkA.mono ?_) ?_
    · rw [part_succ ha]
      refine h.turn hkA h0 ?_ head11 map11 ?_ ?_ (.inl rfl) (.inl ⟨v, hv, hvb⟩) ?_ ?_ h.lenK ?_ (Nat.le_refl _)
      · rintro k (rfl | rfl)
        · exact .inr (.inr (.inr ⟨v, hv, hq⟩))
        · exact .inr (.inl rfl)
      · refine row_keeps h.keys hkA fun k hk => ?_
        rintro (rfl | rfl)
        · exact hqne.2.2 hk
        · exact (h.apartK _ hk).2 rfl
      · refine row_keeps hr9 hk11 fun k hk e => ?_
        subst e
        rw [hvb, hq] at hk; cases hk; exact hqne.2.1 rfl
      · intro k h1 h2
        rw [hvb, hq] at h2; cases h2; exact hqne.2.2 h1
      · refine ⟨h.ok.rising, fun k => ?_, h.ok.size⟩
        show updA (part M rev ks a).all ks[a] (trimL rev (M.all ks[a])) k ≠ [] → k ∈ M.keys
        unfold updA
        split
        · rename_i e; subst e; exact fun _ => h.ok.mem _ (by rw [hall]; exact hne)
        · exact h.ok.mem k
      · exact Nat.le_trans (List.length_filter_le _ _) (hlA _)
    · rintro k _ (rfl | rfl)
      · exact hbl
      · exact .inr (.inl rfl)
    · rintro k (h1 | h1 | h1 | ⟨k', v1, h1, h2⟩)
      · exact .inl h1
      · exact .inr (.inl h1)
      · exact .inr (.inr (.inl h1))
      · unfold updG at h1
        by_cases e : k' = ks[a]
        · rw [if_pos e] at h1; cases h1
          rw [hvb] at h2
          exact .inr (.inr (.inr ⟨ks[a], v, hv, h2⟩))
        · rw [if_neg e] at h1; exact .inr (.inr (.inr ⟨k', v1, h1, h2⟩))
end Go.Proofs
