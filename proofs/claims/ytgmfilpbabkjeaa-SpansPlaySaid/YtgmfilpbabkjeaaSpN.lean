/- Spans: Trim's contract, whole. Seat s14. -/
import Derived.Test.YtgmfilpbabkjeaaSpM
set_option linter.unusedVariables false
set_option linter.unusedSimpArgs false
set_option maxRecDepth 100000
namespace Go.Proofs
open Go.L Go.RowKit Go.Maps Go.Sort Go.Shelf

theorem part_zero (M : Sp) (rev : Int) (ks : List ByteArray) : part M rev ks 0 = M := by
  cases M; simp [part, hasKey]
theorem sum_of_nodup {f : ByteArray → Nat} : ∀ {l l' : List ByteArray}, l.Nodup → l'.Nodup → (∀ x ∈ l, x ∉ l' → f x = 0) → (∀ x ∈ l', x ∈ l) → (l.map f).sum = (l'.map f).sum := by
  intro l l' h h' h0 hs
  have e1 : (l.map f).sum = ((l.filter fun x => hasKey l' x).map f).sum := by
    have : ∀ l : List ByteArray, (∀ x ∈ l, x ∉ l' → f x = 0) → (l.map f).sum = ((l.filter fun x => hasKey l' x).map f).sum := by
      intro l
      induction l with
      | nil => intro _; rfl
      | cons x l ih =>
        intro h0
        have ih := ih fun y hy => h0 y (List.mem_cons_of_mem _ hy)
        cases hk : hasKey l' x with
        | true => rw [List.filter_cons, hk]; simp [ih]
        | false =>
          have : x ∉ l' := fun hm => by rw [hasKey_iff.2 hm] at hk; cases hk
          rw [List.filter_cons, hk]; simp [ih, h0 x (List.mem_cons_self ..) this]
    exact this l h0
  have hp : (l.filter fun x => hasKey l' x).Perm l' := by
    rw [List.perm_ext_iff_of_nodup (h.sublist List.filter_sublist) h']
    intro x
    rw [List.mem_filter, hasKey_iff]
    exact ⟨fun hx => hx.2, fun hx => ⟨hs x hx, hx⟩⟩
  rw [e1]
  exact (hp.map f).sum_nat
set_option maxHeartbeats 1000000 in
theorem Trim_spec {B bs N : Nat} {w : World} {M : Sp} {S : Nat → Prop} (h : Rep B w bs N M S) (hB : B ≤ w.heap.size) (hN : N ≤ 1048576) (rev : Int) :
    Calls Try.prog 15 #[.pointer (some ⟨bs, 0, none⟩), .int .i64 rev] w fun e w' => e = .returned (.int .i64 ((M.trimN rev : Nat) : Int)) ∧ ∃ S', Rep B w' bs N (M.trim rev) S' ∧ Keeps S w w' ∧ ∀ q, S' q → S q := by
  obtain ⟨bm, kv, g, h, rfl⟩ := h
  have hlt : ∀ q, blocks bs bm kv g q → q < w.heap.size := fun q hq => (h.ge hq).2
  refine F15.calls_of _ _ ?_
  unfold F15.sh
  refine allocK_of (allocK_of ?_)
  have n0 := heap_new w (.cells #[.pointer (some ⟨bs, 0, none⟩)] 26)
  have n1 := heap_new (w.alloc (.cells #[.pointer (some ⟨bs, 0, none⟩)] 26)) (.cells #[.int .i64 rev] 3)
  have k1 : Keeps no w (w.alloc (.cells #[.pointer (some ⟨bs, 0, none⟩)] 26)) := (Keeps.refl (S := no)).alloc _
  have k12 : Keeps no (w.alloc (.cells #[.pointer (some ⟨bs, 0, none⟩)] 26)) ((w.alloc (.cells #[.pointer (some ⟨bs, 0, none⟩)] 26)).alloc (.cells #[.int .i64 rev] 3)) := (Keeps.refl (S := no)).alloc _
  have hs1 : (w.alloc (.cells #[.pointer (some ⟨bs, 0, none⟩)] 26)).heap.size = w.heap.size + 1 := by simp
  generalize (w.alloc (.cells #[.pointer (some ⟨bs, 0, none⟩)] 26)) = w1 at *
  rw [hs1] at n1
  have hs2 : (w1.alloc (.cells #[.int .i64 rev] 3)).heap.size = w.heap.size + 2 := by simp [hs1]
  generalize (w1.alloc (.cells #[.int .i64 rev] 3)) = w2 at *
  have k2 : Keeps no w w2 := k1.transN k12
  have hbox2 := k12.cell (cell_of n0 (i := 0) rfl) id
  have hrev2 := cell_of n1 (i := 0) rfl
  have h2 := h.keeps k2 (fun q _ h => h)
  rw [hs1]
  refine ⟨_, hbox2, _, hbox2, onSome_of rfl ⟨some bm, cell_of h2.head rfl, ?_⟩⟩
  refine (Keys32 (some bm) w2).mono ?_
  rintro e w3 ⟨rfl, rfl⟩
  have k3 : Keeps no w2 (w2.alloc (.cells #[.map (some bm)] 58)) := (Keeps.refl (S := no)).alloc _
  have h3 := h2.keeps k3 (fun q _ h => h)
  refine (Collect31 (Bm := w2.heap.size) (cell_of (heap_new _ _) rfl) h3.map (by omega)).mono ?_
  rintro e w5 ⟨v, ks, rfl, hnd, hmem, hksN, hrow, k5⟩
  have k35 := k3.transN k5
  have h5 := h3.keeps k5 (fun q _ h => h)
  have hbox5 := k35.cell hbox2 id
  have hrev5 := k35.cell hrev2 id
  have hw5 : w.heap.size + 2 ≤ w5.heap.size := by have := k35.size; omega
  obtain ⟨x4a, x4c, hve, hsh⟩ := row_shape hrow
  have hmemA : ∀ k, k ∈ ks → M.all k ≠ [] := fun k hk he => (hmem k).1 hk (h.nil k he)
  have hksz : ∀ k, k ∈ ks → k.size ≤ maxLen := fun k hk => h.ok.size k (h.ok.mem k (hmemA k hk))
  refine ⟨x4a, ks.length, x4c, hve, ?_⟩
  refine ⟨fun n i k w7 => ∃ a : Nat, i = a ∧ a ≤ ks.length ∧ k = ks.length - a ∧ n = ((cnt M rev ks a : Nat) : Int) ∧ ∃ ga, RepX B w7 bs bm kv ga N (part M rev ks a) ∧ Keeps (blocks bs bm kv g) w5 w7 ∧ (∀ q, blocks bs bm kv ga q → blocks bs bm kv g q),
    ⟨ks.length, 0, rfl, by omega, by omega, by simp [cnt], g, by rw [part_zero]; exact h5, Keeps.refl, fun q hq => hq⟩, ?_⟩
  rintro n i k w7 ⟨a, rfl, ha, rfl, rfl, ga, h7, k7, hbl⟩ z
  have hnb : ∀ b, w.heap.size ≤ b → ¬ blocks bs bm kv g b := fun b hb hq => by have := hlt b hq; omega
  have hbox7 := k7.cell hbox5 (hnb _ (Nat.le_refl _))
  have hrev7 := k7.cell hrev5 (hnb _ (Nat.le_succ _))
  refine iteP_of (fun h0 => ?_) (fun h0 => ?_)
  · have h0 : a < ks.length := by simpa using h0
    obtain ⟨qk, hqk, _, _⟩ := row_block hrow (by omega)
    have hqge := (hrow.lt qk hqk).1
    have hcell : w7.cell? ⟨qk, a, none⟩ = some (.string ks[a]) := k7.cell (row_cell hrow hqk (str_get h0)) (hnb qk (by simp at hqge; omega))
    have hx4 : x4a = some ⟨qk, 0, none⟩ := by
      rcases hsh with ⟨rfl, h1, _⟩ | ⟨q, rfl, _⟩
      · omega
      · rw [hve] at hqk; simp [Value.ownBlock] at hqk; rw [hqk]
    refine ⟨⟨by omega, by omega⟩, onSome_of hx4 ⟨ks[a], ?_, ?_⟩⟩
    · rw [addr_add, Int.toNat_natCast, Nat.zero_add, Nat.mul_one]; exact hcell
    have hka : ks[a] ∈ ks := List.getElem_mem _
    have hnot : hasKey (ks.take a) ks[a] = false := by
      refine hasKey_not fun hm => ?_
      obtain ⟨t, ht, he⟩ := List.mem_iff_getElem.1 hm
      rw [List.length_take] at ht
      rw [List.getElem_take] at he
      exact List.pairwise_iff_getElem.1 hnd t a (by omega) h0 (by omega) he
    have hall : (part M rev ks a).all ks[a] = M.all ks[a] := by
      show (if hasKey (ks.take a) ks[a] = true then _ else _) = _
      rw [hnot]; simp
    refine Trim_round hN h7 h0 hksN h.lenA hall (hmemA _ hka) (hksz _ hka) (b0 := w.heap.size) (fun q hq => by have := hlt q (hbl q hq); omega) hbox7 hrev7
      (R := fun e w' => e = Ending.returned (Value.int IntKind.i64 ((M.trimN rev : Nat) : Int)) ∧ ∃ S', Rep B w' bs N (M.trim rev) S' ∧ Keeps (blocks bs bm kv g) w w' ∧ ∀ q, S' q → blocks bs bm kv g q)
      (J := fun n' w' => ∃ k3, k3 < ks.length - a ∧ ∃ a' : Nat, IntKind.wrap .i64 ((a : Int) + 1) = a' ∧ a' ≤ ks.length ∧ k3 = ks.length - a' ∧ n' = ((cnt M rev ks a' : Nat) : Int) ∧ ∃ ga, RepX B w' bs bm kv ga N (part M rev ks a') ∧ Keeps (blocks bs bm kv g) w5 w' ∧ (∀ q, blocks bs bm kv ga q → blocks bs bm kv g q)) ?_
    intro w' g' hx hkk hbb
    refine ⟨ks.length - (a + 1), by omega, a + 1, by rw [IntWalk.i64_in _ (by omega)]; omega, by omega, rfl, rfl, g', hx, k7.trans hkk (fun q hq => .inl (hbl q hq)), fun q hq => hbl q (hbb q hq)⟩
  · have h0 : a = ks.length := by have : ¬ a < ks.length := by simpa using h0
                                  omega
    subst h0
    have hp : ∀ k, (part M rev ks ks.length).all k = trimL rev (M.all k) := by
      intro k
      show (if hasKey (ks.take ks.length) k = true then _ else _) = _
      rw [List.take_length]
      by_cases hk : k ∈ ks
      · rw [hasKey_iff.2 hk]; simp
      · rw [hasKey_not hk]
        have : M.all k = [] := by
          by_cases he : M.all k = []
          · exact he
          · obtain ⟨v1, h1, _⟩ := h.row k he
            exact absurd ((hmem k).2 (by rw [h1]; simp)) hk
        rw [this]; rfl
    obtain ⟨ka, kc, kq, hkv, hkl, hkb, hkc⟩ := h7.keyCells
    change kv = .slice ka M.keys.length kc at hkv
    have kd : Keeps no w7 w7.drew := (Keeps.refl (S := no)).drew
    have h7d := h7.keeps kd (fun q _ h => h)
    change (∃ x25 : Option Addr, _ ∧ _)
    refine ⟨_, hbox7, _, hbox7, onSome_of rfl ⟨ka, M.keys.length, kc, by rw [← hkv]; exact cell_of (i := 0 + 1) h7d.head rfl, ?_⟩⟩
    have hdel := Delete34 (l := M.keys) (D := fun k => k.size ≤ maxLen) h7d.keys (by have := h.lenK; omega) h.ok.size
      (pred35 (S := fun k => kv.ownBlock = some k) (b := w.heap.size) h7d hbox7 (fun e => by have := hlt _ (.inr (.inr (.inl e))); omega) (fun e => (h.apartK _ e).1 rfl) (fun e => (h.apartK _ e).2 rfl))
    conv at hdel => arg 3; rw [hkv]
    refine hdel.mono ?_
    rintro e w15 ⟨kv', rfl, hkvb, hrow15, k15⟩
    obtain ⟨a', c', hve', _⟩ := row_shape hrow15
    have hbox15 := (kd.mono (S' := fun k => kv.ownBlock = some k) fun k _ h => h.elim).trans k15 (fun k h => .inl h) |>.cell hbox7 (fun e => by have e : kv.ownBlock = some w.heap.size := e; have := hlt _ (.inr (.inr (.inl e))); omega)
    have head15 := k15.heap h7d.head (fun e => (h.apartK _ e).1 rfl)
    refine ⟨a', _, c', hve', ⟨_, hbox15, rfl⟩, onSome_of rfl ?_⟩
    rw [addr_add, ← hve']
    refine storeK_of (i := 0 + 1) head15 (by simp) ?_
    have kst : Keeps (fun q => q = bs) w15 (w15.setCell ⟨bs, 0 + 1, none⟩ kv') := (Keeps.refl (S := fun q => q = bs)).set (.inl rfl) _ _
    have kA : Keeps (fun q => q = bs ∨ kv.ownBlock = some q) w7 (w15.setCell ⟨bs, 0 + 1, none⟩ kv') :=
      ((kd.mono (S' := fun q => q = bs ∨ kv.ownBlock = some q) fun k _ h => h.elim).trans k15 (fun k h => .inl (.inr h))).trans kst (fun k h => .inl (.inl h))
    have hkeys : (M.keys.filter fun x => !decide ((part M rev ks ks.length).all x = [])) = (M.trim rev).keys := by
      show _ = M.keys.filter (fun k => !decide (trimL rev (M.all k) = []))
      congr 1; funext x; rw [hp]
    have hgapart : ∀ q, (q = bs ∨ kv.ownBlock = some q) → ∀ k v, ga k = some v → v.ownBlock ≠ some q := by
      rintro q (rfl | hq) k v h1 h2
      · exact (h7.apartG k v _ h1 h2).1 rfl
      · exact (h7.apartG k v q h1 h2).2.2 hq
    refine ⟨?_, blocks bs bm kv' ga, ⟨bm, kv', ga, ?_, rfl⟩, ?_, ?_⟩
    · congr 3
      unfold cnt Sp.trimN
      rw [List.take_length]
      refine (sum_of_nodup (h.ok.rising.imp fun {a b} hl => by rintro rfl; exact absurd (hl.symm.trans (Go.L.lt_irrefl _)) (by simp)) hnd (fun x hx hn => ?_) (fun x hx => h.ok.mem x (hmemA x hx))).symm
      have : M.all x = [] := by
        by_cases he : M.all x = []
        · exact he
        · obtain ⟨v1, h1, _⟩ := h.row x he
          exact absurd ((hmem x).2 (by rw [h1]; simp)) hn
      unfold lost; rw [this]; rfl
    · constructor
      · exact heap_set_same head15 _ _
      · refine h7.map.keeps kA ?_
        rintro (e | e)
        · exact h.bsm e.symm
        · exact (h.apartK _ e).2 rfl
      · rw [hkeys] at hrow15
        refine row_keeps hrow15 kst fun q hq e => ?_
        subst e
        rw [hkvb] at hq; exact (h.apartK _ hq).1 rfl
      · intro k hk
        exact h7.nil k (by rw [hp]; exact hk)
      · intro k hk
        have hk' : (part M rev ks ks.length).all k ≠ [] := by rw [hp]; exact hk
        obtain ⟨v1, h1, hr1⟩ := h7.row k hk'
        rw [hp] at hr1
        exact ⟨v1, h1, row_keeps hr1 kA fun q hq hS => hgapart q hS k v1 h1 hq⟩
      · exact h.bsm
      · exact h.geS
      · exact h.geM
      · intro q hq; rw [hkvb] at hq; exact h.apartK q hq
      · intro k v1 q h1 h2
        have := h7.apartG k v1 q h1 h2
        exact ⟨this.1, this.2.1, by rw [hkvb]; exact this.2.2⟩
      · exact h7.once
      · refine ⟨h.ok.rising.sublist List.filter_sublist, fun k hk => ?_, fun k hk => h.ok.size k (List.mem_filter.1 hk).1⟩
        have hk : trimL rev (M.all k) ≠ [] := hk
        refine List.mem_filter.2 ⟨h.ok.mem k (fun e => hk (by rw [e]; rfl)), by simp [hk]⟩
      · exact Nat.le_trans (List.length_filter_le _ _) h.lenK
      · exact fun k => Nat.le_trans (List.length_filter_le _ _) (h.lenA k)
    · refine (((k2.transN k35).mono (S' := blocks bs bm kv g) fun k _ h => h.elim).trans k7 (fun k h => .inl h)).trans kA (fun q hq => ?_)
      rcases hq with rfl | hq
      · exact .inl (.inl rfl)
      · exact .inl (.inr (.inr (.inl hq)))
    · intro q hq
      refine hbl q ?_
      rcases hq with h1 | h1 | h1 | h1
      · exact .inl h1
      · exact .inr (.inl h1)
      · rw [hkvb] at h1; exact .inr (.inr (.inl h1))
      · exact .inr (.inr (.inr h1))
end Go.Proofs
