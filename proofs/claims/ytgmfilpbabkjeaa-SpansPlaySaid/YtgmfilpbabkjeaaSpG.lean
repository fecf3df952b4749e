/- Spans: Put. Seat s14. -/
import Derived.Test.YtgmfilpbabkjeaaSpF
set_option linter.unusedVariables false
set_option linter.unusedSimpArgs false
set_option maxRecDepth 100000
namespace Go.Proofs
open Go.L Go.RowKit Go.Shelf

theorem und66 : Try.prog.underlying 66 = some (.slice 68) := by kernel_rfl
theorem und52 : Try.prog.underlying 52 = some (.slice 9) := by kernel_rfl
theorem inf68 : (Try.prog.info? 68).map (fun i => (i.zero, i.size, i.bytes)) = some (some (.agg #[.int .i64 0, .int .i64 0]), 2, 16) := by kernel_rfl
theorem inf9 : (Try.prog.info? 9).map (fun i => (i.zero, i.size, i.bytes)) = some (some (.string ⟨#[]⟩), 1, 16) := by kernel_rfl
theorem info_out {o : Option TypeInfo} {z : Option Value} {a b : Nat} (h : o.map (fun i => (i.zero, i.size, i.bytes)) = some (z, a, b)) : ∃ i, o = some i ∧ i.zero = z ∧ i.size = a ∧ i.bytes = b := by
  cases o with
  | none => cases h
  | some i => simp at h; exact ⟨i, rfl, h.1, h.2.1, h.2.2⟩
theorem unitV_run {P : Program} {s : Sem Unit} {w w' : World} (h : s.run P w = .ok () w') : (unitV s).run P w = .ok undef w' := by
  unfold unitV; rw [run_bind_ok h]; rfl
/-- What stands at a key: a row of one's own, nil where there is none. -/
theorem RepX.at {B bs bm N : Nat} {w : World} {kv : Value} {g : ByteArray → Option Value} {M : Sp} (h : RepX B w bs bm kv g N M) (key : ByteArray) :
    ∃ v0, (g key).getD (.slice none 0 0) = v0 ∧ w.ownsRow B 68 2 v0 (M.all key).length ((M.all key).flatMap encS) ∧ (∀ q, v0.ownBlock = some q → ∃ v, g key = some v ∧ v.ownBlock = some q) ∧ (g key = none ∧ v0 = .slice none 0 0 ∨ g key = some v0) := by
  by_cases hne : M.all key = []
  · have hg := h.nil key hne
    exact ⟨_, rfl, by rw [hg, hne]; exact World.ownsRow_nil _ _ _ _, fun q hq => by rw [hg] at hq; simp [Value.ownBlock] at hq, .inl ⟨hg, by rw [hg]; rfl⟩⟩
  · obtain ⟨v, hv, hr⟩ := h.row key hne
    exact ⟨v, by rw [hv]; rfl, hr, fun q hq => ⟨v, hv, hq⟩, .inr hv⟩
theorem Put_tail {B bs bm N : Nat} {w u : World} {kv kv' : Value} {g : ByteArray → Option Value} {M : Sp} {S' : Nat → Prop} (h : RepX B w bs bm kv g N M) (hN : N + 1 ≤ 4611686018427) (hB : B ≤ w.heap.size) (hku : Keeps S' w u) (hS' : ∀ q, S' q → q = bs ∨ kv.ownBlock = some q)
    {key : ByteArray} (hs : key.size ≤ maxLen) {rev : Int} {keys' : List ByteArray} (head : u.heap[bs]? = some (.cells #[.map (some bm), kv', .int .i64 M.last] 60 (0, 0)))
    (keys'' : u.ownsRow B 9 1 kv' keys'.length (keys'.map .string)) (hkv : kv'.ownBlock = kv.ownBlock ∨ ∃ q, kv'.ownBlock = some q ∧ w.heap.size ≤ q)
    (ok' : Sp.Ok ⟨updA M.all key (M.all key ++ [(rev, 0)]), keys', rev⟩) (hl' : keys'.length ≤ N + 1)
    {R : Ending → World → Prop} (hR : ∀ w' v', RepX B w' bs bm kv' (updG g key (some v')) (N + 1) ⟨updA M.all key (M.all key ++ [(rev, 0)]), keys', rev⟩ → Keeps (blocks bs bm kv g) w w' →
      (∀ q, blocks bs bm kv' (updG g key (some v')) q → blocks bs bm kv g q ∨ w.heap.size ≤ q) → R (.returned (.bool true)) w') :
    onSome (some (⟨bs, 0, none⟩ : Addr)) fun p8 =>
    ∃ x16 : Option Nat, u.drew.cell? p8 = some (.map x16) ∧
    onSome (some (⟨bs, 0, none⟩ : Addr)) fun p9 =>
    ∃ x17 : Option Nat, u.drew.cell? p9 = some (.map x17) ∧
    rdRunK Try.prog (Instr.lookup 58 (.map x17) (.string key) false) u.drew fun v8 =>
    ∃ x18a : Option Addr, ∃ x18l : Nat, ∃ x18c : Nat, v8 = .slice x18a x18l x18c ∧
    allocK u.drew (.cells #[.int .i64 rev, .int .i64 0] 68) fun w13 =>
    (∃ x19 : Option Nat, w13.cell? p8 = some (.map x19) ∧
      ((.map x19) : Value) = (.map x16)) ∧
    (∃ x20 : Option Nat, w13.cell? p9 = some (.map x20) ∧
      ((.map x20) : Value) = (.map x17)) ∧
    (rdRunK Try.prog (Instr.lookup 58 (.map x17) (.string key) false) w13 fun v9 =>
      ∃ x21a : Option Addr, ∃ x21l : Nat, ∃ x21c : Nat, v9 = .slice x21a x21l x21c ∧
      ((.slice x21a x21l x21c) : Value) = (.slice x18a x18l x18c)) ∧
    runK Try.prog (Builtin.append_ #[66, 66] 66 #[.slice x18a x18l x18c, .slice (some ⟨u.drew.heap.size, 0, none⟩) 1 1]) w13 fun v10 w14 =>
    ∃ x22a : Option Addr, ∃ x22l : Nat, ∃ x22c : Nat, v10 = .slice x22a x22l x22c ∧
    (∃ x23 : Option Nat, w14.cell? p8 = some (.map x23) ∧
      ((.map x23) : Value) = (.map x16)) ∧
    runK Try.prog (unitV (Instr.mapUpdate 58 (.map x16) (.string key) (.slice x22a x22l x22c))) w14 fun v11 w15 =>
    onSome (some (⟨bs, 0, none⟩ : Addr)) fun p10 =>
    storeK w15 (Addr.add p10 2) (.int .i64 rev) fun w16 =>
    R (.returned (.bool true)) w16 := by
  obtain ⟨v0, hv0, hr0, hb0, hg0⟩ := h.at key
  obtain ⟨a0, c0, hv0e, _⟩ := row_shape hr0
  have hbs := lt_of_heap h.head
  have hbm := h.map.lt
  have hb0' : ∀ q, v0.ownBlock = some q → q ≠ bs ∧ q ≠ bm ∧ kv.ownBlock ≠ some q ∧ q < w.heap.size := by
    intro q hq
    obtain ⟨v, hv, hq'⟩ := hb0 q hq
    have := h.apartG key v q hv hq'
    exact ⟨this.1, this.2.1, this.2.2, (h.ge (.inr (.inr (.inr ⟨key, v, hv, hq'⟩)))).2⟩
  have hnS : ∀ q, v0.ownBlock = some q → ¬ S' q := by
    intro q hq hSq
    rcases hS' q hSq with h1 | h1
    · exact (hb0' q hq).1 h1
    · exact (hb0' q hq).2.2.1 h1
  have hnbm : ¬ S' bm := by
    intro hSq
    rcases hS' bm hSq with h1 | h1
    · exact h.bsm h1.symm
    · exact (h.apartK bm h1).2 rfl
  have mapu : MapIs u Try.prog 9 bm N g := h.map.keeps hku hnbm
  have mapd : MapIs u.drew Try.prog 9 bm N g := mapu.keeps (Keeps.refl (S := no)).drew id
  -- the new block of the one span
  have hka : Keeps no u (u.drew.alloc (.cells #[.int .i64 rev, .int .i64 0] 68)) := (Keeps.refl (S := no)).drew.alloc _
  have mapa := mapu.keeps hka id
  have heada := hka.heap head id
  have hrowa := row_keeps (row_keeps hr0 hku hnS) hka (fun _ _ => id)
  have hnew : (u.drew.alloc (.cells #[.int .i64 rev, .int .i64 0] 68)).heap[u.drew.heap.size]? = some (.cells #[.int .i64 rev, .int .i64 0] 68 (0, 0)) := heap_new _ _
  obtain ⟨ti, hi, hz0, hz1, hz2⟩ := info_out inf68
  refine ⟨some bm, cell_of (w := u.drew) head rfl, some bm, cell_of (w := u.drew) head rfl, rdRunK_of (mapd.look und9 und58 (zero66 _) hs) ?_⟩
  rw [hv0]
  refine ⟨a0, (M.all key).length, c0, hv0e, ?_⟩
  simp only [allocK]
  refine ⟨⟨some bm, cell_of heada rfl, rfl⟩, ⟨some bm, cell_of heada rfl, rfl⟩, rdRunK_of (mapa.look und9 und58 (zero66 _) hs) ?_, ?_⟩
  · rw [hv0]; exact ⟨a0, _, c0, hv0e, rfl⟩
  rw [← hv0e]
  have hlA := h.lenA key
  refine append_runK (base := B) (e := 68) (sz := 2) (z := .agg #[.int .i64 0, .int .i64 0]) (bytes := 16) und66 hi hz0 hz1 hz2 rfl (by decide) hrowa (news := [.int .i64 rev, .int .i64 0]) (m := 1) rfl ?_ ?_ (by simp only [maxLen]; omega) (by omega)
    (Nat.le_trans hB (Nat.le_trans hku.size hka.size)) ?_
  · intro j x hx
    rw [addr_add]
    refine cell_of hnew ?_
    rw [Nat.zero_add]
    simpa using hx
  · intro x hx; simp at hx; rcases hx with rfl | rfl <;> rfl
  intro v1 w1 hrow1 hgr1 hb1
  obtain ⟨a1, c1, hv1e, _⟩ := row_shape hrow1
  have hk1 : Keeps (fun q => v0.ownBlock = some q) (u.drew.alloc (.cells #[.int .i64 rev, .int .i64 0] 68)) w1 := (Keeps.refl (S := fun q => v0.ownBlock = some q)).grown hgr1 (fun k e => .inl e)
  have hsz1 : u.heap.size < (u.drew.alloc (.cells #[.int .i64 rev, .int .i64 0] 68)).heap.size := by simp
  have head1 := hk1.heap heada (fun e => (hb0' _ e).1 rfl)
  have map1 := mapa.keeps hk1 (fun e => (hb0' _ e).2.1 rfl)
  refine ⟨a1, (M.all key).length + 1, c1, hv1e, ⟨some bm, cell_of head1 rfl, rfl⟩, ?_⟩
  rw [← hv1e]
  obtain ⟨w2, hrun2, map2, hturn⟩ := map1.put und9 und58 (by simp only [maxLen]; omega) hs v1
  refine runK_of (unitV_run hrun2) ?_
  have hk2 : Keeps (fun q => q = bm) w1 w2 := (Keeps.refl (S := fun q => q = bm)).turned hturn (.inl rfl)
  have head2 := hk2.heap head1 h.bsm
  refine onSome_of rfl ?_
  rw [addr_add]
  refine storeK_of (i := 0 + 2) head2 (by simp) ?_
  have hk3 : Keeps (fun q => q = bs) w2 (w2.setCell ⟨bs, 0 + 2, none⟩ (.int .i64 rev)) := (Keeps.refl (S := fun q => q = bs)).set (.inl rfl) _ _
  -- all in all
  have hkU : Keeps (fun q => q = bs ∨ q = bm ∨ kv.ownBlock = some q ∨ ∃ v, g key = some v ∧ v.ownBlock = some q) w u := hku.mono fun q _ hq => (hS' q hq).elim .inl fun h1 => .inr (.inr (.inl h1))
  have hkA : Keeps (fun q => q = bs ∨ q = bm ∨ kv.ownBlock = some q ∨ ∃ v, g key = some v ∧ v.ownBlock = some q) w (u.drew.alloc (.cells #[.int .i64 rev, .int .i64 0] 68)) := hkU.trans hka (fun _ h => h.elim)
  have hkB := hkA.trans hk1 (fun q hq => .inl (.inr (.inr (.inr (hb0 q hq)))))
  have hkC := hkB.trans hk2 (fun q hq => .inl (.inr (.inl hq)))
  have hkD := hkC.trans hk3 (fun q hq => .inl (.inl hq))
  have hv1b : ∀ q, v1.ownBlock = some q → v0.ownBlock = some q ∨ u.heap.size ≤ q := by
    intro q hq
    rcases hb1 with h1 | ⟨q', h1, h2⟩
    · exact .inl (h1 ▸ hq)
    · rw [hq] at h1; cases h1; exact .inr (by omega)
  have hkvu : ∀ q, kv'.ownBlock = some q → q < u.heap.size := fun q hq => (keys''.lt q hq).2
  have hkvne : ∀ q, kv'.ownBlock = some q → v0.ownBlock ≠ some q ∧ q ≠ bs ∧ q ≠ bm := by
    intro q hq
    rcases hkv with h1 | ⟨q', h1, h2⟩
    · exact ⟨fun h3 => (hb0' q h3).2.2.1 (h1 ▸ hq), (h.apartK q (h1 ▸ hq)).1, (h.apartK q (h1 ▸ hq)).2⟩
    · rw [hq] at h1; cases h1
      exact ⟨fun h3 => by have := (hb0' q h3).2.2.2; omega, by omega, by omega⟩
  have hv1ne : ∀ q, v1.ownBlock = some q → q ≠ bs ∧ q ≠ bm ∧ kv'.ownBlock ≠ some q := by
    intro q hq
    rcases hv1b q hq with h1 | h1
    · exact ⟨(hb0' q h1).1, (hb0' q h1).2.1, fun h2 => (hkvne q h2).1 h1⟩
    · have := hku.size
      exact ⟨by omega, by omega, fun h2 => by have := hkvu q h2; omega⟩
  refine hR _ v1 ?_ (hkD.mono ?_) ?_
  · have hlen1 : (M.all key ++ [(rev, 0)]).length = (M.all key).length + 1 := by simp
    have hflat : (M.all key ++ [(rev, (0 : Int))]).flatMap encS = (M.all key).flatMap encS ++ [.int .i64 rev, .int .i64 0] := by simp [encS]
    refine h.turn hkD (by simp) (fun q hq => hq) (heap_set_same head2 _ _) (map2.keeps hk3 (Ne.symm h.bsm)) ?_ ?_ hkv ?_ ?_ ok' hl' (by rw [hlen1]; omega) (by omega)
    · refine row_keeps (row_keeps (row_keeps (row_keeps keys'' hka fun _ _ => id) hk1 ?_) hk2 ?_) hk3 ?_
      · exact fun q hq h1 => (hkvne q hq).1 h1
      · exact fun q hq h1 => (hkvne q hq).2.2 h1
      · exact fun q hq h1 => (hkvne q hq).2.1 h1
    · rw [hlen1, hflat]
      refine row_keeps (row_keeps hrow1 hk2 ?_) hk3 ?_
      · exact fun q hq h1 => (hv1ne q hq).2.1 h1
      · exact fun q hq h1 => (hv1ne q hq).1 h1
    · rcases hg0 with ⟨h1, h2⟩ | h1
      · right
        rcases hb1 with h3 | ⟨q, h3, h4⟩
        · exfalso
          have hbl := row_block hrow1 (by omega)
          obtain ⟨q, hq, _⟩ := hbl
          rw [h3, h2] at hq; simp [Value.ownBlock] at hq
        · exact ⟨q, h3, by have := hku.size; omega⟩
      · rcases hb1 with h3 | ⟨q, h3, h4⟩
        · exact .inl ⟨v0, h1, h3⟩
        · exact .inr ⟨q, h3, by have := hku.size; omega⟩
    · exact fun q hq h1 => (hv1ne q h1).2.2 hq
  · rintro q _ (h1 | h1 | h1 | ⟨v, h1, h2⟩)
    · exact .inl h1
    · exact .inr (.inl h1)
    · exact .inr (.inr (.inl h1))
    · exact .inr (.inr (.inr ⟨key, v, h1, h2⟩))
  · rintro q (h1 | h1 | h1 | ⟨k, v, h1, h2⟩)
    · exact .inl (.inl h1)
    · exact .inl (.inr (.inl h1))
    · rcases hkv with h2 | ⟨q', h2, h3⟩
      · exact .inl (.inr (.inr (.inl (h2 ▸ h1))))
      · rw [h1] at h2; cases h2; exact .inr h3
    · unfold updG at h1
      by_cases e : k = key
      · rw [if_pos e] at h1; cases h1
        rcases hv1b q h2 with h3 | h3
        · obtain ⟨v, h4, h5⟩ := hb0 q h3
          exact .inl (.inr (.inr (.inr ⟨key, v, h4, h5⟩)))
        · have := hku.size; exact .inr (by omega)
      · rw [if_neg e] at h1; exact .inl (.inr (.inr (.inr ⟨k, v, h1, h2⟩)))
end Go.Proofs
