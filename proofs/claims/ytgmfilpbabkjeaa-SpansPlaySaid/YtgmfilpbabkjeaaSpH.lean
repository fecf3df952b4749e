/- Spans: Put's contract. Seat s14. -/
import Derived.Test.YtgmfilpbabkjeaaSpG
set_option linter.unusedVariables false
set_option linter.unusedSimpArgs false
set_option maxRecDepth 100000
namespace Go.Proofs
open Go.L Go.RowKit Go.Shelf

theorem allocK_of {w : World} {o : Obj} {K : World → Prop} (h : K (w.alloc o)) : allocK w o K := h
theorem RepX.mono {B bs bm N N' : Nat} {w : World} {kv : Value} {g : ByteArray → Option Value} {M : Sp} (h : RepX B w bs bm kv g N M) (hN : N ≤ N') : RepX B w bs bm kv g N' M :=
  { h with
    map := by obtain ⟨D, hD, hg⟩ := h.map; exact ⟨D, hD.mono hN, hg⟩
    lenK := Nat.le_trans h.lenK hN
    lenA := fun k => Nat.le_trans (h.lenA k) hN }
theorem Rep.mono {B bs N N' : Nat} {w : World} {M : Sp} {S : Nat → Prop} (h : Rep B w bs N M S) (hN : N ≤ N') : Rep B w bs N' M S := by
  obtain ⟨bm, kv, g, h, rfl⟩ := h
  exact ⟨bm, kv, g, h.mono hN, rfl⟩
def Sp.put (M : Sp) (key : ByteArray) (rev : Int) : Sp × Bool :=
  if rev < 1 then (M, false) else if rev < M.last then (M, false) else
  match openOf (M.all key) with
  | some _ => (M, false)
  | none => (⟨updA M.all key (M.all key ++ [(rev, 0)]), if hasKey M.keys key then M.keys else insertAt M.keys (rank M.keys key) key, rev⟩, true)
theorem mem_insertAt {keys : List ByteArray} {i : Nat} {x k : ByteArray} : k ∈ insertAt keys i x ↔ k = x ∨ k ∈ keys := by
  unfold insertAt
  rw [List.mem_append, List.mem_cons]
  conv => rhs; rw [← List.take_append_drop i keys, List.mem_append]
  constructor
  · rintro (h | h | h)
    · exact .inr (.inl h)
    · exact .inl h
    · exact .inr (.inr h)
  · rintro (h | h | h)
    · exact .inr (.inl h)
    · exact .inl h
    · exact .inr (.inr h)
theorem rising_insertAt {keys : List ByteArray} {x : ByteArray} (hr : keys.Pairwise fun a b => Go.L.lt a b = true) (hx : x ∉ keys) : (insertAt keys (rank keys x) x).Pairwise fun a b => Go.L.lt a b = true := by
  obtain ⟨h1, h2⟩ := rank_lt hr (x := x)
  unfold insertAt
  have hsplit := hr
  rw [← List.take_append_drop (rank keys x) keys, List.pairwise_append] at hsplit
  obtain ⟨p1, p2, p3⟩ := hsplit
  have q1 : ∀ a ∈ keys.take (rank keys x), Go.L.lt a x = true := by
    intro a ha
    obtain ⟨t, ht, rfl⟩ := List.mem_iff_getElem.1 ha
    rw [List.length_take] at ht
    rw [List.getElem_take]
    exact h1 t (by omega) (by omega)
  have q2 : ∀ a ∈ keys.drop (rank keys x), Go.L.lt x a = true := by
    intro a ha
    have hm : a ∈ keys := List.mem_of_mem_drop ha
    obtain ⟨t, ht, rfl⟩ := List.mem_iff_getElem.1 ha
    rw [List.length_drop] at ht
    rw [List.getElem_drop] at hm ⊢
    exact Go.L.lt_of_not (h2 (rank keys x + t) (by omega) (by omega)) (fun e => hx (e ▸ hm))
  rw [List.pairwise_append]
  refine ⟨p1, List.pairwise_cons.2 ⟨q2, p2⟩, fun a ha b hb => ?_⟩
  rcases List.mem_cons.1 hb with rfl | hb
  · exact q1 a ha
  · exact p3 a ha b hb
theorem put_ok {M : Sp} (h : M.Ok) {key : ByteArray} (hs : key.size ≤ maxLen) (rev : Int) : Sp.Ok ⟨updA M.all key (M.all key ++ [(rev, 0)]), if hasKey M.keys key then M.keys else insertAt M.keys (rank M.keys key) key, rev⟩ := by
  cases hk : hasKey M.keys key with
  | true =>
    have hm := hasKey_iff.1 hk
    refine ⟨h.rising, fun k => ?_, h.size⟩
    show updA M.all key (M.all key ++ [(rev, 0)]) k ≠ [] → k ∈ M.keys
    unfold updA
    by_cases e : k = key
    · subst e; exact fun _ => hm
    · rw [if_neg e]; exact h.mem k
  | false =>
    have hm : key ∉ M.keys := fun hm => by rw [hasKey_iff.2 hm] at hk; cases hk
    refine ⟨rising_insertAt h.rising hm, fun k => ?_, fun k hk2 => ?_⟩
    · show updA M.all key (M.all key ++ [(rev, 0)]) k ≠ [] → k ∈ insertAt M.keys (rank M.keys key) key
      rw [mem_insertAt]
      unfold updA
      by_cases e : k = key
      · exact fun _ => .inl e
      · rw [if_neg e]; exact fun hk => .inr (h.mem k hk)
    · rcases mem_insertAt.1 hk2 with rfl | hk3
      · exact hs
      · exact h.size k hk3
theorem Put_nil (key : ByteArray) (rev : Int) (w : World) : Calls Try.prog 11 #[.pointer none, .string key, .int .i64 rev] w fun e w' => w' = w ∧ e = .returned (.bool false) := by
  refine F11.calls_of _ _ _ ?_
  exact ⟨rfl, rfl⟩
theorem Put_spec {B bs N : Nat} {w : World} {M : Sp} {S : Nat → Prop} (h : Rep B w bs N M S) (hB : B ≤ w.heap.size) (hN : N + 1 ≤ 4611686018427) (key : ByteArray) (hs : key.size ≤ maxLen) (rev : Int) :
    Calls Try.prog 11 #[.pointer (some ⟨bs, 0, none⟩), .string key, .int .i64 rev] w fun e w' => e = .returned (.bool (M.put key rev).2) ∧ ∃ S', Rep B w' bs (N + 1) (M.put key rev).1 S' ∧ Keeps S w w' ∧ ∀ q, S' q → S q ∨ w.heap.size ≤ q := by
  have hfalse : ∀ {S0 : Nat → Prop}, Rep B w bs N M S0 → (M.put key rev = (M, false)) → (Ending.returned (.bool false) = Ending.returned (.bool (M.put key rev).2) ∧ ∃ S', Rep B w bs (N + 1) (M.put key rev).1 S' ∧ Keeps S0 w w ∧ ∀ q, S' q → S0 q ∨ w.heap.size ≤ q) := by
    intro S0 h0 e
    rw [e]
    exact ⟨rfl, S0, h0.mono (by omega), Keeps.refl, fun q hq => .inl hq⟩
  have hrep := h
  obtain ⟨bm, kv, g, h, rfl⟩ := h
  refine F11.calls_of _ _ _ ?_
  unfold F11.sh
  change iteP (decide (rev < 1)) _ _
  refine iteP_of (fun h1 => ?_) (fun h1 => ?_)
  · have h1 : rev < 1 := by simpa using h1
    exact hfalse hrep (by unfold Sp.put; rw [if_pos h1])
  have h1 : ¬ rev < 1 := by simpa using h1
  refine ⟨M.last, cell_of h.head rfl, iteP_of (fun h2 => ?_) (fun h2 => ?_)⟩
  · have h2 : rev < M.last := by simpa using h2
    exact hfalse hrep (by unfold Sp.put; rw [if_neg h1, if_pos h2])
  have h2 : ¬ rev < M.last := by simpa using h2
  refine (open_spec h (by simp only [maxLen]; omega) key hs).mono ?_
  rintro e w' ⟨rfl, ⟨ho, rfl⟩ | ⟨f, v, q, ho, hv, hq, rfl⟩⟩
  case inr =>
    refine ⟨some ⟨q, 2 * ((M.all key).length - 1), none⟩, rfl, ?_⟩
    exact hfalse hrep (by unfold Sp.put; rw [if_neg h1, if_neg h2, ho])
  refine ⟨none, rfl, ?_⟩
  have hput : M.put key rev = (⟨updA M.all key (M.all key ++ [(rev, 0)]), if hasKey M.keys key then M.keys else insertAt M.keys (rank M.keys key) key, rev⟩, true) := by
    unfold Sp.put; rw [if_neg h1, if_neg h2, ho]
  rw [hput]
  have hok := put_ok h.ok hs rev
  obtain ⟨a, c, q, hkve, hlc, ha, hcell⟩ := h.keyCells
  have hlen := h.lenK
  refine ⟨a, M.keys.length, c, by rw [← hkve]; exact cell_of h.head rfl, ?_⟩
  refine (Search_spec (q := q) (o := 0) h.ok.rising (by omega) (ha.imp id (·.1)) (fun t ht => by rw [Nat.zero_add]; exact hcell t ht) key).mono ?_
  rintro e w1 ⟨rfl, rfl⟩
  refine ⟨_, _, rfl, ?_⟩
  cases hk : hasKey M.keys key with
  | true =>
    rw [hk] at hok
    rw [if_pos rfl] at hok
    rw [if_pos rfl]
    refine Put_tail h hN hB (S' := no) Keeps.refl (fun q hq => hq.elim) hs h.head h.keys (.inl rfl) hok (by omega) (R := fun e w' => e = Ending.returned (.bool true) ∧ ∃ S', Rep B w' bs (N + 1) ⟨updA M.all key (M.all key ++ [(rev, 0)]), M.keys, rev⟩ S' ∧ Keeps (blocks bs bm kv g) w1 w' ∧ ∀ q, S' q → blocks bs bm kv g q ∨ w1.heap.size ≤ q) ?_
    intro w' v' hx hkk hbl
    exact ⟨rfl, _, ⟨bm, kv, _, hx, rfl⟩, hkk, hbl⟩
  | false =>
    rw [hk] at hok
    rw [if_neg (by simp)] at hok
    rw [if_neg (by simp)]
    refine ⟨a, M.keys.length, c, by rw [← hkve]; exact cell_of h.head rfl, ?_⟩
    refine allocK_of ?_
    have hka : Keeps no w1 (w1.alloc (.cells #[.string key] 9)) := Keeps.refl.alloc _
    have hrowa := row_keeps h.keys hka (fun _ _ => id)
    have hins := Insert28 hrowa (by simp; omega) (rank_le M.keys key) (heap_new _ _) (fun e => by have := (h.keys.lt _ e).2; omega) (by omega)
    conv at hins => arg 3; rw [hkve]
    refine hins.mono ?_
    rintro e w2 ⟨kv2, rfl, hrow2, hgr2, hb2⟩
    obtain ⟨a2, c2, hkv2e, _⟩ := row_shape hrow2
    refine ⟨a2, M.keys.length + 1, c2, by rw [hkv2e], ?_⟩
    rw [← hkv2e]
    have hk2 : Keeps (fun q => kv.ownBlock = some q) (w1.alloc (.cells #[.string key] 9)) w2 := (Keeps.refl (S := fun q => kv.ownBlock = some q)).grown hgr2 (fun k e => .inl e)
    have head2 := hk2.heap (hka.heap h.head id) (fun e => (h.apartK _ e).1 rfl)
    refine onSome_of rfl ?_
    rw [addr_add]
    refine storeK_of (i := 0 + 1) head2 (by simp) ?_
    have hk3 : Keeps (fun q => q = bs) w2 (w2.setCell ⟨bs, 0 + 1, none⟩ kv2) := (Keeps.refl (S := fun q => q = bs)).set (.inl rfl) _ _
    have hkA : Keeps (fun q => q = bs ∨ kv.ownBlock = some q) w1 (w2.setCell ⟨bs, 0 + 1, none⟩ kv2) :=
      (((Keeps.refl (S := fun q => q = bs ∨ kv.ownBlock = some q)).trans hka (fun _ h => h.elim)).trans hk2 (fun q hq => .inl (.inr hq))).trans hk3 (fun q hq => .inl (.inl hq))
    have hsz : w1.heap.size < (w1.alloc (.cells #[.string key] 9)).heap.size := by simp
    have hb2' : kv2.ownBlock = kv.ownBlock ∨ ∃ q, kv2.ownBlock = some q ∧ w1.heap.size ≤ q := by
      rcases hb2 with h3 | ⟨q, h3, h4⟩
      · exact .inl h3
      · exact .inr ⟨q, h3, by omega⟩
    have hli : (insertAt M.keys (rank M.keys key) key).length = M.keys.length + 1 := len_insertAt (rank_le _ _)
    refine Put_tail h hN hB hkA (fun q hq => hq) hs (kv' := kv2) (heap_set_same head2 _ _) ?_ hb2' hok (by rw [hli]; omega) (R := fun e w' => e = Ending.returned (.bool true) ∧ ∃ S', Rep B w' bs (N + 1) ⟨updA M.all key (M.all key ++ [(rev, 0)]), insertAt M.keys (rank M.keys key) key, rev⟩ S' ∧ Keeps (blocks bs bm kv g) w1 w' ∧ ∀ q, S' q → blocks bs bm kv g q ∨ w1.heap.size ≤ q) ?_
    · rw [hli]
      refine row_keeps hrow2 hk3 fun q hq h3 => ?_
      subst h3
      rcases hb2' with h4 | ⟨q', h4, h5⟩
      · exact (h.apartK q (h4 ▸ hq)).1 rfl
      · rw [hq] at h4; cases h4; have := lt_of_heap h.head; omega
    · intro w' v' hx hkk hbl
      exact ⟨rfl, _, ⟨bm, kv2, _, hx, rfl⟩, hkk, hbl⟩
end Go.Proofs
