/- Spans: slices.Collect(maps.Keys(m)) over a map of ours. Seat s14. -/
import Derived.Test.YtgmfilpbabkjeaaSpJ
import Derived.Test.YtgmfilpbabkjeaaColL
set_option linter.unusedVariables false
set_option linter.unusedSimpArgs false
set_option maxRecDepth 100000
namespace Go.Proofs
open Go.L Go.RowKit Go.Maps Go.Sort Go.Shelf

theorem Keys32 (mb : Option Nat) (w : World) : Calls Try.prog 32 #[.map mb] w fun e w' => e = .returned (.func (.func 49) #[] #[.pointer (some ⟨w.heap.size, 0, none⟩)]) ∧ w' = w.alloc (.cells #[.map mb] 58) := by
  refine (callsIn_wide (n := 5)).1 ?_
  exact AnyZ.keys_in Try.keys32 Fence.wide 5 trivial rfl mb w
theorem Collect31 {Bm bm N : Nat} {g : ByteArray → Option Value} {w : World} (hcell : w.cell? ⟨Bm, 0, none⟩ = some (.map (some bm))) (hm : MapIs w Try.prog 9 bm N g) (hN : N ≤ 4611686018427) :
    Calls Try.prog 31 #[.func (.func 49) #[] #[.pointer (some ⟨Bm, 0, none⟩)]] w fun e w' => ∃ (v : Value) (ks : List ByteArray), e = .returned v ∧ ks.Nodup ∧ (∀ k, k ∈ ks ↔ g k ≠ none) ∧ ks.length ≤ N ∧ w'.ownsRow w.heap.size 9 1 v ks.length (ks.map .string) ∧ Keeps no w w' := by
  obtain ⟨D, hD, hg⟩ := hm
  have hsz := hD.size_le
  refine (callsIn_wide (n := 6)).1 ?_
  have hseq : SeqGives Fence.wide 4 Try.prog 49 #[.pointer (some ⟨Bm, 0, none⟩)] encStr (fun ss => ss.Perm (strKeys D)) (Maps.size D) w :=
    AnyZ.keys_gives (ρ := Try.keys32_ren) { Try.keys32 with } Fence.wide _ trivial rfl (by omega) Bm bm N D w (World.block_lt_of_cell? w _ hcell) hcell hD
  have hc := AnyZ.collect_in Try.coll31 Fence.wide 6 trivial trivial rfl (by omega) 49 #[.pointer (some ⟨Bm, 0, none⟩)] trivial (enters_of Try.func49 (by kernel_rfl) rfl) _ (Maps.size D) (by simp only [maxLen]; omega) (by omega) w hseq
  change CallsIn _ _ Try.prog 31 _ _ _ at hc
  refine hc.mono ?_
  rintro e w' ⟨v, ss, rfl, hperm, hrow, _, hb⟩
  obtain ⟨es, hDe, hko⟩ := hD.keysOf
  obtain ⟨es', hDe', htidy⟩ := hD.tidy (Go.Maps.string_keyed und9)
  subst hDe
  obtain rfl : es = es' := by injection hDe'
  have hstr : ∀ p ∈ es, ∃ x : List UInt8, p.1 = .string x := by
    intro p hp
    obtain ⟨key, hk⟩ := hko p hp
    obtain ⟨x, _, hx, _⟩ := Maps.keyOf_str und9 hk
    exact ⟨x, hx⟩
  have hnd : (strKeys (.map es)).Nodup := by
    show (es.map fun p => strOf p.1).Nodup
    refine (List.pairwise_map.2 ?_)
    refine List.Pairwise.imp_of_mem ?_ htidy
    intro a b ha hb hne heq
    obtain ⟨x, hx⟩ := hstr a ha
    obtain ⟨y, hy⟩ := hstr b hb
    rw [hx, hy] at heq hne
    exact hne (by rw [show x = y from heq])
  have hhas : ∀ k : ByteArray, k.data.toList ∈ strKeys (.map es) ↔ g k ≠ none := by
    intro k
    have h1 : Maps.has (DataW.map es) (sl k) = true ↔ g k ≠ none := by
      cases hgk : g k with
      | none =>
        have := Maps.has_false_of_atKey (D := DataW.map es) (k := sl k) (fun z => by have := hg k z; rw [hgk] at this; exact this)
        rw [this]; simp
      | some u =>
        have := Maps.has_true_of_atKey (D := DataW.map es) (k := sl k) (y := .held u) (fun z => by have := hg k z; rw [hgk] at this; exact this)
        rw [this]; simp
    rw [← h1, Maps.has_eq, List.any_eq_true]
    show k.data.toList ∈ es.map (fun p => strOf p.1) ↔ _
    rw [List.mem_map]
    constructor
    · rintro ⟨p, hp, he⟩
      obtain ⟨x, hx⟩ := hstr p hp
      refine ⟨p, hp, (WideAt.sameKey_iff (by exact True.intro)).2 ?_⟩
      rw [hx] at he ⊢
      rw [show x = k.data.toList from he]; rfl
    · rintro ⟨p, hp, he⟩
      have := (WideAt.sameKey_iff (b := sl k) (by exact True.intro)).1 he
      exact ⟨p, hp, by rw [this]; rfl⟩
  refine ⟨v, ss.map fun l => (⟨l.toArray⟩ : ByteArray), rfl, ?_, fun k => ?_, ?_, ?_, ⟨hb.os, hb.tape, hb.output, hb.size, fun k hk _ => hb.block k hk⟩⟩
  · have : ss.Nodup := hperm.nodup_iff.2 hnd
    refine List.pairwise_map.2 (this.imp ?_)
    intro a b hne he
    apply hne
    have := congrArg (fun b : ByteArray => b.data.toList) he
    simpa using this
  · rw [← hhas k, ← hperm.mem_iff, List.mem_map]
    constructor
    · rintro ⟨l, hl, rfl⟩; simpa using hl
    · intro h; exact ⟨_, h, Go.L.data_inj (by simp)⟩
  · rw [List.length_map, hperm.length_eq]
    have e1 : (strKeys (DataW.map es)).length = Maps.size (DataW.map es) := by
      show (es.map fun p => strOf p.1).length = _
      rw [List.length_map, Maps.size_eq]
    omega
  · have e1 : (ss.map encStr) = (ss.map fun l => (⟨l.toArray⟩ : ByteArray)).map Value.string := by rw [List.map_map]; rfl
    rw [List.length_map, ← e1]
    exact hrow
end Go.Proofs
