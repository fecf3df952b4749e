/- Spans: Trim, first half: its closures, a map's store at a key that is there, a key's end, one round. Seat s14. -/
import Derived.Test.YtgmfilpbabkjeaaSpK
set_option linter.unusedVariables false
set_option linter.unusedSimpArgs false
set_option maxRecDepth 100000
namespace Go.Proofs
open Go.L Go.RowKit Go.Maps Go.Sort Go.Shelf

theorem _root_.Go.L.MapIs.fit {w : World} {P : Program} {k : TypeId} {b n : Nat} {g : ByteArray → Option Value} {D : DataW Value} (h : w.ownsMap P k asHeld b (n + 1) D) (hs : Maps.size D ≤ n) : w.ownsMap P k asHeld b n D := by
  obtain ⟨es, clock, hb, F, hsz, rfl⟩ := h
  refine ⟨es, clock, hb, F, ?_, rfl⟩
  have e1 : Maps.size (DataW.map ((es.toList.map (Go.WideElems.rg P k asHeld)).foldr DataW.insert [])) = es.size := by simp [Maps.size, length_sorted]
  omega
theorem _root_.Go.L.MapIs.putOld {w : World} {P : Program} {k e t : TypeId} {b n : Nat} {g : ByteArray → Option Value} {s : ByteArray} (h : MapIs w P k b n g) (hk : P.underlying k = some .string) (ht : P.underlying t = some (.map k e)) (hn : n < maxLen) (hs : s.size ≤ maxLen) (hg0 : g s ≠ none) (v : Value) :
    ∃ w', (Instr.mapUpdate t (.map (some b)) (.string s) v).run P w = .ok () w' ∧ MapIs w' P k b n (updG g s (some v)) ∧ w.mapTurned w' b := by
  obtain ⟨D, hD, hg⟩ := h
  obtain ⟨w', hr, hD', hm⟩ := hD.store (Go.Maps.string_keyed hk) ht hn (key := .string s) (val := v) (d := .held v) (ps := []) (Go.WideMaps.keyOf_string_mk hk hs) rfl
  have hhas : Maps.has D (sl s) = true := by
    cases hgs : g s with
    | none => exact absurd hgs hg0
    | some u => exact Maps.has_true_of_atKey (y := .held u) (fun z => by have := hg s z; rw [hgs] at this; exact this)
  have hsz : Maps.size (D.put (sl s) (.held v)) ≤ n := by
    rw [Maps.size_put (hD.tidy (Go.Maps.string_keyed hk)), hhas]
    simp
    exact hD.size_le
  refine ⟨w', hr, ⟨_, MapIs.fit (g := g) hD' hsz, fun s' z => ?_⟩, hm⟩
  unfold updG
  by_cases he : s' = s
  · subst he
    rw [if_pos rfl]
    exact Go.Maps.atKey_put_same hD.isMap (by exact True.intro) _ _
  · rw [if_neg he]
    rw [← hg s' z]
    exact Go.Maps.atKey_put_other (fun h => he (sl_inj h)) _ _

def gone (rev : Int) (x : Int × Int) : Bool := (x.2 != 0) && decide (x.2 ≤ rev)
def trimL (rev : Int) (l : List (Int × Int)) : List (Int × Int) := l.filter fun x => !gone rev x
theorem pred30 {S : Nat → Prop} {b : Nat} {rev : Int} {w : World} (h : w.cell? ⟨b, 0, none⟩ = some (.int .i64 rev)) (hb : ¬ S b) : PredS S 30 #[.pointer (some ⟨b, 0, none⟩)] (gone rev) w := by
  refine ⟨by kernel_rfl, fun x w1 hk => ?_⟩
  refine F30.calls_of _ _ _ ?_
  unfold F30.sh
  refine allocK_of ?_
  have h0 := heap_new w1 (.cells #[.int .i64 x.1, .int .i64 x.2] 68)
  have hk1 : Keeps no w1 (w1.alloc (.cells #[.int .i64 x.1, .int .i64 x.2] 68)) := Keeps.refl.alloc _
  refine ⟨x.2, cell_of h0 rfl, iteP_of (fun h1 => ?_) (fun h1 => ?_)⟩
  · refine ⟨x.2, cell_of h0 rfl, onSome_of rfl ⟨rev, hk1.cell (hk.cell h hb) id, ?_, hk1⟩⟩
    simp [gone, h1]
  · exact ⟨by simp [gone, h1], hk1⟩
theorem pred35 {S : Nat → Prop} {B bs bm N b : Nat} {kv : Value} {g : ByteArray → Option Value} {M : Sp} {w : World} (h : RepX B w bs bm kv g N M) (hcell : w.cell? ⟨b, 0, none⟩ = some (.pointer (some ⟨bs, 0, none⟩))) (hb : ¬ S b) (hbs : ¬ S bs) (hbm : ¬ S bm) :
    PredT S 35 #[.pointer (some ⟨b, 0, none⟩)] (fun k => decide (M.all k = [])) (fun k => k.size ≤ maxLen) w := by
  refine ⟨by kernel_rfl, fun x w1 hx hk => ?_⟩
  refine F35.calls_of _ _ ?_
  unfold F35.sh
  refine onSome_of rfl ⟨some ⟨bs, 0, none⟩, hk.cell hcell hb, onSome_of rfl ⟨some bm, cell_of (hk.heap h.head hbs) rfl, runK_of ((h.map.keeps hk hbm).look und9 und58 (zero66 _) hx) ?_⟩⟩
  obtain ⟨a, c, q, e1, _, _⟩ := h.find x
  refine ⟨a, (M.all x).length, c, e1, ?_, Keeps.refl⟩
  congr 2
  rw [Bool.eq_iff_iff]
  simp
/-- A key whose row is empty is struck. -/
theorem RepX.strike {B bs bm N : Nat} {w w' : World} {kv : Value} {g : ByteArray → Option Value} {M : Sp} {S' : Nat → Prop} (h : RepX B w bs bm kv g N M) (hk : Keeps S' w w') {key : ByteArray}
    (hS : ∀ q, S' q → q = bm ∨ ∃ v, g key = some v ∧ v.ownBlock = some q) (map' : MapIs w' Try.prog 9 bm N (updG g key none)) :
    RepX B w' bs bm kv (updG g key none) N ⟨updA M.all key [], M.keys, M.last⟩ := by
  have hbsN : ¬ S' bs := by
    intro h1
    rcases hS bs h1 with h2 | ⟨v, h2, h3⟩
    · exact h.bsm h2
    · exact (h.apartG key v bs h2 h3).1 rfl
  have keep : ∀ k v, updG g key none k = some v → k ≠ key ∧ g k = some v := by
    intro k v hv
    unfold updG at hv
    by_cases e : k = key
    · rw [if_pos e] at hv; cases hv
    · rw [if_neg e] at hv; exact ⟨e, hv⟩
  constructor
  · exact hk.heap h.head hbsN
  · exact map'
  · refine row_keeps h.keys hk fun q hq h1 => ?_
    rcases hS q h1 with h2 | ⟨v, h2, h3⟩
    · exact (h.apartK q hq).2 h2
    · exact (h.apartG key v q h2 h3).2.2 hq
  · intro k hk0
    have hk0 : updA M.all key [] k = [] := hk0
    show updG g key none k = none
    unfold updG updA at *
    by_cases e : k = key
    · rw [if_pos e]
    · rw [if_neg e] at hk0 ⊢; exact h.nil k hk0
  · intro k hk0
    have hk0 : updA M.all key [] k ≠ [] := hk0
    show ∃ v, updG g key none k = some v ∧ w'.ownsRow B 68 2 v (updA M.all key [] k).length ((updA M.all key [] k).flatMap encS)
    unfold updG updA at *
    by_cases e : k = key
    · rw [if_pos e] at hk0; exact absurd rfl hk0
    · simp only [if_neg e] at hk0 ⊢
      obtain ⟨v, hv, hr⟩ := h.row k hk0
      refine ⟨v, hv, row_keeps hr hk fun q hq h1 => ?_⟩
      rcases hS q h1 with h2 | ⟨v0, h2, h3⟩
      · exact (h.apartG k v q hv hq).2.1 h2
      · exact e (h.once key v0 k v q h2 h3 hv hq)
  · exact h.bsm
  · exact h.geS
  · exact h.geM
  · exact h.apartK
  · exact fun k v q h1 h2 => h.apartG k v q (keep k v h1).2 h2
  · exact fun k v k' v' q h1 h2 h3 h4 => h.once k v k' v' q (keep k v h1).2 h2 (keep k' v' h3).2 h4
  · refine ⟨h.ok.rising, fun k hk0 => ?_, h.ok.size⟩
    have hk0 : updA M.all key [] k ≠ [] := hk0
    unfold updA at hk0
    by_cases e : k = key
    · rw [if_pos e] at hk0; exact absurd rfl hk0
    · rw [if_neg e] at hk0; exact h.ok.mem k hk0
  · exact h.lenK
  · intro k
    show (updA M.all key [] k).length ≤ N
    unfold updA
    split
    · simp
    · exact h.lenA k
end Go.Proofs
