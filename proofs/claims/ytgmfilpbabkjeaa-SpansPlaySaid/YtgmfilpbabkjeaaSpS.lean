/- Spans: each's contract, at whatever the rounds keep. Seat s14. -/
import Derived.Test.YtgmfilpbabkjeaaSpN
set_option linter.unusedVariables false
set_option linter.unusedSimpArgs false
set_option maxRecDepth 100000
namespace Go.Proofs
open Go.L Go.RowKit

abbrev KS := ByteArray × (Int × Int)
def pairsOf (M : Sp) (k : ByteArray) : List KS := (M.all k).map fun x => (k, x)
def pairs (M : Sp) : List KS := M.keys.flatMap (pairsOf M)
def yArgs (x : KS) : Array Value := #[.string x.1, .agg #[.int .i64 x.2.1, .int .i64 x.2.2]]
theorem Each40 (s : Option Addr) (w : World) : Calls Try.prog 40 #[.pointer s] w fun e w' => e = .returned (.func (.func 52) #[] #[.pointer (some ⟨w.heap.size, 0, none⟩)]) ∧ w' = w.alloc (.cells #[.pointer s] 26) := by
  refine F40.calls_of _ ?_
  exact ⟨rfl, rfl⟩
theorem Each52_nil {w : World} {b y : Nat} (hcell : w.cell? ⟨b, 0, none⟩ = some (.pointer none)) :
    Calls Try.prog 52 #[.func (.yield y) #[] #[], .pointer (some ⟨b, 0, none⟩)] w fun e w' => e = .returned (.tuple #[]) ∧ w' = w := by
  refine F52.calls_of _ _ ?_
  exact ⟨none, hcell, rfl, rfl⟩
theorem Each52 {B bs N : Nat} {w : World} {M : Sp} {S : Nat → Prop} (h : Rep B w bs N M S) (hN : N < maxLen) {b y : Nat} (hcell : w.cell? ⟨b, 0, none⟩ = some (.pointer (some ⟨bs, 0, none⟩)))
    {T : Nat → Prop} (hT : ∀ q, S q → ¬ T q) (hTb : ¬ T b) {J : List KS → World → Prop} (hJk : ∀ pre w1 w2, J pre w1 → Keeps no w1 w2 → J pre w2) (hJ : ∀ pre w1, J pre w1 → Keeps T w w1) (h0 : J [] w)
    (hround : ∀ pre x post w1, pairs M = pre ++ x :: post → J pre w1 → yieldAny Try.prog y (yArgs x) w1 fun v w2 => v = .bool true ∧ J (pre ++ [x]) w2) :
    Calls Try.prog 52 #[.func (.yield y) #[] #[], .pointer (some ⟨b, 0, none⟩)] w fun e w' => e = .returned (.tuple #[]) ∧ J (pairs M) w' := by
  obtain ⟨bm, kv, g, h, rfl⟩ := h
  obtain ⟨ka, kc, kq, hkv, hkl, hkb, hkc⟩ := h.keyCells
  have hlen := h.lenK
  simp only [maxLen] at hN
  refine F52.calls_of _ _ ?_
  unfold F52.sh
  refine onSome_of rfl ⟨_, hcell, ?_⟩
  refine Go.L.iteP_false rfl (onSome_of rfl ⟨_, hcell, onSome_of rfl ⟨ka, M.keys.length, kc, ?_, ?_⟩⟩)
  · rw [addr_add, ← hkv]; exact cell_of (i := 0 + 1) h.head rfl
  refine ⟨fun i k w1 => ∃ a : Nat, i = a ∧ a ≤ M.keys.length ∧ k = M.keys.length - a ∧ J ((M.keys.take a).flatMap (pairsOf M)) w1, ⟨_, 0, rfl, by omega, rfl, by simpa using h0⟩, ?_⟩
  rintro i k w1 ⟨a, rfl, ha, rfl, hj⟩ z
  have hk1 := hJ _ _ hj
  refine iteP_of (fun h1 => ?_) (fun h1 => ?_)
  · have h1 : a < M.keys.length := by simpa using h1
    have hne : M.keys ≠ [] := by intro e; rw [e] at h1; simp at h1
    obtain ⟨hka, hkq⟩ := hkb.resolve_left hne
    have hTq : ¬ T kq := hT _ (.inr (.inr (.inl hkq)))
    have hr1 := h.keeps hk1 hT
    refine ⟨⟨by omega, by omega⟩, onSome_of hka ⟨M.keys[a], ?_, onSome_of rfl ⟨_, hk1.cell hcell hTb, onSome_of rfl ⟨some bm, cell_of hr1.head rfl, ?_⟩⟩⟩⟩
    · rw [addr_add, Int.toNat_natCast, Nat.zero_add, Nat.mul_one]; exact hk1.cell (hkc _ h1) hTq
    have hsz : M.keys[a].size ≤ maxLen := h.ok.size _ (List.getElem_mem _)
    obtain ⟨va, vc, vq, e1, e2, e3⟩ := hr1.find M.keys[a]
    refine runK_of (hr1.map.look und9 und58 (zero66 _) hsz) ⟨va, _, vc, e1, ?_⟩
    have hla := h.lenA M.keys[a]
    refine ⟨fun i k w3 => ∃ c : Nat, i = c ∧ c ≤ (M.all M.keys[a]).length ∧ k = (M.all M.keys[a]).length - c ∧ J ((M.keys.take a).flatMap (pairsOf M) ++ (pairsOf M M.keys[a]).take c) w3, ⟨_, 0, rfl, by omega, rfl, by simpa using hj⟩, ?_⟩
    rintro i k w3 ⟨c, rfl, hc, rfl, hj3⟩ z3
    have hk3 := hJ _ _ hj3
    refine iteP_of (fun h2 => ?_) (fun h2 => ?_)
    · have h2 : c < (M.all M.keys[a]).length := by simpa using h2
      have hne2 : M.all M.keys[a] ≠ [] := by intro e; rw [e] at h2; simp at h2
      obtain ⟨hva, hbl⟩ := e2.resolve_left hne2
      have hcells : SpanCells w3 vq (M.all M.keys[a]) := by
        have hr3 := h.keeps hk3 hT
        obtain ⟨v0, hv0, hrow⟩ := hr3.row _ hne2
        rw [hv0] at e1
        simp only [Option.getD_some] at e1
        have hq0 : v0.ownBlock = some vq := by rw [e1, hva]; rfl
        exact SpanCells.of_row hrow hq0
      obtain ⟨c1, c2⟩ := hcells c h2
      refine ⟨⟨by omega, by omega⟩, onSome_of hva ⟨(M.all M.keys[a])[c].1, ?_, (M.all M.keys[a])[c].2, ?_, ?_⟩⟩
      · rw [addr_add, Int.toNat_natCast, Nat.zero_add]; exact c1
      · rw [addr_add, addr_add, Int.toNat_natCast, Nat.zero_add]; exact c2
      refine allocK_of ?_
      have n0 := heap_new w3 (.cells #[.int .i64 0, .int .i64 0] 68)
      have k4 : Keeps no w3 (w3.alloc (.cells #[.int .i64 0, .int .i64 0] 68)) := Keeps.refl.alloc _
      refine storeK_of n0 (by simp) ?_
      have n1 := heap_set_same n0 0 (.int .i64 (M.all M.keys[a])[c].1)
      refine storeK_of n1 (by simp) ?_
      have n2 := heap_set_same n1 1 (.int .i64 (M.all M.keys[a])[c].2)
      have k6 : Keeps no w3 (((w3.alloc (.cells #[.int .i64 0, .int .i64 0] 68)).setCell ⟨w3.heap.size, 0, none⟩ (.int .i64 (M.all M.keys[a])[c].1)).setCell ⟨w3.heap.size, 1, none⟩ (.int .i64 (M.all M.keys[a])[c].2)) :=
        (k4.set (.inr (Nat.le_refl _)) _ _).set (.inr (Nat.le_refl _)) _ _
      refine ⟨(M.all M.keys[a])[c].1, cell_of n2 rfl, (M.all M.keys[a])[c].2, cell_of n2 rfl, ?_⟩
      have hpl : c < (pairsOf M M.keys[a]).length := by simpa [pairsOf] using h2
      have hsplit : pairs M = ((M.keys.take a).flatMap (pairsOf M) ++ (pairsOf M M.keys[a]).take c) ++ (M.keys[a], (M.all M.keys[a])[c]) :: ((pairsOf M M.keys[a]).drop (c + 1) ++ (M.keys.drop (a + 1)).flatMap (pairsOf M)) := by
        have e5 : M.keys = M.keys.take a ++ M.keys[a] :: M.keys.drop (a + 1) := by rw [← List.drop_eq_getElem_cons h1, List.take_append_drop]
        have e6 : pairsOf M M.keys[a] = (pairsOf M M.keys[a]).take c ++ (M.keys[a], (M.all M.keys[a])[c]) :: (pairsOf M M.keys[a]).drop (c + 1) := by
          have := List.drop_eq_getElem_cons hpl
          have e7 : (pairsOf M M.keys[a])[c] = (M.keys[a], (M.all M.keys[a])[c]) := by simp [pairsOf]
          rw [← e7, ← this, List.take_append_drop]
        unfold pairs
        conv => lhs; rw [e5]
        rw [List.flatMap_append, List.flatMap_cons]
        conv => lhs; rw [e6]
        simp
      refine yieldAny_mono ?_ (hround _ _ _ _ hsplit (hJk _ _ _ hj3 k6))
      rintro v w7 ⟨rfl, hj7⟩
      refine ⟨true, rfl, ?_⟩
      refine Go.L.iteP_false rfl ?_
      rw [IntWalk.i64_in _ (by omega)]
      refine ⟨(M.all M.keys[a]).length - (c + 1), by omega, c + 1, by omega, by omega, rfl, ?_⟩
      have e7 : (pairsOf M M.keys[a]).take (c + 1) = (pairsOf M M.keys[a]).take c ++ [(M.keys[a], (M.all M.keys[a])[c])] := by
        rw [List.take_succ_eq_append_getElem hpl]; simp [pairsOf]
      rw [e7, ← List.append_assoc]; exact hj7
    · have h2 : c = (M.all M.keys[a]).length := by have : ¬ c < (M.all M.keys[a]).length := by simpa using h2
                                                   omega
      subst h2
      rw [IntWalk.i64_in _ (by omega)]
      refine ⟨M.keys.length - (a + 1), by omega, a + 1, by omega, by omega, rfl, ?_⟩
      have e5 : M.keys.take (a + 1) = M.keys.take a ++ [M.keys[a]] := by rw [List.take_succ_eq_append_getElem h1]
      rw [e5, List.flatMap_append]
      have e6 : (pairsOf M M.keys[a]).take (M.all M.keys[a]).length = pairsOf M M.keys[a] := List.take_of_length_le (by simp [pairsOf])
      rw [e6] at hj3
      simpa using hj3
  · have h1 : a = M.keys.length := by have : ¬ a < M.keys.length := by simpa using h1
                                      omega
    subst h1
    rw [List.take_length] at hj
    exact ⟨rfl, hj⟩
end Go.Proofs
