/- Spans: Next, and the law's 'keys'. Seat s14. -/
import Derived.Test.YtgmfilpbabkjeaaSpD
set_option linter.unusedVariables false
set_option linter.unusedSimpArgs false
set_option maxRecDepth 100000
namespace Go.Proofs
open Go.L Go.RowKit

def emp : ByteArray := ⟨#[]⟩
def nextGo (M : Sp) (rev : Int) (to : ByteArray) : List ByteArray → ByteArray × Bool
  | [] => (emp, false)
  | k :: l => if to ≠ emp ∧ Go.L.lt k to = false then (emp, false) else if M.has k rev then (k, true) else nextGo M rev to l
def Sp.next (M : Sp) (rev : Int) (fr to : ByteArray) : ByteArray × Bool := nextGo M rev to (M.keys.drop (rank M.keys fr))
theorem Next_nil (rev : Int) (fr to : ByteArray) (w : World) : Calls Try.prog 17 #[.pointer none, .int .i64 rev, .string fr, .string to] w fun e w' => e = .returned (.tuple #[.string emp, .bool false]) ∧ w' = w := by
  refine F17.calls_of _ _ _ _ ?_
  exact ⟨rfl, rfl⟩
theorem str_get {l : List ByteArray} {t : Nat} (h : t < l.length) : (l.map Value.string)[t]? = some (.string l[t]) := by simp [h]
/-- The keys' slice: its header, and its cells. -/
theorem RepX.keyCells {B bs bm N : Nat} {w : World} {kv : Value} {g : ByteArray → Option Value} {M : Sp} (h : RepX B w bs bm kv g N M) :
    ∃ a c q, kv = .slice a M.keys.length c ∧ M.keys.length ≤ c ∧ (M.keys = [] ∨ a = some ⟨q, 0, none⟩ ∧ kv.ownBlock = some q) ∧ ∀ t (h : t < M.keys.length), w.cell? ⟨q, t, none⟩ = some (.string M.keys[t]) := by
  have hr := h.keys
  rcases hr.2 with ⟨rfl, hn⟩ | ⟨q, cap, cur, rfl, _, hh, hnc, _⟩
  · have : M.keys = [] := List.eq_nil_of_length_eq_zero hn
    exact ⟨none, 0, 0, by rw [this]; rfl, by rw [this]; simp, .inl this, fun t ht => by rw [this] at ht; simp at ht⟩
  · exact ⟨_, cap, q, rfl, hnc, .inr ⟨rfl, rfl⟩, fun t ht => row_cell hr rfl (str_get ht)⟩
theorem Next_spec {B bs N : Nat} {w : World} {M : Sp} {S : Nat → Prop} (h : Rep B w bs N M S) (hN : N ≤ 4611686018427387904) (rev : Int) (fr to : ByteArray) :
    Calls Try.prog 17 #[.pointer (some ⟨bs, 0, none⟩), .int .i64 rev, .string fr, .string to] w fun e w' => e = .returned (.tuple #[.string (M.next rev fr to).1, .bool (M.next rev fr to).2]) ∧ Keeps no w w' := by
  have hrep := h
  obtain ⟨bm, kv, g, h, rfl⟩ := h
  obtain ⟨a, c, q, rfl, hlc, ha, hcell⟩ := h.keyCells
  have hlen := h.lenK
  refine F17.calls_of _ _ _ _ ?_
  unfold F17.sh
  refine ⟨a, M.keys.length, c, cell_of h.head rfl, ?_⟩
  refine (Search_spec (q := q) (o := 0) h.ok.rising (by omega) (ha.imp id (·.1)) (fun t ht => by rw [Nat.zero_add]; exact hcell t ht) fr).mono ?_
  rintro e w1 ⟨rfl, rfl⟩
  refine ⟨_, _, rfl, a, M.keys.length, c, cell_of h.head rfl, ⟨by omega, by have := rank_le M.keys fr; omega⟩, ?_⟩
  have hrk := rank_le M.keys fr
  rw [Int.toNat_natCast]
  refine ⟨fun i k w2 => Keeps no w1 w2 ∧ ∃ x : Nat, i = x ∧ x ≤ M.keys.length - rank M.keys fr ∧ k = M.keys.length - rank M.keys fr - x ∧ nextGo M rev to (M.keys.drop (rank M.keys fr + x)) = M.next rev fr to,
    ⟨_, Keeps.refl, 0, rfl, by omega, rfl, rfl⟩, ?_⟩
  rintro i k w2 ⟨hk, x, rfl, hle, rfl, hgo⟩ z
  have hrep2 := hrep.keeps hk (fun q _ h => h)
  refine iteP_of (fun h0 => ?_) (fun h0 => ?_)
  · have h0 : x < M.keys.length - rank M.keys fr := by simp at h0; omega
    have ht : rank M.keys fr + x < M.keys.length := by omega
    have hne : M.keys ≠ [] := by intro e; rw [e] at ht; simp at ht
    obtain ⟨ha1, _⟩ := ha.resolve_left hne
    have hsl : slA a (rank M.keys fr) c 1 = some ⟨q, rank M.keys fr, none⟩ := by
      unfold slA
      rw [if_neg (by omega), ha1]; simp
    refine ⟨⟨by omega, by omega⟩, onSome_of hsl ⟨M.keys[rank M.keys fr + x], ?_, ?_⟩⟩
    · rw [addr_add, Int.toNat_natCast, Nat.mul_one]; exact hk.cell (hcell _ ht) id
    have hdrop : M.keys.drop (rank M.keys fr + x) = M.keys[rank M.keys fr + x] :: M.keys.drop (rank M.keys fr + (x + 1)) := by
      rw [List.drop_eq_getElem_cons ht]; rfl
    rw [hdrop] at hgo
    have hsz : M.keys[rank M.keys fr + x].size ≤ maxLen := h.ok.size _ (List.getElem_mem _)
    have hhas : ∀ {R : Ending → World → Prop}, (∀ w3, Keeps no w1 w3 → R (.returned (.bool (M.has M.keys[rank M.keys fr + x] rev))) w3) → Calls Try.prog 19 #[.pointer (some ⟨bs, 0, none⟩), .string M.keys[rank M.keys fr + x], .int .i64 rev] w2 R := by
      intro R hR
      refine (Has_spec hrep2 (by simp only [maxLen]; omega) _ hsz rev).mono ?_
      rintro e w3 ⟨rfl, hk3⟩
      exact hR w3 (hk.transN hk3)
    have hback : (to ≠ emp ∧ Go.L.lt M.keys[rank M.keys fr + x] to = false) = False → ∀ w3, Keeps no w1 w3 → ∀ R : Ending → World → Prop, (∀ e w', e = .returned (.tuple #[.string (M.next rev fr to).1, .bool (M.next rev fr to).2]) ∧ Keeps no w1 w' → R e w') →
        iteP (M.has M.keys[rank M.keys fr + x] rev) (R (.returned (.tuple #[.string M.keys[rank M.keys fr + x], .bool true])) w3)
          (∃ k3, k3 < M.keys.length - rank M.keys fr - x ∧ (Keeps no w1 w3 ∧ ∃ x' : Nat, IntKind.wrap .i64 ((x : Int) + 1) = x' ∧ x' ≤ M.keys.length - rank M.keys fr ∧ k3 = M.keys.length - rank M.keys fr - x' ∧ nextGo M rev to (M.keys.drop (rank M.keys fr + x')) = M.next rev fr to)) := by
      intro hc w3 hk3 R hR
      refine iteP_of (fun h5 => hR _ _ ⟨?_, hk3⟩) (fun h5 => ?_)
      · rw [← hgo]; unfold nextGo; rw [if_neg (by rw [hc]; exact id), if_pos h5]
      · rw [IntWalk.i64_in _ (by omega)]
        refine ⟨_, ?_, hk3, x + 1, by omega, by omega, rfl, ?_⟩
        · omega
        · rw [← hgo]
          conv => rhs; unfold nextGo
          rw [if_neg (by rw [hc]; exact id), if_neg (by rw [h5]; simp)]
    refine iteP_of (fun h3 => ?_) (fun h3 => ?_)
    · have h3 : to ≠ emp := by rw [toList_beq] at h3; simpa [emp] using h3
      refine iteP_of (fun h4 => ?_) (fun h4 => ?_)
      · have h4 : Go.L.lt M.keys[rank M.keys fr + x] to = false := by simpa [Go.L.lt] using h4
        refine ⟨?_, hk⟩
        rw [← hgo]; unfold nextGo; rw [if_pos ⟨h3, h4⟩]; rfl
      · have h4 : Go.L.lt M.keys[rank M.keys fr + x] to = true := by simpa [Go.L.lt] using h4
        refine hhas fun w3 hk3 => ⟨_, rfl, ?_⟩
        exact hback (by simp [h4]) w3 hk3 _ fun e w' h => h
    · have h3 : to = emp := by rw [toList_beq] at h3; simpa [emp] using h3
      refine hhas fun w3 hk3 => ⟨_, rfl, ?_⟩
      exact hback (by simp [h3]) w3 hk3 _ fun e w' h => h
  · have h0 : ¬ x < M.keys.length - rank M.keys fr := by simp at h0; omega
    refine ⟨?_, hk⟩
    rw [← hgo, List.drop_eq_nil_of_le (by omega)]
    rfl
end Go.Proofs
