/- The law SpansEvents: the walk. Seat s14. -/
import Derived.Test.YtgmfilpbabkjeaaSpY
set_option linter.unusedVariables false
set_option linter.unusedSimpArgs false
set_option maxRecDepth 100000
namespace Go.Proofs
open Go.L Go.RowKit Go.Sort

set_option maxHeartbeats 1000000 in
theorem EventsWalk {a : Option Addr} {l : List Act} {cap : Nat} (A B C : Int) (w : World) (ha : ActsAt w a l) (hl : l.length ≤ maxLen) :
    Calls Try.prog 7 #[.slice a l.length cap, .int .i64 A, .int .i64 B, .int .i64 C] w fun e w' => e = .returned (.bool true) ∧ Below w.heap.size w w' := by
  refine F7.calls_of _ _ _ _ _ _ ?_
  unfold F7.sh
  refine (awake8 w).mono ?_
  rintro e w1 ⟨rfl, b1⟩
  refine ⟨true, rfl, Go.L.iteP_false rfl ?_⟩
  have ha1 := ha.below b1
  refine (few9 ha1 hl).mono ?_
  rintro e w3 ⟨rfl, rfl⟩
  refine ⟨_, rfl, iteP_of (fun h0 => ⟨rfl, b1⟩) (fun h0 => iteP_of (fun h0 => ⟨rfl, b1⟩) (fun hab => iteP_of (fun h0 => ⟨rfl, b1⟩) (fun hbc => ?_)))⟩
  have hf : few l = true := by simpa using h0
  have hab : A ≤ B := by simpa using hab
  have hbc : B ≤ C := by simpa using hbc
  have hlen := (few_size hf).1
  refine (Live.new b1 b1.size).mono ?_
  rintro e w5 ⟨bs, S0, rfl, h5, k5, _⟩
  have ha5 := ha1.keeps k5 (fun _ h => h.elim)
  refine ⟨_, rfl, fun i k w7 => ∃ x : Nat, i = x ∧ x ≤ l.length ∧ k = l.length - x ∧ ∃ S, Live w.heap.size w w7 bs x (play .empty (l.take x)) S ∧ ActsAt w7 a l, ⟨_, 0, rfl, by omega, rfl, S0, h5, ha5⟩, ?_⟩
  rintro i k w7 ⟨x, rfl, hx, rfl, S, h7, ha7⟩ z
  refine iteP_of (fun hi => ?_) (fun hi => ?_)
  · have hi : x < l.length := by simpa using hi
    refine play_round h7 (by omega) ha7 hi (actsKeys hf hi) fun w' S' hl' hk' hb' => ?_
    rw [IntWalk.i64_in _ (by omega)]
    refine ⟨l.length - (x + 1), by omega, x + 1, by omega, by omega, rfl, S', ?_, ?_⟩
    · rw [play_take hi]; exact hl'
    · refine ActsAt.below (w := w) ha hl'.bel
  · have hi : x = l.length := by have : ¬ x < l.length := by simpa using hi
                                 omega
    subst hi
    rw [List.take_length] at h7
    generalize play .empty l = M at h7
    have hlt := h7.slt
    have hp := h7.pairs
    have hle : ∀ fr to, (M.events fr to).length < 2000000000 := fun fr to => by have := len_events M fr to; omega
    refine (h7.events A B).mono ?_
    rintro e w12 ⟨v6, rfl, r6, h12, k12⟩
    have r6b := row_base r6 (B' := w7.heap.size) (by have := k12.size; omega)
    obtain ⟨_, _, e6, _⟩ := row_shape r6
    refine ⟨_, _, _, e6, ?_⟩
    rw [← e6]
    refine append_ev (base := w7.heap.size) (l := []) (World.ownsRow_nil _ _ _ _) r6 k12.size (by simp) (hle _ _) fun v7 w14 r7 k14 => ?_
    rw [List.nil_append] at r7
    obtain ⟨_, _, e7, _⟩ := row_shape r7
    refine ⟨_, _, _, e7, ?_⟩
    have k14 : Keeps no w12 w14 := k14.mono fun q _ h => by simp [Value.ownBlock] at h
    have h14 := h12.quiet k14
    refine (h14.events B C).mono ?_
    rintro e w15 ⟨v8, rfl, r8, h15, k15⟩
    obtain ⟨_, _, e8, _⟩ := row_shape r8
    refine ⟨_, _, _, e8, ?_⟩
    rw [← e7, ← e8]
    have r7b := row_quiet r7 k15
    have hs7 : w7.heap.size ≤ w15.heap.size := by have := k12.size; have := k14.size; have := k15.size; omega
    refine append_ev (base := w7.heap.size) r7b r8 hs7 (hle _ _) (hle _ _) fun v9 w17 r9 k17 => ?_
    rw [events_split M hab hbc] at r9
    obtain ⟨_, _, e9, _⟩ := row_shape r9
    refine ⟨_, _, _, e9, ?_⟩
    have hv7 : ∀ q, v7.ownBlock = some q → w7.heap.size ≤ q := fun q hq => (r7.lt q hq).1
    have h17 := h15.keeps k17 (fun q hq e => by have := hlt q hq; have := hv7 q e; omega) (fun q e => by have := hv7 q e; have := h7.ge; omega)
    refine (h17.events A C).mono ?_
    rintro e w18 ⟨v10, rfl, r10, h18, k18⟩
    obtain ⟨_, _, e10, _⟩ := row_shape r10
    refine ⟨_, _, _, e10, Go.L.iteP_false (by simp) ?_⟩
    refine (h18.events B B).mono ?_
    rintro e w20 ⟨v11, rfl, r11, h20, k20⟩
    rw [events_none (M := M) (Int.le_refl B)] at r11
    obtain ⟨_, _, e11, _⟩ := row_shape r11
    refine ⟨_, _, _, e11, Go.L.iteP_false (by simp) ?_⟩
    refine (h20.events C A).mono ?_
    rintro e w22 ⟨v12, rfl, r12, h22, k22⟩
    rw [events_none (M := M) (fr := C) (to := A) (by omega)] at r12
    obtain ⟨_, _, e12, _⟩ := row_shape r12
    refine ⟨_, _, _, e12, Go.L.iteP_false (by simp) ?_⟩
    have q9 := (EvAt.of r9).quiet ((k18.transN k20).transN k22)
    have q10 := (EvAt.of r10).quiet (k20.transN k22)
    have hin : ∀ x ∈ M.events A C, A < x.rev ∧ x.rev ≤ C := fun x hx => mem_events hx
    have hL := hle A C
    generalize M.events A C = L at *
    refine ⟨fun i k w25 => ∃ x : Nat, i = x ∧ x ≤ L.length ∧ k = L.length - x ∧ Live w.heap.size w w25 bs l.length M S ∧ EvAt w25 v9 L ∧ EvAt w25 v10 L, ⟨_, 0, rfl, by omega, rfl, h22, q9, q10⟩, ?_⟩
    rintro i k w25 ⟨x, rfl, hx, rfl, h25, c9, c10⟩ z
    refine iteP_of (fun hi => ?_) (fun hi => ⟨rfl, h25.bel⟩)
    have hi : x < L.length := by simpa using hi
    have kd : Keeps no w25 w25.drew := (Keeps.refl (S := no)).drew
    have hd := h25.quiet kd
    have d9 := c9.quiet kd
    have d10 := c10.quiet kd
    obtain ⟨a9, c9', hv9, hc9⟩ := d9
    obtain ⟨a10, c10', hv10, hc10⟩ := d10
    obtain ⟨p, hp1, _, u0, u1, u2⟩ := hc9 x hi
    obtain ⟨p', hp2, _, u0', u1', u2'⟩ := hc10 x hi
    rw [e9] at hv9; rw [e10] at hv10
    injection hv9 with ea9 _ _
    injection hv10 with ea10 _ _
    rw [Int.toNat_natCast]
    refine ⟨⟨by omega, by omega⟩, onSome_of (ea9.trans hp1) ⟨_, u0, _, u1, _, u2, ⟨by omega, by omega⟩, onSome_of (ea10.trans hp2) ⟨_, u0', _, u1', _, u2', ?_⟩⟩⟩
    refine rdRunK_of (eqE (.inr rfl) _ _ L[x] L[x] w25.drew) ⟨_, rfl, Go.L.iteP_false (by simp) ?_⟩
    have hin' := hin L[x] (List.getElem_mem hi)
    refine ⟨⟨by omega, by omega⟩, onSome_of (ea10.trans hp2) ⟨_, u0', Go.L.iteP_false (by simp; omega) ?_⟩⟩
    refine ⟨⟨by omega, by omega⟩, onSome_of (ea10.trans hp2) ⟨_, u0', Go.L.iteP_false (by simp; omega) ?_⟩⟩
    rw [IntWalk.i64_in _ (by omega)]
    exact ⟨L.length - (x + 1), by omega, x + 1, by omega, by omega, rfl, hd, c9.quiet kd, c10.quiet kd⟩
end Go.Proofs
