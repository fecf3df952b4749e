/- The law SpansTrim: the walk. Seat s14. -/
import Derived.Test.YtgmfilpbabkjeaaLwL
set_option linter.unusedVariables false
set_option linter.unusedSimpArgs false
set_option maxRecDepth 100000
namespace Go.Proofs
open Go.L Go.RowKit Go.Sort

/-- Whole numbers at an address. -/
def IntsAt (w : World) (a : Option Addr) (l : List Int) : Prop := ∀ i (h : i < l.length), ∃ p : Addr, a = some p ∧ p.block < w.heap.size ∧ w.cell? (p.add (i * 1)) = some (.int .i64 l[i])
theorem IntsAt.below {w w' : World} {a : Option Addr} {l : List Int} (h : IntsAt w a l) (hk : Below w.heap.size w w') : IntsAt w' a l := by
  intro i hi
  obtain ⟨p, h1, h2, h3⟩ := h i hi
  refine ⟨p, h1, Nat.lt_of_lt_of_le h2 hk.size, ?_⟩
  exact (World.cell?_of_block (by rw [blockAdd]; exact hk.block _ h2)).trans h3
/-- Two spans that live side by side. -/
structure Two (B : Nat) (W w : World) (bs bt N N2 : Nat) (M M2 : Sp) (S T : Nat → Prop) : Prop where
  s : Live B W w bs N M S
  t : Live B W w bt N2 M2 T
  apart : ∀ q, S q → ¬ T q
section
variable {B bs bt N N2 N' : Nat} {W w w' : World} {M M2 M' : Sp} {S T S' : Nat → Prop}
theorem Two.left (h : Two B W w bs bt N N2 M M2 S T) (hl : Live B W w' bs N' M' S') (hk : Keeps S w w') (hS : ∀ q, S' q → S q ∨ w.heap.size ≤ q) : Two B W w' bs bt N' N2 M' M2 S' T :=
  ⟨hl, h.t.keeps hk (fun q hq e => h.apart q e hq) h.s.sge, fun q hq e => (hS q hq).elim (fun h1 => h.apart q h1 e) (fun h1 => by have := h.t.slt q e; omega)⟩
theorem Two.right (h : Two B W w bs bt N N2 M M2 S T) (hl : Live B W w' bt N' M' S') (hk : Keeps T w w') (hS : ∀ q, S' q → T q ∨ w.heap.size ≤ q) : Two B W w' bs bt N N' M M' S S' :=
  ⟨h.s.keeps hk (fun q hq e => h.apart q hq e) h.t.sge, hl, fun q hq e => (hS q e).elim (fun h1 => h.apart q hq h1) (fun h1 => by have := h.s.slt q hq; omega)⟩
theorem Two.quiet (h : Two B W w bs bt N N2 M M2 S T) (hk : Keeps no w w') : Two B W w' bs bt N N2 M M2 S T := ⟨h.s.quiet hk, h.t.quiet hk, h.apart⟩
end
theorem wfI {i : Int} (h : (Lit.int .i64 i).wf = true) : True := trivial
set_option maxHeartbeats 4000000 in
theorem TrimWalk {p p2 : Option Addr} {l : List Act} {later : List Int} {cap cap2 : Nat} (rev : Int) (w : World) (ha : ActsAt w p l) (hl : l.length ≤ maxLen) (hi2 : IntsAt w p2 later) :
    Calls Try.prog 5 #[.slice p l.length cap, .int .i64 rev, .slice p2 later.length cap2] w fun e w' => e = .returned (.bool true) ∧ Below w.heap.size w w' := by
  refine F5.calls_of _ _ _ _ _ _ _ ?_
  unfold F5.sh
  refine (awake8 w).mono ?_
  rintro e w1 ⟨rfl, b1⟩
  refine ⟨true, rfl, Go.L.iteP_false rfl ?_⟩
  have ha1 := ha.below b1
  refine (few9 ha1 hl).mono ?_
  rintro e w3 ⟨rfl, rfl⟩
  refine ⟨_, rfl, iteP_of (fun h0 => ⟨rfl, b1⟩) (fun h0 => iteP_of (fun _ => ⟨rfl, b1⟩) (fun g1 => iteP_of (fun _ => ⟨rfl, b1⟩) (fun g2 => iteP_of (fun _ => ⟨rfl, b1⟩) (fun g3 => ?_))))⟩
  have hf : few l = true := by simpa using h0
  have g1 : later.length ≤ 12 := by simp at g1; omega
  have hlen := (few_size hf).1
  refine (Live.new b1 b1.size).mono ?_
  rintro e w5 ⟨bs, S0, rfl, h5, k5, _⟩
  refine ⟨_, rfl, (Live.new h5.bel h5.ge).mono ?_⟩
  rintro e w7 ⟨bt, T0, rfl, t7, k7, n7⟩
  have tw7 : Two w.heap.size w w7 bs bt 0 0 .empty .empty S0 T0 := ⟨h5.quiet k7, t7, fun q hq e => by have := n7 q e; have := h5.slt q hq; omega⟩
  refine ⟨_, rfl, fun i k w9 => ∃ x : Nat, i = x ∧ x ≤ l.length ∧ k = l.length - x ∧ ∃ S T, Two w.heap.size w w9 bs bt x x (play .empty (l.take x)) (play .empty (l.take x)) S T, ⟨_, 0, rfl, by omega, rfl, S0, T0, tw7⟩, ?_⟩
  rintro i k w9 ⟨x, rfl, hx, rfl, S, T, h9⟩ z
  refine iteP_of (fun hi => ?_) (fun hi => ?_)
  · have hi : x < l.length := by simpa using hi
    have hsz := actsKeys hf hi
    have kd : Keeps no w9 w9.drew := (Keeps.refl (S := no)).drew
    have hd := h9.quiet kd
    obtain ⟨q, hq, _, c0, _, _⟩ := (ActsAt.below (w := w) ha h9.s.bel) x hi
    obtain ⟨q', hq', _, _, c1, c2⟩ := (ActsAt.below (w := w) ha hd.s.bel) x hi
    rw [Int.toNat_natCast]
    have again : ∀ {w' : World} {M' : Sp} {S' T' : Nat → Prop}, Two w.heap.size w w' bs bt (x + 1) (x + 1) M' M' S' T' → M' = step (play .empty (l.take x)) l[x] →
        ∃ k3, k3 < l.length - x ∧ ∃ y : Nat, IntKind.wrap .i64 ((x : Int) + 1) = y ∧ y ≤ l.length ∧ k3 = l.length - y ∧ ∃ S T, Two w.heap.size w w' bs bt y y (play .empty (l.take y)) (play .empty (l.take y)) S T := by
      intro w' M' S' T' ht e
      rw [IntWalk.i64_in _ (by omega)]
      refine ⟨l.length - (x + 1), by omega, x + 1, by omega, by omega, rfl, S', T', ?_⟩
      rw [play_take hi, ← e]; exact ht
    refine ⟨⟨by omega, by omega⟩, onSome_of hq ⟨_, c0, iteP_of (fun h6 => ?_) (fun h6 => ?_)⟩⟩
    · have es : step (play .empty (l.take x)) l[x] = ((play .empty (l.take x)).put l[x].key l[x].rev).1 := by unfold step; rw [if_pos (by simpa using h6)]
      refine ⟨⟨by omega, by omega⟩, onSome_of hq' ⟨_, c1, ⟨by omega, by omega⟩, onSome_of hq' ⟨_, c2, ?_⟩⟩⟩
      refine (hd.s.put (by omega) l[x].key hsz l[x].rev).mono ?_
      rintro e w10 ⟨rfl, S10, l10, k10, n10⟩
      have t10 := (hd.left l10 k10 n10).quiet (Keeps.refl (S := no)).drew
      obtain ⟨q2, hq2, _, _, d1, d2⟩ := (ActsAt.below (w := w) ha t10.s.bel) x hi
      refine ⟨_, rfl, ⟨by omega, by omega⟩, onSome_of hq2 ⟨_, d1, ⟨by omega, by omega⟩, onSome_of hq2 ⟨_, d2, ?_⟩⟩⟩
      refine (t10.t.put (by omega) l[x].key hsz l[x].rev).mono ?_
      rintro e w12 ⟨rfl, S12, l12, k12, n12⟩
      exact ⟨_, rfl, again (t10.right l12 k12 n12) es.symm⟩
    · have es : step (play .empty (l.take x)) l[x] = ((play .empty (l.take x)).drop l[x].key l[x].rev).1 := by unfold step; rw [if_neg (by simpa using h6)]
      refine ⟨⟨by omega, by omega⟩, onSome_of hq' ⟨_, c1, ⟨by omega, by omega⟩, onSome_of hq' ⟨_, c2, ?_⟩⟩⟩
      refine (hd.s.drop l[x].key hsz l[x].rev).mono ?_
      rintro e w10 ⟨rfl, l10, k10⟩
      have t10 := (hd.left l10 k10 (fun q hq => .inl hq)).quiet (Keeps.refl (S := no)).drew
      obtain ⟨q2, hq2, _, _, d1, d2⟩ := (ActsAt.below (w := w) ha t10.s.bel) x hi
      refine ⟨_, rfl, ⟨by omega, by omega⟩, onSome_of hq2 ⟨_, d1, ⟨by omega, by omega⟩, onSome_of hq2 ⟨_, d2, ?_⟩⟩⟩
      refine (t10.t.drop l[x].key hsz l[x].rev).mono ?_
      rintro e w12 ⟨rfl, l12, k12⟩
      have t12 := t10.right l12 k12 (fun q hq => .inl hq)
      refine ⟨_, rfl, again (M' := ((play .empty (l.take x)).drop l[x].key l[x].rev).1) (S' := S) (T' := T) ⟨⟨t12.s.rep.mono (by omega), t12.s.bel, t12.s.ge, by omega⟩, ⟨t12.t.rep.mono (by omega), t12.t.bel, t12.t.ge, by omega⟩, t12.apart⟩ es.symm⟩
  · have hi : x = l.length := by have : ¬ x < l.length := by simpa using hi
                                 omega
    subst hi
    have hM := play_Wf hf l.length (Nat.le_refl _)
    rw [List.take_length] at h9 hM
    generalize play .empty l = M at h9 hM
    have hkl : M.keys.length ≤ 60 := by obtain ⟨bm, kv, g, hx', _⟩ := h9.s.rep; have := hx'.lenK; omega
    refine (h9.t.trim rev).mono ?_
    rintro e w18 ⟨rfl, T18, l18, k18, n18⟩
    have t18 := h9.right l18 k18 (fun q hq => .inl (n18 q hq))
    refine ⟨_, rfl, Go.L.iteP_false (by simp) ?_⟩
    refine (t18.t.trim rev).mono ?_
    rintro e w20 ⟨rfl, T20, l20, k20, n20⟩
    have t20 := t18.right l20 k20 (fun q hq => .inl (n20 q hq))
    rw [trim_trimN]
    refine ⟨_, rfl, Go.L.iteP_false rfl ?_⟩
    have hT := (hM.trim rev).trim rev
    have hkeys : ∀ r, rev ≤ r → keysL ((M.trim rev).trim rev) r = keysL M r := fun r hr => by rw [keysL_trim _ hr, keysL_trim _ hr]
    have hev : ∀ r, ((M.trim rev).trim rev).events rev r = M.events rev r := fun r => by rw [events_trim (hM.trim rev), events_trim hM]
    have hcnt : ∀ r, rev ≤ r → ((M.trim rev).trim rev).count r = M.count r := fun r hr => by rw [count_trim _ hr, count_trim _ hr]
    generalize (M.trim rev).trim rev = M2 at *
    refine ⟨fun i k w22 => ∃ x : Nat, i = x ∧ x ≤ later.length ∧ k = later.length - x ∧ Two w.heap.size w w22 bs bt l.length l.length M M2 S T20, ⟨_, 0, rfl, by omega, rfl, t20⟩, ?_⟩
    rintro i k w22 ⟨x, rfl, hx, rfl, h22⟩ z
    refine iteP_of (fun hi => ?_) (fun hi => ⟨rfl, h22.s.bel⟩)
    have hi : x < later.length := by simpa using hi
    obtain ⟨q, hq, _, c0⟩ := (IntsAt.below (w := w) hi2 h22.s.bel) x hi
    rw [Int.toNat_natCast]
    have again : ∀ {w' : World}, Two w.heap.size w w' bs bt l.length l.length M M2 S T20 → ∃ k6, k6 < later.length - x ∧ ∃ y : Nat, IntKind.wrap .i64 ((x : Int) + 1) = y ∧ y ≤ later.length ∧ k6 = later.length - y ∧ Two w.heap.size w w' bs bt l.length l.length M M2 S T20 := by
      intro w' ht
      rw [IntWalk.i64_in _ (by omega)]
      exact ⟨later.length - (x + 1), by omega, x + 1, by omega, by omega, rfl, ht⟩
    refine ⟨⟨by omega, by omega⟩, onSome_of hq ⟨_, c0, iteP_of (fun h1 => again h22) (fun h1 => ?_)⟩⟩
    have h1 : rev ≤ later[x] := by simpa using h1
    generalize later[x] = r at *
    refine (h22.s.keys (by omega) hM r).mono ?_
    rintro e w23 ⟨v11, rfl, r11, _, k23⟩
    have h23 := h22.quiet k23
    obtain ⟨xa, xc, e11, _⟩ := row_shape r11
    refine ⟨_, _, _, e11, ?_⟩
    refine (h23.t.keys (by omega) hT r).mono ?_
    rintro e w25 ⟨v12, rfl, r12, _, k25⟩
    have h25 := h23.quiet k25
    obtain ⟨ya, yc, e12, _⟩ := row_shape r12
    refine ⟨_, _, _, e12, ?_⟩
    refine (h25.s.events rev r).mono ?_
    rintro e w27 ⟨v13, rfl, r13, _, k27⟩
    have h27 := h25.quiet k27
    obtain ⟨ea, ec, e13, _⟩ := row_shape r13
    refine ⟨_, _, _, e13, ?_⟩
    refine (h27.t.events rev r).mono ?_
    rintro e w29 ⟨v14, rfl, r14, _, k29⟩
    have h29 := h27.quiet k29
    obtain ⟨fa, fc, e14, _⟩ := row_shape r14
    refine ⟨_, _, _, e14, ?_⟩
    rw [hkeys r h1] at r12 e12 ⊢
    rw [hev r] at r14 e14 ⊢
    have lX : (keysL M r).length < 1000000000 := by have := keysL_len M r; omega
    have lE : (M.events rev r).length < 3000000000 := by have := len_events M rev r; have := h22.s.pairs; omega
    refine Go.L.iteP_false (by simp) (Go.L.iteP_false (by simp) ?_)
    refine (h29.s.count r).mono ?_
    rintro e w31 ⟨rfl, _, k31⟩
    have h31 := h29.quiet k31
    refine ⟨_, rfl, (h31.t.count r).mono ?_⟩
    rintro e w33 ⟨rfl, _, k33⟩
    have h33 := h31.quiet k33
    refine ⟨_, rfl, Go.L.iteP_false (by rw [hcnt r h1]; simp) ?_⟩
    have q11 := ((((KsAt.of r11).quiet k25).quiet k27).quiet k29).quiet (k31.transN k33)
    have q12 := (((KsAt.of r12).quiet k27).quiet k29).quiet (k31.transN k33)
    have q13 := ((EvAt.of r13).quiet k29).quiet (k31.transN k33)
    have q14 := (EvAt.of r14).quiet (k31.transN k33)
    rw [e11] at q11; rw [e12] at q12; rw [e13] at q13; rw [e14] at q14
    generalize keysL M r = X at *
    generalize M.events rev r = E at *
    refine ⟨fun i k w' => ∃ c : Nat, i = c ∧ c ≤ X.length ∧ k = X.length - c ∧ Two w.heap.size w w' bs bt l.length l.length M M2 S T20 ∧ KsAt w' (.slice xa X.length xc) X ∧ KsAt w' (.slice ya X.length yc) X ∧ EvAt w' (.slice ea E.length ec) E ∧ EvAt w' (.slice fa E.length fc) E,
      ⟨_, 0, rfl, by omega, rfl, h33, q11, q12, q13, q14⟩, ?_⟩
    rintro i k w35 ⟨c, rfl, hc, rfl, h35, s11, s12, s13, s14⟩ z3
    have kd : Keeps no w35 w35.drew := (Keeps.refl (S := no)).drew
    refine iteP_of (fun hi => ?_) (fun hi => ?_)
    · have hi : c < X.length := by simpa using hi
      obtain ⟨p1, hp1, d1⟩ := (s11.quiet kd).get hi
      obtain ⟨p2', hp2, d2⟩ := (s12.quiet kd).get hi
      rw [Int.toNat_natCast]
      refine ⟨⟨by omega, by omega⟩, onSome_of hp1 ⟨_, d1, ⟨by omega, by omega⟩, onSome_of hp2 ⟨_, d2, Go.L.iteP_false (by simp) ?_⟩⟩⟩
      rw [IntWalk.i64_in _ (by omega)]
      exact ⟨X.length - (c + 1), by omega, c + 1, by omega, by omega, rfl, h35.quiet kd, s11.quiet kd, s12.quiet kd, s13.quiet kd, s14.quiet kd⟩
    · refine ⟨fun i k w' => ∃ c : Nat, i = c ∧ c ≤ E.length ∧ k = E.length - c ∧ Two w.heap.size w w' bs bt l.length l.length M M2 S T20 ∧ EvAt w' (.slice ea E.length ec) E ∧ EvAt w' (.slice fa E.length fc) E,
        ⟨_, 0, rfl, by omega, rfl, h35, s13, s14⟩, ?_⟩
      rintro i k w36 ⟨c, rfl, hc, rfl, h36, u13, u14⟩ z4
      have kd : Keeps no w36 w36.drew := (Keeps.refl (S := no)).drew
      refine iteP_of (fun hi => ?_) (fun hi => again h36)
      have hi : c < E.length := by simpa using hi
      obtain ⟨p1, hp1, d0, d1, d2⟩ := (u13.quiet kd).get hi
      obtain ⟨p2', hp2, f0, f1, f2⟩ := (u14.quiet kd).get hi
      rw [Int.toNat_natCast]
      refine ⟨⟨by omega, by omega⟩, onSome_of hp1 ⟨_, d0, _, d1, _, d2, ⟨by omega, by omega⟩, onSome_of hp2 ⟨_, f0, _, f1, _, f2, ?_⟩⟩⟩
      refine rdRunK_of (eqE (.inr rfl) _ _ E[c] E[c] w36.drew) ⟨_, rfl, Go.L.iteP_false (by simp) ?_⟩
      rw [IntWalk.i64_in _ (by omega)]
      exact ⟨E.length - (c + 1), by omega, c + 1, by omega, by omega, rfl, h36.quiet kd, u13.quiet kd, u14.quiet kd⟩
end Go.Proofs
