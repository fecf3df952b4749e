/- The law SpansLead: the walk. Seat s14. -/
import Derived.Test.YtgmfilpbabkjeaaSpZ
set_option linter.unusedVariables false
set_option linter.unusedSimpArgs false
set_option maxRecDepth 100000
namespace Go.Proofs
open Go.L Go.RowKit Go.Sort

theorem play_Wf {l : List Act} (hf : few l = true) : ∀ x, x ≤ l.length → (play .empty (l.take x)).Wf := by
  intro x
  induction x with
  | zero => intro _; rw [List.take_zero]; exact Sp.Wf.empty
  | succ x ih =>
    intro hx
    rw [play_take (by omega)]
    exact (ih (by omega)).step ((few_size hf).2 _ (List.getElem_mem (by omega))).1
/-- The memory of the law behind its loop: spans, two lists of keys, one of events. -/
structure LeadAt (B : Nat) (W w : World) (bs N : Nat) (M : Sp) (S : Nat → Prop) (xv yv ev : Value) (X Y : List ByteArray) (E : List Ev) : Prop where
  live : Live B W w bs N M S
  x : KsAt w xv X
  y : KsAt w yv Y
  e : EvAt w ev E
theorem LeadAt.quiet {B bs N : Nat} {W w w' : World} {M : Sp} {S : Nat → Prop} {xv yv ev : Value} {X Y : List ByteArray} {E : List Ev} (h : LeadAt B W w bs N M S xv yv ev X Y E) (hk : Keeps no w w') : LeadAt B W w' bs N M S xv yv ev X Y E :=
  ⟨h.live.quiet hk, h.x.quiet hk, h.y.quiet hk, h.e.quiet hk⟩
theorem LeadAt.drew {B bs N : Nat} {W w : World} {M : Sp} {S : Nat → Prop} {xv yv ev : Value} {X Y : List ByteArray} {E : List Ev} (h : LeadAt B W w bs N M S xv yv ev X Y E) : LeadAt B W w.drew bs N M S xv yv ev X Y E :=
  h.quiet (Keeps.refl (S := no)).drew
theorem KsAt.get {w : World} {a : Option Addr} {n c : Nat} {l : List ByteArray} (h : KsAt w (.slice a n c) l) {i : Nat} (hi : i < l.length) : ∃ p : Addr, a = some p ∧ w.cell? (p.add (i * 1)) = some (.string l[i]) := by
  obtain ⟨a', c', hv, h⟩ := h
  injection hv with e1 e2 e3
  subst e1
  exact h i hi
theorem EvAt.get {w : World} {a : Option Addr} {n c : Nat} {l : List Ev} (h : EvAt w (.slice a n c) l) {i : Nat} (hi : i < l.length) : ∃ p : Addr, a = some p ∧ w.cell? (p.add (i * 3)) = some (.int .i64 l[i].rev) ∧
  w.cell? ((p.add (i * 3)).add 1) = some (.string l[i].key) ∧ w.cell? ((p.add (i * 3)).add 2) = some (.bool l[i].add) := by
  obtain ⟨a', c', hv, h⟩ := h
  injection hv with e1 e2 e3
  subst e1
  obtain ⟨p, h1, _, h2⟩ := h i hi
  exact ⟨p, h1, h2⟩
theorem any_take {α : Type} (p : α → Bool) {l : List α} {i : Nat} (h : i < l.length) : (l.take (i + 1)).any p = ((l.take i).any p || p l[i]) := by
  rw [List.take_succ_eq_append_getElem h, List.any_append]; simp
theorem filter_take {α : Type} (p : α → Bool) {l : List α} {i : Nat} (h : i < l.length) : (l.take (i + 1)).filter p = (l.take i).filter p ++ (if p l[i] then [l[i]] else []) := by
  rw [List.take_succ_eq_append_getElem h, List.filter_append]
  congr 1
  by_cases h : p l[i] <;> simp [h]
set_option maxHeartbeats 1000000 in
theorem lead_inner {B bs N : Nat} {W w : World} {M : Sp} {S : Nat → Prop} {xa ya ea : Option Addr} {xc yc ec : Nat} {X Y : List ByteArray} {E : List Ev} {a b : Int}
    (h : LeadAt B W w bs N M S (.slice xa X.length xc) (.slice ya Y.length yc) (.slice ea E.length ec) X Y E) (hM : M.Wf) (ha : 0 ≤ a) (hab : a ≤ b) (hX : X = keysL M a) (hY : Y = keysL M b) (hE : E = M.events a b)
    (lX : X.length < 1000000000) (lE : E.length < 3000000000) {x : Nat} (hx : x < Y.length) {R : Ending → World → Prop} {XX : List PanicEntry → World → Prop} {K : World → Prop}
    (hK : ∀ w', LeadAt B W w' bs N M S (.slice xa X.length xc) (.slice ya Y.length yc) (.slice ea E.length ec) X Y E → K w') :
    ((0 : Int) ≤ (x : Int) ∧ (x : Int) < ((Y.length : Nat) : Int)) ∧
    onSome ya fun p8 =>
    ∃ x16 : ByteArray, w.cell? (Addr.add p8 (Int.toNat (x : Int) * 1)) = some (.string x16) ∧
    Calls Try.prog 19 #[.pointer (some ⟨bs, 0, none⟩), .string x16, .int .i64 b] w (endK (fun v9 w19 =>
        ∃ x17 : Bool, v9 = .bool x17 ∧
        iteP (!x17) (
          R (.returned (.bool false)) w19) (
          ∃ I3 : Bool → Int → Nat → World → Prop, (∃ k8, I3 false 0 k8 w19) ∧
          ∀ in1 : Bool, ∀ k7 : Int, ∀ (k9 : Nat) (w21 : World), I3 in1 k7 k9 w21 → ∀ z3 : Fr,
          iteP ((decide (k7 < ((X.length : Nat) : Int)))) (
            iteP in1 (
              ∃ k10, k10 < k9 ∧ I3 true ((IntKind.wrap .i64 (k7 + 1))) k10 w21.drew) (
              ((0 : Int) ≤ k7 ∧ k7 < ((X.length : Nat) : Int)) ∧
              onSome xa fun p9 =>
              ∃ x18 : ByteArray, w21.drew.cell? (Addr.add p9 (Int.toNat k7 * 1)) = some (.string x18) ∧
              ((0 : Int) ≤ (x : Int) ∧ (x : Int) < ((Y.length : Nat) : Int)) ∧
              onSome ya fun p10 =>
              ∃ x19 : ByteArray, w21.drew.cell? (Addr.add p10 (Int.toNat (x : Int) * 1)) = some (.string x19) ∧
              ∃ k10, k10 < k9 ∧ I3 (x18.toList == x19.toList) ((IntKind.wrap .i64 (k7 + 1))) k10 w21.drew)) (
            ∃ I4 : Bool → Int → Nat → World → Prop, (∃ k12, I4 in1 0 k12 w21) ∧
            ∀ in2 : Bool, ∀ k11 : Int, ∀ (k13 : Nat) (w22 : World), I4 in2 k11 k13 w22 → ∀ z4 : Fr,
            iteP ((decide (k11 < ((E.length : Nat) : Int)))) (
              ((0 : Int) ≤ k11 ∧ k11 < ((E.length : Nat) : Int)) ∧
              onSome ea fun p11 =>
              ∃ x20 : ByteArray, w22.drew.cell? (Addr.add (Addr.add p11 (Int.toNat k11 * 3)) 1) = some (.string x20) ∧
              ((0 : Int) ≤ (x : Int) ∧ (x : Int) < ((Y.length : Nat) : Int)) ∧
              onSome ya fun p12 =>
              ∃ x21 : ByteArray, w22.drew.cell? (Addr.add p12 (Int.toNat (x : Int) * 1)) = some (.string x21) ∧
              iteP (x20.toList == x21.toList) (
                ((0 : Int) ≤ k11 ∧ k11 < ((E.length : Nat) : Int)) ∧
                onSome ea fun p13 =>
                ∃ x22 : Bool, w22.drew.cell? (Addr.add (Addr.add p13 (Int.toNat k11 * 3)) 2) = some (.bool x22) ∧
                iteP (in2 == x22) (
                  R (.returned (.bool false)) w22.drew) (
                  ((0 : Int) ≤ k11 ∧ k11 < ((E.length : Nat) : Int)) ∧
                  onSome ea fun p14 =>
                  ∃ x23 : Bool, w22.drew.cell? (Addr.add (Addr.add p14 (Int.toNat k11 * 3)) 2) = some (.bool x23) ∧
                  ∃ k14, k14 < k13 ∧ I4 x23 ((IntKind.wrap .i64 (k11 + 1))) k14 w22.drew)) (
                ∃ k14, k14 < k13 ∧ I4 in2 ((IntKind.wrap .i64 (k11 + 1))) k14 w22.drew)) (
              iteP (!in2) (
                R (.returned (.bool false)) w22) (
                K w22))))) XX) := by
  obtain ⟨p, hp, hc⟩ := h.y.get hx
  have hYx : Y[x] ∈ Y := List.getElem_mem hx
  have hall : ∀ y ∈ Y, y ∈ M.keys ∧ M.has y b = true := by
    rw [hY]; intro y hy; exact List.mem_filter.1 hy
  have hmem := hall _ hYx
  have hsz : Y[x].size ≤ maxLen := hM.ok.size _ hmem.1
  have hany : X.any (fun k => decide (k = Y[x])) = M.has Y[x] a := by
    rw [Bool.eq_iff_iff, List.any_eq_true, hX]
    constructor
    · rintro ⟨k, hk, e⟩
      have e : k = Y[x] := by simpa using e
      subst e; exact (List.mem_filter.1 hk).2
    · intro hh; exact ⟨Y[x], List.mem_filter.2 ⟨hmem.1, hh⟩, by simp⟩
  have halt : alt (M.has Y[x] a) (E.filter fun e => decide (e.key = Y[x])) = some true := by rw [hE, lead hM ha hab, hmem.2]
  rw [Int.toNat_natCast]
  refine ⟨⟨by omega, by omega⟩, onSome_of hp ⟨_, hc, ?_⟩⟩
  refine (h.live.has Y[x] hsz b).mono ?_
  rintro e w19 ⟨rfl, _, k19⟩
  rw [hmem.2]
  refine ⟨_, rfl, Go.L.iteP_false rfl ?_⟩
  refine ⟨fun s i k w' => ∃ c : Nat, i = c ∧ c ≤ X.length ∧ k = X.length - c ∧ s = (X.take c).any (fun k => decide (k = Y[x])) ∧ LeadAt B W w' bs N M S (.slice xa X.length xc) (.slice ya Y.length yc) (.slice ea E.length ec) X Y E,
    ⟨_, 0, rfl, by omega, rfl, rfl, h.quiet k19⟩, ?_⟩
  rintro s i k w21 ⟨c, rfl, hc1, rfl, rfl, h21⟩ z
  refine iteP_of (fun hi => ?_) (fun hi => ?_)
  · have hi : c < X.length := by simpa using hi
    rw [IntWalk.i64_in _ (by omega)]
    refine iteP_of (fun hs => ?_) (fun hs => ?_)
    · refine ⟨X.length - (c + 1), by omega, c + 1, by omega, by omega, rfl, ?_, h21.drew⟩
      rw [any_take _ hi, hs]; rfl
    · obtain ⟨q, hq, hcq⟩ := h21.drew.x.get hi
      obtain ⟨q', hq', hcq'⟩ := h21.drew.y.get hx
      rw [Int.toNat_natCast]
      refine ⟨⟨by omega, by omega⟩, onSome_of hq ⟨_, hcq, ⟨by omega, by omega⟩, onSome_of hq' ⟨_, hcq', ?_⟩⟩⟩
      refine ⟨X.length - (c + 1), by omega, c + 1, by omega, by omega, rfl, ?_, h21.drew⟩
      rw [any_take _ hi, hs, toList_beq]; rfl
  · have hi : c = X.length := by have : ¬ c < X.length := by simpa using hi
                                 omega
    subst hi
    rw [List.take_length, hany]
    refine ⟨fun s i k w' => ∃ c : Nat, i = c ∧ c ≤ E.length ∧ k = E.length - c ∧ alt (M.has Y[x] a) ((E.take c).filter fun e => decide (e.key = Y[x])) = some s ∧ LeadAt B W w' bs N M S (.slice xa X.length xc) (.slice ya Y.length yc) (.slice ea E.length ec) X Y E,
      ⟨_, 0, rfl, by omega, rfl, rfl, h21⟩, ?_⟩
    rintro s i k w22 ⟨c, rfl, hc1, rfl, hs, h22⟩ z
    refine iteP_of (fun hi => ?_) (fun hi => ?_)
    · have hi : c < E.length := by simpa using hi
      obtain ⟨q, hq, _, hk1, hk2⟩ := h22.drew.e.get hi
      obtain ⟨q', hq', hcq'⟩ := h22.drew.y.get hx
      have hft := filter_take (fun e : Ev => decide (e.key = Y[x])) hi
      rw [Int.toNat_natCast]
      refine ⟨⟨by omega, by omega⟩, onSome_of hq ⟨_, hk1, ⟨by omega, by omega⟩, onSome_of hq' ⟨_, hcq', iteP_of (fun h1 => ?_) (fun h1 => ?_)⟩⟩⟩
      · have h1 : E[c].key = Y[x] := by rw [toList_beq] at h1; simpa using h1
        rw [if_pos (by simpa using h1)] at hft
        have hne : s ≠ E[c].add := by
          intro e
          have e1 : E.filter (fun e => decide (e.key = Y[x])) = ((E.take c).filter (fun e => decide (e.key = Y[x])) ++ [E[c]]) ++ (E.drop (c + 1)).filter (fun e => decide (e.key = Y[x])) := by
            rw [← hft, ← List.filter_append, List.take_append_drop]
          rw [e1, alt_append, alt_append, hs] at halt
          have : alt s [E[c]] = none := by show (if s = E[c].add then none else _) = none; rw [if_pos e]
          simp only [Option.bind_some, this, Option.bind_none] at halt
          cases halt
        refine ⟨⟨by omega, by omega⟩, onSome_of hq ⟨_, hk2, Go.L.iteP_false (by simpa using hne) ?_⟩⟩
        refine ⟨⟨by omega, by omega⟩, onSome_of hq ⟨_, hk2, ?_⟩⟩
        rw [IntWalk.i64_in _ (by omega)]
        refine ⟨E.length - (c + 1), by omega, c + 1, by omega, by omega, rfl, ?_, h22.drew⟩
        rw [hft, alt_append, hs]
        show (if s = E[c].add then none else some E[c].add) = _
        rw [if_neg hne]
      · rw [if_neg (by rw [toList_beq] at h1; simpa using h1)] at hft
        rw [IntWalk.i64_in _ (by omega)]
        refine ⟨E.length - (c + 1), by omega, c + 1, by omega, by omega, rfl, ?_, h22.drew⟩
        rw [hft, List.append_nil]; exact hs
    · have hi : c = E.length := by have : ¬ c < E.length := by simpa using hi
                                   omega
      subst hi
      rw [List.take_length, halt] at hs
      cases hs
      exact Go.L.iteP_false rfl (hK _ h22)
theorem keysL_rising {M : Sp} (h : M.Wf) (r : Int) : (keysL M r).Pairwise fun a b => lt a b = true := h.ok.rising.sublist List.filter_sublist
theorem keysL_len (M : Sp) (r : Int) : (keysL M r).length ≤ M.keys.length := List.length_filter_le _ _
set_option maxHeartbeats 2000000 in
theorem LeadWalk {p : Option Addr} {l : List Act} {cap : Nat} (a b : Int) (w : World) (ha : ActsAt w p l) (hl : l.length ≤ maxLen) :
    Calls Try.prog 4 #[.slice p l.length cap, .int .i64 a, .int .i64 b] w fun e w' => e = .returned (.bool true) ∧ Below w.heap.size w w' := by
  refine F4.calls_of _ _ _ _ _ ?_
  unfold F4.sh
  refine (awake8 w).mono ?_
  rintro e w1 ⟨rfl, b1⟩
  refine ⟨true, rfl, Go.L.iteP_false rfl ?_⟩
  have ha1 := ha.below b1
  refine (few9 ha1 hl).mono ?_
  rintro e w3 ⟨rfl, rfl⟩
  refine ⟨_, rfl, iteP_of (fun h0 => ⟨rfl, b1⟩) (fun h0 => iteP_of (fun _ => ⟨rfl, b1⟩) (fun g1 => iteP_of (fun _ => ⟨rfl, b1⟩) (fun g2 => iteP_of (fun _ => ⟨rfl, b1⟩) (fun g3 => ?_))))⟩
  have hf : few l = true := by simpa using h0
  have g1 : a ≤ b := by simpa using g1
  have g2 : 0 ≤ a := by simpa using g2
  have hlen := (few_size hf).1
  refine (Live.new b1 b1.size).mono ?_
  rintro e w5 ⟨bs, S0, rfl, h5, k5, _⟩
  refine ⟨_, rfl, fun i k w7 => ∃ x : Nat, i = x ∧ x ≤ l.length ∧ k = l.length - x ∧ ∃ S, Live w.heap.size w w7 bs x (play .empty (l.take x)) S, ⟨_, 0, rfl, by omega, rfl, S0, h5⟩, ?_⟩
  rintro i k w7 ⟨x, rfl, hx, rfl, S, h7⟩ z
  have ha7 : ActsAt w7 p l := ActsAt.below (w := w) ha h7.bel
  refine iteP_of (fun hi => ?_) (fun hi => ?_)
  · have hi : x < l.length := by simpa using hi
    refine play_round h7 (by omega) ha7 hi (actsKeys hf hi) fun w' S' hl' hk' hb' => ?_
    rw [IntWalk.i64_in _ (by omega)]
    refine ⟨l.length - (x + 1), by omega, x + 1, by omega, by omega, rfl, S', ?_⟩
    rw [play_take hi]; exact hl'
  · have hi : x = l.length := by have : ¬ x < l.length := by simpa using hi
                                 omega
    subst hi
    have hM := play_Wf hf l.length (Nat.le_refl _)
    rw [List.take_length] at h7 hM
    generalize play .empty l = M at h7 hM
    have hkl : M.keys.length ≤ 60 := by obtain ⟨bm, kv, g, hx', _⟩ := h7.rep; have := hx'.lenK; omega
    refine (h7.keys (by omega) hM a).mono ?_
    rintro e w12 ⟨v6, rfl, r6, h12, k12⟩
    obtain ⟨xa, xc, e6, _⟩ := row_shape r6
    refine ⟨_, _, _, e6, ?_⟩
    refine (h12.keys (by omega) hM b).mono ?_
    rintro e w14 ⟨v7, rfl, r7, h14, k14⟩
    obtain ⟨ya, yc, e7, _⟩ := row_shape r7
    refine ⟨_, _, _, e7, ?_⟩
    refine (h14.events a b).mono ?_
    rintro e w16 ⟨v8, rfl, r8, h16, k16⟩
    obtain ⟨ea, ec, e8, _⟩ := row_shape r8
    refine ⟨_, _, _, e8, ?_⟩
    have q : LeadAt w.heap.size w w16 bs l.length M S v6 v7 v8 (keysL M a) (keysL M b) (M.events a b) :=
      ⟨h16, ((KsAt.of r6).quiet k14).quiet k16, (KsAt.of r7).quiet k16, EvAt.of r8⟩
    rw [e6, e7, e8] at q
    have lX : (keysL M a).length < 1000000000 := by have := keysL_len M a; omega
    have lY : (keysL M b).length < 1000000000 := by have := keysL_len M b; omega
    have lE : (M.events a b).length < 3000000000 := by have := len_events M a b; have := h7.pairs; omega
    have ris := keysL_rising hM b
    have hcb := count_keys hM b
    have hca := count_keys hM a
    generalize hX : keysL M a = X at *
    generalize hY : keysL M b = Y at *
    generalize hE : M.events a b = E at *
    refine ⟨fun had i k w' => ∃ c : Nat, i = c ∧ had = c ∧ c ≤ Y.length ∧ k = Y.length - c ∧ LeadAt w.heap.size w w' bs l.length M S (.slice xa X.length xc) (.slice ya Y.length yc) (.slice ea E.length ec) X Y E,
      ⟨_, 0, rfl, rfl, by omega, rfl, q⟩, ?_⟩
    rintro had i k w18 ⟨c, rfl, rfl, hc, rfl, h18⟩ z
    refine iteP_of (fun hi => ?_) (fun hi => ?_)
    · have hi : c < Y.length := by simpa using hi
      have inner : ∀ {XX : List PanicEntry → World → Prop}, _ := fun {XX} => lead_inner (R := fun e w' => e = Ending.returned (Value.bool true) ∧ Below w.heap.size w w') (XX := XX) h18.drew hM g2 g1 hX.symm hY.symm hE.symm lX lE hi
        (K := fun w22 => ∃ k6, k6 < Y.length - c ∧ ∃ c' : Nat, IntKind.wrap .i64 ((c : Int) + 1) = c' ∧ IntKind.wrap .i64 ((c : Int) + 1) = c' ∧ c' ≤ Y.length ∧ k6 = Y.length - c' ∧ LeadAt w.heap.size w w22 bs l.length M S (.slice xa X.length xc) (.slice ya Y.length yc) (.slice ea E.length ec) X Y E)
        fun w' h' => by
          rw [IntWalk.i64_in _ (by omega)]
          exact ⟨Y.length - (c + 1), by omega, c + 1, by omega, by omega, by omega, rfl, h'⟩
      refine iteP_of (fun h1 => ?_) (fun h1 => ?_)
      · have h1 : 0 < c := by simpa using h1
        rw [show IntKind.wrap .i64 ((c : Int) - 1) = ((c - 1 : Nat) : Int) by rw [IntWalk.i64_in _ (by omega)]; omega]
        obtain ⟨p1, hp1, hc1⟩ := h18.drew.y.get (i := c - 1) (by omega)
        obtain ⟨p2, hp2, hc2⟩ := h18.drew.y.get hi
        refine ⟨⟨by omega, by omega⟩, onSome_of hp1 ⟨_, by rw [Int.toNat_natCast]; exact hc1, ⟨by omega, by omega⟩, onSome_of hp2 ⟨_, by rw [Int.toNat_natCast]; exact hc2, ?_⟩⟩⟩
        have hlt : Op.bytesLess Y[c - 1].toList Y[c].toList = true := List.pairwise_iff_getElem.1 ris (c - 1) c (by omega) hi (by omega)
        refine Go.L.iteP_false (by rw [hlt]; rfl) ?_
        exact inner
      · exact inner
    · have hi : c = Y.length := by have : ¬ c < Y.length := by simpa using hi
                                   omega
      subst hi
      refine (h18.live.count b).mono ?_
      rintro e w27 ⟨rfl, h27, _⟩
      refine ⟨_, rfl, Go.L.iteP_true (by rw [hcb]; simp) ?_⟩
      refine (h27.count a).mono ?_
      rintro e w29 ⟨rfl, h29, _⟩
      refine ⟨_, rfl, by rw [hca]; simp, h29.bel⟩
end Go.Proofs
