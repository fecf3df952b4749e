/- The law SpansOnce: pure facts and the walk. Seat s14. -/
import Derived.Test.YtgmfilpbabkjeaaPuA
set_option linter.unusedVariables false
set_option linter.unusedSimpArgs false
set_option maxRecDepth 100000
namespace Go.Proofs
open Go.L Go.RowKit Go.Sort

def stepO (key : ByteArray) (a : Int) (M : Sp) (x : Act) : Sp := if x.key ≠ key ∧ x.rev < a then (M.put x.key x.rev).1 else M
def playO (key : ByteArray) (a : Int) (l : List Act) : Sp := l.foldl (stepO key a) .empty
theorem playO_take {key : ByteArray} {a : Int} {l : List Act} {i : Nat} (h : i < l.length) : playO key a (l.take (i + 1)) = stepO key a (playO key a (l.take i)) l[i] := by
  rw [List.take_succ_eq_append_getElem h]; unfold playO; rw [List.foldl_append]; rfl
structure OnceOk (key : ByteArray) (a : Int) (M : Sp) : Prop where
  ok : M.Ok
  nil : M.all key = []
  last : M.last < a
  span : ∀ k, ∀ x ∈ M.all k, x.2 = 0 ∧ x.1 < a
theorem OnceOk.empty {key : ByteArray} {a : Int} (h : 1 ≤ a) : OnceOk key a .empty := ⟨empty_Ok, rfl, by simp [Sp.empty]; omega, fun k x hx => by simp [Sp.empty] at hx⟩
theorem OnceOk.step {key : ByteArray} {a : Int} {M : Sp} (h : OnceOk key a M) {x : Act} (hs : x.key.size ≤ maxLen) : OnceOk key a (stepO key a M x) := by
  unfold stepO
  split
  · rename_i hx
    cases hp : (M.put x.key x.rev).2 with
    | false => rw [put_false hp]; exact h
    | true =>
      refine ⟨put_Ok h.ok hs _, ?_, ?_, fun k y hy => ?_⟩
      · rw [put_all hp, if_neg (fun e => hx.1 e.symm)]; exact h.nil
      · rw [(put_true hp).2.2.2]; exact hx.2
      · rw [put_all hp] at hy
        split at hy
        · rw [List.mem_append] at hy
          rcases hy with hy | hy
          · exact h.span _ y hy
          · simp at hy; subst hy; exact ⟨rfl, hx.2⟩
        · exact h.span k y hy
  · exact h
theorem OnceOk.count {key : ByteArray} {a b : Int} {M : Sp} (h : OnceOk key a M) (hab : a ≤ b) : M.count b = M.count a := by
  unfold Sp.count
  congr 1
  refine List.filter_congr fun x hx => ?_
  have := h.span x.1 x.2 ((mem_pairs h.ok).1 hx)
  unfold holds
  have h1 : decide (x.2.1 ≤ b) = true := by simp; omega
  have h2 : decide (x.2.1 ≤ a) = true := by simp; omega
  rw [h1, h2, this.1]; rfl
def goneN (rev : Int) (l : List KS) : Nat := (l.filter fun x => gone rev x.2).length
theorem OnceOk.gone {key : ByteArray} {a : Int} {M : Sp} (h : OnceOk key a M) (b : Int) : goneN b (pairs M) = 0 := by
  unfold goneN
  rw [List.length_eq_zero_iff, List.filter_eq_nil_iff]
  intro x hx
  have := (h.span x.1 x.2 ((mem_pairs h.ok).1 hx)).1
  unfold Go.Proofs.gone
  rw [this]; simp
structure OnceSaid (key : ByteArray) (a b : Int) (M M1 M2 M3 : Sp) : Prop where
  p1 : (M.put key a).2 = true
  p2 : (M1.put key a).2 = false
  p3 : (M1.put key b).2 = false
  h1 : M1.has key a = true
  h2 : M1.has key (a - 1) = false
  h3 : M1.has key b = true
  c1 : M1.count a = M.count a + 1
  d1 : (M1.drop key a).2 = false
  d2 : (M1.drop key b).2 = true
  d3 : (M2.drop key b).2 = false
  h4 : M2.has key b = false
  h5 : M2.has key (b - 1) = true
  c2 : M2.count b = M.count a
  p4 : (M2.put key b).2 = true
  h6 : M3.has key b = true
  t1 : M3.trimN b = 1
  c3 : (M3.trim b).count b = M.count a + 1
  h7 : (M3.trim b).has key b = true
theorem once {key : ByteArray} {a b : Int} {M : Sp} (h : OnceOk key a M) (hs : key.size ≤ maxLen) (ha : 1 ≤ a) (hab : a < b) :
    OnceSaid key a b M (M.put key a).1 ((M.put key a).1.drop key b).1 (((M.put key a).1.drop key b).1.put key b).1 := by
  have p1 : (M.put key a).2 = true := put_is ha (by have := h.last; omega) (by rw [h.nil]; rfl)
  have k1 := put_Ok h.ok hs a
  have a1 : (M.put key a).1.all key = [(a, 0)] := by rw [put_all p1, if_pos rfl, h.nil]; rfl
  have l1 : (M.put key a).1.last = a := by rw [(put_true p1).2.2.2]
  have o1 : openOf ((M.put key a).1.all key) = some a := by rw [a1]; rfl
  have q1 := pairs_put h.ok hs p1
  have n1 := count_put h.ok hs p1
  generalize (M.put key a).1 = M1 at *
  have d2 : (M1.drop key b).2 = true := drop_is (by omega) o1 hab
  have k2 := drop_Ok k1 key b
  have a2 : (M1.drop key b).1.all key = [(a, b)] := by rw [drop_all d2 o1, if_pos rfl, a1]; rfl
  have l2 : (M1.drop key b).1.last = b := by obtain ⟨_, f, _, _, e⟩ := drop_true d2; rw [e]
  have o2 : openOf ((M1.drop key b).1.all key) = none := by
    rw [a2]; show (if b = 0 then some a else none) = none; rw [if_neg (by omega)]
  have n2 := count_drop k1 d2 o1
  obtain ⟨f, hf, _, rest, r1, r2⟩ := pairs_drop k1 d2
  rw [o1] at hf; cases hf
  generalize (M1.drop key b).1 = M2 at *
  have p4 : (M2.put key b).2 = true := put_is (by omega) (by omega) o2
  have a3 : (M2.put key b).1.all key = [(a, b), (b, 0)] := by rw [put_all p4, if_pos rfl, a2]; rfl
  have n3 := count_put k2 hs p4
  have q3 := pairs_put k2 hs p4
  have hab' : a ≤ b := by omega
  have cab := h.count hab'
  have ca0 : cnt1 a (key, (a, 0)) = 1 := by simp [cnt1, holds]
  have cb0 : cnt1 b (key, (a, 0)) = 1 := by simp [cnt1, holds, hab']
  have cbb : cnt1 b (key, (a, b)) = 0 := by
    have : (b == 0) = false := by simp; omega
    simp [cnt1, holds, this]
  have cb1 : cnt1 b (key, (b, 0)) = 1 := by simp [cnt1, holds]
  have e1 := n1 a
  have e2 := n1 b
  have e3 := n2 b
  have e4 := n3 b
  have c2 : M2.count b = M.count a := by omega
  have hb6 : (M2.put key b).1.has key b = true := by unfold Sp.has; rw [a3]; simp [holds]
  refine { p1 := p1, p2 := put_isnt o1, p3 := put_isnt o1, h1 := ?_, h2 := ?_, h3 := ?_, c1 := by omega, d1 := drop_isnt (fun f hf => by rw [o1] at hf; cases hf; omega), d2 := d2, d3 := drop_isnt (fun f hf => by rw [o2] at hf; cases hf), h4 := ?_, h5 := ?_, c2 := c2, p4 := p4, h6 := hb6, t1 := ?_, c3 := ?_, h7 := ?_ }
  · unfold Sp.has; rw [a1]; simp [holds]
  · unfold Sp.has; rw [a1]; simp [holds]; omega
  · unfold Sp.has; rw [a1]; simp [holds]; omega
  · unfold Sp.has; rw [a2]; simp [holds]; omega
  · unfold Sp.has; rw [a2]; simp [holds]; omega
  · rw [trimN_eq]
    have g : ∀ {l l' : List KS}, l.Perm l' → goneN b l = goneN b l' := fun h => (h.filter _).length_eq
    have g0 := h.gone b
    have gM1 : goneN b (pairs M1) = goneN b (pairs M) := by
      rw [g q1]; unfold goneN; rw [List.filter_append, List.length_append]; simp [Go.Proofs.gone]
    have gr : goneN b (pairs M1) = goneN b rest := by
      rw [g r1]; unfold goneN; rw [List.filter_cons]; simp [Go.Proofs.gone]
    have g2 : goneN b (pairs M2) = 1 + goneN b rest := by
      rw [g r2]; unfold goneN; rw [List.filter_cons]
      have : Go.Proofs.gone b (a, b) = true := by
        have h0 : (b != 0) = true := by simp; omega
        simp [Go.Proofs.gone, h0]
      rw [if_pos this, List.length_cons]; omega
    have g3 : goneN b (pairs (M2.put key b).1) = goneN b (pairs M2) := by
      rw [g q3]; unfold goneN; rw [List.filter_append, List.length_append]; simp [Go.Proofs.gone]
    show goneN b (pairs (M2.put key b).1) = 1
    omega
  · rw [count_trim _ (Int.le_refl b)]; omega
  · rw [has_trim _ (Int.le_refl b)]; exact hb6
set_option maxHeartbeats 2000000 in
theorem OnceWalk {p : Option Addr} {l : List Act} {cap : Nat} (key : ByteArray) (a b : Int) (w : World) (ha : ActsAt w p l) (hl : l.length ≤ maxLen) (hwa : (Lit.int .i64 a).wf = true) (hwb : (Lit.int .i64 b).wf = true) :
    Calls Try.prog 6 #[.slice p l.length cap, .string key, .int .i64 a, .int .i64 b] w fun e w' => e = .returned (.bool true) ∧ Below w.heap.size w w' := by
  refine F6.calls_of _ _ _ _ _ _ ?_
  unfold F6.sh
  refine (awake8 w).mono ?_
  rintro e w1 ⟨rfl, b1⟩
  refine ⟨true, rfl, Go.L.iteP_false rfl ?_⟩
  have ha1 := ha.below b1
  refine (few9 ha1 hl).mono ?_
  rintro e w3 ⟨rfl, rfl⟩
  refine ⟨_, rfl, iteP_of (fun h0 => ⟨rfl, b1⟩) (fun h0 => iteP_of (fun _ => ⟨rfl, b1⟩) (fun g1 => iteP_of (fun _ => ⟨rfl, b1⟩) (fun g2 => iteP_of (fun _ => ⟨rfl, b1⟩) (fun g3 => iteP_of (fun _ => ⟨rfl, b1⟩) (fun g4 => ?_)))))⟩
  have hf : few l = true := by simpa using h0
  have g1 : 1 ≤ a := by simp at g1; omega
  have g2 : a < b := by simp at g2; omega
  have g3 : b ≤ 1000000 := by simp at g3; omega
  have g4 : key.size ≤ 40 := by simp at g4; omega
  have hks : key.size ≤ maxLen := by simp only [maxLen]; omega
  have hlen := (few_size hf).1
  refine (Live.new b1 b1.size).mono ?_
  rintro e w5 ⟨bs, S0, rfl, h5, k5, _⟩
  have ha5 := ha1.keeps k5 (fun _ h => h.elim)
  refine ⟨_, rfl, fun last i k w7 => ∃ x : Nat, i = x ∧ x ≤ l.length ∧ k = l.length - x ∧ last = (playO key a (l.take x)).last ∧ OnceOk key a (playO key a (l.take x)) ∧ ∃ S, Live w.heap.size w w7 bs x (playO key a (l.take x)) S,
    ⟨_, 0, rfl, by omega, rfl, rfl, OnceOk.empty g1, S0, h5⟩, ?_⟩
  rintro last i k w7 ⟨x, rfl, hx, rfl, rfl, hO, S, h7⟩ z
  have ha7 : ActsAt w7 p l := ActsAt.below (w := w) ha h7.bel
  refine iteP_of (fun hi => ?_) (fun hi => ?_)
  · have hi : x < l.length := by simpa using hi
    have hsz := actsKeys hf hi
    have hO' := hO.step (x := l[x]) hsz
    have kd : Keeps no w7 w7.drew := (Keeps.refl (S := no)).drew
    have hd := h7.quiet kd
    obtain ⟨q, hq, _, _, c1, c2⟩ := ha7 x hi
    obtain ⟨q', hq', _, _, c1', c2'⟩ := (ha7.keeps kd (fun _ h => h.elim)) x hi
    rw [Int.toNat_natCast]
    have hskip : (¬ (l[x].key ≠ key ∧ l[x].rev < a)) → ∃ k3, k3 < l.length - x ∧ ∃ y : Nat, IntKind.wrap .i64 ((x : Int) + 1) = y ∧ y ≤ l.length ∧ k3 = l.length - y ∧ (playO key a (l.take x)).last = (playO key a (l.take y)).last ∧ OnceOk key a (playO key a (l.take y)) ∧ ∃ S, Live w.heap.size w w7 bs y (playO key a (l.take y)) S := by
      intro hn
      rw [IntWalk.i64_in _ (by omega)]
      have e : playO key a (l.take (x + 1)) = playO key a (l.take x) := by rw [playO_take hi]; unfold stepO; rw [if_neg hn]
      exact ⟨l.length - (x + 1), by omega, x + 1, by omega, by omega, rfl, by rw [e], by rw [e]; exact hO, S, by rw [e]; exact ⟨h7.rep.mono (by omega), h7.bel, h7.ge, by omega⟩⟩
    refine ⟨⟨by omega, by omega⟩, onSome_of hq ⟨_, c1, iteP_of (fun h1 => ?_) (fun h1 => ?_)⟩⟩
    · have h1 : l[x].key ≠ key := by rw [toList_beq] at h1; simpa using h1
      refine ⟨⟨by omega, by omega⟩, onSome_of hq ⟨_, c2, iteP_of (fun h2 => ?_) (fun h2 => ?_)⟩⟩
      · have h2 : l[x].rev < a := by simpa using h2
        refine ⟨⟨by omega, by omega⟩, onSome_of hq' ⟨_, c1', ⟨by omega, by omega⟩, onSome_of hq' ⟨_, c2', ?_⟩⟩⟩
        refine (hd.put (by omega) l[x].key hsz l[x].rev).mono ?_
        rintro e w8 ⟨rfl, S', h8, k8, b8⟩
        have e8 : playO key a (l.take (x + 1)) = ((playO key a (l.take x)).put l[x].key l[x].rev).1 := by rw [playO_take hi]; unfold stepO; rw [if_pos ⟨h1, h2⟩]
        have hstep : stepO key a (playO key a (l.take x)) l[x] = ((playO key a (l.take x)).put l[x].key l[x].rev).1 := by unfold stepO; rw [if_pos ⟨h1, h2⟩]
        rw [hstep] at hO'
        refine ⟨_, rfl, iteP_of (fun h3 => ?_) (fun h3 => ?_)⟩
        · obtain ⟨q8, hq8, _, _, _, c28⟩ := (ActsAt.below (w := w) ha h8.bel) x hi
          refine ⟨⟨by omega, by omega⟩, onSome_of hq8 ⟨_, c28, ?_⟩⟩
          rw [IntWalk.i64_in _ (by omega)]
          refine ⟨l.length - (x + 1), by omega, x + 1, by omega, by omega, rfl, ?_, by rw [e8]; exact hO', S', by rw [e8]; exact h8⟩
          rw [e8, (put_true h3).2.2.2]
        · rw [IntWalk.i64_in _ (by omega)]
          refine ⟨l.length - (x + 1), by omega, x + 1, by omega, by omega, rfl, ?_, by rw [e8]; exact hO', S', by rw [e8]; exact h8⟩
          rw [e8, put_false h3]
      · exact hskip fun e => by simp at h2; omega
    · exact hskip fun e => e.1 (by rw [toList_beq] at h1; simpa using h1)
  · have hi : x = l.length := by have : ¬ x < l.length := by simpa using hi
                                 omega
    subst hi
    rw [List.take_length] at h7 hO ⊢
    generalize playO key a l = M at *
    have P := once hO hks g1 g2
    have hcnt : M.count a ≤ 1000000 := by
      have := cntP_le a (pairs M); have := h7.pairs; unfold Sp.count cntP at *; omega
    have e1 : IntKind.wrap .i64 (a - 1) = a - 1 := IntWalk.i64_in _ (by omega)
    have e2 : IntKind.wrap .i64 (b - 1) = b - 1 := IntWalk.i64_in _ (by omega)
    have e3 : IntKind.wrap .i64 (((M.count a : Nat) : Int) + 1) = ((M.count a + 1 : Nat) : Int) := by rw [IntWalk.i64_in _ (by omega)]; omega
    refine (h7.count a).mono ?_
    rintro e w10 ⟨rfl, h10, _⟩
    refine ⟨_, rfl, Go.L.iteP_false (by have := hO.last; simp; omega) ?_⟩
    refine (h10.put (by omega) key hks a).mono ?_
    rintro e w12 ⟨rfl, S12, h12, _⟩
    refine ⟨_, rfl, Go.L.iteP_false (by rw [P.p1]; rfl) ?_⟩
    refine (h12.put (by omega) key hks a).mono ?_
    rintro e w14 ⟨rfl, S14, h14, _⟩
    refine ⟨_, rfl, Go.L.iteP_false P.p2 ?_⟩
    rw [put_false P.p2] at h14
    refine (h14.put (by omega) key hks b).mono ?_
    rintro e w16 ⟨rfl, S16, h16, _⟩
    refine ⟨_, rfl, Go.L.iteP_false P.p3 ?_⟩
    rw [put_false P.p3] at h16
    refine (h16.has key hks a).mono ?_
    rintro e w18 ⟨rfl, h18, _⟩
    refine ⟨_, rfl, Go.L.iteP_false (by rw [P.h1]; rfl) ?_⟩
    rw [e1]
    refine (h18.has key hks (a - 1)).mono ?_
    rintro e w20 ⟨rfl, h20, _⟩
    refine ⟨_, rfl, Go.L.iteP_false P.h2 ?_⟩
    refine (h20.has key hks b).mono ?_
    rintro e w22 ⟨rfl, h22, _⟩
    refine ⟨_, rfl, Go.L.iteP_false (by rw [P.h3]; rfl) ?_⟩
    refine (h22.count a).mono ?_
    rintro e w24 ⟨rfl, h24, _⟩
    refine ⟨_, rfl, Go.L.iteP_false (by rw [e3, P.c1]; simp) ?_⟩
    refine (h24.drop key hks a).mono ?_
    rintro e w26 ⟨rfl, h26, _⟩
    refine ⟨_, rfl, Go.L.iteP_false P.d1 ?_⟩
    rw [drop_false P.d1] at h26
    refine (h26.drop key hks b).mono ?_
    rintro e w28 ⟨rfl, h28, _⟩
    refine ⟨_, rfl, Go.L.iteP_false (by rw [P.d2]; rfl) ?_⟩
    refine (h28.drop key hks b).mono ?_
    rintro e w30 ⟨rfl, h30, _⟩
    refine ⟨_, rfl, Go.L.iteP_false P.d3 ?_⟩
    rw [drop_false P.d3] at h30
    refine (h30.has key hks b).mono ?_
    rintro e w32 ⟨rfl, h32, _⟩
    refine ⟨_, rfl, Go.L.iteP_false P.h4 ?_⟩
    rw [e2]
    refine (h32.has key hks (b - 1)).mono ?_
    rintro e w34 ⟨rfl, h34, _⟩
    refine ⟨_, rfl, Go.L.iteP_false (by rw [P.h5]; rfl) ?_⟩
    refine (h34.count b).mono ?_
    rintro e w36 ⟨rfl, h36, _⟩
    refine ⟨_, rfl, Go.L.iteP_false (by rw [P.c2]; simp) ?_⟩
    refine (h36.put (by omega) key hks b).mono ?_
    rintro e w38 ⟨rfl, S38, h38, _⟩
    refine ⟨_, rfl, Go.L.iteP_true P.p4 ?_⟩
    refine (h38.has key hks b).mono ?_
    rintro e w40 ⟨rfl, h40, _⟩
    refine ⟨_, rfl, Go.L.iteP_true P.h6 ?_⟩
    refine (h40.trim b).mono ?_
    rintro e w42 ⟨rfl, S42, h42, _⟩
    refine ⟨_, rfl, Go.L.iteP_true (by rw [P.t1]; rfl) ?_⟩
    refine (h42.count b).mono ?_
    rintro e w44 ⟨rfl, h44, _⟩
    refine ⟨_, rfl, Go.L.iteP_true (by rw [e3, P.c3]; simp) ?_⟩
    refine (h44.has key hks b).mono ?_
    rintro e w46 ⟨rfl, h46, _⟩
    refine ⟨_, rfl, ?_, h46.bel⟩
    rw [P.h7]
end Go.Proofs
