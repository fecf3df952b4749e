/- Spans: the reference's Events; the reference and the spans, step by step (pure). Seat s14. -/
import Derived.Test.YtgmfilpbabkjeaaRfD
set_option linter.unusedVariables false
set_option linter.unusedSimpArgs false
set_option maxRecDepth 100000
namespace Go.Proofs
open Go.L Go.RowKit Go.Sort

def rEvA (fr to : Int) (out : List Ev) (x : KS) : List Ev := if x.2.1 > fr ∧ x.2.1 ≤ to then insE ⟨x.2.1, x.1, true⟩ out else out
def rEvB (fr to : Int) (out : List Ev) (x : KS) : List Ev := if x.2.2 > 0 ∧ x.2.2 > fr ∧ x.2.2 ≤ to then insE ⟨x.2.2, x.1, false⟩ out else out
def rEv (fr to : Int) (out : List Ev) (x : KS) : List Ev := rEvB fr to (rEvA fr to out x) x
def rEvents (L : List KS) (fr to : Int) : List Ev := L.foldl (rEv fr to) []
abbrev RowE (w : World) (B : Nat) (v : Value) (O : List Ev) : Prop := w.ownsRow B 50 3 v O.length (O.flatMap encE)
theorem len_insE (x : Ev) (l : List Ev) : (insE x l).length = l.length + 1 := by rw [(insE_perm x l).length_eq, List.length_append]; rfl
theorem len_rEvA (fr to : Int) (O : List Ev) (x : KS) : (rEvA fr to O x).length ≤ O.length + 1 := by unfold rEvA; split; rw [len_insE]; exact Nat.le_refl _; exact Nat.le_succ _
theorem len_rEvB (fr to : Int) (O : List Ev) (x : KS) : (rEvB fr to O x).length ≤ O.length + 1 := by unfold rEvB; split; rw [len_insE]; exact Nat.le_refl _; exact Nat.le_succ _
theorem len_rEv (fr to : Int) (O : List Ev) (x : KS) : (rEv fr to O x).length ≤ O.length + 2 := by
  have h1 := len_rEvA fr to O x; have h2 := len_rEvB fr to (rEvA fr to O x) x; unfold rEv; omega
theorem len_rEvents (fr to : Int) : ∀ (L : List KS) (O : List Ev), (L.foldl (rEv fr to) O).length ≤ O.length + 2 * L.length := by
  intro L
  induction L with
  | nil => intro O; simp
  | cons x L ih => intro O; have h1 := ih (rEv fr to O x); have h2 := len_rEv fr to O x; rw [List.foldl_cons, List.length_cons]; omega
theorem ev24_tail {base : Nat} {w : World} {xb : Nat} {k : ByteArray} {f t fr to : Int} {oa : Option Addr} {oc : Nat} {O : List Ev} (hx : w.heap[xb]? = some (.cells #[.string k, .int .i64 f, .int .i64 t] 71 (0, 0))) (hO : RowE w base (.slice oa O.length oc) O) (hl : O.length < 300000000) (hbase : base ≤ w.heap.size)
    {K : Option Addr → Nat → Nat → World → Prop} {X : List PanicEntry → World → Prop} (hk : ∀ a' c' w', RowE w' base (.slice a' (rEvB fr to O (k, (f, t))).length c') (rEvB fr to O (k, (f, t))) → Keeps no w w' → K a' (rEvB fr to O (k, (f, t))).length c' w') :
    ∃ x11 : Int, w.cell? ⟨xb, 2, none⟩ = some (.int .i64 x11) ∧
    iteP ((decide (x11 > 0))) (
      ∃ x12 : Int, w.cell? ⟨xb, 2, none⟩ = some (.int .i64 x12) ∧
      iteP ((decide (x12 > fr))) (
        ∃ x13 : Int, w.cell? ⟨xb, 2, none⟩ = some (.int .i64 x13) ∧
        iteP ((decide (x13 ≤ to))) (
          ∃ x14 : Int, w.cell? ⟨xb, 2, none⟩ = some (.int .i64 x14) ∧
          ∃ x15 : ByteArray, w.cell? ⟨xb, 0, none⟩ = some (.string x15) ∧
          Calls Try.prog 43 #[.slice oa O.length oc, .agg #[.int .i64 x14, .string x15, .bool false]] w (endK (fun v2 w9 =>
              ∃ x16a : Option Addr, ∃ x16l : Nat, ∃ x16c : Nat, v2 = .slice x16a x16l x16c ∧ K x16a x16l x16c w9) X)) (
          K oa O.length oc w)) (
        K oa O.length oc w)) (
      K oa O.length oc w) := by
  have skip : ¬ (t > 0 ∧ t > fr ∧ t ≤ to) → K oa O.length oc w := by
    intro h
    have e : rEvB fr to O (k, (f, t)) = O := by unfold rEvB; rw [if_neg h]
    have := hk oa oc w (by rw [e]; exact hO) Keeps.refl
    rw [e] at this; exact this
  refine ⟨t, cell_of hx rfl, iteP_of (fun h1 => ⟨t, cell_of hx rfl, iteP_of (fun h2 => ⟨t, cell_of hx rfl, iteP_of (fun h3 => ⟨t, cell_of hx rfl, k, cell_of hx rfl, ?_⟩) (fun h3 => skip fun h => by simp at h3; omega)⟩) (fun h2 => skip fun h => by simp at h2; omega)⟩) (fun h1 => skip fun h => by simp at h1; omega)⟩
  have e : rEvB fr to O (k, (f, t)) = insE ⟨t, k, false⟩ O := by
    unfold rEvB; simp only [decide_eq_true_iff] at h1 h2 h3; rw [if_pos ⟨h1, h2, h3⟩]
  refine (put43 hO (by omega) ⟨t, k, false⟩).mono ?_
  rintro e' w9 ⟨v', rfl, r9, k9⟩
  obtain ⟨a9, c9, hv9, _⟩ := row_shape r9
  refine ⟨_, _, _, hv9, ?_⟩
  have := hk a9 c9 w9 (by rw [e]; exact row_base (hv9 ▸ r9) hbase) k9
  rw [e] at this; exact this
set_option maxHeartbeats 1000000 in
theorem rEvents24 {w : World} {a : Option Addr} {c : Nat} {last : Int} {L : List KS} (h : XAt w a L) (hL : L.length < 100000000) (fr to : Int) :
    Calls Try.prog 24 #[.agg #[.slice a L.length c, .int .i64 last], .int .i64 fr, .int .i64 to] w fun e w' => ∃ v', e = .returned v' ∧ RowE w' w.heap.size v' (rEvents L fr to) ∧ Keeps no w w' := by
  refine F24.calls_of _ _ _ _ _ _ ?_
  unfold F24.sh
  refine allocK_of ?_
  have hb := BoxX.new (c := c) (last := last) h
  have k1 : Keeps no w (w.alloc (.cells #[.slice a L.length c, .int .i64 last] 30)) := Keeps.refl.alloc _
  refine ⟨fun oa ol oc i k w1 => ∃ x : Nat, i = x ∧ x ≤ L.length ∧ k = L.length - x ∧ ol = ((L.take x).foldl (rEv fr to) []).length ∧ RowE w1 w.heap.size (.slice oa ol oc) ((L.take x).foldl (rEv fr to) []) ∧ BoxX w1 w.heap.size a c last L ∧ Keeps no w w1,
    ⟨_, 0, rfl, by omega, rfl, rfl, World.ownsRow_nil _ _ _ _, hb, k1⟩, ?_⟩
  rintro oa ol oc i k w2 ⟨x, rfl, hx, rfl, rfl, hrow, h2, k2⟩ z
  refine ⟨_, _, _, h2.l, iteP_of (fun hi => ?_) (fun hi => ?_)⟩
  · have hi : x < L.length := by simpa using hi
    obtain ⟨p, hp, c0, c1, c2⟩ := h2.at_ x hi
    have ht : (L.take (x + 1)).foldl (rEv fr to) [] = rEv fr to ((L.take x).foldl (rEv fr to) []) L[x] := by
      rw [List.take_succ_eq_append_getElem hi, List.foldl_append]; rfl
    have hlen := len_rEvents fr to (L.take x) []
    have hlen2 : (L.take x).length ≤ L.length := by rw [List.length_take]; omega
    simp only [List.length_nil] at hlen
    have s2 := k2.size
    generalize (L.take x).foldl (rEv fr to) [] = O at *
    rw [Int.toNat_natCast]
    refine ⟨_, _, _, h2.l, ⟨by omega, by omega⟩, onSome_of hp ⟨_, c0, _, c1, _, c2, allocK_of ?_⟩⟩
    have m0 := heap_new w2 (.cells #[.string ⟨#[]⟩, .int .i64 0, .int .i64 0] 71)
    refine storeK_of m0 (by simp) ?_
    have m1 := heap_set_same m0 0 (.string L[x].1)
    refine storeK_of m1 (by simp) ?_
    have m2 := heap_set_same m1 1 (.int .i64 L[x].2.1)
    refine storeK_of m2 (by simp) ?_
    have m3 := heap_set_same m2 2 (.int .i64 L[x].2.2)
    have k6 : Keeps no w2 ((((w2.alloc (.cells #[.string ⟨#[]⟩, .int .i64 0, .int .i64 0] 71)).setCell ⟨w2.heap.size, 0, none⟩ (.string L[x].1)).setCell ⟨w2.heap.size, 1, none⟩ (.int .i64 L[x].2.1)).setCell ⟨w2.heap.size, 2, none⟩ (.int .i64 L[x].2.2)) :=
      (((Keeps.refl.alloc _).set (.inr (Nat.le_refl _)) _ _).set (.inr (Nat.le_refl _)) _ _).set (.inr (Nat.le_refl _)) _ _
    generalize ((((w2.alloc (.cells #[.string ⟨#[]⟩, .int .i64 0, .int .i64 0] 71)).setCell ⟨w2.heap.size, 0, none⟩ (.string L[x].1)).setCell ⟨w2.heap.size, 1, none⟩ (.int .i64 L[x].2.1)).setCell ⟨w2.heap.size, 2, none⟩ (.int .i64 L[x].2.2)) = w6 at *
    have hx6 : w6.heap[w2.heap.size]? = some (.cells #[.string L[x].1, .int .i64 L[x].2.1, .int .i64 L[x].2.2] 71 (0, 0)) := m3
    have r6 := row_quiet hrow k6
    have s6 := k6.size
    have again : ∀ {w0 : World} {a' : Option Addr} {c' : Nat} {O' : List Ev}, Keeps no w6 w0 → O' = rEv fr to O L[x] → RowE w0 w.heap.size (.slice a' O'.length c') O' →
        ∃ k3, k3 < L.length - x ∧ ∃ y : Nat, IntKind.wrap .i64 ((x : Int) + 1) = y ∧ y ≤ L.length ∧ k3 = L.length - y ∧ O'.length = ((L.take y).foldl (rEv fr to) []).length ∧ RowE w0 w.heap.size (.slice a' O'.length c') ((L.take y).foldl (rEv fr to) []) ∧ BoxX w0 w.heap.size a c last L ∧ Keeps no w w0 := by
      intro w0 a' c' O' k0 e hr
      rw [IntWalk.i64_in _ (by omega)]
      have k20 := k6.transN k0
      refine ⟨L.length - (x + 1), by omega, x + 1, by omega, by omega, rfl, ?_, ?_, h2.quiet k20, k2.transN k20⟩
      · rw [ht, e]
      · rw [ht, ← e]; exact hr
    have lA := len_rEvA fr to O L[x]
    refine ⟨_, cell_of hx6 rfl, iteP_of (fun h1 => ⟨_, cell_of hx6 rfl, iteP_of (fun h3 => ⟨_, cell_of hx6 rfl, _, cell_of hx6 rfl, ?_⟩) (fun h3 => ?_)⟩) (fun h1 => ?_)⟩
    · have eA : rEvA fr to O L[x] = insE ⟨L[x].2.1, L[x].1, true⟩ O := by
        unfold rEvA; simp only [decide_eq_true_iff] at h1 h3; rw [if_pos ⟨h1, h3⟩]
      refine (put43 r6 (by omega) ⟨L[x].2.1, L[x].1, true⟩).mono ?_
      rintro e' w7 ⟨v', rfl, r7, k7⟩
      obtain ⟨a7, c7, hv7, _⟩ := row_shape r7
      refine ⟨_, _, _, hv7, ?_⟩
      rw [← eA] at r7 hv7 ⊢
      have s7 := k7.size
      exact ev24_tail (k7.heap hx6 id) (row_base (hv7 ▸ r7) (B' := w.heap.size) (by omega)) (by omega) (by omega) fun a' c' w' hr hk => again (k7.transN hk) rfl hr
    · have eA : rEvA fr to O L[x] = O := by unfold rEvA; rw [if_neg (fun h => by simp at h3; omega)]
      exact ev24_tail hx6 r6 (by omega) (by omega) fun a' c' w' hr hk => again hk (by unfold rEv; rw [eA]) hr
    · have eA : rEvA fr to O L[x] = O := by unfold rEvA; rw [if_neg (fun h => by simp at h1; omega)]
      exact ev24_tail hx6 r6 (by omega) (by omega) fun a' c' w' hr hk => again hk (by unfold rEv; rw [eA]) hr
  · have hi : x = L.length := by have : ¬ x < L.length := by simpa using hi
                                 omega
    subst hi
    rw [List.take_length] at hrow ⊢
    exact ⟨_, rfl, hrow, k2⟩

/-! ### the reference and the spans agree -/
structure Agree (M : Sp) (s : RS) : Prop where
  wf : M.Wf
  perm : s.L.Perm (pairs M)
  last : s.last = M.last
theorem Agree.empty : Agree .empty ⟨[], 0⟩ := ⟨Sp.Wf.empty, .refl _, rfl⟩
theorem any_perm {α : Type} {l l' : List α} (h : l.Perm l') (p : α → Bool) : l.any p = l'.any p := by
  rw [Bool.eq_iff_iff, List.any_eq_true, List.any_eq_true]
  exact ⟨fun ⟨x, hx, hp⟩ => ⟨x, h.mem_iff.1 hx, hp⟩, fun ⟨x, hx, hp⟩ => ⟨x, h.mem_iff.2 hx, hp⟩⟩
theorem open_mem {l : List (Int × Int)} (ho : l.Pairwise ordS) {x : Int × Int} (hx : x ∈ l) (h0 : x.2 = 0) : openOf l = some x.1 := by
  have hne : l ≠ [] := List.ne_nil_of_mem hx
  have e := List.dropLast_concat_getLast hne
  rw [← e, List.pairwise_append] at ho
  rw [← e, List.mem_append] at hx
  rcases hx with hx | hx
  · exact absurd h0 (ho.2.2 x hx (l.getLast hne) (List.mem_singleton.2 rfl)).1
  · simp at hx
    subst hx
    unfold openOf
    rw [List.getLast?_eq_some_getLast hne]
    simp only []
    rw [if_pos h0]
theorem Agree.open {M : Sp} {s : RS} (h : Agree M s) (key : ByteArray) : s.L.any (isOpen key) = (openOf (M.all key)).isSome := by
  rw [any_perm h.perm, Bool.eq_iff_iff, List.any_eq_true]
  constructor
  · rintro ⟨x, hx, hp⟩
    unfold isOpen at hp
    simp at hp
    obtain ⟨rfl, h0⟩ := hp
    rw [open_mem (h.wf.order _) ((mem_pairs h.wf.ok).1 hx) h0]; rfl
  · intro ho
    obtain ⟨f, hf⟩ := Option.isSome_iff_exists.1 ho
    have e := openOf_some hf
    exact ⟨(key, (f, 0)), (mem_pairs h.wf.ok).2 (by rw [e]; simp), by simp [isOpen]⟩
theorem Agree.put {M : Sp} {s : RS} (h : Agree M s) {key : ByteArray} (hs : key.size ≤ 40) (rev : Int) : (rPut s key rev).2 = (M.put key rev).2 ∧ Agree (M.put key rev).1 (rPut s key rev).1 := by
  have hs' : key.size ≤ maxLen := by simp only [maxLen]; omega
  have ho := h.open key
  cases hp : (M.put key rev).2 with
  | true =>
    obtain ⟨h1, h2, h3, h4⟩ := put_true hp
    rw [h3] at ho
    have e : rPut s key rev = (⟨s.L ++ [(key, (rev, 0))], rev⟩, true) := by
      unfold rPut; rw [if_neg]
      rintro (h5 | h5 | h5)
      · omega
      · rw [h.last] at h5; omega
      · rw [ho] at h5; cases h5
    rw [e]
    refine ⟨rfl, h.wf.put hs rev, ?_, by rw [h4]⟩
    exact (h.perm.append_right _).trans (pairs_put h.wf.ok hs' hp).symm
  | false =>
    have e : rPut s key rev = (s, false) := by
      unfold rPut; rw [if_pos]
      by_cases h1 : rev < 1
      · exact .inl h1
      by_cases h2 : rev < s.last
      · exact .inr (.inl h2)
      refine .inr (.inr ?_)
      rw [ho]
      cases h3 : openOf (M.all key) with
      | some f => rfl
      | none => rw [put_is (by omega) (by rw [← h.last]; omega) h3] at hp; cases hp
    rw [e, put_false hp]
    exact ⟨rfl, h⟩
theorem set_perm {α : Type} : ∀ {l : List α} {i : Nat} {x : α} (y : α), l[i]? = some x → l.Perm (x :: l.eraseIdx i) ∧ (l.set i y).Perm (y :: l.eraseIdx i) := by
  intro l
  induction l with
  | nil => intro i x y h; simp at h
  | cons z l ih =>
    intro i x y h
    cases i with
    | zero => simp at h; subst h; exact ⟨.refl _, .refl _⟩
    | succ i =>
      simp at h
      obtain ⟨h1, h2⟩ := ih y h
      exact ⟨(h1.cons z).trans (List.Perm.swap _ _ _), (h2.cons z).trans (List.Perm.swap _ _ _)⟩
theorem Agree.drop {M : Sp} {s : RS} (h : Agree M s) (key : ByteArray) (rev : Int) : (rDrop s key rev).2 = (M.drop key rev).2 ∧ Agree (M.drop key rev).1 (rDrop s key rev).1 := by
  have ho := h.open key
  cases hp : (M.drop key rev).2 with
  | true =>
    obtain ⟨f, h1, h2, rest, h3, h4⟩ := pairs_drop h.wf.ok hp
    obtain ⟨g1, f', h1', _, g4⟩ := drop_true hp
    rw [h1] at ho
    have hany : s.L.any (isOpen key) = true := ho
    obtain ⟨i, hi⟩ : ∃ i, s.L.findIdx? (isOpen key) = some i := by
      cases hf : s.L.findIdx? (isOpen key) with
      | some i => exact ⟨i, rfl⟩
      | none =>
        rw [List.findIdx?_eq_none_iff] at hf
        rw [List.any_eq_true] at hany
        obtain ⟨x, hx, hp⟩ := hany
        rw [hf x hx] at hp; cases hp
    obtain ⟨hlt, hop, _⟩ := List.findIdx?_eq_some_iff_getElem.1 hi
    have hx : s.L[i] = (key, (f, 0)) := by
      unfold isOpen at hop
      simp at hop
      have hm := (mem_pairs h.wf.ok).1 (h.perm.mem_iff.1 (List.getElem_mem hlt))
      have := open_mem (h.wf.order _) hm hop.2
      rw [hop.1, h1] at this
      cases hL : s.L[i] with
      | mk k ft =>
        rw [hL] at hop this
        obtain ⟨f2, t2⟩ := ft
        simp at hop this
        rw [hop.1, hop.2, this]
    have hg : s.L[i]? = some (key, (f, 0)) := by rw [List.getElem?_eq_getElem hlt, hx]
    have e : rDrop s key rev = (⟨s.L.set i (key, (f, rev)), rev⟩, true) := by
      unfold rDrop
      rw [if_neg (by rw [h.last]; omega), hi]
      simp only [hg]
      rw [if_neg (by omega)]
    rw [e]
    refine ⟨rfl, h.wf.drop key rev, ?_, by rw [g4]⟩
    obtain ⟨p1, p2⟩ := set_perm (key, (f, rev)) hg
    have hrest : (s.L.eraseIdx i).Perm rest := (List.perm_cons _).1 (p1.symm.trans (h.perm.trans h3))
    exact p2.trans ((hrest.cons _).trans h4.symm)
  | false =>
    have e : rDrop s key rev = (s, false) := by
      unfold rDrop
      by_cases h2 : rev < s.last
      · rw [if_pos h2]
      rw [if_neg h2]
      cases hf : s.L.findIdx? (isOpen key) with
      | none => rfl
      | some i =>
        obtain ⟨hlt, hop, _⟩ := List.findIdx?_eq_some_iff_getElem.1 hf
        simp only [List.getElem?_eq_getElem hlt]
        rw [if_pos]
        unfold isOpen at hop
        simp at hop
        have hm := (mem_pairs h.wf.ok).1 (h.perm.mem_iff.1 (List.getElem_mem hlt))
        have hop2 := open_mem (h.wf.order _) hm hop.2
        rw [hop.1] at hop2
        by_cases h3 : s.L[i].2.1 < rev
        · rw [drop_is (by rw [← h.last]; omega) hop2 h3] at hp; cases hp
        · omega
    rw [e, drop_false hp]
    exact ⟨rfl, h⟩
theorem Agree.trim {M : Sp} {s : RS} (h : Agree M s) (rev : Int) : (rTrim s rev).2 = M.trimN rev ∧ Agree (M.trim rev) (rTrim s rev).1 := by
  refine ⟨?_, h.wf.trim rev, ?_, h.last⟩
  · show s.L.length - (s.L.filter (stays rev)).length = _
    rw [trimN_eq, h.perm.length_eq, (h.perm.filter _).length_eq]
    exact filter_len (fun x : KS => gone rev x.2) (pairs M)
  · show (s.L.filter (stays rev)).Perm _
    rw [pairs_trim]
    exact h.perm.filter _
theorem Agree.has {M : Sp} {s : RS} (h : Agree M s) (key : ByteArray) (rev : Int) : rHas s.L key rev = M.has key rev := by
  unfold rHas Sp.has
  rw [any_perm h.perm, Bool.eq_iff_iff, List.any_eq_true, List.any_eq_true]
  constructor
  · rintro ⟨x, hx, hp⟩
    simp at hp
    obtain ⟨h1, rfl⟩ := hp
    exact ⟨x.2, (mem_pairs h.wf.ok).1 hx, h1⟩
  · rintro ⟨x, hx, hp⟩
    exact ⟨(key, x), (mem_pairs h.wf.ok).2 hx, by simp [hp]⟩
theorem Agree.count {M : Sp} {s : RS} (h : Agree M s) (rev : Int) : cntP rev s.L = M.count rev := (h.perm.filter _).length_eq
theorem rEvents_sorted (fr to : Int) : ∀ (L : List KS) (O : List Ev), O.Pairwise evLe → (L.foldl (rEv fr to) O).Pairwise evLe := by
  intro L
  induction L with
  | nil => exact fun O h => h
  | cons x L ih =>
    intro O h
    refine ih _ ?_
    unfold rEv rEvB rEvA
    split <;> split <;> first | exact insE_sorted (insE_sorted h) | exact insE_sorted h | exact h
theorem rEv_perm (fr to : Int) (O : List Ev) (x : KS) : (rEv fr to O x).Perm (O ++ evOf fr to x) := by
  have hA : (rEvA fr to O x).Perm (O ++ evA fr to x) := by
    unfold rEvA evA; split
    · exact insE_perm _ _
    · rw [List.append_nil]
  have hB : ∀ O', (rEvB fr to O' x).Perm (O' ++ evB fr to x) := by
    intro O'
    have hm : (x.2.2 > max0 fr ∧ x.2.2 ≤ to) ↔ (x.2.2 > 0 ∧ x.2.2 > fr ∧ x.2.2 ≤ to) := by unfold max0; split <;> omega
    unfold rEvB evB
    by_cases h : x.2.2 > 0 ∧ x.2.2 > fr ∧ x.2.2 ≤ to
    · rw [if_pos h, if_pos (hm.2 h)]; exact insE_perm _ _
    · rw [if_neg h, if_neg (fun e => h (hm.1 e)), List.append_nil]
  unfold rEv evOf
  refine (hB _).trans ?_
  rw [← List.append_assoc]
  exact hA.append_right _
theorem rEvents_perm (fr to : Int) : ∀ (L : List KS) (O : List Ev), (L.foldl (rEv fr to) O).Perm (O ++ L.flatMap (evOf fr to)) := by
  intro L
  induction L with
  | nil => intro O; rw [List.flatMap_nil, List.append_nil]; exact .refl _
  | cons x L ih =>
    intro O
    rw [List.foldl_cons, List.flatMap_cons, ← List.append_assoc]
    exact (ih _).trans ((rEv_perm fr to O x).append_right _)
theorem Agree.events {M : Sp} {s : RS} (h : Agree M s) (fr to : Int) : rEvents s.L fr to = M.events fr to := by
  unfold Sp.events
  refine (sortE_eq (rEvents_sorted fr to _ _ .nil) ?_).symm
  refine (List.Perm.flatMap_right _ h.perm.symm).trans ?_
  exact (rEvents_perm fr to s.L []).symm
/-- What Next's answer is. -/
def NxSpec (P : ByteArray → Prop) (r : ByteArray × Bool) : Prop := (r.2 = true ∧ P r.1 ∧ ∀ k, P k → Go.L.lt k r.1 = false) ∨ (r = (emp, false) ∧ ∀ k, ¬ P k)
theorem NxSpec.unique {P : ByteArray → Prop} {r r' : ByteArray × Bool} (h : NxSpec P r) (h' : NxSpec P r') : r = r' := by
  obtain ⟨k, b⟩ := r
  obtain ⟨k', b'⟩ := r'
  rcases h with ⟨h1, h2, h3⟩ | ⟨h1, h2⟩ <;> rcases h' with ⟨g1, g2, g3⟩ | ⟨g1, g2⟩
  · simp only [] at h1 g1
    rw [h1, g1, Go.L.lt_total (g3 k h2) (h3 k' g2)]
  · exact absurd h2 (g2 k)
  · exact absurd g2 (h2 k')
  · rw [h1, g1]
def inP (M : Sp) (rev : Int) (fr to : ByteArray) (k : ByteArray) : Prop := M.has k rev = true ∧ Go.L.lt k fr = false ∧ (to = emp ∨ Go.L.lt k to = true)
theorem nextGo_spec {M : Sp} {rev : Int} {to : ByteArray} : ∀ {l : List ByteArray}, l.Pairwise (fun a b => Go.L.lt a b = true) →
    NxSpec (fun k => k ∈ l ∧ M.has k rev = true ∧ (to = emp ∨ Go.L.lt k to = true)) (nextGo M rev to l) := by
  intro l
  induction l with
  | nil => exact fun _ => .inr ⟨rfl, fun k h => by simp at h⟩
  | cons x l ih =>
    intro hr
    rw [List.pairwise_cons] at hr
    unfold nextGo
    by_cases h1 : to ≠ emp ∧ Go.L.lt x to = false
    · rw [if_pos h1]
      refine .inr ⟨rfl, ?_⟩
      rintro k ⟨hk, _, h2⟩
      rcases h2 with h2 | h2
      · exact h1.1 h2
      · rcases List.mem_cons.1 hk with rfl | hk
        · rw [h1.2] at h2; cases h2
        · have := Go.L.lt_trans (hr.1 k hk) h2
          rw [h1.2] at this; cases this
    · rw [if_neg h1]
      by_cases h2 : M.has x rev = true
      · rw [if_pos h2]
        refine .inl ⟨rfl, ⟨by simp, h2, ?_⟩, ?_⟩
        · by_cases h3 : to = emp
          · exact .inl h3
          · refine .inr ?_
            cases h4 : Go.L.lt x to with
            | true => rfl
            | false => exact absurd ⟨h3, h4⟩ h1
        · rintro k ⟨hk, _⟩
          rcases List.mem_cons.1 hk with rfl | hk
          · exact Go.L.lt_irrefl _
          · exact Go.L.lt_asymm (hr.1 k hk)
      · rw [if_neg h2]
        rcases ih hr.2 with ⟨g1, g2, g3⟩ | ⟨g1, g2⟩
        · refine .inl ⟨g1, ⟨List.mem_cons_of_mem _ g2.1, g2.2⟩, ?_⟩
          rintro k ⟨hk, hk2⟩
          rcases List.mem_cons.1 hk with rfl | hk
          · exact absurd hk2.1 h2
          · exact g3 k ⟨hk, hk2⟩
        · refine .inr ⟨g1, ?_⟩
          rintro k ⟨hk, hk2⟩
          rcases List.mem_cons.1 hk with rfl | hk
          · exact h2 hk2.1
          · exact g2 k ⟨hk, hk2⟩
theorem NxSpec.congr {P Q : ByteArray → Prop} {r : ByteArray × Bool} (h : NxSpec P r) (hPQ : ∀ k, P k ↔ Q k) : NxSpec Q r :=
  h.imp (fun ⟨h1, h2, h3⟩ => ⟨h1, (hPQ _).1 h2, fun k hk => h3 k ((hPQ k).2 hk)⟩) (fun ⟨h1, h2⟩ => ⟨h1, fun k hk => h2 k ((hPQ k).2 hk)⟩)
theorem drop_rank {keys : List ByteArray} (hr : keys.Pairwise fun a b => Go.L.lt a b = true) (x k : ByteArray) : k ∈ keys.drop (rank keys x) ↔ k ∈ keys ∧ Go.L.lt k x = false := by
  induction keys with
  | nil => simp
  | cons y l ih =>
    rw [List.pairwise_cons] at hr
    have ih := ih hr.2
    cases hy : Go.L.lt y x with
    | true =>
      have e : rank (y :: l) x = rank l x + 1 := by unfold rank; rw [List.filter_cons, if_pos hy]; rfl
      rw [e, List.drop_succ_cons, ih, List.mem_cons]
      constructor
      · rintro ⟨h1, h2⟩; exact ⟨.inr h1, h2⟩
      · rintro ⟨rfl | h1, h2⟩
        · rw [hy] at h2; cases h2
        · exact ⟨h1, h2⟩
    | false =>
      have e : rank (y :: l) x = 0 := by
        unfold rank
        rw [List.length_eq_zero_iff, List.filter_eq_nil_iff]
        intro z hz
        rcases List.mem_cons.1 hz with rfl | hz
        · rw [hy]; simp
        · cases h : Go.L.lt z x with
          | false => simp
          | true => have := Go.L.lt_trans (hr.1 z hz) h; rw [hy] at this; cases this
      rw [e, List.drop_zero]
      constructor
      · intro hk
        refine ⟨hk, ?_⟩
        rcases List.mem_cons.1 hk with rfl | hk
        · exact hy
        · cases h : Go.L.lt k x with
          | false => rfl
          | true => have := Go.L.lt_trans (hr.1 k hk) h; rw [hy] at this; cases this
      · exact fun h => h.1
theorem next_spec {M : Sp} (h : M.Ok) (rev : Int) (fr to : ByteArray) : NxSpec (inP M rev fr to) (M.next rev fr to) := by
  unfold Sp.next
  refine (nextGo_spec (h.rising.sublist (List.drop_sublist _ _))).congr fun k => ?_
  rw [drop_rank h.rising]
  unfold inP
  constructor
  · rintro ⟨⟨_, h2⟩, h3, h4⟩; exact ⟨h3, h2, h4⟩
  · rintro ⟨h3, h2, h4⟩
    refine ⟨⟨h.mem k ?_, h2⟩, h3, h4⟩
    intro e; unfold Sp.has at h3; rw [e] at h3; cases h3
theorem rNext_spec (rev : Int) (fr to : ByteArray) : ∀ (L : List KS) (b : ByteArray × Bool) (P : ByteArray → Prop), NxSpec P b →
    NxSpec (fun k => P k ∨ ∃ x ∈ L, x.1 = k ∧ nxP rev fr to x = true) (L.foldl (nxStep rev fr to) b) := by
  intro L
  induction L with
  | nil => exact fun b P h => h.congr fun k => by simp
  | cons x L ih =>
    intro b P h
    rw [List.foldl_cons]
    have h1 : NxSpec (fun k => P k ∨ (x.1 = k ∧ nxP rev fr to x = true)) (nxStep rev fr to b x) := by
      unfold nxStep
      by_cases hx : nxP rev fr to x = true
      · by_cases hb : b.2 = false ∨ Go.L.lt x.1 b.1 = true
        · rw [if_pos ⟨hx, hb⟩]
          refine .inl ⟨rfl, .inr ⟨rfl, hx⟩, ?_⟩
          rintro k (hk | ⟨rfl, _⟩)
          · rcases h with ⟨g1, g2, g3⟩ | ⟨g1, g2⟩
            · rcases hb with hb | hb
              · rw [g1] at hb; cases hb
              · show Go.L.lt k x.1 = false
                cases hlt : Go.L.lt k x.1 with
                | false => rfl
                | true => have := Go.L.lt_trans hlt hb; rw [g3 k hk] at this; cases this
            · exact absurd hk (g2 k)
          · exact Go.L.lt_irrefl _
        · rw [if_neg (fun e => hb e.2)]
          rcases h with ⟨g1, g2, g3⟩ | ⟨g1, g2⟩
          · refine .inl ⟨g1, .inl g2, ?_⟩
            rintro k (hk | ⟨rfl, _⟩)
            · exact g3 k hk
            · cases hlt : Go.L.lt x.1 b.1 with
              | false => rfl
              | true => exact absurd (.inr hlt) hb
          · exact absurd (.inl (by rw [g1])) hb
      · rw [if_neg (fun e => hx e.1)]
        exact h.congr fun k => ⟨fun h => .inl h, fun h => h.elim id fun h => absurd h.2 hx⟩
    refine (ih _ _ h1).congr fun k => ?_
    constructor
    · rintro ((h | h) | ⟨y, hy, h⟩)
      · exact .inl h
      · exact .inr ⟨x, by simp, h⟩
      · exact .inr ⟨y, List.mem_cons_of_mem _ hy, h⟩
    · rintro (h | ⟨y, hy, h⟩)
      · exact .inl (.inl h)
      · rcases List.mem_cons.1 hy with rfl | hy
        · exact .inl (.inr h)
        · exact .inr ⟨y, hy, h⟩
theorem Agree.next {M : Sp} {s : RS} (h : Agree M s) (rev : Int) (fr to : ByteArray) : rNext s.L rev fr to = M.next rev fr to := by
  refine NxSpec.unique (P := inP M rev fr to) ?_ (next_spec h.wf.ok rev fr to)
  refine (rNext_spec rev fr to s.L (emp, false) (fun _ => False) (.inr ⟨rfl, fun _ h => h⟩)).congr fun k => ?_
  unfold inP
  rw [← h.has k rev]
  unfold rHas
  rw [List.any_eq_true]
  constructor
  · rintro (h | ⟨x, hx, rfl, hp⟩)
    · exact h.elim
    · unfold nxP at hp
      simp at hp
      exact ⟨⟨x, hx, by simp [hp.1]⟩, hp.2.1, hp.2.2⟩
  · rintro ⟨⟨x, hx, hp⟩, h1, h2⟩
    simp at hp
    obtain ⟨h3, rfl⟩ := hp
    refine .inr ⟨x, hx, rfl, ?_⟩
    unfold nxP
    rw [h3, h1]
    simp
    exact h2
end Go.Proofs
