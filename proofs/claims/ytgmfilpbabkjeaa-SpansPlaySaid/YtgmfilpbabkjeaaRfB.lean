/- Spans: the reference's Put, Drop, Trim. Seat s14. -/
import Derived.Test.YtgmfilpbabkjeaaRfA
set_option linter.unusedVariables false
set_option linter.unusedSimpArgs false
set_option maxRecDepth 100000
namespace Go.Proofs
open Go.L Go.RowKit Go.Sort

theorem append_gen {t e sz bytes n n2 base base2 : Nat} {z v v2 : Value} {xs ys : List Value} {w : World} (ht : Try.prog.underlying t = some (.slice e)) (hinf : (Try.prog.info? e).map (fun i => (i.zero, i.size, i.bytes)) = some (some z, sz, bytes)) (hzs : z.cells.size = sz) (hsz : 0 < sz) (hbm : bytes ≤ 64)
    (h : w.ownsRow base e sz v n xs) (h2 : w.ownsRow base2 e sz v2 n2 ys) (h1 : ∀ u ∈ ys, u.oneCell' = true) (hb : base ≤ w.heap.size) (hn : n < 1000000000) (hn2 : n2 < 1000000000) {Φ : Value → World → Prop}
    (hk : ∀ v' w', w'.ownsRow base e sz v' (n + n2) (xs ++ ys) → Keeps (fun q => v.ownBlock = some q) w w' → Φ v' w') : runK Try.prog (Builtin.append_ #[t, t] t #[v, v2]) w Φ := by
  obtain ⟨ti, hi, hz0, hz1, hz2⟩ := info_out hinf
  rcases h2.2 with ⟨rfl, rfl⟩ | ⟨g, cap, cur, rfl, hg, hh, hnc, hcm, hcs, htake⟩
  · have : ys = [] := by have := h2.1; rw [Nat.zero_mul] at this; exact List.eq_nil_of_length_eq_zero this
    subst this
    exact runK_of (run_append_owned_none (P := Try.prog) (w := w) base t t e ti sz ht hi v _ _ h) (hk v w (by simpa using h) Keeps.refl)
  · have hbb : (n + n2) * bytes ≤ 2000000000 * 64 := Nat.mul_le_mul (by omega) hbm
    refine append_runK (base := base) (e := e) (sz := sz) (z := z) (bytes := bytes) ht hi hz0 hz1 hz2 hzs hsz h (news := ys) (m := n2) h2.1 ?_ h1 (by simp only [maxLen]; omega) (by omega) hb ?_
    · intro j u hu
      rw [addr_add, Nat.zero_add]
      exact row_cell h2 rfl hu
    · intro v' w' hr hg _
      exact hk v' w' hr ((Keeps.refl (S := fun q => v.ownBlock = some q)).grown hg (fun k e => .inl e))
/-- append of one element that lies in a block of its own. -/
theorem append_one {t e sz bytes n base q : Nat} {z v : Value} {xs ys : List Value} {cs : Array Value} {w : World} (ht : Try.prog.underlying t = some (.slice e)) (hinf : (Try.prog.info? e).map (fun i => (i.zero, i.size, i.bytes)) = some (some z, sz, bytes)) (hzs : z.cells.size = sz) (hsz : 0 < sz) (hbm : bytes ≤ 64)
    (h : w.ownsRow base e sz v n xs) (hq : w.heap[q]? = some (.cells cs e (0, 0))) (hys : cs.toList = ys) (hl : ys.length = sz) (h1 : ∀ u ∈ ys, u.oneCell' = true) (hb : base ≤ w.heap.size) (hn : n < 1000000000) {Φ : Value → World → Prop}
    (hk : ∀ v' w', w'.ownsRow base e sz v' (n + 1) (xs ++ ys) → Keeps (fun q => v.ownBlock = some q) w w' → Φ v' w') : runK Try.prog (Builtin.append_ #[t, t] t #[v, .slice (some ⟨q, 0, none⟩) 1 1]) w Φ := by
  obtain ⟨ti, hi, hz0, hz1, hz2⟩ := info_out hinf
  have hbb : (n + 1) * bytes ≤ 2000000000 * 64 := Nat.mul_le_mul (by omega) hbm
  refine append_runK (base := base) (e := e) (sz := sz) (z := z) (bytes := bytes) ht hi hz0 hz1 hz2 hzs hsz h (news := ys) (m := 1) (by omega) ?_ h1 (by simp only [maxLen]; omega) (by omega) hb ?_
  · intro j u hu
    rw [addr_add, Nat.zero_add]
    refine cell_of hq ?_
    rw [← Array.getElem?_toList, hys]; exact hu
  · intro v' w' hr hg _
    exact hk v' w' hr ((Keeps.refl (S := fun q => v.ownBlock = some q)).grown hg (fun k e => .inl e))
theorem one_flatX (l : List KS) : ∀ u ∈ l.flatMap encX, u.oneCell' = true := by
  intro u hu
  obtain ⟨x, _, hx⟩ := List.mem_flatMap.1 hu
  exact one_encX x u hx
/-- What is handed back: a struct of the reference, and something. -/
theorem ret_tail {w2 : World} {b0 b1 : Nat} {a : Option Addr} {n c : Nat} {last : Int} {cs1 : Array Value} (hne : b0 ≠ b1) (h0 : w2.heap[b0]? = some (.cells #[.slice a n c, .int .i64 last] 30 (0, 0))) (h1 : w2.heap[b1]? = some (.cells cs1 30 (0, 0))) (hs : cs1.size = 2)
    {K : Value → World → Prop} (hk : ∀ w4, Keeps (fun q => q = b1) w2 w4 → K (.agg #[.slice a n c, .int .i64 last]) w4) :
    ∃ x1a : Option Addr, ∃ x1l : Nat, ∃ x1c : Nat, w2.cell? ⟨b0, 0, none⟩ = some (.slice x1a x1l x1c) ∧ ∃ x2 : Int, w2.cell? ⟨b0, 1, none⟩ = some (.int .i64 x2) ∧
    storeK w2 ⟨b1, 0, none⟩ (.slice x1a x1l x1c) fun w3 =>
    storeK w3 ⟨b1, 1, none⟩ (.int .i64 x2) fun w4 =>
    ∃ x3a : Option Addr, ∃ x3l : Nat, ∃ x3c : Nat, w4.cell? ⟨b1, 0, none⟩ = some (.slice x3a x3l x3c) ∧ ∃ x4 : Int, w4.cell? ⟨b1, 1, none⟩ = some (.int .i64 x4) ∧
    K (.agg #[.slice x3a x3l x3c, .int .i64 x4]) w4 := by
  refine ⟨a, n, c, cell_of h0 rfl, last, cell_of h0 rfl, storeK_of h1 (by omega) ?_⟩
  have h2 := heap_set_same h1 0 (.slice a n c)
  refine storeK_of h2 (by simp; omega) ?_
  have h3 := heap_set_same h2 1 (.int .i64 last)
  have k : Keeps (fun q => q = b1) w2 ((w2.setCell ⟨b1, 0, none⟩ (.slice a n c)).setCell ⟨b1, 1, none⟩ (.int .i64 last)) := ((Keeps.refl (S := fun q => q = b1)).set (.inl rfl) _ _).set (.inl rfl) _ _
  exact ⟨a, n, c, cell_of h3 (by simp [hs]), last, cell_of h3 (by simp [hs]), hk _ k⟩
theorem idxOf_neg {α : Type} {p : α → Bool} {l : List α} : decide (idxOf p l < 0) = !l.any p := by
  have := idxOf_ge (p := p) (l := l)
  cases h : l.any p <;> rw [h] at this <;> simp at this ⊢ <;> omega
structure RS where
  L : List KS
  last : Int
def rPut (s : RS) (key : ByteArray) (rev : Int) : RS × Bool :=
  if rev < 1 ∨ rev < s.last ∨ s.L.any (isOpen key) = true then (s, false) else (⟨s.L ++ [(key, (rev, 0))], rev⟩, true)
/-- What a function of the reference that makes a struct hands back. -/
def RefOut (w w' : World) (B : Nat) (v : Value) (L' : List KS) (v' : Value) : Prop := RowX w' B v' L' ∧ Keeps no w w' ∧ (v' = v ∨ ∀ q, v'.ownBlock = some q → w.heap.size ≤ q)
set_option maxHeartbeats 1000000 in
theorem Put12 {B : Nat} {w : World} {v : Value} {s : RS} (h : RowX w B v s.L) (hB : B ≤ w.heap.size) (hL : s.L.length < 900000000) (key : ByteArray) (rev : Int) :
    Calls Try.prog 12 #[.agg #[v, .int .i64 s.last], .string key, .int .i64 rev] w fun e w' => ∃ v', e = .returned (.tuple #[.agg #[v', .int .i64 (rPut s key rev).1.last], .bool (rPut s key rev).2]) ∧ RefOut w w' B v (rPut s key rev).1.L v' := by
  obtain ⟨a, c, hv, _⟩ := row_shape h
  rw [hv]
  refine F12.calls_of _ _ _ _ _ _ ?_
  unfold F12.sh
  refine allocK_of (allocK_of ?_)
  have n0 := heap_new w (.cells #[.slice a s.L.length c, .int .i64 s.last] 30)
  have n1 := heap_new (w.alloc (.cells #[.slice a s.L.length c, .int .i64 s.last] 30)) (.cells #[.slice none 0 0, .int .i64 0] 30)
  have hs1 : (w.alloc (.cells #[.slice a s.L.length c, .int .i64 s.last] 30)).heap.size = w.heap.size + 1 := by simp
  have k2 : Keeps no w ((w.alloc (.cells #[.slice a s.L.length c, .int .i64 s.last] 30)).alloc (.cells #[.slice none 0 0, .int .i64 0] 30)) := (Keeps.refl.alloc _).alloc _
  have n0' := heap_old (w := w.alloc (.cells #[.slice a s.L.length c, .int .i64 s.last] 30)) (b := w.heap.size) (.cells #[.slice none 0 0, .int .i64 0] 30) (by omega)
  rw [n0] at n0'
  rw [hs1] at n1 ⊢
  generalize ((w.alloc (.cells #[.slice a s.L.length c, .int .i64 s.last] 30)).alloc (.cells #[.slice none 0 0, .int .i64 0] 30)) = w2 at *
  have hs2 := lt_of_heap n1
  have fail : ∀ {w3 : World}, Keeps no w2 w3 → rPut s key rev = (s, false) → ∀ w4, Keeps (fun q => q = w.heap.size + 1) w3 w4 →
      ∃ v', Ending.returned (.tuple #[.agg #[.slice a s.L.length c, .int .i64 s.last], .bool false]) = Ending.returned (.tuple #[.agg #[v', .int .i64 (rPut s key rev).1.last], .bool (rPut s key rev).2]) ∧ RefOut w w4 B (.slice a s.L.length c) (rPut s key rev).1.L v' := by
    intro w3 k3 e w4 k4
    rw [e]
    have hk : Keeps no w w4 := (k2.transN k3).trans k4 (fun q hq => .inr (by omega))
    exact ⟨_, rfl, row_quiet (hv ▸ h) hk, hk, .inl rfl⟩
  refine iteP_of (fun g1 => ?_) (fun g1 => ?_)
  · have g1 : rev < 1 := by simpa using g1
    exact ret_tail (K := fun v w4 => (fun e w' => ∃ v', e = Ending.returned (.tuple #[.agg #[v', .int .i64 (rPut s key rev).1.last], .bool (rPut s key rev).2]) ∧ RefOut w w' B (.slice a s.L.length c) (rPut s key rev).1.L v') (.returned (.tuple #[v, .bool false])) w4) (by omega) n0' n1 rfl
      (fail Keeps.refl (by unfold rPut; rw [if_pos (.inl g1)]))
  refine ⟨_, cell_of n0' rfl, iteP_of (fun g2 => ?_) (fun g2 => ?_)⟩
  · have g2 : rev < s.last := by simpa using g2
    exact ret_tail (K := fun v w4 => (fun e w' => ∃ v', e = Ending.returned (.tuple #[.agg #[v', .int .i64 (rPut s key rev).1.last], .bool (rPut s key rev).2]) ∧ RefOut w w' B (.slice a s.L.length c) (rPut s key rev).1.L v') (.returned (.tuple #[v, .bool false])) w4) (by omega) n0' n1 rfl
      (fail Keeps.refl (by unfold rPut; rw [if_pos (.inr (.inl g2))]))
  refine ⟨_, _, _, cell_of n0' rfl, _, cell_of n0' rfl, ?_⟩
  have hx2 : XAt w2 a s.L := (XAt.of (hv ▸ h)).quiet k2
  refine (open29 hx2 (by omega) key).mono ?_
  rintro e w7 ⟨rfl, k7⟩
  have n07 := k7.heap n0' id
  have n17 := k7.heap n1 id
  refine ⟨_, rfl, iteP_of (fun g3 => ?_) (fun g3 => ?_)⟩
  · rw [idxOf_ge] at g3
    exact ret_tail (K := fun v w4 => (fun e w' => ∃ v', e = Ending.returned (.tuple #[.agg #[v', .int .i64 (rPut s key rev).1.last], .bool (rPut s key rev).2]) ∧ RefOut w w' B (.slice a s.L.length c) (rPut s key rev).1.L v') (.returned (.tuple #[v, .bool false])) w4) (by omega) n07 n17 rfl
      (fail k7 (by unfold rPut; rw [if_pos (.inr (.inr g3))]))
  · rw [idxOf_ge] at g3
    have g1 : ¬ rev < 1 := by simpa using g1
    have g2 : ¬ rev < s.last := by simpa using g2
    have e : rPut s key rev = (⟨s.L ++ [(key, (rev, 0))], rev⟩, true) := by unfold rPut; rw [if_neg (by rintro (h | h | h); exact g1 h; exact g2 h; rw [g3] at h; cases h)]
    rw [e]
    have k27 := k2.transN k7
    have r7 := row_quiet (hv ▸ h) k27
    have s7 := k27.size
    have s27 := k7.size
    refine ⟨_, _, _, cell_of n07 rfl, ?_⟩
    refine append_gen (base := w.heap.size) und28 inf71 rfl (by decide) (by decide) (World.ownsRow_nil w7 w.heap.size 71 3) r7 (one_flatX _) (by omega) (by omega) (by omega) fun v2 w11 r11 k11 => ?_
    obtain ⟨a2, c2, hv2, _⟩ := row_shape r11
    refine ⟨_, _, _, hv2, allocK_of ?_⟩
    rw [← hv2]
    have k11 : Keeps no w7 w11 := k11.mono fun q _ h => by simp [Value.ownBlock] at h
    have m0 := heap_new w11 (.cells #[.string key, .int .i64 rev, .int .i64 0] 71)
    have kA : Keeps no w11 (w11.alloc (.cells #[.string key, .int .i64 rev, .int .i64 0] 71)) := Keeps.refl.alloc _
    have rA := row_quiet r11 kA
    have n1A := kA.heap (k11.heap n17 id) id
    generalize w11.alloc (.cells #[.string key, .int .i64 rev, .int .i64 0] 71) = w12 at *
    have sA := kA.size
    have s11 := k11.size
    refine append_one (base := w.heap.size) und28 inf71 rfl (by decide) (by decide) rA m0 (ys := encX (key, (rev, 0))) rfl rfl (one_encX _) (by omega) (by omega) fun v3 w13 r13 k13 => ?_
    obtain ⟨a3, c3, hv3, _⟩ := row_shape r13
    refine ⟨_, _, _, hv3, ?_⟩
    have ob : ∀ q, v2.ownBlock = some q → w.heap.size ≤ q := fun q hq => (r11.lt q hq).1
    have ob1 : v2.ownBlock ≠ some (w.heap.size + 1) := by
      intro e
      obtain ⟨cap, cur, _, _, hh, _⟩ := row_heap r11 e
      rw [k11.heap n17 id] at hh; cases hh
    have n113 := k13.heap n1A ob1
    refine storeK_of n113 (by simp) ?_
    have z1 := heap_set_same n113 0 (.slice a3 (0 + s.L.length + 1) c3)
    refine storeK_of z1 (by simp) ?_
    have z2 := heap_set_same z1 1 (.int .i64 rev)
    refine ⟨_, _, _, cell_of z2 rfl, _, cell_of z2 rfl, _, by rw [← hv3], ?_⟩
    have kS : Keeps (fun q => q = w.heap.size + 1) w13 ((w13.setCell ⟨w.heap.size + 1, 0, none⟩ (.slice a3 (0 + s.L.length + 1) c3)).setCell ⟨w.heap.size + 1, 1, none⟩ (.int .i64 rev)) := ((Keeps.refl (S := fun q => q = w.heap.size + 1)).set (.inl rfl) _ _).set (.inl rfl) _ _
    have ob3 : v3.ownBlock ≠ some (w.heap.size + 1) := by
      intro e
      obtain ⟨cap, cur, _, _, hh, _⟩ := row_heap r13 e
      rw [n113] at hh; cases hh
    have rF := row_keeps r13 kS (fun q hq e => ob3 (by rw [hq, e]))
    refine ⟨?_, ?_, .inr fun q hq => (r13.lt q hq).1⟩
    · have rF' := row_base rF (B' := B) hB
      have e1 : 0 + s.L.length + 1 = (s.L ++ [(key, (rev, 0))]).length := by simp
      have e2 : ([] ++ s.L.flatMap encX) ++ encX (key, (rev, 0)) = (s.L ++ [(key, (rev, 0))]).flatMap encX := by rw [List.flatMap_append]; simp
      show World.ownsRow _ B 71 3 v3 (s.L ++ [(key, (rev, 0))]).length ((s.L ++ [(key, (rev, 0))]).flatMap encX)
      rw [← e1, ← e2]
      exact rF'
    · have kk : Keeps no w w13 := ((k27.transN k11).transN kA).trans k13 (fun q hq => .inr (ob q hq))
      exact kk.trans kS (fun q hq => .inr (by omega))

def rDrop (s : RS) (key : ByteArray) (rev : Int) : RS × Bool :=
  if rev < s.last then (s, false) else
  match s.L.findIdx? (isOpen key) with
  | none => (s, false)
  | some i => match s.L[i]? with
    | none => (s, false)
    | some x => if x.2.1 ≥ rev then (s, false) else (⟨s.L.set i (x.1, (x.2.1, rev)), rev⟩, true)
theorem flatX_set {l : List KS} {i : Nat} {x : KS} (h : l[i]? = some x) (r : Int) : (l.flatMap encX).set (i * 3 + 2) (.int .i64 r) = (l.set i (x.1, (x.2.1, r))).flatMap encX := by
  induction l generalizing i with
  | nil => simp at h
  | cons y l ih =>
    cases i with
    | zero => simp at h; subst h; simp [encX]
    | succ i =>
      simp at h
      have e1 : (i + 1) * 3 + 2 = (i * 3 + 2) + 1 + 1 + 1 := by omega
      rw [List.flatMap_cons, List.set_cons_succ, List.flatMap_cons, ← ih h, e1]
      simp [encX]
set_option maxHeartbeats 1000000 in
theorem Drop14 {B : Nat} {w : World} {v : Value} {s : RS} (h : RowX w B v s.L) (hB : B ≤ w.heap.size) (hL : s.L.length < 900000000) (key : ByteArray) (rev : Int) :
    Calls Try.prog 14 #[.agg #[v, .int .i64 s.last], .string key, .int .i64 rev] w fun e w' => ∃ v', e = .returned (.tuple #[.agg #[v', .int .i64 (rDrop s key rev).1.last], .bool (rDrop s key rev).2]) ∧ RefOut w w' B v (rDrop s key rev).1.L v' := by
  obtain ⟨a, c, hv, _⟩ := row_shape h
  rw [hv]
  refine F14.calls_of _ _ _ _ _ _ ?_
  unfold F14.sh
  refine allocK_of (allocK_of ?_)
  have n0 := heap_new w (.cells #[.slice a s.L.length c, .int .i64 s.last] 30)
  have n1 := heap_new (w.alloc (.cells #[.slice a s.L.length c, .int .i64 s.last] 30)) (.cells #[.slice none 0 0, .int .i64 0] 30)
  have hs1 : (w.alloc (.cells #[.slice a s.L.length c, .int .i64 s.last] 30)).heap.size = w.heap.size + 1 := by simp
  have k2 : Keeps no w ((w.alloc (.cells #[.slice a s.L.length c, .int .i64 s.last] 30)).alloc (.cells #[.slice none 0 0, .int .i64 0] 30)) := (Keeps.refl.alloc _).alloc _
  have n0' := heap_old (w := w.alloc (.cells #[.slice a s.L.length c, .int .i64 s.last] 30)) (b := w.heap.size) (.cells #[.slice none 0 0, .int .i64 0] 30) (by omega)
  rw [n0] at n0'
  rw [hs1] at n1 ⊢
  generalize ((w.alloc (.cells #[.slice a s.L.length c, .int .i64 s.last] 30)).alloc (.cells #[.slice none 0 0, .int .i64 0] 30)) = w2 at *
  have hs2 := lt_of_heap n1
  refine ⟨_, _, _, cell_of n0' rfl, _, cell_of n0' rfl, ?_⟩
  have hx2 : XAt w2 a s.L := (XAt.of (hv ▸ h)).quiet k2
  refine (open29 hx2 (by omega) key).mono ?_
  rintro e w3 ⟨rfl, k3⟩
  have n03 := k3.heap n0' id
  have n13 := k3.heap n1 id
  have hx3 := hx2.quiet k3
  have k03 := k2.transN k3
  have fail : rDrop s key rev = (s, false) → ∀ w4, Keeps (fun q => q = w.heap.size + 1) w3 w4 →
      ∃ v', Ending.returned (.tuple #[.agg #[.slice a s.L.length c, .int .i64 s.last], .bool false]) = Ending.returned (.tuple #[.agg #[v', .int .i64 (rDrop s key rev).1.last], .bool (rDrop s key rev).2]) ∧ RefOut w w4 B (.slice a s.L.length c) (rDrop s key rev).1.L v' := by
    intro e w4 k4
    rw [e]
    have hk : Keeps no w w4 := k03.trans k4 (fun q hq => .inr (by omega))
    exact ⟨_, rfl, row_quiet (hv ▸ h) hk, hk, .inl rfl⟩
  refine ⟨_, rfl, _, cell_of n03 rfl, iteP_of (fun g1 => ?_) (fun g1 => ?_)⟩
  · have g1 : rev < s.last := by simpa using g1
    exact ret_tail (K := fun v w4 => (fun e w' => ∃ v', e = Ending.returned (.tuple #[.agg #[v', .int .i64 (rDrop s key rev).1.last], .bool (rDrop s key rev).2]) ∧ RefOut w w' B (.slice a s.L.length c) (rDrop s key rev).1.L v') (.returned (.tuple #[v, .bool false])) w4) (by omega) n03 n13 rfl
      (fail (by unfold rDrop; rw [if_pos g1]))
  have g1 : ¬ rev < s.last := by simpa using g1
  refine iteP_of (fun g2 => ?_) (fun g2 => ?_)
  · rw [idxOf_neg] at g2
    have g2 : s.L.findIdx? (isOpen key) = none := by
      rw [List.findIdx?_eq_none_iff]; intro x hx
      have : s.L.any (isOpen key) = false := by simpa using g2
      rw [List.any_eq_false] at this; simpa using this x hx
    exact ret_tail (K := fun v w4 => (fun e w' => ∃ v', e = Ending.returned (.tuple #[.agg #[v', .int .i64 (rDrop s key rev).1.last], .bool (rDrop s key rev).2]) ∧ RefOut w w' B (.slice a s.L.length c) (rDrop s key rev).1.L v') (.returned (.tuple #[v, .bool false])) w4) (by omega) n03 n13 rfl
      (fail (by unfold rDrop; rw [if_neg g1, g2]))
  obtain ⟨i, hi⟩ : ∃ i, s.L.findIdx? (isOpen key) = some i := by
    cases hf : s.L.findIdx? (isOpen key) with
    | some i => exact ⟨i, rfl⟩
    | none =>
      exfalso
      rw [idxOf_neg] at g2
      have : s.L.any (isOpen key) = false := by
        rw [List.any_eq_false]; rw [List.findIdx?_eq_none_iff] at hf; intro x hx; simpa using hf x hx
      rw [this] at g2; cases g2
  have hidx : idxOf (isOpen key) s.L = (i : Int) := by unfold idxOf; rw [hi]
  obtain ⟨hlt, hop, _⟩ := List.findIdx?_eq_some_iff_getElem.1 hi
  obtain ⟨p, hp, c0, c1, c2⟩ := hx3 i hlt
  rw [hidx, Int.toNat_natCast]
  refine ⟨_, _, _, cell_of n03 rfl, ⟨by omega, by omega⟩, onSome_of hp ⟨_, c1, iteP_of (fun g3 => ?_) (fun g3 => ?_)⟩⟩
  · have g3 : s.L[i].2.1 ≥ rev := by simpa using g3
    exact ret_tail (K := fun v w4 => (fun e w' => ∃ v', e = Ending.returned (.tuple #[.agg #[v', .int .i64 (rDrop s key rev).1.last], .bool (rDrop s key rev).2]) ∧ RefOut w w' B (.slice a s.L.length c) (rDrop s key rev).1.L v') (.returned (.tuple #[v, .bool false])) w4) (by omega) n03 n13 rfl
      (fail (by unfold rDrop; rw [if_neg g1, hi]; simp only [List.getElem?_eq_getElem hlt]; rw [if_pos g3]))
  have g3 : ¬ s.L[i].2.1 ≥ rev := by simpa using g3
  have e : rDrop s key rev = (⟨s.L.set i (s.L[i].1, (s.L[i].2.1, rev)), rev⟩, true) := by
    unfold rDrop; rw [if_neg g1, hi]; simp only [List.getElem?_eq_getElem hlt]; rw [if_neg g3]
  rw [e]
  have r3 := row_quiet (hv ▸ h) k03
  have s03 := k03.size
  have s23 := k3.size
  refine ⟨_, _, _, cell_of n03 rfl, ?_⟩
  refine append_gen (base := w.heap.size) und28 inf71 rfl (by decide) (by decide) (World.ownsRow_nil w3 w.heap.size 71 3) r3 (one_flatX _) (by omega) (by omega) (by omega) fun v2 w11 r11 k11 => ?_
  obtain ⟨a2, c2', hv2, hsh⟩ := row_shape r11
  rw [List.nil_append] at r11
  have k11 : Keeps no w3 w11 := k11.mono fun q _ h => by simp [Value.ownBlock] at h
  have n111 := k11.heap n13 id
  obtain ⟨g, hg, hgB, hgl⟩ := row_block r11 (by omega)
  obtain ⟨cap, cur, hve, _, hh, hnc, hcm, hcs, _⟩ := row_heap r11 hg
  have ha2 : a2 = some ⟨g, 0, none⟩ := by
    rw [hv2] at hve; injection hve
  refine ⟨_, _, _, hv2, ⟨by omega, by omega⟩, onSome_of ha2 ?_⟩
  rw [addr_add, addr_add]
  have hgne : g ≠ w.heap.size + 1 := by intro e; rw [e, n111] at hh; cases hh
  refine storeK_of hh (by rw [hcs]; omega) ?_
  have hrow := row_set r11 hg (j := i * 3 + 2) (by rw [len_encX]; omega) (.int .i64 rev)
  have hget : s.L[i]? = some s.L[i] := List.getElem?_eq_getElem hlt
  rw [flatX_set hget] at hrow
  have kg : Keeps (fun q => q = g) w11 (w11.setCell ⟨g, 0 + i * 3 + 2, none⟩ (.int .i64 rev)) := (Keeps.refl (S := fun q => q = g)).set (.inl rfl) _ _
  rw [show i * 3 + 2 = 0 + i * 3 + 2 by omega] at hrow
  have n112 := kg.heap n111 (fun e => hgne e.symm)
  generalize w11.setCell ⟨g, 0 + i * 3 + 2, none⟩ (.int .i64 rev) = w12 at *
  refine storeK_of n112 (by simp) ?_
  have z1 := heap_set_same n112 0 (.slice a2 (0 + s.L.length) c2')
  refine storeK_of z1 (by simp) ?_
  have z2 := heap_set_same z1 1 (.int .i64 rev)
  refine ⟨_, _, _, cell_of z2 rfl, _, cell_of z2 rfl, _, by rw [← hv2], ?_⟩
  have kS : Keeps (fun q => q = w.heap.size + 1) w12 ((w12.setCell ⟨w.heap.size + 1, 0, none⟩ (.slice a2 (0 + s.L.length) c2')).setCell ⟨w.heap.size + 1, 1, none⟩ (.int .i64 rev)) := ((Keeps.refl (S := fun q => q = w.heap.size + 1)).set (.inl rfl) _ _).set (.inl rfl) _ _
  have rF := row_keeps hrow kS (fun q hq e => by rw [hg] at hq; cases hq; exact hgne e)
  refine ⟨?_, ?_, .inr fun q hq => by rw [hg] at hq; cases hq; exact hgB⟩
  · have rF' := row_base rF (B' := B) hB
    have e1 : 0 + s.L.length = (s.L.set i (s.L[i].1, (s.L[i].2.1, rev))).length := by simp
    show World.ownsRow _ B 71 3 v2 (s.L.set i (s.L[i].1, (s.L[i].2.1, rev))).length _
    rw [← e1]
    exact rF'
  · have kk : Keeps no w w12 := (k03.transN k11).trans kg (fun q hq => .inr (by rw [hq]; exact hgB))
    exact kk.trans kS (fun q hq => .inr (by omega))
end Go.Proofs
