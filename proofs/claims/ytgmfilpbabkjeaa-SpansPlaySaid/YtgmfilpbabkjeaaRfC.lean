/- Spans: the reference's Trim, Next. Seat s14. -/
import Derived.Test.YtgmfilpbabkjeaaRfB
set_option linter.unusedVariables false
set_option linter.unusedSimpArgs false
set_option maxRecDepth 100000
namespace Go.Proofs
open Go.L Go.RowKit Go.Sort

theorem filter_takeR {α : Type} (p : α → Bool) {l : List α} {i : Nat} (h : i < l.length) : (l.take (i + 1)).filter p = (l.take i).filter p ++ (if p l[i] then [l[i]] else []) := by
  rw [List.take_succ_eq_append_getElem h, List.filter_append]
  congr 1
  by_cases h : p l[i] <;> simp [h]
def stays (rev : Int) (x : KS) : Bool := !gone rev x.2
theorem stays_eq (rev : Int) (x : KS) : stays rev x = (x.2.2 == 0 || decide (x.2.2 > rev)) := by
  unfold stays gone
  rw [Bool.eq_iff_iff]
  simp
def rTrim (s : RS) (rev : Int) : RS × Nat := (⟨s.L.filter (stays rev), s.last⟩, s.L.length - (s.L.filter (stays rev)).length)
set_option maxHeartbeats 1000000 in
theorem Trim16 {B : Nat} {w : World} {v : Value} {s : RS} (h : RowX w B v s.L) (hB : B ≤ w.heap.size) (hL : s.L.length < 900000000) (rev : Int) :
    Calls Try.prog 16 #[.agg #[v, .int .i64 s.last], .int .i64 rev] w fun e w' => ∃ v', e = .returned (.tuple #[.agg #[v', .int .i64 (rTrim s rev).1.last], .int .i64 (((rTrim s rev).2 : Nat) : Int)]) ∧ RefOut w w' B v (rTrim s rev).1.L v' := by
  obtain ⟨a, c, hv, _⟩ := row_shape h
  rw [hv]
  refine F16.calls_of _ _ _ _ _ ?_
  unfold F16.sh
  refine allocK_of (allocK_of ?_)
  have n0 := heap_new w (.cells #[.slice a s.L.length c, .int .i64 s.last] 30)
  have n1 := heap_new (w.alloc (.cells #[.slice a s.L.length c, .int .i64 s.last] 30)) (.cells #[.slice none 0 0, .int .i64 0] 30)
  have hs1 : (w.alloc (.cells #[.slice a s.L.length c, .int .i64 s.last] 30)).heap.size = w.heap.size + 1 := by simp
  have k2 : Keeps no w ((w.alloc (.cells #[.slice a s.L.length c, .int .i64 s.last] 30)).alloc (.cells #[.slice none 0 0, .int .i64 0] 30)) := (Keeps.refl.alloc _).alloc _
  have n0' := heap_old (w := w.alloc (.cells #[.slice a s.L.length c, .int .i64 s.last] 30)) (b := w.heap.size) (.cells #[.slice none 0 0, .int .i64 0] 30) (by omega)
  rw [n0] at n0'
  rw [hs1] at n1 ⊢
  generalize ((w.alloc (.cells #[.slice a s.L.length c, .int .i64 s.last] 30)).alloc (.cells #[.slice none 0 0, .int .i64 0] 30)) = w2 at *
  have hs2 := lt_of_heap n1
  have hx2 : BoxX w2 w.heap.size a c s.last s.L := ⟨n0', (XAt.of (hv ▸ h)).quiet k2⟩
  refine ⟨fun la ll lc i k w3 => ∃ x : Nat, i = x ∧ x ≤ s.L.length ∧ k = s.L.length - x ∧ ll = ((s.L.take x).filter (stays rev)).length ∧
      w3.ownsRow w2.heap.size 71 3 (.slice la ll lc) ll (((s.L.take x).filter (stays rev)).flatMap encX) ∧ BoxX w3 w.heap.size a c s.last s.L ∧ Keeps no w2 w3,
    ⟨_, 0, rfl, by omega, rfl, rfl, World.ownsRow_nil _ _ _ _, hx2, Keeps.refl⟩, ?_⟩
  rintro la ll lc i k w3 ⟨x, rfl, hx, rfl, rfl, hrow, h3, k3⟩ z
  have hO : ((s.L.take x).filter (stays rev)).length ≤ s.L.length := Nat.le_trans (List.length_filter_le _ _) (by rw [List.length_take]; omega)
  have s3 := k3.size
  refine ⟨_, _, _, h3.l, iteP_of (fun hi => ?_) (fun hi => ?_)⟩
  · have hi : x < s.L.length := by simpa using hi
    obtain ⟨p, hp, c0, c1, c2⟩ := h3.at_ x hi
    have hft := filter_takeR (stays rev) hi
    -- one more, or not
    have keep : stays rev s.L[x] = true → ∃ x5 : ByteArray, w3.cell? (Addr.add p (x * 3)) = some (.string x5) ∧ ∃ x6 : Int, w3.cell? (Addr.add (Addr.add p (x * 3)) 1) = some (.int .i64 x6) ∧ ∃ x7 : Int, w3.cell? (Addr.add (Addr.add p (x * 3)) 2) = some (.int .i64 x7) ∧
        allocK w3 (.cells #[.string x5, .int .i64 x6, .int .i64 x7] 71) fun w4 =>
        runK Try.prog (Builtin.append_ #[28, 28] 28 #[.slice la ((s.L.take x).filter (stays rev)).length lc, .slice (some ⟨w3.heap.size, 0, none⟩) 1 1]) w4 fun v1 w5 =>
        ∃ x8a : Option Addr, ∃ x8l : Nat, ∃ x8c : Nat, v1 = .slice x8a x8l x8c ∧
        ∃ k3, k3 < s.L.length - x ∧ ∃ y : Nat, IntKind.wrap .i64 ((x : Int) + 1) = y ∧ y ≤ s.L.length ∧ k3 = s.L.length - y ∧ x8l = ((s.L.take y).filter (stays rev)).length ∧
          w5.ownsRow w2.heap.size 71 3 (.slice x8a x8l x8c) x8l (((s.L.take y).filter (stays rev)).flatMap encX) ∧ BoxX w5 w.heap.size a c s.last s.L ∧ Keeps no w2 w5 := by
      intro hst
      refine ⟨_, c0, _, c1, _, c2, allocK_of ?_⟩
      have m0 := heap_new w3 (.cells #[.string s.L[x].1, .int .i64 s.L[x].2.1, .int .i64 s.L[x].2.2] 71)
      have kA : Keeps no w3 (w3.alloc (.cells #[.string s.L[x].1, .int .i64 s.L[x].2.1, .int .i64 s.L[x].2.2] 71)) := Keeps.refl.alloc _
      have rA := row_quiet hrow kA
      generalize w3.alloc (.cells #[.string s.L[x].1, .int .i64 s.L[x].2.1, .int .i64 s.L[x].2.2] 71) = w4 at *
      have sA := kA.size
      refine append_one (base := w2.heap.size) und28 inf71 rfl (by decide) (by decide) rA m0 (ys := encX s.L[x]) rfl rfl (one_encX _) (by omega) (by omega) fun v1 w5 r5 k5 => ?_
      obtain ⟨a5, c5, hv5, _⟩ := row_shape r5
      have ob : ∀ q, (Value.slice la ((s.L.take x).filter (stays rev)).length lc).ownBlock = some q → w2.heap.size ≤ q := fun q hq => (hrow.lt q hq).1
      have k25 : Keeps no w2 w5 := (k3.transN kA).trans k5 (fun q hq => .inr (ob q hq))
      rw [IntWalk.i64_in _ (by omega)]
      rw [if_pos hst] at hft
      refine ⟨_, _, _, hv5, s.L.length - (x + 1), by omega, x + 1, by omega, by omega, rfl, ?_, ?_, ⟨k25.heap n0' id, hx2.at_.quiet k25⟩, k25⟩
      · rw [hft, List.length_append]; rfl
      · rw [hft, List.flatMap_append, ← hv5]; simpa using r5
    rw [Int.toNat_natCast]
    refine ⟨_, _, _, h3.l, ⟨by omega, by omega⟩, onSome_of hp ⟨_, c2, iteP_of (fun h4 => ?_) (fun h4 => ?_)⟩⟩
    · refine ⟨_, _, _, h3.l, ⟨by omega, by omega⟩, onSome_of hp ?_⟩
      exact keep (by rw [stays_eq, h4]; rfl)
    · refine ⟨_, _, _, h3.l, ⟨by omega, by omega⟩, onSome_of hp ⟨_, c2, iteP_of (fun h5 => ?_) (fun h5 => ?_)⟩⟩
      · refine ⟨_, _, _, h3.l, ⟨by omega, by omega⟩, onSome_of hp ?_⟩
        exact keep (by rw [stays_eq, h5, Bool.or_true])
      · rw [IntWalk.i64_in _ (by omega)]
        rw [if_neg (by rw [stays_eq, h4, h5]; simp)] at hft
        refine ⟨s.L.length - (x + 1), by omega, x + 1, by omega, by omega, rfl, ?_, ?_, h3, k3⟩
        · rw [hft, List.append_nil]
        · rw [hft, List.append_nil]; exact hrow
  · have hi : x = s.L.length := by have : ¬ x < s.L.length := by simpa using hi
                                   omega
    subst hi
    rw [List.take_length] at hrow hO ⊢
    have kd : Keeps no w3 w3.drew := (Keeps.refl (S := no)).drew
    have hd := h3.quiet kd
    have rd := row_quiet hrow kd
    have n13 := (k3.transN kd).heap n1 id
    refine ⟨_, hd.last, _, _, _, hd.l, ?_⟩
    generalize w3.drew = w4 at *
    have s4 := kd.size
    refine storeK_of n13 (by simp) ?_
    have z1 := heap_set_same n13 0 (.slice la (s.L.filter (stays rev)).length lc)
    refine storeK_of z1 (by simp) ?_
    have z2 := heap_set_same z1 1 (.int .i64 s.last)
    have kS : Keeps (fun q => q = w.heap.size + 1) w4 ((w4.setCell ⟨w.heap.size + 1, 0, none⟩ (.slice la (s.L.filter (stays rev)).length lc)).setCell ⟨w.heap.size + 1, 1, none⟩ (.int .i64 s.last)) := ((Keeps.refl (S := fun q => q = w.heap.size + 1)).set (.inl rfl) _ _).set (.inl rfl) _ _
    have n0F := kS.heap hd.box (by omega)
    have rF := row_keeps rd kS (fun q hq e => by have := (rd.lt q hq).1; omega)
    refine ⟨⟨_, _, _, cell_of n0F rfl, rfl⟩, _, _, _, cell_of z2 rfl, _, cell_of z2 rfl, _, ?_, ?_, ?_, .inr fun q hq => by have := (rd.lt q hq).1; omega⟩
    · have : IntKind.wrap .i64 (((s.L.length : Nat) : Int) - (((s.L.filter (stays rev)).length : Nat) : Int)) = (((rTrim s rev).2 : Nat) : Int) := by
        rw [IntWalk.i64_in _ (by omega)]; unfold rTrim; simp only []; omega
      rw [this]; rfl
    · exact row_base rF (by omega)
    · exact ((k2.transN k3).transN kd).trans kS (fun q hq => .inr (by omega))

/-! ### Next -/
def nxP (rev : Int) (fr to : ByteArray) (x : KS) : Bool := holds rev x.2 && (!Go.L.lt x.1 fr && (decide (to = emp) || Go.L.lt x.1 to))
def nxStep (rev : Int) (fr to : ByteArray) (b : ByteArray × Bool) (x : KS) : ByteArray × Bool := if nxP rev fr to x = true ∧ (b.2 = false ∨ Go.L.lt x.1 b.1 = true) then (x.1, true) else b
def rNext (L : List KS) (rev : Int) (fr to : ByteArray) : ByteArray × Bool := L.foldl (nxStep rev fr to) (emp, false)
set_option maxHeartbeats 1000000 in
theorem rNext18 {w : World} {a : Option Addr} {c : Nat} {last : Int} {L : List KS} (h : XAt w a L) (hL : L.length < 1000000000) (rev : Int) (fr to : ByteArray) :
    Calls Try.prog 18 #[.agg #[.slice a L.length c, .int .i64 last], .int .i64 rev, .string fr, .string to] w fun e w' => e = .returned (.tuple #[.string (rNext L rev fr to).1, .bool (rNext L rev fr to).2]) ∧ Keeps no w w' := by
  refine F18.calls_of _ _ _ _ _ _ _ ?_
  unfold F18.sh
  refine allocK_of ?_
  have hb := BoxX.new (c := c) (last := last) h
  have k1 : Keeps no w (w.alloc (.cells #[.slice a L.length c, .int .i64 last] 30)) := Keeps.refl.alloc _
  refine ⟨fun b is i k w1 => ∃ x : Nat, i = x ∧ x ≤ L.length ∧ k = L.length - x ∧ (b, is) = (L.take x).foldl (nxStep rev fr to) (emp, false) ∧ BoxX w1 w.heap.size a c last L ∧ Keeps no w w1, ⟨_, 0, rfl, by omega, rfl, rfl, hb, k1⟩, ?_⟩
  rintro b is i k w2 ⟨x, rfl, hx, rfl, hbi, h2, k2⟩ z
  refine ⟨_, _, _, h2.l, iteP_of (fun hi => ?_) (fun hi => ?_)⟩
  · have hi : x < L.length := by simpa using hi
    obtain ⟨p, hp, c0, c1, c2⟩ := h2.at_ x hi
    have ht : (L.take (x + 1)).foldl (nxStep rev fr to) (emp, false) = nxStep rev fr to (b, is) L[x] := by
      rw [List.take_succ_eq_append_getElem hi, List.foldl_append, ← hbi]; rfl
    rw [Int.toNat_natCast]
    refine ⟨_, _, _, h2.l, ⟨by omega, by omega⟩, onSome_of hp ⟨_, c0, _, _, _, h2.l, ⟨by omega, by omega⟩, onSome_of hp ⟨_, c0, _, c1, _, c2, ?_⟩⟩⟩
    refine (holds36 L[x] rev w2).mono ?_
    rintro e w3 ⟨rfl, k3⟩
    have h3 := h2.quiet k3
    have again : ∀ b' is', nxStep rev fr to (b, is) L[x] = (b', is') → ∃ k3, k3 < L.length - x ∧ ∃ y : Nat, IntKind.wrap .i64 ((x : Int) + 1) = y ∧ y ≤ L.length ∧ k3 = L.length - y ∧ (b', is') = (L.take y).foldl (nxStep rev fr to) (emp, false) ∧ BoxX w3 w.heap.size a c last L ∧ Keeps no w w3 := by
      intro b' is' e
      rw [IntWalk.i64_in _ (by omega)]
      exact ⟨L.length - (x + 1), by omega, x + 1, by omega, by omega, rfl, by rw [ht, e], h3, k2.transN k3⟩
    have take : nxP rev fr to L[x] = true → (is = false ∨ Go.L.lt L[x].1 b = true) → nxStep rev fr to (b, is) L[x] = (L[x].1, true) := fun h1 h2 => by unfold nxStep; rw [if_pos ⟨h1, h2⟩]
    have skip : (nxP rev fr to L[x] = false ∨ (is = true ∧ Go.L.lt L[x].1 b = false)) → nxStep rev fr to (b, is) L[x] = (b, is) := fun h1 => by
      unfold nxStep; rw [if_neg]
      rintro ⟨h2, h3⟩
      rcases h1 with h1 | ⟨h1, h4⟩
      · rw [h1] at h2; cases h2
      · rcases h3 with h3 | h3
        · have h3 : is = false := h3
          rw [h1] at h3; cases h3
        · have h3 : Go.L.lt L[x].1 b = true := h3
          rw [h4] at h3; cases h3
    have tailP : nxP rev fr to L[x] = true → iteP (!is) (
          ∃ k3, k3 < L.length - x ∧ ∃ y : Nat, IntKind.wrap .i64 ((x : Int) + 1) = y ∧ y ≤ L.length ∧ k3 = L.length - y ∧ (L[x].1, true) = (L.take y).foldl (nxStep rev fr to) (emp, false) ∧ BoxX w3 w.heap.size a c last L ∧ Keeps no w w3) (
          iteP (Op.bytesLess L[x].1.toList b.toList) (
            ∃ k3, k3 < L.length - x ∧ ∃ y : Nat, IntKind.wrap .i64 ((x : Int) + 1) = y ∧ y ≤ L.length ∧ k3 = L.length - y ∧ (L[x].1, true) = (L.take y).foldl (nxStep rev fr to) (emp, false) ∧ BoxX w3 w.heap.size a c last L ∧ Keeps no w w3) (
            ∃ k3, k3 < L.length - x ∧ ∃ y : Nat, IntKind.wrap .i64 ((x : Int) + 1) = y ∧ y ≤ L.length ∧ k3 = L.length - y ∧ (b, is) = (L.take y).foldl (nxStep rev fr to) (emp, false) ∧ BoxX w3 w.heap.size a c last L ∧ Keeps no w w3)) := by
      intro hP
      refine iteP_of (fun h1 => again _ _ (take hP (.inl (by simpa using h1)))) (fun h1 => iteP_of (fun h2 => again _ _ (take hP (.inr h2))) (fun h2 => again _ _ (skip (.inr ⟨by simpa using h1, h2⟩))))
    refine ⟨_, rfl, iteP_of (fun h4 => ?_) (fun h4 => again _ _ (skip (.inl (by unfold nxP; rw [h4]; rfl))))⟩
    refine iteP_of (fun h5 => ?_) (fun h5 => again _ _ (skip (.inl (by
      have h5 : Go.L.lt L[x].1 fr = true := by have h5 : (!Go.L.lt L[x].1 fr) = false := h5
                                               simpa using h5
      unfold nxP; rw [h5]; simp))))
    have h5 : Go.L.lt L[x].1 fr = false := by have h5 : (!Go.L.lt L[x].1 fr) = true := h5
                                              simpa using h5
    refine iteP_of (fun h6 => ?_) (fun h6 => ?_)
    · have h6 : to = emp := by rw [toList_beq] at h6; simpa [emp] using h6
      exact tailP (by unfold nxP; rw [h4, h5, h6]; simp)
    · have h6 : ¬ to = emp := by rw [toList_beq] at h6; simpa [emp] using h6
      refine iteP_of (fun h7 => ?_) (fun h7 => again _ _ (skip (.inl (by
        have h7 : Go.L.lt L[x].1 to = false := h7
        unfold nxP; rw [h7]; simp [h6]))))
      have h7 : Go.L.lt L[x].1 to = true := h7
      exact tailP (by unfold nxP; rw [h4, h5, h7]; simp)
  · have hi : x = L.length := by have : ¬ x < L.length := by simpa using hi
                                 omega
    subst hi
    rw [List.take_length] at hbi
    refine ⟨?_, k2⟩
    unfold rNext; rw [← hbi]
end Go.Proofs
