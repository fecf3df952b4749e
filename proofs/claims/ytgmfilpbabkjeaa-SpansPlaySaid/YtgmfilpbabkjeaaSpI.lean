/- Spans: 'clear' of the end of a row; slices.DeleteFunc over spans. Seat s14. -/
import Derived.Test.YtgmfilpbabkjeaaSpH
import Derived.Laws.CopyRow
set_option linter.unusedVariables false
set_option linter.unusedSimpArgs false
set_option maxRecDepth 100000
namespace Go.Proofs
open Go.L Go.RowKit Go.Shelf

theorem clear_runK {P : Program} {w : World} {t e ty : TypeId} {z : Value} (ht : P.underlying t = some (.slice e)) (hv : ∀ w, (zeroValue e).run P w = .ok z w) (h1 : ∀ v ∈ z.cells.toList, v.oneCell' = true) (hz0 : 0 < z.cells.size)
    {q o m c : Nat} {cur : Array Value} {et : TypeId} (hh : w.heap[q]? = some (.cells cur et (0, 0))) {a : Option Addr} (ha : m = 0 ∨ a = some ⟨q, o, none⟩) (hfit : o + m * z.cells.size ≤ cur.size) {Φ : Value → World → Prop}
    (hk : ∀ w' cur', w'.heap[q]? = some (.cells cur' et (0, 0)) → cur'.size = cur.size → (∀ j, j < o → cur'[j]? = cur[j]?) → Keeps (fun k => k = q) w w' → Φ (.tuple #[]) w') :
    runK P (Builtin.clear_ #[t] ty #[.slice a m c]) w Φ := by
  by_cases hm : m = 0
  · subst hm
    refine ⟨.tuple #[], w, ?_, hk w cur hh rfl (fun _ _ => rfl) Keeps.refl⟩
    cases a with
    | none => simp [Builtin.clear_, run_underlying ht]
    | some a => simp [Builtin.clear_, run_underlying ht]
  · obtain rfl := ha.resolve_left hm
    have hlen : (Builtin.zeroCells z.cells m).toList.length = m * z.cells.size := by simp [Builtin.zeroCells]
    have hone : ∀ v ∈ (Builtin.zeroCells z.cells m).toList, v.oneCell' = true := by
      intro v hv
      simp only [Builtin.zeroCells, Array.toList_map, List.mem_map] at hv
      obtain ⟨i, _, rfl⟩ := hv
      apply h1
      have : i % z.cells.size < z.cells.size := Nat.mod_lt _ hz0
      rw [getElem!_pos z.cells _ this]
      exact Array.getElem_mem_toList this
    have hst := run_storeCells_at P q o et (Builtin.zeroCells z.cells m).toList 0 cur w hh (by rw [hlen]; simpa using hfit) hone
    obtain ⟨m', rfl⟩ : ∃ m', m = m' + 1 := ⟨m - 1, by omega⟩
    obtain ⟨cs', hcs'⟩ : ∃ cs', cs' = (List.take (o + 0) cur.toList ++ (Builtin.zeroCells z.cells (m' + 1)).toList ++ List.drop (o + 0 + (Builtin.zeroCells z.cells (m' + 1)).toList.length) cur.toList).toArray := ⟨_, rfl⟩
    rw [← hcs'] at hst
    refine ⟨.tuple #[], w.setRow q cs', ?_, hk _ cs' (setRow_heap w q cur cs' et _ hh) ?_ ?_ ⟨rfl, rfl, rfl, by simp [World.setRow], fun k hk hn => setRow_other w q k _ hn⟩⟩
    · simp [Builtin.clear_, run_underlying ht, hv, hst]
    · rw [hcs']
      simp only [List.size_toArray, List.length_append, List.length_take, List.length_drop, Array.length_toList, hlen]
      omega
    · intro j hj
      rw [hcs']
      simp only [List.getElem?_toArray]
      rw [List.append_assoc, List.getElem?_append_left (by simp; omega), List.getElem?_take, if_pos (by omega), Array.getElem?_toList]
theorem zero68 (w : World) : (zeroValue 68).run Try.prog w = .ok (.agg #[.int .i64 0, .int .i64 0]) w := by kernel_rfl
theorem zero9 (w : World) : (zeroValue 9).run Try.prog w = .ok (.string ⟨#[]⟩) w := by kernel_rfl

/-- What a function value of a span says, while the blocks of S may be written. -/
def PredS (S : Nat → Prop) (g : Nat) (cap : Array Value) (p : Int × Int → Bool) (w : World) : Prop := bodied Try.prog g = true ∧ ∀ (x : Int × Int) (w1 : World), Keeps S w w1 →
  Calls Try.prog g (.agg #[.int .i64 x.1, .int .i64 x.2] :: cap.toList).toArray w1 fun e w2 => e = .returned (.bool (p x)) ∧ Keeps no w1 w2
theorem PredS.pred {S : Nat → Prop} {g : Nat} {cap : Array Value} {p : Int × Int → Bool} {w : World} (h : PredS S g cap p w) : Pred g cap p w := ⟨h.1, fun x w1 hk => h.2 x w1 (hk.mono fun k _ h => h.elim)⟩
theorem filter_prefix {α : Type} {p : α → Bool} {l : List α} {j : Nat} (hj : j < l.length) : (l.take (j + 1)).filter p = (l.take j).filter p ++ (if p l[j] then [l[j]] else []) := by
  rw [List.take_add_one, List.getElem?_eq_getElem hj]
  simp only [Option.toList_some, List.filter_append]
  congr 1
  by_cases h : p l[j] = true <;> simp [h]
theorem len_flat (l : List (Int × Int)) : (l.flatMap encS).length = l.length * 2 := by
  induction l with
  | nil => rfl
  | cons x l ih => rw [List.flatMap_cons, List.length_append, ih]; simp [encS]; omega
theorem flat_set2 {l : List (Int × Int)} {i : Nat} (hi : i < l.length) (x : Int × Int) : ((l.flatMap encS).set (i * 2) (.int .i64 x.1)).set (i * 2 + 1) (.int .i64 x.2) = (l.set i x).flatMap encS := by
  induction l generalizing i with
  | nil => simp at hi
  | cons y l ih =>
    cases i with
    | zero => simp [encS]
    | succ i =>
      have e0 : (i + 1) * 2 = (i * 2) + 1 + 1 := by omega
      have e1 : (i + 1) * 2 + 1 = (i * 2 + 1) + 1 + 1 := by omega
      rw [List.flatMap_cons, List.set_cons_succ, List.flatMap_cons, ← ih (by simpa using hi), e1, e0]
      simp [encS]
theorem Delete33 {B : Nat} {w : World} {v : Value} {l : List (Int × Int)} {g : Nat} {cap : Array Value} {p : Int × Int → Bool} (hr : w.ownsRow B 68 2 v l.length (l.flatMap encS)) (hn : l.length ≤ 4611686018427) (hp : PredS (fun k => v.ownBlock = some k) g cap p w) :
    Calls Try.prog 33 #[v, .func (.func g) #[] cap] w fun e w' => ∃ v', e = .returned v' ∧ v'.ownBlock = v.ownBlock ∧ w'.ownsRow B 68 2 v' (l.filter fun x => !p x).length ((l.filter fun x => !p x).flatMap encS) ∧ Keeps (fun k => v.ownBlock = some k) w w' := by
  obtain ⟨a, c, hve, hsh⟩ := row_shape hr
  -- the row's block, if there is one
  have hcase : (l = [] ∧ v = .slice none 0 0) ∨ ∃ q, v.ownBlock = some q := by
    rcases hsh with ⟨rfl, h0, rfl⟩ | ⟨q, rfl, _⟩
    · exact .inl ⟨List.eq_nil_of_length_eq_zero h0, by rw [hve, h0]⟩
    · exact .inr ⟨q, by rw [hve]; rfl⟩
  have hix : Calls Try.prog 50 #[v, .func (.func g) #[] cap] w fun e w' => e = .returned (.int .i64 (idxOf p l)) ∧ Keeps no w w' := by
    rcases hcase with ⟨rfl, rfl⟩ | ⟨q, hq⟩
    · exact Index50 (q := 0) hp.pred (by simp) (.inl rfl) (fun t ht => by simp at ht)
    · obtain ⟨cap', cur, hve', _⟩ := row_heap hr hq
      rw [hve']
      exact Index50 hp.pred (by simp only [maxLen]; omega) (.inr rfl) (SpanCells.of_row hr hq)
  rw [hve] at hix
  conv => arg 3; rw [hve]
  refine F33.calls_of _ _ _ _ _ ?_
  unfold F33.sh
  refine hix.mono ?_
  rintro e w1 ⟨rfl, hk1⟩
  refine ⟨_, rfl, iteP_of (fun h0 => ?_) (fun h0 => ?_)⟩
  · have h0 : idxOf p l = -1 := by simpa using h0
    have hall : ∀ x ∈ l, p x = false := by
      unfold idxOf at h0
      cases h1 : l.findIdx? p with
      | some i => rw [h1] at h0; simp at h0
      | none => rw [List.findIdx?_eq_none_iff] at h1; exact h1
    have hf : l.filter (fun x => !p x) = l := List.filter_eq_self.2 fun x hx => by simp [hall x hx]
    rw [← hve]
    exact ⟨v, rfl, rfl, by rw [hf]; exact row_keeps hr hk1 (fun _ _ => id), hk1.mono fun k _ h => h.elim⟩
  · have h0 : idxOf p l ≠ -1 := by simpa using h0
    obtain ⟨i0, hi0, hix0⟩ : ∃ i, l.findIdx? p = some i ∧ idxOf p l = (i : Int) := by
      unfold idxOf at h0 ⊢
      cases h1 : l.findIdx? p with
      | some i => exact ⟨i, rfl, rfl⟩
      | none => rw [h1] at h0; exact absurd rfl h0
    rw [List.findIdx?_eq_some_iff_getElem] at hi0
    obtain ⟨hlt0, hp0, hbefore⟩ := hi0
    rw [hix0, IntWalk.i64_in _ (by omega)]
    obtain ⟨q, hq⟩ := hcase.resolve_left (fun h => by rw [h.1] at hlt0; simp at hlt0)
    obtain ⟨cap', cur0, hve', hbq, hh0, hnc, hcm, hcs, _⟩ := row_heap hr hq
    have hac : a = some ⟨q, 0, none⟩ ∧ c = cap' := by rw [hve] at hve'; simpa using hve'
    obtain ⟨rfl, rfl⟩ := hac
    have hS : (fun k => (Value.slice (some ⟨q, 0, none⟩) l.length c).ownBlock = some k) = fun k => k = q := by
      funext k; simp [Value.ownBlock, eq_comm]
    have hS' : (fun k => v.ownBlock = some k) = fun k => k = q := by funext k; rw [hq]; simp [eq_comm]
    rw [hS'] at hp
    rw [hS']
    refine ⟨fun i j k w3 => Keeps (fun k => k = q) w w3 ∧ ∃ (i' j' : Nat) (L : List (Int × Int)), i = i' ∧ j = j' ∧ i' < j' ∧ j' ≤ l.length ∧ k = l.length - j' ∧ L.length = l.length ∧ w3.ownsRow B 68 2 v l.length (L.flatMap encS) ∧
        L.take i' = (l.take j').filter (fun x => !p x) ∧ L.drop j' = l.drop j', ⟨l.length - (i0 + 1), hk1.mono fun k _ h => h.elim, i0, i0 + 1, l, rfl, by omega, by omega, by omega, rfl, rfl, row_keeps hr hk1 (fun _ _ => id), ?_, rfl⟩, ?_⟩
    · rw [filter_prefix hlt0, hp0]
      simp only [Bool.not_true, Bool.false_eq_true, if_false, List.append_nil]
      rw [List.filter_eq_self.2]
      intro x hx
      obtain ⟨t, ht, rfl⟩ := List.mem_iff_getElem.1 hx
      rw [List.length_take] at ht
      rw [List.getElem_take]
      have := hbefore t (by omega)
      simpa using this
    rintro i j k w3 ⟨hk3, i', j', L, rfl, rfl, hij, hjn, rfl, hL, hrow, htk, hdr⟩ z
    refine iteP_of (fun h1 => ?_) (fun h1 => ?_)
    · have h1 : j' < l.length := by simpa using h1
      have hLj : L[j']'(by omega) = l[j'] := by
        have e1 : L[j']? = l[j']? := by
          have := congrArg (fun l => l[0]?) hdr
          simpa using this
        rw [List.getElem?_eq_getElem (by omega), List.getElem?_eq_getElem h1] at e1
        simpa using e1
      have hcc := SpanCells.of_row (by rw [hL]; exact hrow) hq j' (by omega)
      rw [hLj] at hcc
      refine ⟨⟨by omega, by omega⟩, ?_⟩
      show onSome (some (⟨q, 0, none⟩ : Addr)) _
      refine onSome_of rfl ⟨l[j'].1, ?_, l[j'].2, ?_, ?_⟩
      · rw [addr_add, Int.toNat_natCast, Nat.zero_add]; exact hcc.1
      · rw [addr_add, addr_add, Int.toNat_natCast, Nat.zero_add]; exact hcc.2
      refine allocK_of ?_
      have n0 := heap_new w3 (.cells #[.int .i64 0, .int .i64 0] 68)
      refine storeK_of n0 (by simp) ?_
      have n1 := heap_set_same n0 0 (.int .i64 l[j'].1)
      refine storeK_of n1 (by simp) ?_
      have n2 := heap_set_same n1 1 (.int .i64 l[j'].2)
      have hkn : Keeps no w3 (((w3.alloc (.cells #[.int .i64 0, .int .i64 0] 68)).setCell ⟨w3.heap.size, 0, none⟩ (.int .i64 l[j'].1)).setCell ⟨w3.heap.size, 1, none⟩ (.int .i64 l[j'].2)) :=
        (((Keeps.refl (S := no)).alloc _).set (.inr (Nat.le_refl _)) _ _).set (.inr (Nat.le_refl _)) _ _
      refine ⟨l[j'].1, cell_of n2 rfl, l[j'].2, cell_of n2 rfl, ?_⟩
      have hk4 := hk3.trans hkn (fun _ h => h.elim)
      refine callAny_of hp.1 ((hp.2 l[j'] _ hk4).mono ?_)
      rintro e w4 ⟨rfl, hk5⟩
      have hk6 := hk4.trans hk5 (fun _ h => h.elim)
      have hrow4 := row_keeps (row_keeps hrow hkn (fun _ _ => id)) hk5 (fun _ _ => id)
      have n3 := hk5.heap n2 id
      refine ⟨_, rfl, iteP_of (fun h2 => ?_) (fun h2 => ?_)⟩
      · have h2 : p l[j'] = false := by simpa using h2
        refine ⟨l[j'].1, cell_of n3 rfl, l[j'].2, cell_of n3 rfl, ⟨by omega, by omega⟩, ?_⟩
        show onSome (some (⟨q, 0, none⟩ : Addr)) _
        obtain ⟨_, cur4, _, _, hh4, _, _, hcs4, _⟩ := row_heap hrow4 hq
        have hc2 : l.length * 2 ≤ cur4.size := by
          have := hcs4; have h3 := (row_heap hrow4 hq); obtain ⟨cc, cu, _, _, h4, h5, _, h6, _⟩ := h3
          rw [hh4] at h4; cases h4; omega
        refine onSome_of rfl ?_
        rw [addr_add, Int.toNat_natCast, Nat.zero_add]
        refine storeK_of hh4 (by omega) ?_
        have hh5 := heap_set_same hh4 (i' * 2) (.int .i64 l[j'].1)
        rw [addr_add]
        refine storeK_of hh5 (by simp; omega) ?_
        rw [IntWalk.i64_in _ (by omega), IntWalk.i64_in _ (by omega)]
        have hr5 := row_set (row_set hrow4 hq (j := i' * 2) (by rw [hrow4.1]; omega) (.int .i64 l[j'].1)) hq (j := i' * 2 + 1) (by rw [List.length_set, hrow4.1]; omega) (.int .i64 l[j'].2)
        rw [flat_set2 (by omega)] at hr5
        refine ⟨l.length - (j' + 1), by omega, (hk6.set (.inl rfl) _ _).set (.inl rfl) _ _, i' + 1, j' + 1, L.set i' l[j'], by omega, by omega, by omega, by omega, rfl, by simp [hL], hr5, ?_, ?_⟩
        · rw [filter_prefix h1, h2, ← htk, List.take_set, List.take_add_one, List.getElem?_eq_getElem (by omega)]
          simp only [Option.toList_some, Bool.not_false, if_true]
          rw [List.set_append_right _ _ (by simp; omega)]
          congr 1
          simp; rw [Nat.min_eq_left (by omega)]; simp
        · rw [List.drop_set_of_lt (by omega)]
          have := congrArg (List.drop 1) hdr
          simpa [List.drop_drop] using this
      · have h2 : p l[j'] = true := by simpa using h2
        rw [IntWalk.i64_in _ (by omega)]
        refine ⟨l.length - (j' + 1), by omega, hk6, i', j' + 1, L, rfl, by omega, by omega, by omega, rfl, hL, hrow4, ?_, ?_⟩
        · rw [filter_prefix h1, h2, htk]; simp
        · have := congrArg (List.drop 1) hdr
          simpa [List.drop_drop] using this
    · have h1 : j' = l.length := by have : ¬ j' < l.length := by simpa using h1
                                    omega
      subst h1
      rw [List.take_length] at htk
      have hil : i' = (l.filter fun x => !p x).length := by rw [← htk, List.length_take]; omega
      obtain ⟨_, cur4, _, _, hh4, _⟩ := row_heap hrow hq
      obtain ⟨cc, cu, hvv, _, h4, h5, h6, h7, h8⟩ := row_heap hrow hq
      rw [hh4] at h4; cases h4
      have hcc : cc = c := by rw [hve] at hvv; simpa using hvv.symm
      subst hcc
      refine ⟨⟨by omega, by omega⟩, ?_⟩
      rw [Int.toNat_natCast]
      refine clear_runK und66 zero68 (by intro v hv; simp [Value.cells] at hv; subst hv; rfl) (by simp [Value.cells]) hh4 (o := i' * 2) ?_ (by simp [Value.cells]; omega) ?_
      · by_cases hci : cc = i'
        · left; omega
        · right; unfold slA; rw [if_neg hci]; simp
      · intro w7 cur7 g1 g2 g3 g4
        refine ⟨⟨by omega, by omega⟩, ?_⟩
        have hA : slA (some (⟨q, 0, none⟩ : Addr)) 0 cc 2 = some ⟨q, 0, none⟩ := by unfold slA; split <;> simp
        rw [hA]
        refine ⟨_, rfl, by rw [hq]; rfl, ?_, hk3.trans g4 (fun k h => .inl h)⟩
        rw [Nat.sub_zero, Nat.sub_zero, ← hil]
        refine ⟨?_, .inr ⟨q, cc, cur7, rfl, hbq, g1, by omega, h6, by omega, ?_⟩⟩
        · rw [← htk, len_flat, List.length_take]; omega
        · have e1 : cur7.toList.take (i' * 2) = cur4.toList.take (i' * 2) := by
            apply List.ext_getElem?
            intro t
            rw [List.getElem?_take, List.getElem?_take]
            split
            · rw [Array.getElem?_toList, Array.getElem?_toList, g3 t (by omega)]
            · rfl
          have e2 : cur4.toList.take (i' * 2) = (cur4.toList.take (l.length * 2)).take (i' * 2) := by rw [List.take_take, Nat.min_eq_left (by omega)]
          rw [e1, e2, h8, ← htk]
          have e3 : ∀ (L : List (Int × Int)) (n : Nat), (L.flatMap encS).take (n * 2) = (L.take n).flatMap encS := by
            intro L
            induction L with
            | nil => intro n; simp
            | cons y L ih =>
              intro n
              cases n with
              | zero => simp
              | succ n =>
                have : (n + 1) * 2 = n * 2 + 1 + 1 := by omega
                rw [this, List.flatMap_cons, List.take_succ_cons, List.flatMap_cons, ← ih n]
                simp [encS]
          exact e3 L i'
end Go.Proofs
