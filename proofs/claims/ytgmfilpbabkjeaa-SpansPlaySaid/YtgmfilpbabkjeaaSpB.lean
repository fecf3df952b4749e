/- Spans: one key's row turned ('RepX.turn'); the contract of Drop. Seat s14. -/
import Derived.Test.YtgmfilpbabkjeaaSpA
set_option linter.unusedVariables false
set_option linter.unusedSimpArgs false
set_option maxRecDepth 100000
namespace Go.Proofs
open Go.L Go.RowKit

def updA (a : ByteArray → List (Int × Int)) (k : ByteArray) (l : List (Int × Int)) : ByteArray → List (Int × Int) := fun k' => if k' = k then l else a k'
theorem RepX.turn {B bs bm N N' : Nat} {w w' : World} {kv kv' v' : Value} {g : ByteArray → Option Value} {M : Sp} {S' : Nat → Prop} (h : RepX B w bs bm kv g N M) (hk : Keeps S' w w')
    {key : ByteArray} {l' : List (Int × Int)} (hne : l' ≠ []) {keys' : List ByteArray} {last' : Int}
    (hS : ∀ q, S' q → q = bs ∨ q = bm ∨ kv.ownBlock = some q ∨ ∃ v, g key = some v ∧ v.ownBlock = some q)
    (head' : w'.heap[bs]? = some (.cells #[.map (some bm), kv', .int .i64 last'] 60 (0, 0)))
    (map' : MapIs w' Try.prog 9 bm N' (updG g key (some v')))
    (keys'' : w'.ownsRow B 9 1 kv' keys'.length (keys'.map .string))
    (row' : w'.ownsRow B 68 2 v' l'.length (l'.flatMap encS))
    (hkv : kv'.ownBlock = kv.ownBlock ∨ ∃ q, kv'.ownBlock = some q ∧ w.heap.size ≤ q)
    (hv : (∃ v, g key = some v ∧ v'.ownBlock = v.ownBlock) ∨ ∃ q, v'.ownBlock = some q ∧ w.heap.size ≤ q)
    (hdiff : ∀ q, kv'.ownBlock = some q → v'.ownBlock ≠ some q)
    (ok' : Sp.Ok ⟨updA M.all key l', keys', last'⟩) (lenK' : keys'.length ≤ N') (lenA' : l'.length ≤ N') (hN : N ≤ N') :
    RepX B w' bs bm kv' (updG g key (some v')) N' ⟨updA M.all key l', keys', last'⟩ := by
  have hbs := lt_of_heap h.head
  have hbm := h.map.lt
  have oldG : ∀ k v q, g k = some v → v.ownBlock = some q → q < w.heap.size := fun k v q h1 h2 => (h.ge (.inr (.inr (.inr ⟨k, v, h1, h2⟩)))).2
  -- the new value's block is neither the head, nor the map, nor another key's
  have hv1 : ∀ q, v'.ownBlock = some q → q ≠ bs ∧ q ≠ bm := by
    intro q hq
    rcases hv with ⟨v, h1, h2⟩ | ⟨q', h1, h2⟩
    · exact ⟨(h.apartG key v q h1 (h2 ▸ hq)).1, (h.apartG key v q h1 (h2 ▸ hq)).2.1⟩
    · rw [hq] at h1; cases h1; omega
  have hv2 : ∀ q k v, v'.ownBlock = some q → k ≠ key → g k = some v → v.ownBlock ≠ some q := by
    intro q k v hq hkk h1 h2
    rcases hv with ⟨v0, h3, h4⟩ | ⟨q', h3, h4⟩
    · exact hkk (h.once key v0 k v q h3 (h4 ▸ hq) h1 h2)
    · rw [hq] at h3; cases h3; have := oldG k v q h1 h2; omega
  have hkv1 : ∀ q, kv'.ownBlock = some q → q ≠ bs ∧ q ≠ bm ∧ ∀ k v, g k = some v → v.ownBlock ≠ some q := by
    intro q hq
    rcases hkv with h1 | ⟨q', h1, h2⟩
    · exact ⟨(h.apartK q (h1 ▸ hq)).1, (h.apartK q (h1 ▸ hq)).2, fun k v h3 h4 => (h.apartG k v q h3 h4).2.2 (h1 ▸ hq)⟩
    · rw [hq] at h1; cases h1
      exact ⟨by omega, by omega, fun k v h3 h4 => by have := oldG k v q h3 h4; omega⟩
  constructor
  · exact head'
  · exact map'
  · exact keys''
  · intro k hk0
    show updG g key (some v') k = none
    unfold updG
    have hk0 : updA M.all key l' k = [] := hk0
    unfold updA at hk0
    by_cases e : k = key
    · rw [if_pos e] at hk0; exact absurd hk0 hne
    · rw [if_neg e] at hk0 ⊢; exact h.nil k hk0
  · intro k hk0
    show ∃ v, updG g key (some v') k = some v ∧ w'.ownsRow B 68 2 v (updA M.all key l' k).length ((updA M.all key l' k).flatMap encS)
    have hk0 : updA M.all key l' k ≠ [] := hk0
    unfold updG updA at *
    by_cases e : k = key
    · simp only [if_pos e]; exact ⟨v', rfl, row'⟩
    · simp only [if_neg e] at hk0 ⊢
      obtain ⟨v, hv3, hr⟩ := h.row k hk0
      refine ⟨v, hv3, row_keeps hr hk fun q hq hSq => ?_⟩
      have ha := h.apartG k v q hv3 hq
      rcases hS q hSq with rfl | rfl | h1 | ⟨v0, h1, h2⟩
      · exact ha.1 rfl
      · exact ha.2.1 rfl
      · exact ha.2.2 h1
      · exact e (h.once key v0 k v q h1 h2 hv3 hq)
  · exact h.bsm
  · exact h.geS
  · exact h.geM
  · exact fun q hq => ⟨(hkv1 q hq).1, (hkv1 q hq).2.1⟩
  · intro k v q h1 h2
    unfold updG at h1
    by_cases e : k = key
    · rw [if_pos e] at h1; cases h1
      exact ⟨(hv1 q h2).1, (hv1 q h2).2, fun h3 => hdiff q h3 h2⟩
    · rw [if_neg e] at h1
      have ha := h.apartG k v q h1 h2
      exact ⟨ha.1, ha.2.1, fun h3 => (hkv1 q h3).2.2 k v h1 h2⟩
  · intro k v k' v2 q h1 h2 h3 h4
    unfold updG at h1 h3
    by_cases e : k = key
    · rw [if_pos e] at h1; cases h1
      by_cases e' : k' = key
      · rw [e, e']
      · rw [if_neg e'] at h3; exact absurd h4 (hv2 q k' v2 h2 e' h3)
    · rw [if_neg e] at h1
      by_cases e' : k' = key
      · rw [if_pos e'] at h3; cases h3; exact absurd h2 (hv2 q k v h4 e h1)
      · rw [if_neg e'] at h3; exact h.once k v k' v2 q h1 h2 h3 h4
  · exact ok'
  · exact lenK'
  · intro k
    show (updA M.all key l' k).length ≤ N'
    unfold updA
    split
    · exact lenA'
    · exact Nat.le_trans (h.lenA k) hN

theorem flat_set {l : List (Int × Int)} {i : Nat} {x : Int × Int} (h : l[i]? = some x) (r : Int) : (l.flatMap encS).set (i * 2 + 1) (.int .i64 r) = (l.set i (x.1, r)).flatMap encS := by
  induction l generalizing i with
  | nil => simp at h
  | cons y l ih =>
    cases i with
    | zero => simp at h; subst h; simp [encS]
    | succ i =>
      simp at h
      have e1 : (i + 1) * 2 + 1 = (i * 2 + 1) + 1 + 1 := by omega
      rw [List.flatMap_cons, List.set_cons_succ, List.flatMap_cons, ← ih h, e1]
      simp [encS]

/-! ### Drop -/
def setLast (l : List (Int × Int)) (f r : Int) : List (Int × Int) := l.set (l.length - 1) (f, r)
def Sp.drop (M : Sp) (key : ByteArray) (rev : Int) : Sp × Bool :=
  if rev < M.last then (M, false) else
  match openOf (M.all key) with
  | none => (M, false)
  | some f => if f ≥ rev then (M, false) else (⟨updA M.all key (setLast (M.all key) f rev), M.keys, rev⟩, true)
theorem openOf_last {l : List (Int × Int)} {f : Int} (h : openOf l = some f) : l ≠ [] ∧ l[l.length - 1]? = some (f, 0) := by
  unfold openOf at h
  split at h
  · rename_i f' t' hl
    rw [List.getLast?_eq_getElem?] at hl
    by_cases ht : t' = 0
    · rw [if_pos ht] at h; cases h; subst ht
      exact ⟨by rintro rfl; simp at hl, hl⟩
    · rw [if_neg ht] at h; cases h
  · cases h
theorem Drop_nil (key : ByteArray) (rev : Int) (w : World) : Calls Try.prog 13 #[.pointer none, .string key, .int .i64 rev] w fun e w' => w' = w ∧ e = .returned (.bool false) := by
  refine F13.calls_of _ _ _ ?_
  exact ⟨rfl, rfl⟩
theorem Drop_spec {B bs N : Nat} {w : World} {M : Sp} {S : Nat → Prop} (h : Rep B w bs N M S) (hN : N < maxLen) (key : ByteArray) (hs : key.size ≤ maxLen) (rev : Int) :
    Calls Try.prog 13 #[.pointer (some ⟨bs, 0, none⟩), .string key, .int .i64 rev] w fun e w' => e = .returned (.bool (M.drop key rev).2) ∧ Rep B w' bs N (M.drop key rev).1 S ∧ Keeps S w w' := by
  obtain ⟨bm, kv, g, h, rfl⟩ := h
  refine F13.calls_of _ _ _ ?_
  unfold F13.sh
  refine ⟨M.last, cell_of h.head rfl, iteP_of (fun h0 => ?_) (fun h0 => ?_)⟩
  · have h0 : rev < M.last := by simpa using h0
    have e : M.drop key rev = (M, false) := by unfold Sp.drop; rw [if_pos h0]
    rw [e]
    exact ⟨rfl, ⟨bm, kv, g, h, rfl⟩, Keeps.refl⟩
  have h0 : ¬ rev < M.last := by simpa using h0
  refine (open_spec h hN key hs).mono ?_
  rintro e w' ⟨rfl, ⟨ho, rfl⟩ | ⟨f, v, q, ho, hv, hq, rfl⟩⟩
  · refine ⟨none, rfl, ?_⟩
    have e : M.drop key rev = (M, false) := by unfold Sp.drop; rw [if_neg h0, ho]
    rw [e]
    exact ⟨rfl, ⟨bm, kv, g, h, rfl⟩, Keeps.refl⟩
  · obtain ⟨hne, hl⟩ := openOf_last ho
    obtain ⟨v', hv', hr⟩ := h.row key hne
    rw [hv] at hv'; cases hv'
    obtain ⟨c1, c2⟩ := encS_get hl
    obtain ⟨cap, cur, hve, hBq, hh, hnc, hcm, hcs, htake⟩ := row_heap hr hq
    refine ⟨some ⟨q, 2 * ((M.all key).length - 1), none⟩, rfl, f, ?_, ?_⟩
    · have := row_cell hr hq c1
      rw [Nat.mul_comm]; exact this
    refine iteP_of (fun h1 => ?_) (fun h1 => ?_)
    · have h1 : f ≥ rev := by simpa using h1
      have e : M.drop key rev = (M, false) := by unfold Sp.drop; rw [if_neg h0, ho]; simp only []; rw [if_pos h1]
      rw [e]
      exact ⟨rfl, ⟨bm, kv, g, h, rfl⟩, Keeps.refl⟩
    have h1 : ¬ f ≥ rev := by simpa using h1
    have e : M.drop key rev = (⟨updA M.all key (setLast (M.all key) f rev), M.keys, rev⟩, true) := by unfold Sp.drop; rw [if_neg h0, ho]; simp only []; rw [if_neg h1]
    rw [e]
    have hlen : 0 < (M.all key).length := List.length_pos_iff.2 hne
    have hcur : 2 * ((M.all key).length - 1) + 1 < cur.size := by rw [hcs]; omega
    have hqb := h.apartG key v q hv hq
    refine onSome_of rfl ?_
    rw [addr_add]
    refine storeK_of hh hcur ?_
    have hhead : (w'.setCell ⟨q, 2 * ((M.all key).length - 1) + 1, none⟩ (.int .i64 rev)).heap[bs]? = some (.cells #[.map (some bm), kv, .int .i64 M.last] 60 (0, 0)) := by
      rw [heap_set_other (Ne.symm hqb.1)]; exact h.head
    refine onSome_of rfl ?_
    rw [addr_add]
    refine storeK_of (i := 0 + 2) hhead (by simp) ?_
    have hk1 : Keeps (fun k => k = q) w' (w'.setCell ⟨q, 2 * ((M.all key).length - 1) + 1, none⟩ (.int .i64 rev)) := (Keeps.refl (S := fun k => k = q)).set (.inl rfl) _ _
    have hk2 : Keeps (fun k => k = q ∨ k = bs) w' ((w'.setCell ⟨q, 2 * ((M.all key).length - 1) + 1, none⟩ (.int .i64 rev)).setCell ⟨bs, 0 + 2, none⟩ (.int .i64 rev)) :=
      (hk1.mono fun k _ e => .inl e).set (.inl (.inr rfl)) _ _
    refine ⟨rfl, ⟨bm, kv, updG g key (some v), ?_, ?_⟩, hk2.mono ?_⟩
    · have hrow := row_set hr hq (j := (((M.all key).length - 1) * 2 + 1)) (by rw [hr.1]; omega) (.int .i64 rev)
      rw [flat_set hl] at hrow
      refine h.turn hk2 (l' := setLast (M.all key) f rev) (by intro h; unfold setLast at h; simp [hne] at h) ?_ (heap_set_same hhead _ _) ?_ ?_ ?_ (.inl rfl) (.inl ⟨v, hv, rfl⟩) ?_ ?_ h.lenK ?_ (Nat.le_refl _)
      · rintro k (rfl | rfl)
        · exact .inr (.inr (.inr ⟨v, hv, hq⟩))
        · exact .inl rfl
      · have : updG g key (some v) = g := by
          funext k; unfold updG; split
          · rename_i e; rw [e, hv]
          · rfl
        rw [this]
        refine h.map.keeps hk2 ?_
        rintro (h3 | h3)
        · exact hqb.2.1 h3.symm
        · exact h.bsm h3.symm
      · refine row_keeps h.keys hk2 fun k hk => ?_
        rintro (rfl | rfl)
        · exact hqb.2.2 hk
        · exact (h.apartK _ hk).1 rfl
      · have e1 : (setLast (M.all key) f rev).length = (M.all key).length := by simp [setLast]
        rw [e1]
        have h4 : ((w'.setCell ⟨q, ((M.all key).length - 1) * 2 + 1, none⟩ (.int .i64 rev))).ownsRow B 68 2 v (M.all key).length ((setLast (M.all key) f rev).flatMap encS) := hrow
        rw [Nat.mul_comm] at h4
        refine row_keeps h4 ((Keeps.refl (S := fun k => k = bs)).set (.inl rfl) _ _) fun k hk => ?_
        rw [hq] at hk; cases hk; exact hqb.1
      · intro q' h3 h4
        rw [hq] at h4; cases h4
        exact hqb.2.2 h3
      · refine ⟨h.ok.rising, fun k => ?_, h.ok.size⟩
        show updA M.all key (setLast (M.all key) f rev) k ≠ [] → k ∈ M.keys
        unfold updA
        split
        · rename_i e; subst e; exact fun _ => h.ok.mem _ hne
        · exact h.ok.mem k
      · simp [setLast]; exact h.lenA key
    · funext k
      have : updG g key (some v) = g := by
        funext k; unfold updG; split
        · rename_i e; rw [e, hv]
        · rfl
      rw [this]
    · rintro k _ (rfl | rfl)
      · exact .inr (.inr (.inr ⟨key, v, hv, hq⟩))
      · exact .inl rfl
end Go.Proofs
