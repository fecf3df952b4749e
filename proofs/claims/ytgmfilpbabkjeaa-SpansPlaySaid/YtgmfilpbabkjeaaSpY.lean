/- Spans: the order of events, pure; the loop that plays acts. Seat s14. -/
import Derived.Test.YtgmfilpbabkjeaaSpX
import Derived.Laws.OwnMore
set_option linter.unusedVariables false
set_option linter.unusedSimpArgs false
set_option maxRecDepth 100000
namespace Go.Proofs
open Go.L Go.RowKit Go.Sort

/-! ### sorted events -/
def evLe (a b : Ev) : Prop := ¬ evLt b a
theorem leB_iff {a b : Ev} : (!(ltOf cmpE) b a) = true ↔ evLe a b := by
  unfold evLe; rw [← ltOf_ev]; cases ltOf cmpE b a <;> simp
theorem evLe_trans {a b c : Ev} (h : evLe a b) (h' : evLe b c) : evLe a c := by
  unfold evLe at *
  intro h3
  by_cases h4 : evLt b a
  · exact h h4
  · by_cases h5 : evLt a b
    · exact h' (evLt_trans h3 h5)
    · have e := evLt_total h5 h4
      subst e
      exact h' h3
theorem evLe_total (a b : Ev) : evLe a b ∨ evLe b a := by
  unfold evLe
  by_cases h : evLt b a
  · right; intro h'; exact evLt_irrefl _ (evLt_trans h h')
  · exact .inl h
theorem sortE_pairwise (l : List Ev) : (sortE l).Pairwise evLe := by
  have := List.pairwise_mergeSort (le := fun x y => !(ltOf cmpE) y x) (fun a b c h h' => leB_iff.2 (evLe_trans (leB_iff.1 h) (leB_iff.1 h')))
    (fun a b => by
      rw [Bool.or_eq_true]
      exact (evLe_total a b).imp leB_iff.2 leB_iff.2) l
  exact this.imp fun h => leB_iff.1 h
theorem sortE_perm (l : List Ev) : (sortE l).Perm l := List.mergeSort_perm _ _
theorem sorted_eq {l l' : List Ev} (h : l.Pairwise evLe) (h' : l'.Pairwise evLe) (hp : l.Perm l') : l = l' :=
  List.Perm.eq_of_pairwise (fun a b _ _ h1 h2 => evLt_total h2 h1) h h' hp
theorem sortE_eq {l l' : List Ev} (h : l'.Pairwise evLe) (hp : l.Perm l') : sortE l = l' := sorted_eq (sortE_pairwise l) h ((sortE_perm l).trans hp)
theorem sortE_congr {l l' : List Ev} (hp : l.Perm l') : sortE l = sortE l' := sortE_eq (sortE_pairwise l') (hp.trans (sortE_perm l').symm)
theorem mem_evOf {fr to : Int} {x : KS} {e : Ev} (h : e ∈ evOf fr to x) : fr < e.rev ∧ e.rev ≤ to := by
  have hm : fr ≤ max0 fr := by unfold max0; split <;> omega
  unfold evOf evA evB at h
  rw [List.mem_append] at h
  rcases h with h | h
  · split at h
    · simp at h; subst h; simp only []; omega
    · simp at h
  · split at h
    · simp at h; subst h; simp only []; omega
    · simp at h
theorem mem_events {M : Sp} {fr to : Int} {e : Ev} (h : e ∈ M.events fr to) : fr < e.rev ∧ e.rev ≤ to := by
  unfold Sp.events at h
  rw [(sortE_perm _).mem_iff, List.mem_flatMap] at h
  obtain ⟨x, _, h⟩ := h
  exact mem_evOf h
theorem events_none {M : Sp} {fr to : Int} (h : to ≤ fr) : M.events fr to = [] := by
  cases e : M.events fr to with
  | nil => rfl
  | cons x l =>
    have := mem_events (M := M) (fr := fr) (to := to) (e := x) (by rw [e]; simp)
    omega
theorem perm_mid {α : Type} (a b c d : List α) : (a ++ b ++ (c ++ d)).Perm (a ++ c ++ (b ++ d)) := by
  rw [List.append_assoc, List.append_assoc]
  refine List.Perm.append_left a ?_
  rw [← List.append_assoc, ← List.append_assoc]
  exact List.perm_append_comm.append_right d
theorem evOf_split {a b c : Int} (h1 : a ≤ b) (h2 : b ≤ c) (x : KS) : (evOf a b x ++ evOf b c x).Perm (evOf a c x) := by
  unfold evOf
  refine (perm_mid _ _ _ _).trans ?_
  refine List.Perm.append ?_ ?_
  · unfold evA
    by_cases h3 : x.2.1 > a ∧ x.2.1 ≤ b
    · rw [if_pos h3, if_neg (by omega), if_pos (by omega)]; exact .refl _
    · by_cases h4 : x.2.1 > b ∧ x.2.1 ≤ c
      · rw [if_neg h3, if_pos h4, if_pos (by omega)]; exact .refl _
      · rw [if_neg h3, if_neg h4, if_neg (by omega)]; exact .refl _
  · unfold evB
    have hm : max0 a ≤ max0 b := by unfold max0; split <;> split <;> omega
    have hm2 : max0 b = b ∨ (b < 0 ∧ max0 a = max0 b ∧ max0 b = 0) := by unfold max0; split <;> split <;> omega
    by_cases h3 : x.2.2 > max0 a ∧ x.2.2 ≤ b
    · rw [if_pos h3, if_neg (by omega), if_pos (by omega)]; exact .refl _
    · by_cases h4 : x.2.2 > max0 b ∧ x.2.2 ≤ c
      · rw [if_neg h3, if_pos h4, if_pos (by omega)]; exact .refl _
      · rw [if_neg h3, if_neg h4, if_neg (by omega)]; exact .refl _
theorem flat_split {a b c : Int} (h1 : a ≤ b) (h2 : b ≤ c) (l : List KS) : (l.flatMap (evOf a b) ++ l.flatMap (evOf b c)).Perm (l.flatMap (evOf a c)) := by
  induction l with
  | nil => exact .refl _
  | cons x l ih =>
    rw [List.flatMap_cons, List.flatMap_cons, List.flatMap_cons]
    exact (perm_mid _ _ _ _).trans ((evOf_split h1 h2 x).append ih)
theorem events_split (M : Sp) {a b c : Int} (h1 : a ≤ b) (h2 : b ≤ c) : M.events a b ++ M.events b c = M.events a c := by
  refine (sorted_eq (sortE_pairwise _) ?_ ?_).symm
  · rw [List.pairwise_append]
    refine ⟨sortE_pairwise _, sortE_pairwise _, fun x hx y hy => ?_⟩
    have e1 := mem_events (M := M) hx
    have e2 := mem_events (M := M) hy
    unfold evLe evLt
    omega
  · refine (sortE_perm _).trans ((flat_split h1 h2 (pairs M)).symm.trans ?_)
    exact ((sortE_perm _).append (sortE_perm _)).symm

/-! ### acts, played -/
def step (M : Sp) (x : Act) : Sp := if Int.tmod x.kind 2 = 0 then (M.put x.key x.rev).1 else (M.drop x.key x.rev).1
def play (M : Sp) (l : List Act) : Sp := l.foldl step M
theorem play_snoc (M : Sp) (l : List Act) (x : Act) : play M (l ++ [x]) = step (play M l) x := by unfold play; rw [List.foldl_append]; rfl
theorem play_take {M : Sp} {l : List Act} {i : Nat} (h : i < l.length) : play M (l.take (i + 1)) = step (play M (l.take i)) l[i] := by
  rw [List.take_succ_eq_append_getElem h, play_snoc]
theorem play_round {B bs N : Nat} {W w : World} {M : Sp} {S : Nat → Prop} (h : Live B W w bs N M S) (hN : N < 1000) {a : Option Addr} {l : List Act} (ha : ActsAt w a l) {x : Nat} (hx : x < l.length) (hs : l[x].key.size ≤ maxLen)
    {K : World → Prop} {X Y : List PanicEntry → World → Prop} (hK : ∀ w' S', Live B W w' bs (N + 1) (step M l[x]) S' → Keeps S w w' → (∀ q, S' q → S q ∨ w.heap.size ≤ q) → K w') :
    ((0 : Int) ≤ (x : Int) ∧ (x : Int) < ((l.length : Nat) : Int)) ∧
    onSome a fun p1 =>
    ∃ x4 : Int, w.cell? (Addr.add p1 (Int.toNat (x : Int) * 3)) = some (.int .u8 x4) ∧
    iteP (((Int.tmod x4 2) == 0)) (
      ((0 : Int) ≤ (x : Int) ∧ (x : Int) < ((l.length : Nat) : Int)) ∧
      onSome a fun p2 =>
      ∃ x5 : ByteArray, w.drew.cell? (Addr.add (Addr.add p2 (Int.toNat (x : Int) * 3)) 1) = some (.string x5) ∧
      ((0 : Int) ≤ (x : Int) ∧ (x : Int) < ((l.length : Nat) : Int)) ∧
      onSome a fun p3 =>
      ∃ x6 : Int, w.drew.cell? (Addr.add (Addr.add p3 (Int.toNat (x : Int) * 3)) 2) = some (.int .i64 x6) ∧
      Calls Try.prog 11 #[.pointer (some ⟨bs, 0, none⟩), .string x5, .int .i64 x6] w.drew (endK (fun v4 w8 =>
          ∃ x7 : Bool, v4 = .bool x7 ∧ K w8) X)) (
      ((0 : Int) ≤ (x : Int) ∧ (x : Int) < ((l.length : Nat) : Int)) ∧
      onSome a fun p4 =>
      ∃ x8 : ByteArray, w.drew.cell? (Addr.add (Addr.add p4 (Int.toNat (x : Int) * 3)) 1) = some (.string x8) ∧
      ((0 : Int) ≤ (x : Int) ∧ (x : Int) < ((l.length : Nat) : Int)) ∧
      onSome a fun p5 =>
      ∃ x9 : Int, w.drew.cell? (Addr.add (Addr.add p5 (Int.toNat (x : Int) * 3)) 2) = some (.int .i64 x9) ∧
      Calls Try.prog 13 #[.pointer (some ⟨bs, 0, none⟩), .string x8, .int .i64 x9] w.drew (endK (fun v5 w10 =>
          ∃ x10 : Bool, v5 = .bool x10 ∧ K w10) Y)) := by
  have kd : Keeps no w w.drew := (Keeps.refl (S := no)).drew
  have hd := h.quiet kd
  obtain ⟨p, h1, h2, h3, _, _⟩ := ha x hx
  obtain ⟨p', h1', _, _, h4, h5⟩ := (ha.keeps kd (fun _ h => h.elim)) x hx
  rw [Int.toNat_natCast]
  refine ⟨⟨by omega, by omega⟩, onSome_of h1 ⟨_, h3, iteP_of (fun h6 => ?_) (fun h6 => ?_)⟩⟩
  · refine ⟨⟨by omega, by omega⟩, onSome_of h1' ⟨_, h4, ⟨by omega, by omega⟩, onSome_of h1' ⟨_, h5, ?_⟩⟩⟩
    refine (hd.put hN l[x].key hs l[x].rev).mono ?_
    rintro e w' ⟨rfl, S', hl, hk, hb⟩
    refine ⟨_, rfl, hK w' S' ?_ ((kd.mono (S' := S) (fun _ _ h => h.elim)).trans hk (fun q hq => .inl hq)) hb⟩
    have : step M l[x] = (M.put l[x].key l[x].rev).1 := by unfold step; rw [if_pos (by simpa using h6)]
    rw [this]; exact hl
  · refine ⟨⟨by omega, by omega⟩, onSome_of h1' ⟨_, h4, ⟨by omega, by omega⟩, onSome_of h1' ⟨_, h5, ?_⟩⟩⟩
    refine (hd.drop l[x].key hs l[x].rev).mono ?_
    rintro e w' ⟨rfl, hl, hk⟩
    refine ⟨_, rfl, hK w' S ?_ ((kd.mono (S' := S) (fun _ _ h => h.elim)).trans hk (fun q hq => .inl hq)) (fun q hq => .inl hq)⟩
    have : step M l[x] = (M.drop l[x].key l[x].rev).1 := by unfold step; rw [if_neg (by simpa using h6)]
    rw [this]
    exact ⟨hl.rep.mono (by omega), hl.bel, hl.ge, by omega⟩
theorem append_ev {base base2 : Nat} {w : World} {v v2 : Value} {l l2 : List Ev} (h : w.ownsRow base 49 3 v l.length (l.flatMap encE)) (h2 : w.ownsRow base2 49 3 v2 l2.length (l2.flatMap encE)) (hb : base ≤ w.heap.size)
    (h1 : l.length < 2000000000) (h3 : l2.length < 2000000000) {Φ : Value → World → Prop}
    (hk : ∀ v' w', w'.ownsRow base 49 3 v' (l ++ l2).length ((l ++ l2).flatMap encE) → Keeps (fun q => v.ownBlock = some q) w w' → Φ v' w') :
    runK Try.prog (Builtin.append_ #[44, 44] 44 #[v, v2]) w Φ := by
  obtain ⟨ti, hi, hz0, hz1, hz2⟩ := info_out inf49
  rcases h2.2 with ⟨rfl, hn⟩ | ⟨g, cap, cur, rfl, hg, hh, hnc, hcm, hcs, htake⟩
  · have : l2 = [] := List.eq_nil_of_length_eq_zero hn
    subst this
    exact runK_of (run_append_owned_none (P := Try.prog) (w := w) base 44 44 49 ti 3 und44 hi v _ _ h) (hk v w (by simpa using h) Keeps.refl)
  · refine append_runK (base := base) (e := 49) (sz := 3) (z := .agg #[.int .i64 0, .string ⟨#[]⟩, .bool false]) (bytes := 32) und44 hi hz0 hz1 hz2 rfl (by decide) h (news := l2.flatMap encE) (m := l2.length) h2.1 ?_ ?_ (by simp only [maxLen]; omega) (by omega) hb ?_
    · intro j u hu
      rw [addr_add, Nat.zero_add]
      exact row_cell h2 rfl hu
    · intro u hu
      obtain ⟨x, _, hx⟩ := List.mem_flatMap.1 hu
      exact one_encE x u hx
    · intro v' w' hr hg _
      refine hk v' w' ?_ ((Keeps.refl (S := fun q => v.ownBlock = some q)).grown hg (fun k e => .inl e))
      rw [List.length_append, List.flatMap_append]; exact hr
/-- A quiet step keeps a row. -/
theorem row_quiet {base : Nat} {e : TypeId} {sz n : Nat} {v : Value} {xs : List Value} {w w' : World} (h : w.ownsRow base e sz v n xs) (hk : Keeps no w w') : w'.ownsRow base e sz v n xs := row_keeps h hk fun _ _ => id
theorem len_events (M : Sp) (fr to : Int) : (M.events fr to).length ≤ 2 * (pairs M).length := by
  unfold Sp.events; rw [len_sortE]; exact len_evOf _ _ _
/-- The head of every law: awake, few. -/
theorem actsKeys {l : List Act} (h : few l = true) {i : Nat} (hi : i < l.length) : l[i].key.size ≤ maxLen := by
  have := ((few_size h).2 _ (List.getElem_mem hi)).1
  simp only [maxLen]; omega
end Go.Proofs
