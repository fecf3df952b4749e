/- The law SpansPlay: the walk. Seat s14. -/
import Derived.Test.YtgmfilpbabkjeaaRfE
import Derived.Test.YtgmfilpbabkjeaaLwT
set_option linter.unusedVariables false
set_option linter.unusedSimpArgs false
set_option maxRecDepth 100000
namespace Go.Proofs
open Go.L Go.RowKit Go.Sort

/-- The memory of SpansPlay: spans, the reference's struct in a box, an act in a box, the revisions. -/
structure PlayAt (B : Nat) (W w : World) (bs N : Nat) (M : Sp) (S : Nat → Prop) (wb ab : Nat) (a : Option Addr) (c : Nat) (s : RS) (act : Act) (ra : Option Addr) (revs : List Int) : Prop where
  live : Live B W w bs N M S
  row : RowX w B (.slice a s.L.length c) s.L
  box : w.heap[wb]? = some (.cells #[.slice a s.L.length c, .int .i64 s.last] 30 (0, 0))
  act : w.heap[ab]? = some (.cells #[.int .u8 act.kind, .string act.key, .int .i64 act.rev] 32 (0, 0))
  revs : ∀ i (h : i < revs.length), ∃ p : Addr, ra = some p ∧ w.cell? (p.add (i * 1)) = some (.int .i64 revs[i])
theorem PlayAt.quiet {B bs N wb ab c : Nat} {W w w' : World} {M : Sp} {S : Nat → Prop} {a ra : Option Addr} {s : RS} {act : Act} {revs : List Int} (h : PlayAt B W w bs N M S wb ab a c s act ra revs) (hk : Keeps no w w') : PlayAt B W w' bs N M S wb ab a c s act ra revs :=
  ⟨h.live.quiet hk, row_quiet h.row hk, hk.heap h.box id, hk.heap h.act id, fun i hi => by obtain ⟨p, h1, h2⟩ := h.revs i hi; exact ⟨p, h1, hk.cell h2 id⟩⟩
theorem beq_not {b : Bool} : (!(b == b)) = false := by cases b <;> rfl
set_option maxHeartbeats 4000000 in
theorem play_inner {B bs N wb ab c : Nat} {W w : World} {M : Sp} {S : Nat → Prop} {a ra : Option Addr} {s : RS} {act : Act} {revs : List Int} {key fr to : ByteArray} (h : PlayAt B W w bs N M S wb ab a c s act ra revs) (hA : Agree M s) (hN : N ≤ 100) (hL : s.L.length ≤ 10000)
    (hr : revs.length ≤ 12) (hkey : key.size ≤ maxLen) (hact : act.key.size ≤ maxLen) {R : Ending → World → Prop} {K : World → Prop} (hK : ∀ w', PlayAt B W w' bs N M S wb ab a c s act ra revs → K w') :
      ∃ I2 : Int → Nat → World → Prop, (∃ k5, I2 0 k5 w) ∧
      ∀ k4 : Int, ∀ (k6 : Nat) (w24 : World), I2 k4 k6 w24 → ∀ z2 : Fr,
      iteP ((decide (k4 < ((revs.length : Nat) : Int)))) (
      ((0 : Int) ≤ k4 ∧ k4 < ((revs.length : Nat) : Int)) ∧
      onSome ra fun p2 =>
      ∃ x20 : Int, w24.cell? (Addr.add p2 (Int.toNat k4 * 1)) = some (.int .i64 x20) ∧
      Calls Try.prog 17 #[.pointer (some ⟨bs, 0, none⟩), .int .i64 x20, .string fr, .string to] w24 (endK (fun v6 w25 =>
      ∃ x21 : ByteArray, ∃ x22 : Bool, v6 = .tuple #[.string x21, .bool x22] ∧
      ∃ x23a : Option Addr, ∃ x23l : Nat, ∃ x23c : Nat, w25.drew.cell? ⟨wb, 0, none⟩ = some (.slice x23a x23l x23c) ∧ ∃ x24 : Int, w25.drew.cell? ⟨wb, 1, none⟩ = some (.int .i64 x24) ∧
      ((0 : Int) ≤ k4 ∧ k4 < ((revs.length : Nat) : Int)) ∧
      onSome ra fun p3 =>
      ∃ x25 : Int, w25.drew.cell? (Addr.add p3 (Int.toNat k4 * 1)) = some (.int .i64 x25) ∧
      Calls Try.prog 18 #[.agg #[.slice x23a x23l x23c, .int .i64 x24], .int .i64 x25, .string fr, .string to] w25.drew (endK (fun v7 w27 =>
      ∃ x26 : ByteArray, ∃ x27 : Bool, v7 = .tuple #[.string x26, .bool x27] ∧
      ((0 : Int) ≤ k4 ∧ k4 < ((revs.length : Nat) : Int)) ∧
      onSome ra fun p4 =>
      ∃ x28 : Int, w27.drew.cell? (Addr.add p4 (Int.toNat k4 * 1)) = some (.int .i64 x28) ∧
      ∃ x29a : Option Addr, ∃ x29l : Nat, ∃ x29c : Nat, w27.drew.cell? ⟨wb, 0, none⟩ = some (.slice x29a x29l x29c) ∧ ∃ x30 : Int, w27.drew.cell? ⟨wb, 1, none⟩ = some (.int .i64 x30) ∧
      ((0 : Int) ≤ k4 ∧ k4 < ((revs.length : Nat) : Int)) ∧
      onSome ra fun p5 =>
      ∃ x31 : Int, w27.drew.cell? (Addr.add p5 (Int.toNat k4 * 1)) = some (.int .i64 x31) ∧
      Calls Try.prog 19 #[.pointer (some ⟨bs, 0, none⟩), .string key, .int .i64 x28] w27.drew (endK (fun v8 w29 =>
      ∃ x32 : Bool, v8 = .bool x32 ∧
      (∃ x33a : Option Addr, ∃ x33l : Nat, ∃ x33c : Nat, w29.cell? ⟨wb, 0, none⟩ = some (.slice x33a x33l x33c) ∧ ∃ x34 : Int, w29.cell? ⟨wb, 1, none⟩ = some (.int .i64 x34) ∧
      ((.agg #[.slice x33a x33l x33c, .int .i64 x34]) : Value) = (.agg #[.slice x29a x29l x29c, .int .i64 x30])) ∧
      (∃ x35 : Int, w29.cell? (Addr.add p5 (Int.toNat k4 * 1)) = some (.int .i64 x35) ∧
      ((.int .i64 x35) : Value) = (.int .i64 x31)) ∧
      Calls Try.prog 20 #[.agg #[.slice x29a x29l x29c, .int .i64 x30], .string key, .int .i64 x31] w29 (endK (fun v9 w31 =>
      ∃ x36 : Bool, v9 = .bool x36 ∧
      iteP ((!(x32 == x36))) (
      (True) ∧
      (True) ∧
      (True) ∧
      (True) ∧
      (True) ∧
      R (.returned (.bool false)) w31) (
      ∃ x37 : ByteArray, w31.cell? ⟨ab, 1, none⟩ = some (.string x37) ∧
      ((0 : Int) ≤ k4 ∧ k4 < ((revs.length : Nat) : Int)) ∧
      onSome ra fun p6 =>
      ∃ x38 : Int, w31.cell? (Addr.add p6 (Int.toNat k4 * 1)) = some (.int .i64 x38) ∧
      ∃ x39a : Option Addr, ∃ x39l : Nat, ∃ x39c : Nat, w31.cell? ⟨wb, 0, none⟩ = some (.slice x39a x39l x39c) ∧ ∃ x40 : Int, w31.cell? ⟨wb, 1, none⟩ = some (.int .i64 x40) ∧
      ∃ x41 : ByteArray, w31.cell? ⟨ab, 1, none⟩ = some (.string x41) ∧
      ((0 : Int) ≤ k4 ∧ k4 < ((revs.length : Nat) : Int)) ∧
      onSome ra fun p7 =>
      ∃ x42 : Int, w31.cell? (Addr.add p7 (Int.toNat k4 * 1)) = some (.int .i64 x42) ∧
      Calls Try.prog 19 #[.pointer (some ⟨bs, 0, none⟩), .string x37, .int .i64 x38] w31 (endK (fun v10 w33 =>
      ∃ x43 : Bool, v10 = .bool x43 ∧
      (∃ x44a : Option Addr, ∃ x44l : Nat, ∃ x44c : Nat, w33.cell? ⟨wb, 0, none⟩ = some (.slice x44a x44l x44c) ∧ ∃ x45 : Int, w33.cell? ⟨wb, 1, none⟩ = some (.int .i64 x45) ∧
      ((.agg #[.slice x44a x44l x44c, .int .i64 x45]) : Value) = (.agg #[.slice x39a x39l x39c, .int .i64 x40])) ∧
      (∃ x46 : ByteArray, w33.cell? ⟨ab, 1, none⟩ = some (.string x46) ∧
      ((.string x46) : Value) = (.string x41)) ∧
      (∃ x47 : Int, w33.cell? (Addr.add p7 (Int.toNat k4 * 1)) = some (.int .i64 x47) ∧
      ((.int .i64 x47) : Value) = (.int .i64 x42)) ∧
      Calls Try.prog 20 #[.agg #[.slice x39a x39l x39c, .int .i64 x40], .string x41, .int .i64 x42] w33 (endK (fun v11 w35 =>
      ∃ x48 : Bool, v11 = .bool x48 ∧
      iteP ((!(x43 == x48))) (
      (True) ∧
      (True) ∧
      R (.returned (.bool false)) w35) (
      iteP ((!(x21.toList == x26.toList))) (
      (True) ∧
      (True) ∧
      R (.returned (.bool false)) w35) (
      iteP ((!(x22 == x27))) (
      (True) ∧
      (True) ∧
      R (.returned (.bool false)) w35) (
      ((0 : Int) ≤ k4 ∧ k4 < ((revs.length : Nat) : Int)) ∧
      onSome ra fun p8 =>
      ∃ x49 : Int, w35.cell? (Addr.add p8 (Int.toNat k4 * 1)) = some (.int .i64 x49) ∧
      ∃ x50a : Option Addr, ∃ x50l : Nat, ∃ x50c : Nat, w35.cell? ⟨wb, 0, none⟩ = some (.slice x50a x50l x50c) ∧ ∃ x51 : Int, w35.cell? ⟨wb, 1, none⟩ = some (.int .i64 x51) ∧
      ((0 : Int) ≤ k4 ∧ k4 < ((revs.length : Nat) : Int)) ∧
      onSome ra fun p9 =>
      ∃ x52 : Int, w35.cell? (Addr.add p9 (Int.toNat k4 * 1)) = some (.int .i64 x52) ∧
      Calls Try.prog 21 #[.pointer (some ⟨bs, 0, none⟩), .int .i64 x49] w35 (endK (fun v12 w37 =>
      ∃ x53 : Int, v12 = .int .i64 x53 ∧
      (∃ x54a : Option Addr, ∃ x54l : Nat, ∃ x54c : Nat, w37.cell? ⟨wb, 0, none⟩ = some (.slice x54a x54l x54c) ∧ ∃ x55 : Int, w37.cell? ⟨wb, 1, none⟩ = some (.int .i64 x55) ∧
      ((.agg #[.slice x54a x54l x54c, .int .i64 x55]) : Value) = (.agg #[.slice x50a x50l x50c, .int .i64 x51])) ∧
      (∃ x56 : Int, w37.cell? (Addr.add p9 (Int.toNat k4 * 1)) = some (.int .i64 x56) ∧
      ((.int .i64 x56) : Value) = (.int .i64 x52)) ∧
      Calls Try.prog 22 #[.agg #[.slice x50a x50l x50c, .int .i64 x51], .int .i64 x52] w37 (endK (fun v13 w39 =>
      ∃ x57 : Int, v13 = .int .i64 x57 ∧
      iteP (x53 != x57) (
      R (.returned (.bool false)) w39) (
      ((0 : Int) ≤ 0 ∧ 0 < ((revs.length : Nat) : Int)) ∧
      onSome ra fun p10 =>
      ∃ x58 : Int, w39.drew.cell? (Addr.add p10 (Int.toNat 0 * 1)) = some (.int .i64 x58) ∧
      ((0 : Int) ≤ k4 ∧ k4 < ((revs.length : Nat) : Int)) ∧
      onSome ra fun p11 =>
      ∃ x59 : Int, w39.drew.cell? (Addr.add p11 (Int.toNat k4 * 1)) = some (.int .i64 x59) ∧
      Calls Try.prog 23 #[.pointer (some ⟨bs, 0, none⟩), .int .i64 x58, .int .i64 x59] w39.drew (endK (fun v14 w41 =>
      ∃ x60a : Option Addr, ∃ x60l : Nat, ∃ x60c : Nat, v14 = .slice x60a x60l x60c ∧
      ∃ x61a : Option Addr, ∃ x61l : Nat, ∃ x61c : Nat, w41.drew.cell? ⟨wb, 0, none⟩ = some (.slice x61a x61l x61c) ∧ ∃ x62 : Int, w41.drew.cell? ⟨wb, 1, none⟩ = some (.int .i64 x62) ∧
      ((0 : Int) ≤ 0 ∧ 0 < ((revs.length : Nat) : Int)) ∧
      onSome ra fun p12 =>
      ∃ x63 : Int, w41.drew.cell? (Addr.add p12 (Int.toNat 0 * 1)) = some (.int .i64 x63) ∧
      ((0 : Int) ≤ k4 ∧ k4 < ((revs.length : Nat) : Int)) ∧
      onSome ra fun p13 =>
      ∃ x64 : Int, w41.drew.cell? (Addr.add p13 (Int.toNat k4 * 1)) = some (.int .i64 x64) ∧
      Calls Try.prog 24 #[.agg #[.slice x61a x61l x61c, .int .i64 x62], .int .i64 x63, .int .i64 x64] w41.drew (endK (fun v15 w43 =>
      ∃ x65a : Option Addr, ∃ x65l : Nat, ∃ x65c : Nat, v15 = .slice x65a x65l x65c ∧
      iteP ((((x60l : Nat) : Int) != ((x65l : Nat) : Int))) (
      R (.returned (.bool false)) w43) (
      ∃ I3 : Int → Nat → World → Prop, (∃ k8, I3 0 k8 w43) ∧
      ∀ j1 : Int, ∀ (k9 : Nat) (w45 : World), I3 j1 k9 w45 → ∀ z3 : Fr,
      iteP ((decide (j1 < ((x60l : Nat) : Int)))) (
      ((0 : Int) ≤ j1 ∧ j1 < ((x60l : Nat) : Int)) ∧
      onSome x60a fun p14 =>
      ∃ x66 : Int, w45.drew.cell? (Addr.add p14 (Int.toNat j1 * 3)) = some (.int .i64 x66) ∧
      ((0 : Int) ≤ j1 ∧ j1 < ((x65l : Nat) : Int)) ∧
      onSome x65a fun p15 =>
      ∃ x67 : Int, w45.drew.cell? (Addr.add p15 (Int.toNat j1 * 3)) = some (.int .i64 x67) ∧
      iteP (x66 != x67) (
      R (.returned (.bool false)) w45.drew) (
      ((0 : Int) ≤ j1 ∧ j1 < ((x60l : Nat) : Int)) ∧
      onSome x60a fun p16 =>
      ∃ x68 : ByteArray, w45.drew.cell? (Addr.add (Addr.add p16 (Int.toNat j1 * 3)) 1) = some (.string x68) ∧
      ((0 : Int) ≤ j1 ∧ j1 < ((x65l : Nat) : Int)) ∧
      onSome x65a fun p17 =>
      ∃ x69 : ByteArray, w45.drew.cell? (Addr.add (Addr.add p17 (Int.toNat j1 * 3)) 1) = some (.string x69) ∧
      iteP ((!(x68.toList == x69.toList))) (
      R (.returned (.bool false)) w45.drew) (
      ((0 : Int) ≤ j1 ∧ j1 < ((x60l : Nat) : Int)) ∧
      onSome x60a fun p18 =>
      ∃ x70 : Bool, w45.drew.cell? (Addr.add (Addr.add p18 (Int.toNat j1 * 3)) 2) = some (.bool x70) ∧
      ((0 : Int) ≤ j1 ∧ j1 < ((x65l : Nat) : Int)) ∧
      onSome x65a fun p19 =>
      ∃ x71 : Bool, w45.drew.cell? (Addr.add (Addr.add p19 (Int.toNat j1 * 3)) 2) = some (.bool x71) ∧
      iteP ((!(x70 == x71))) (
      R (.returned (.bool false)) w45.drew) (
      ∃ k10, k10 < k9 ∧ I3 ((IntKind.wrap .i64 (j1 + 1))) k10 w45.drew)))) (
      ∃ k7, k7 < k6 ∧ I2 ((IntKind.wrap .i64 (k4 + 1))) k7 w45))) (fun c15 w44 => ∀ g : Fr, R (.panicked c15) w44))) (fun c14 w42 => ∀ g : Fr, R (.panicked c14) w42)))) (fun c13 w40 => ∀ g : Fr, R (.panicked c13) w40))) (fun c12 w38 => ∀ g : Fr, R (.panicked c12) w38)))))) (fun c11 w36 => ∀ g : Fr, R (.panicked c11) w36))) (fun c10 w34 => ∀ g : Fr, R (.panicked c10) w34)))) (fun c9 w32 => ∀ g : Fr, R (.panicked c9) w32))) (fun c8 w30 => ∀ g : Fr, R (.panicked c8) w30))) (fun c7 w28 => ∀ g : Fr, R (.panicked c7) w28))) (fun c6 w26 => R (.panicked c6) w26))) (
      K w24) := by
  refine ⟨fun i k w' => ∃ x : Nat, i = x ∧ x ≤ revs.length ∧ k = revs.length - x ∧ PlayAt B W w' bs N M S wb ab a c s act ra revs, ⟨_, 0, rfl, by omega, rfl, h⟩, ?_⟩
  rintro i k w24 ⟨x, rfl, hx, rfl, h24⟩ z
  refine iteP_of (fun hi => ?_) (fun hi => hK _ h24)
  have hi : x < revs.length := by simpa using hi
  have kd : ∀ w : World, Keeps no w w.drew := fun w => (Keeps.refl (S := no)).drew
  have hb : ((0 : Int) ≤ (x : Int) ∧ (x : Int) < ((revs.length : Nat) : Int)) := ⟨by omega, by omega⟩
  have hb0 : ((0 : Int) ≤ 0 ∧ 0 < ((revs.length : Nat) : Int)) := ⟨by omega, by omega⟩
  have hL' : s.L.length < 100000000 := by omega
  obtain ⟨p, hp, c0⟩ := h24.revs x hi
  have hrv : ∀ {w' : World}, PlayAt B W w' bs N M S wb ab a c s act ra revs → w'.cell? (p.add (x * 1)) = some (.int .i64 revs[x]) := by
    intro w' h'
    obtain ⟨p', hp', c'⟩ := h'.revs x hi
    rw [hp] at hp'; cases hp'; exact c'
  have hr0 : ∀ {w' : World}, PlayAt B W w' bs N M S wb ab a c s act ra revs → w'.cell? (p.add (Int.toNat 0 * 1)) = some (.int .i64 (revs[0]'(by omega))) := by
    intro w' h'
    obtain ⟨p', hp', c'⟩ := h'.revs 0 (by omega)
    rw [hp] at hp'; cases hp'; exact c'
  rw [Int.toNat_natCast]
  refine ⟨hb, onSome_of hp ⟨_, c0, ?_⟩⟩
  refine (h24.live.next revs[x] fr to).mono ?_
  rintro e w25 ⟨rfl, _, k25⟩
  have h25 := (h24.quiet k25).quiet (kd w25)
  refine ⟨_, _, rfl, _, _, _, cell_of h25.box rfl, _, cell_of h25.box rfl, hb, onSome_of hp ⟨_, hrv h25, ?_⟩⟩
  refine (rNext18 (XAt.of h25.row) (by omega) revs[x] fr to).mono ?_
  rintro e w27 ⟨rfl, k27⟩
  rw [hA.next]
  have h27 := (h25.quiet k27).quiet (kd w27)
  refine ⟨_, _, rfl, hb, onSome_of hp ⟨_, hrv h27, _, _, _, cell_of h27.box rfl, _, cell_of h27.box rfl, hb, onSome_of hp ⟨_, hrv h27, ?_⟩⟩⟩
  refine (h27.live.has key hkey revs[x]).mono ?_
  rintro e w29 ⟨rfl, _, k29⟩
  have h29 := h27.quiet k29
  refine ⟨_, rfl, ⟨_, _, _, cell_of h29.box rfl, _, cell_of h29.box rfl, rfl⟩, ⟨_, hrv h29, rfl⟩, ?_⟩
  refine (rHas20 (XAt.of h29.row) (by omega) key revs[x]).mono ?_
  rintro e w31 ⟨rfl, k31⟩
  rw [hA.has]
  have h31 := h29.quiet k31
  refine ⟨_, rfl, Go.L.iteP_false beq_not ?_⟩
  refine ⟨_, cell_of h31.act rfl, hb, onSome_of hp ⟨_, hrv h31, _, _, _, cell_of h31.box rfl, _, cell_of h31.box rfl, _, cell_of h31.act rfl, hb, onSome_of hp ⟨_, hrv h31, ?_⟩⟩⟩
  refine (h31.live.has act.key hact revs[x]).mono ?_
  rintro e w33 ⟨rfl, _, k33⟩
  have h33 := h31.quiet k33
  refine ⟨_, rfl, ⟨_, _, _, cell_of h33.box rfl, _, cell_of h33.box rfl, rfl⟩, ⟨_, cell_of h33.act rfl, rfl⟩, ⟨_, hrv h33, rfl⟩, ?_⟩
  refine (rHas20 (XAt.of h33.row) (by omega) act.key revs[x]).mono ?_
  rintro e w35 ⟨rfl, k35⟩
  rw [hA.has]
  have h35 := h33.quiet k35
  refine ⟨_, rfl, Go.L.iteP_false beq_not (Go.L.iteP_false (by simp) (Go.L.iteP_false beq_not ?_))⟩
  refine ⟨hb, onSome_of hp ⟨_, hrv h35, _, _, _, cell_of h35.box rfl, _, cell_of h35.box rfl, hb, onSome_of hp ⟨_, hrv h35, ?_⟩⟩⟩
  refine (h35.live.count revs[x]).mono ?_
  rintro e w37 ⟨rfl, _, k37⟩
  have h37 := h35.quiet k37
  refine ⟨_, rfl, ⟨_, _, _, cell_of h37.box rfl, _, cell_of h37.box rfl, rfl⟩, ⟨_, hrv h37, rfl⟩, ?_⟩
  refine (rCount22 (XAt.of h37.row) (by omega) revs[x]).mono ?_
  rintro e w39 ⟨rfl, k39⟩
  rw [hA.count]
  have h39 := (h37.quiet k39).quiet (kd w39)
  refine ⟨_, rfl, Go.L.iteP_false (by simp) ?_⟩
  refine ⟨hb0, onSome_of hp ⟨_, hr0 h39, hb, onSome_of hp ⟨_, hrv h39, ?_⟩⟩⟩
  refine (h39.live.events (revs[0]'(by omega)) revs[x]).mono ?_
  rintro e w41 ⟨v14, rfl, r14, _, k41⟩
  have h41 := (h39.quiet k41).quiet (kd w41)
  obtain ⟨ea, ec, e14, _⟩ := row_shape r14
  refine ⟨_, _, _, e14, _, _, _, cell_of h41.box rfl, _, cell_of h41.box rfl, hb0, onSome_of hp ⟨_, hr0 h41, hb, onSome_of hp ⟨_, hrv h41, ?_⟩⟩⟩
  refine (rEvents24 (XAt.of h41.row) (by omega) (revs[0]'(by omega)) revs[x]).mono ?_
  rintro e w43 ⟨v15, rfl, r15, k43⟩
  rw [hA.events] at r15
  have h43 := h41.quiet k43
  obtain ⟨fa, fc, e15, _⟩ := row_shape r15
  have q14 := (EvAt.of r14).quiet ((kd w41).transN k43)
  have q15 := EvAt'.of r15 e15
  rw [e14] at q14
  have lE : (M.events (revs[0]'(by omega)) revs[x]).length < 3000000000 := by have := len_events M (revs[0]'(by omega)) revs[x]; have := h.live.pairs; omega
  generalize M.events (revs[0]'(by omega)) revs[x] = E at *
  refine ⟨_, _, _, e15, Go.L.iteP_false (by simp) ?_⟩
  refine ⟨fun i k w' => ∃ y : Nat, i = y ∧ y ≤ E.length ∧ k = E.length - y ∧ PlayAt B W w' bs N M S wb ab a c s act ra revs ∧ EvAt w' (.slice ea E.length ec) E ∧ EvAt' w' fa E, ⟨_, 0, rfl, by omega, rfl, h43, q14, q15⟩, ?_⟩
  rintro i k w45 ⟨y, rfl, hy, rfl, h45, u14, u15⟩ z
  have h45d := h45.quiet (kd w45)
  have u14d := u14.quiet (kd w45)
  have u15d := u15.quiet (kd w45)
  refine iteP_of (fun hj => ?_) (fun hj => ?_)
  · have hj : y < E.length := by simpa using hj
    obtain ⟨p1, hp1, d0, d1, d2⟩ := u14d.get hj
    obtain ⟨p2, hp2, f0, f1, f2⟩ := u15d y hj
    have hbe : ((0 : Int) ≤ (y : Int) ∧ (y : Int) < ((E.length : Nat) : Int)) := ⟨by omega, by omega⟩
    rw [Int.toNat_natCast]
    refine ⟨hbe, onSome_of hp1 ⟨_, d0, hbe, onSome_of hp2 ⟨_, f0, Go.L.iteP_false (by simp) ?_⟩⟩⟩
    refine ⟨hbe, onSome_of hp1 ⟨_, d1, hbe, onSome_of hp2 ⟨_, f1, Go.L.iteP_false (by simp) ?_⟩⟩⟩
    refine ⟨hbe, onSome_of hp1 ⟨_, d2, hbe, onSome_of hp2 ⟨_, f2, Go.L.iteP_false beq_not ?_⟩⟩⟩
    rw [IntWalk.i64_in _ (by omega)]
    exact ⟨E.length - (y + 1), by omega, y + 1, by omega, by omega, rfl, h45d, u14d, u15d⟩
  · rw [IntWalk.i64_in _ (by omega)]
    exact ⟨revs.length - (x + 1), by omega, x + 1, by omega, by omega, rfl, h45⟩

theorem store_tail {w : World} {wb : Nat} {cs : Array Value} (hb : w.heap[wb]? = some (.cells cs 30 (0, 0))) (hs : cs.size = 2) {a : Option Addr} {n c : Nat} {last : Int} {K : World → Prop}
    (hk : ∀ w', w'.heap[wb]? = some (.cells #[.slice a n c, .int .i64 last] 30 (0, 0)) → Keeps (fun q => q = wb) w w' → K w') :
    allocK w (.cells #[.slice none 0 0, .int .i64 0] 30) fun w19 =>
    storeK w19 ⟨w.heap.size, 0, none⟩ (.slice a n c) fun w20 =>
    storeK w20 ⟨w.heap.size, 1, none⟩ (.int .i64 last) fun w21 =>
    ∃ x18a : Option Addr, ∃ x18l : Nat, ∃ x18c : Nat, w21.cell? ⟨w.heap.size, 0, none⟩ = some (.slice x18a x18l x18c) ∧ ∃ x19 : Int, w21.cell? ⟨w.heap.size, 1, none⟩ = some (.int .i64 x19) ∧
    storeK w21 ⟨wb, 0, none⟩ (.slice x18a x18l x18c) fun w22 =>
    storeK w22 ⟨wb, 1, none⟩ (.int .i64 x19) K := by
  refine allocK_of ?_
  have m0 := heap_new w (.cells #[.slice none 0 0, .int .i64 0] 30)
  refine storeK_of m0 (by simp) ?_
  have m1 := heap_set_same m0 0 (.slice a n c)
  refine storeK_of m1 (by simp) ?_
  have m2 := heap_set_same m1 1 (.int .i64 last)
  have k6 : Keeps no w (((w.alloc (.cells #[.slice none 0 0, .int .i64 0] 30)).setCell ⟨w.heap.size, 0, none⟩ (.slice a n c)).setCell ⟨w.heap.size, 1, none⟩ (.int .i64 last)) :=
    ((Keeps.refl.alloc _).set (.inr (Nat.le_refl _)) _ _).set (.inr (Nat.le_refl _)) _ _
  generalize (((w.alloc (.cells #[.slice none 0 0, .int .i64 0] 30)).setCell ⟨w.heap.size, 0, none⟩ (.slice a n c)).setCell ⟨w.heap.size, 1, none⟩ (.int .i64 last)) = w21 at *
  refine ⟨_, _, _, cell_of m2 rfl, _, cell_of m2 rfl, ?_⟩
  have hb2 := k6.heap hb id
  refine storeK_of hb2 (by omega) ?_
  have z1 := heap_set_same hb2 0 (.slice a n c)
  refine storeK_of z1 (by simp; omega) ?_
  have z2 := heap_set_same z1 1 (.int .i64 last)
  have hcs : (cs.setIfInBounds 0 (.slice a n c)).setIfInBounds 1 (.int .i64 last) = #[.slice a n c, .int .i64 last] := by
    obtain ⟨l⟩ := cs
    match l, hs with
    | [x, y], _ => rfl
  rw [hcs] at z2
  exact hk _ z2 (((k6.mono (S' := fun q => q = wb) (fun _ _ h => h.elim)).set (.inl rfl) _ _).set (.inl rfl) _ _)
def stepP (M : Sp) (x : Act) : Sp := if x.kind = 0 then (M.put x.key x.rev).1 else if x.kind = 1 then (M.drop x.key x.rev).1 else M.trim x.rev
/-- Between two rounds of SpansPlay. -/
structure PlayO (B : Nat) (W w : World) (bs N : Nat) (M : Sp) (S : Nat → Prop) (wb : Nat) (a : Option Addr) (c : Nat) (s : RS) : Prop where
  live : Live B W w bs N M S
  agree : Agree M s
  row : RowX w B (.slice a s.L.length c) s.L
  box : w.heap[wb]? = some (.cells #[.slice a s.L.length c, .int .i64 s.last] 30 (0, 0))
  apart : ∀ q, (Value.slice a s.L.length c).ownBlock = some q → ¬ S q
  apartB : ¬ S wb
  wbB : B ≤ wb
section
variable {B bs N N' wb c c' : Nat} {W w w' w'' : World} {M M' : Sp} {S S' : Nat → Prop} {a a' : Option Addr} {s s' : RS}
theorem PlayO.quiet (h : PlayO B W w bs N M S wb a c s) (hk : Keeps no w w') : PlayO B W w' bs N M S wb a c s :=
  ⟨h.live.quiet hk, h.agree, row_quiet h.row hk, hk.heap h.box id, h.apart, h.apartB, h.wbB⟩
/-- A step of the spans, and one of the reference behind it; then the struct is stored. -/
theorem PlayO.next (h : PlayO B W w bs N M S wb a c s) (hl : Live B W w' bs N' M' S') (hk : Keeps S w w') (hS : ∀ q, S' q → S q ∨ w.heap.size ≤ q) (hA : Agree M' s')
    (hr : RefOut w' w'' B (.slice a s.L.length c) s'.L (.slice a' s'.L.length c')) {w3 : World} (hb : w3.heap[wb]? = some (.cells #[.slice a' s'.L.length c', .int .i64 s'.last] 30 (0, 0))) (h3 : Keeps (fun q => q = wb) w'' w3) :
    PlayO B W w3 bs N' M' S' wb a' c' s' := by
  obtain ⟨r1, k1, hv⟩ := hr
  have hwb := lt_of_heap h.box
  have hS'w : ¬ S' wb := fun e => (hS wb e).elim h.apartB (fun e => by omega)
  have ap : ∀ q, (Value.slice a' s'.L.length c').ownBlock = some q → ¬ S' q ∧ q ≠ wb := by
    intro q hq
    refine ⟨fun e => ?_, fun e => ?_⟩
    · rcases hv with hv | hv
      · rw [hv] at hq
        have := h.apart q hq
        have h2 := (h.row.lt q hq).2
        exact (hS q e).elim this (fun e => by omega)
      · have := hv q hq; have := hl.slt q e; omega
    · subst e
      obtain ⟨cap, cur, _, _, hh, _⟩ := row_heap r1 hq
      have hbox := k1.heap (hk.heap h.box h.apartB) id
      rw [hbox] at hh; cases hh
  have hl2 := hl.quiet k1
  refine ⟨hl2.keeps h3 (fun q hq e => hS'w (by rw [← e]; exact hq)) (fun q e => by rw [e]; exact h.wbB), hA, row_keeps r1 h3 (fun q hq e => (ap q hq).2 e), hb, fun q hq => (ap q hq).1, hS'w, h.wbB⟩
end
theorem Put_nilK (key : ByteArray) (rev : Int) (w : World) : Calls Try.prog 11 #[.pointer none, .string key, .int .i64 rev] w fun e w' => e = .returned (.bool false) ∧ w' = w := (Put_nil key rev w).mono fun e w' h => ⟨h.2, h.1⟩
set_option maxHeartbeats 4000000 in
theorem PlayWalk {p p2 : Option Addr} {l : List Act} {revs : List Int} {cap cap2 : Nat} (key fr to : ByteArray) (w : World) (ha : ActsAt w p l) (hl : l.length ≤ maxLen) (hi2 : IntsAt w p2 revs) (hkey : key.size ≤ maxLen) :
    Calls Try.prog 3 #[.slice p l.length cap, .string key, .slice p2 revs.length cap2, .string fr, .string to] w fun e w' => e = .returned (.bool true) ∧ Below w.heap.size w w' := by
  obtain ⟨R, hR⟩ : ∃ R : Ending → World → Prop, R = fun e w' => e = .returned (.bool true) ∧ Below w.heap.size w w' := ⟨_, rfl⟩
  rw [← hR]
  have hT : ∀ w', Below w.heap.size w w' → R (.returned (.bool true)) w' := fun w' h => by rw [hR]; exact ⟨rfl, h⟩
  clear hR
  refine F3.calls_of _ _ _ _ _ _ _ _ _ ?_
  unfold F3.sh
  refine (awake8 w).mono ?_
  rintro e w1 ⟨rfl, b1⟩
  refine ⟨true, rfl, Go.L.iteP_false rfl ?_⟩
  have ha1 := ha.below b1
  refine (few9 ha1 hl).mono ?_
  rintro e w3 ⟨rfl, rfl⟩
  refine ⟨_, rfl, iteP_of (fun h0 => hT _ b1) (fun h0 => iteP_of (fun _ => hT _ b1) (fun g1 => ?_))⟩
  have hf : few l = true := by simpa using h0
  have g1 : revs.length ≤ 12 := by simp at g1; omega
  have hlen := (few_size hf).1
  refine (Live.new b1 b1.size).mono ?_
  rintro e w5 ⟨bs, S0, rfl, h5, k5, _⟩
  refine ⟨_, rfl, allocK_of ?_⟩
  have m0 := heap_new w5 (.cells #[.slice none 0 0, .int .i64 0] 30)
  refine storeK_of m0 (by simp) ?_
  have m1 := heap_set_same m0 0 (.slice none 0 0)
  refine storeK_of m1 (by simp) ?_
  have m2 := heap_set_same m1 1 (.int .i64 0)
  have k9 : Keeps no w5 (((w5.alloc (.cells #[.slice none 0 0, .int .i64 0] 30)).setCell ⟨w5.heap.size, 0, none⟩ (.slice none 0 0)).setCell ⟨w5.heap.size, 1, none⟩ (.int .i64 0)) :=
    ((Keeps.refl.alloc _).set (.inr (Nat.le_refl _)) _ _).set (.inr (Nat.le_refl _)) _ _
  generalize (((w5.alloc (.cells #[.slice none 0 0, .int .i64 0] 30)).setCell ⟨w5.heap.size, 0, none⟩ (.slice none 0 0)).setCell ⟨w5.heap.size, 1, none⟩ (.int .i64 0)) = w9 at *
  have hP9 : PlayO w.heap.size w w9 bs 0 .empty S0 w5.heap.size none 0 ⟨[], 0⟩ :=
    ⟨h5.quiet k9, Agree.empty, World.ownsRow_nil _ _ _ _, m2, fun q hq => by simp [Value.ownBlock] at hq, fun e => by have := h5.slt _ e; omega, h5.ge⟩
  refine ⟨fun i k w10 => ∃ x : Nat, i = x ∧ x ≤ l.length ∧ k = l.length - x ∧ ∃ M S a c s, PlayO w.heap.size w w10 bs x M S w5.heap.size a c s ∧ s.L.length ≤ x, ⟨_, 0, rfl, by omega, rfl, _, S0, none, 0, _, hP9, by simp⟩, ?_⟩
  rintro i k w10 ⟨x, rfl, hx, rfl, M, S, a, c, s, h10, hLx⟩ z
  refine iteP_of (fun hi => ?_) (fun hi => ?_)
  · have hi : x < l.length := by simpa using hi
    have hsz := actsKeys hf hi
    have hsz40 := ((few_size hf).2 _ (List.getElem_mem hi)).1
    obtain ⟨q, hq, _, c0, c1, c2⟩ := (ActsAt.below (w := w) ha h10.live.bel) x hi
    rw [Int.toNat_natCast]
    refine ⟨⟨by omega, by omega⟩, onSome_of hq ⟨_, c0, _, c1, _, c2, allocK_of ?_⟩⟩
    have n0 := heap_new w10 (.cells #[.int .u8 0, .string ⟨#[]⟩, .int .i64 0] 32)
    refine storeK_of n0 (by simp) ?_
    have n1 := heap_set_same n0 0 (.int .u8 l[x].kind)
    refine storeK_of n1 (by simp) ?_
    have n2 := heap_set_same n1 1 (.string l[x].key)
    refine storeK_of n2 (by simp) ?_
    have n3 := heap_set_same n2 2 (.int .i64 l[x].rev)
    have k14 : Keeps no w10 ((((w10.alloc (.cells #[.int .u8 0, .string ⟨#[]⟩, .int .i64 0] 32)).setCell ⟨w10.heap.size, 0, none⟩ (.int .u8 l[x].kind)).setCell ⟨w10.heap.size, 1, none⟩ (.string l[x].key)).setCell ⟨w10.heap.size, 2, none⟩ (.int .i64 l[x].rev)) :=
      (((Keeps.refl.alloc _).set (.inr (Nat.le_refl _)) _ _).set (.inr (Nat.le_refl _)) _ _).set (.inr (Nat.le_refl _)) _ _
    generalize ((((w10.alloc (.cells #[.int .u8 0, .string ⟨#[]⟩, .int .i64 0] 32)).setCell ⟨w10.heap.size, 0, none⟩ (.int .u8 l[x].kind)).setCell ⟨w10.heap.size, 1, none⟩ (.string l[x].key)).setCell ⟨w10.heap.size, 2, none⟩ (.int .i64 l[x].rev)) = w14 at *
    have n3 : w14.heap[w10.heap.size]? = some (.cells #[.int .u8 l[x].kind, .string l[x].key, .int .i64 l[x].rev] 32 (0, 0)) := n3
    have h14 := h10.quiet k14
    have hn14 := lt_of_heap n3
    have hSact : ∀ {S' : Nat → Prop}, (∀ q, S' q → S q) → ¬ S' w10.heap.size := fun h e => by have := h10.live.slt _ (h _ e); omega
    -- the end of a round
    have fin : ∀ {w3 : World} {M' : Sp} {S' : Nat → Prop} {a' : Option Addr} {c' : Nat} {s' : RS}, PlayO w.heap.size w w3 bs (x + 1) M' S' w5.heap.size a' c' s' → s'.L.length ≤ x + 1 → w3.heap[w10.heap.size]? = some (.cells #[.int .u8 l[x].kind, .string l[x].key, .int .i64 l[x].rev] 32 (0, 0)) →
        ∀ w', PlayAt w.heap.size w w' bs (x + 1) M' S' w5.heap.size w10.heap.size a' c' s' l[x] p2 revs →
        ∃ k3, k3 < l.length - x ∧ ∃ y : Nat, IntKind.wrap .i64 ((x : Int) + 1) = y ∧ y ≤ l.length ∧ k3 = l.length - y ∧ ∃ M S a c s, PlayO w.heap.size w w' bs y M S w5.heap.size a c s ∧ s.L.length ≤ y := by
      intro w3 M' S' a' c' s' h3 hl3 _ w' hP
      rw [IntWalk.i64_in _ (by omega)]
      exact ⟨l.length - (x + 1), by omega, x + 1, by omega, by omega, rfl, M', S', a', c', s', ⟨hP.live, h3.agree, hP.row, hP.box, h3.apart, h3.apartB, h3.wbB⟩, hl3⟩
    have start : ∀ {w3 : World} {M' : Sp} {S' : Nat → Prop} {a' : Option Addr} {c' : Nat} {s' : RS}, PlayO w.heap.size w w3 bs (x + 1) M' S' w5.heap.size a' c' s' → w3.heap[w10.heap.size]? = some (.cells #[.int .u8 l[x].kind, .string l[x].key, .int .i64 l[x].rev] 32 (0, 0)) →
        PlayAt w.heap.size w w3 bs (x + 1) M' S' w5.heap.size w10.heap.size a' c' s' l[x] p2 revs := by
      intro w3 M' S' a' c' s' h3 hact
      refine ⟨h3.live, h3.row, h3.box, hact, fun i hi => ?_⟩
      obtain ⟨q, h1, _, h2⟩ := (IntsAt.below (w := w) hi2 h3.live.bel) i hi
      exact ⟨q, h1, h2⟩
    have hwx : w5.heap.size ≠ w10.heap.size := by have := lt_of_heap h10.box; omega
    have lr : ∀ (k : ByteArray) (r : Int), (rPut s k r).1.L.length ≤ s.L.length + 1 := fun k r => by unfold rPut; split <;> simp
    have ld : ∀ (k : ByteArray) (r : Int), (rDrop s k r).1.L.length ≤ s.L.length := fun k r => by
      unfold rDrop; split
      · exact Nat.le_refl _
      · split
        · exact Nat.le_refl _
        · split
          · exact Nat.le_refl _
          · split <;> simp
    have lt : ∀ r : Int, (rTrim s r).1.L.length ≤ s.L.length := fun r => List.length_filter_le _ _
    refine ⟨_, cell_of n3 rfl, iteP_of (fun h1 => ?_) (fun h1 => iteP_of (fun h2 => ?_) (fun h2 => ?_))⟩
    · -- put
      refine ⟨_, cell_of n3 rfl, _, cell_of n3 rfl, ?_⟩
      refine (h14.live.put (by omega) l[x].key hsz l[x].rev).mono ?_
      rintro e w15 ⟨rfl, S', l15, k15, nS⟩
      obtain ⟨hag1, hag2⟩ := h14.agree.put hsz40 l[x].rev
      have box15 := k15.heap h14.box h14.apartB
      have act15 := k15.heap n3 (hSact fun _ h => h)
      have row15 := row_keeps h14.row k15 (fun q hq e => h14.apart q hq e)
      refine ⟨_, rfl, _, _, _, cell_of box15 rfl, _, cell_of box15 rfl, _, cell_of act15 rfl, _, cell_of act15 rfl, ?_⟩
      refine (Put12 (s := s) row15 l15.ge (by omega) l[x].key l[x].rev).mono ?_
      rintro e w17 ⟨v', rfl, ho⟩
      obtain ⟨a', c', hv', _⟩ := row_shape ho.1
      rw [hv'] at ho
      refine ⟨_, _, _, _, _, by rw [hv'], ?_⟩
      refine store_tail (ho.2.1.heap box15 id) rfl fun w23 hb hk => ?_
      have hN := h14.next l15 k15 nS hag2 ho hb hk
      have act23 := hk.heap (ho.2.1.heap act15 id) (fun e => hwx e.symm)
      refine Go.L.iteP_false (by rw [hag1]; exact beq_not) ?_
      have lL := lr l[x].key l[x].rev
      exact play_inner (R := R) (start hN act23) hN.agree (by omega) (by omega) g1 hkey hsz (fin hN (by omega) act23)
    · -- drop
      refine ⟨_, cell_of n3 rfl, _, cell_of n3 rfl, ?_⟩
      refine (h14.live.drop l[x].key hsz l[x].rev).mono ?_
      rintro e w15 ⟨rfl, l15, k15⟩
      obtain ⟨hag1, hag2⟩ := h14.agree.drop l[x].key l[x].rev
      have l15 : Live w.heap.size w w15 bs (x + 1) _ S := ⟨l15.rep.mono (by omega), l15.bel, l15.ge, by omega⟩
      have box15 := k15.heap h14.box h14.apartB
      have act15 := k15.heap n3 (hSact fun _ h => h)
      have row15 := row_keeps h14.row k15 (fun q hq e => h14.apart q hq e)
      refine ⟨_, rfl, _, _, _, cell_of box15 rfl, _, cell_of box15 rfl, _, cell_of act15 rfl, _, cell_of act15 rfl, ?_⟩
      refine (Drop14 (s := s) row15 l15.ge (by omega) l[x].key l[x].rev).mono ?_
      rintro e w17 ⟨v', rfl, ho⟩
      obtain ⟨a', c', hv', _⟩ := row_shape ho.1
      rw [hv'] at ho
      refine ⟨_, _, _, _, _, by rw [hv'], ?_⟩
      refine store_tail (ho.2.1.heap box15 id) rfl fun w23 hb hk => ?_
      have hN := h14.next l15 k15 (fun q hq => .inl hq) hag2 ho hb hk
      have act23 := hk.heap (ho.2.1.heap act15 id) (fun e => hwx e.symm)
      refine Go.L.iteP_false (by rw [hag1]; exact beq_not) ?_
      have lL := ld l[x].key l[x].rev
      exact play_inner (R := R) (start hN act23) hN.agree (by omega) (by omega) g1 hkey hsz (fin hN (by omega) act23)
    · -- trim
      refine ⟨_, cell_of n3 rfl, ?_⟩
      refine (h14.live.trim l[x].rev).mono ?_
      rintro e w15 ⟨rfl, S', l15, k15, nS⟩
      obtain ⟨hag1, hag2⟩ := h14.agree.trim l[x].rev
      have l15 : Live w.heap.size w w15 bs (x + 1) _ S' := ⟨l15.rep.mono (by omega), l15.bel, l15.ge, by omega⟩
      have box15 := k15.heap h14.box h14.apartB
      have act15 := k15.heap n3 (hSact fun _ h => h)
      have row15 := row_keeps h14.row k15 (fun q hq e => h14.apart q hq e)
      refine ⟨_, rfl, _, _, _, cell_of box15 rfl, _, cell_of box15 rfl, _, cell_of act15 rfl, ?_⟩
      refine (Trim16 (s := s) row15 l15.ge (by omega) l[x].rev).mono ?_
      rintro e w17 ⟨v', rfl, ho⟩
      obtain ⟨a', c', hv', _⟩ := row_shape ho.1
      rw [hv'] at ho
      refine ⟨_, _, _, _, _, by rw [hv'], ?_⟩
      refine store_tail (ho.2.1.heap box15 id) rfl fun w23 hb hk => ?_
      have hN := h14.next l15 k15 (fun q hq => .inl (nS q hq)) hag2 ho hb hk
      have act23 := hk.heap (ho.2.1.heap act15 id) (fun e => hwx e.symm)
      refine Go.L.iteP_false (by rw [hag1]; simp) ?_
      have lL := lt l[x].rev
      exact play_inner (R := R) (start hN act23) hN.agree (by omega) (by omega) g1 hkey hsz (fin hN (by omega) act23)
  · have bel := h10.live.bel
    have ge := h10.live.ge
    refine (Next_nil 1 ⟨#[]⟩ ⟨#[]⟩ w10).mono ?_
    rintro e w108 ⟨rfl, rfl⟩
    refine ⟨_, _, rfl, (Put_nilK ⟨#[97]⟩ 1 w108).mono ?_⟩
    rintro e w110 ⟨rfl, rfl⟩
    refine ⟨_, rfl, Go.L.iteP_true rfl ?_⟩
    refine (Drop_nil ⟨#[97]⟩ 1 w110).mono ?_
    rintro e w112 ⟨rfl, rfl⟩
    refine ⟨_, rfl, Go.L.iteP_true rfl ?_⟩
    refine (Has_nil ⟨#[97]⟩ 1 w112).mono ?_
    rintro e w114 ⟨rfl, k114⟩
    refine ⟨_, rfl, Go.L.iteP_true rfl (Go.L.iteP_true rfl ?_)⟩
    refine (Count_nil 1 w114).mono ?_
    rintro e w116 ⟨rfl, k116⟩
    refine ⟨_, rfl, (Trim_nil 1 w116).mono ?_⟩
    rintro e w118 ⟨rfl, k118⟩
    refine ⟨_, rfl, (Events_nil (B := 0) 0 9 w118 (Nat.zero_le _)).mono ?_⟩
    rintro e w120 ⟨rfl, k120⟩
    refine ⟨_, _, _, rfl, ?_⟩
    have kk : Keeps no w112 w120 := ((k114.transN k116).transN k118).transN k120
    exact hT _ <| bel.trans (kk.below (fun _ h => h.elim) ge)
end Go.Proofs
