/- The plain readings of functions of the program. Written by shallow.py (this claim's own program). -/
import Derived.Test.YtgmfilpbabkjeaaLiftE
set_option linter.unusedVariables false
set_option maxRecDepth 100000
namespace Go.Proofs
open Go.L

/-! #### doorman/doormanlaw14.SpansPlay -/
def F3.A : Ann := annOf [(37, (.one (.one .bool))), (41, (.one (.one .bool))), (49, (.one (.one .ptr))), (60, (.one (.agg [(.int .u8), .str, (.int .i64)]))), (62, (.one (.one (.int .u8)))), (65, (.one (.one (.int .i64)))), (66, (.one (.one (.int .i64)))), (68, (.one (.agg [.slice, (.int .i64)]))), (70, (.one (.one (.int .i64)))), (71, (.tup [(.agg [.slice, (.int .i64)]), (.one (.int .i64))])), (74, (.one (.agg [.slice, (.int .i64)]))), (82, (.one (.one .str))), (84, (.one (.one (.int .i64)))), (85, (.one (.one .bool))), (87, (.one (.agg [.slice, (.int .i64)]))), (89, (.one (.one .str))), (91, (.one (.one (.int .i64)))), (92, (.tup [(.agg [.slice, (.int .i64)]), (.one .bool)])), (95, (.one (.agg [.slice, (.int .i64)]))), (101, (.one (.one .str))), (103, (.one (.one (.int .i64)))), (104, (.one (.one .bool))), (106, (.one (.agg [.slice, (.int .i64)]))), (108, (.one (.one .str))), (110, (.one (.one (.int .i64)))), (111, (.tup [(.agg [.slice, (.int .i64)]), (.one .bool)])), (114, (.one (.agg [.slice, (.int .i64)]))), (130, (.one (.one (.int .i64)))), (133, (.tup [(.one .str), (.one .bool)])), (137, (.one (.agg [.slice, (.int .i64)]))), (141, (.one (.one (.int .i64)))), (144, (.tup [(.one .str), (.one .bool)])), (152, (.one (.one (.int .i64)))), (153, (.one (.one .bool))), (154, (.one (.agg [.slice, (.int .i64)]))), (159, (.one (.one (.int .i64)))), (160, (.one (.one .bool))), (165, (.one (.one .str))), (169, (.one (.one (.int .i64)))), (170, (.one (.one .bool))), (171, (.one (.agg [.slice, (.int .i64)]))), (173, (.one (.one .str))), (177, (.one (.one (.int .i64)))), (178, (.one (.one .bool))), (196, (.one (.one (.int .i64)))), (197, (.one (.one (.int .i64)))), (198, (.one (.agg [.slice, (.int .i64)]))), (202, (.one (.one (.int .i64)))), (203, (.one (.one (.int .i64)))), (209, (.one (.one (.int .i64)))), (213, (.one (.one (.int .i64)))), (214, (.one (.one .slice))), (215, (.one (.agg [.slice, (.int .i64)]))), (218, (.one (.one (.int .i64)))), (222, (.one (.one (.int .i64)))), (223, (.one (.one .slice))), (239, (.one (.one (.int .i64)))), (244, (.one (.one (.int .i64)))), (251, (.one (.one .str))), (256, (.one (.one .str))), (264, (.one (.one .bool))), (269, (.one (.one .bool))), (274, (.tup [(.one .str), (.one .bool)])), (278, (.one (.one .bool))), (282, (.one (.one .bool))), (287, (.one (.one .bool))), (296, (.one (.one (.int .i64)))), (298, (.one (.one (.int .i64)))), (301, (.one (.one .slice)))] [(10, [15], [(.one (.int .i64))], [10, 16, 17, 18, 19, 20, 21, 22, 23, 24, 25, 26, 27, 28, 29, 30, 31, 32, 33, 51, 52, 53, 54, 55, 56, 57, 58, 59, 60, 61, 62, 63, 64, 65, 66, 67, 68, 69, 70, 71, 72, 73, 74, 75, 76, 77, 78, 79, 80, 81, 82, 83, 84, 85, 86, 87, 88, 89, 90, 91, 92, 93, 94, 95, 96, 97, 98, 99, 100, 101, 102, 103, 104, 105, 106, 107, 108, 109, 110, 111, 112, 113, 114, 115, 116, 117, 118, 119, 120, 121, 122, 123, 124, 125, 126, 127, 128, 129, 130, 131, 132, 133, 134, 135, 136, 137, 138, 139, 140, 141, 142, 143, 144, 145, 146, 147, 148, 149, 150, 151, 152, 153, 154, 155, 156, 157, 158, 159, 160, 161, 162, 163, 164, 165, 166, 167, 168, 169, 170, 171, 172, 173, 174, 175, 176, 177, 178, 179, 180, 181, 182, 183, 184, 185, 186, 187, 188, 189, 190, 191, 192, 193, 194, 195, 196, 197, 198, 199, 200, 201, 202, 203, 204, 205, 206, 207, 208, 209, 210, 211, 212, 213, 214, 215, 216, 217, 218, 219, 220, 221, 222, 223, 224, 225, 226, 227, 228, 229, 230, 231, 232, 233, 234, 235, 236, 237, 238, 239, 240, 241, 242, 243, 244, 245, 246, 247, 248, 249, 250, 251, 252, 253, 254, 255, 256, 257, 258, 259, 260, 261, 262, 263, 264, 265, 266, 267, 268, 269, 270, 271]), (33, [26], [(.one (.int .i64))], [10, 27, 28, 29, 30, 31, 32, 33, 119, 120, 121, 122, 123, 124, 125, 126, 127, 128, 129, 130, 131, 132, 133, 134, 135, 136, 137, 138, 139, 140, 141, 142, 143, 144, 145, 146, 147, 148, 149, 150, 151, 152, 153, 154, 155, 156, 157, 158, 159, 160, 161, 162, 163, 164, 165, 166, 167, 168, 169, 170, 171, 172, 173, 174, 175, 176, 177, 178, 179, 180, 181, 182, 183, 184, 185, 186, 187, 188, 189, 190, 191, 192, 193, 194, 195, 196, 197, 198, 199, 200, 201, 202, 203, 204, 205, 206, 207, 208, 209, 210, 211, 212, 213, 214, 215, 216, 217, 218, 219, 220, 221, 222, 223, 224, 225, 226, 227, 228, 229, 230, 231, 232, 233, 234, 235, 236, 237, 238, 239, 240, 241, 242, 243, 244, 245, 246, 247, 248, 249, 250, 251, 252, 253, 254, 255, 256, 257, 258, 259, 260, 261, 262, 263, 264, 265, 266, 267, 268, 269, 270, 271]), (44, [33], [(.one (.int .i64))], [10, 229, 230, 231, 232, 233, 234, 235, 236, 237, 238, 239, 240, 241, 242, 243, 244, 245, 246, 247, 248, 249, 250, 251, 252, 253, 254, 255, 256, 257, 258, 259, 260, 261, 262, 263, 264, 265, 266, 267, 268, 269, 270, 271])]
def F3.sh (l1a : Option Addr) (l1l : Nat) (l1c : Nat) (key1 : ByteArray) (revs1a : Option Addr) (revs1l : Nat) (revs1c : Nat) (from1 : ByteArray) (to1 : ByteArray) (w : World) (R : Ending → World → Prop) : Prop :=
  Calls Try.prog 8 #[] w (endK (fun v1 w1 =>
      ∃ x1 : Bool, v1 = .bool x1 ∧
      iteP (!x1) (
        R (.returned (.bool false)) w1) (
        Calls Try.prog 9 #[.slice l1a l1l l1c] w1 (endK (fun v2 w3 =>
            ∃ x2 : Bool, v2 = .bool x2 ∧
            iteP (!x2) (
              R (.returned (.bool true)) w3) (
              iteP ((decide (((revs1l : Nat) : Int) > 12))) (
                R (.returned (.bool true)) w3) (
                Calls Try.prog 10 #[] w3 (endK (fun v3 w5 =>
                    ∃ x3 : Option Addr, v3 = .pointer x3 ∧
                    allocK w5 (.cells #[.slice none 0 0, .int .i64 0] 30) fun w7 =>
                    storeK w7 ⟨w5.heap.size, 0, none⟩ (.slice none 0 0) fun w8 =>
                    storeK w8 ⟨w5.heap.size, 1, none⟩ (.int .i64 0) fun w9 =>
                    ∃ I1 : Int → Nat → World → Prop, (∃ k1, I1 0 k1 w9) ∧
                    ∀ i1 : Int, ∀ (k2 : Nat) (w10 : World), I1 i1 k2 w10 → ∀ z1 : Fr,
                    iteP ((decide (i1 < ((l1l : Nat) : Int)))) (
                      ((0 : Int) ≤ i1 ∧ i1 < ((l1l : Nat) : Int)) ∧
                      onSome l1a fun p1 =>
                      ∃ x4 : Int, w10.cell? (Addr.add p1 (Int.toNat i1 * 3)) = some (.int .u8 x4) ∧ ∃ x5 : ByteArray, w10.cell? (Addr.add (Addr.add p1 (Int.toNat i1 * 3)) 1) = some (.string x5) ∧ ∃ x6 : Int, w10.cell? (Addr.add (Addr.add p1 (Int.toNat i1 * 3)) 2) = some (.int .i64 x6) ∧ 
                      allocK w10 (.cells #[.int .u8 0, .string ⟨#[]⟩, .int .i64 0] 32) fun w11 =>
                      storeK w11 ⟨w10.heap.size, 0, none⟩ (.int .u8 x4) fun w12 =>
                      storeK w12 ⟨w10.heap.size, 1, none⟩ (.string x5) fun w13 =>
                      storeK w13 ⟨w10.heap.size, 2, none⟩ (.int .i64 x6) fun w14 =>
                      ∃ x7 : Int, w14.cell? ⟨w10.heap.size, 0, none⟩ = some (.int .u8 x7) ∧
                      iteP (x7 == 0) (
                        ∃ x8 : ByteArray, w14.cell? ⟨w10.heap.size, 1, none⟩ = some (.string x8) ∧
                        ∃ x9 : Int, w14.cell? ⟨w10.heap.size, 2, none⟩ = some (.int .i64 x9) ∧
                        Calls Try.prog 11 #[.pointer x3, .string x8, .int .i64 x9] w14 (endK (fun v4 w15 =>
                            ∃ x10 : Bool, v4 = .bool x10 ∧
                            ∃ x11a : Option Addr, ∃ x11l : Nat, ∃ x11c : Nat, w15.cell? ⟨w5.heap.size, 0, none⟩ = some (.slice x11a x11l x11c) ∧ ∃ x12 : Int, w15.cell? ⟨w5.heap.size, 1, none⟩ = some (.int .i64 x12) ∧ 
                            ∃ x13 : ByteArray, w15.cell? ⟨w10.heap.size, 1, none⟩ = some (.string x13) ∧
                            ∃ x14 : Int, w15.cell? ⟨w10.heap.size, 2, none⟩ = some (.int .i64 x14) ∧
                            Calls Try.prog 12 #[.agg #[.slice x11a x11l x11c, .int .i64 x12], .string x13, .int .i64 x14] w15 (endK (fun v5 w17 =>
                                ∃ x15a : Option Addr, ∃ x15l : Nat, ∃ x15c : Nat, ∃ x16 : Int, ∃ x17 : Bool, v5 = .tuple #[.agg #[.slice x15a x15l x15c, .int .i64 x16], .bool x17] ∧
                                allocK w17 (.cells #[.slice none 0 0, .int .i64 0] 30) fun w19 =>
                                storeK w19 ⟨w17.heap.size, 0, none⟩ (.slice x15a x15l x15c) fun w20 =>
                                storeK w20 ⟨w17.heap.size, 1, none⟩ (.int .i64 x16) fun w21 =>
                                ∃ x18a : Option Addr, ∃ x18l : Nat, ∃ x18c : Nat, w21.cell? ⟨w17.heap.size, 0, none⟩ = some (.slice x18a x18l x18c) ∧ ∃ x19 : Int, w21.cell? ⟨w17.heap.size, 1, none⟩ = some (.int .i64 x19) ∧ 
                                storeK w21 ⟨w5.heap.size, 0, none⟩ (.slice x18a x18l x18c) fun w22 =>
                                storeK w22 ⟨w5.heap.size, 1, none⟩ (.int .i64 x19) fun w23 =>
                                iteP ((!(x10 == x17))) (
                                  R (.returned (.bool false)) w23) (
                                  ∃ I2 : Int → Nat → World → Prop, (∃ k5, I2 0 k5 w23) ∧
                                  ∀ k4 : Int, ∀ (k6 : Nat) (w24 : World), I2 k4 k6 w24 → ∀ z2 : Fr,
                                  iteP ((decide (k4 < ((revs1l : Nat) : Int)))) (
                                    ((0 : Int) ≤ k4 ∧ k4 < ((revs1l : Nat) : Int)) ∧
                                    onSome revs1a fun p2 =>
                                    ∃ x20 : Int, w24.cell? (Addr.add p2 (Int.toNat k4 * 1)) = some (.int .i64 x20) ∧
                                    Calls Try.prog 17 #[.pointer x3, .int .i64 x20, .string from1, .string to1] w24 (endK (fun v6 w25 =>
                                        ∃ x21 : ByteArray, ∃ x22 : Bool, v6 = .tuple #[.string x21, .bool x22] ∧
                                        ∃ x23a : Option Addr, ∃ x23l : Nat, ∃ x23c : Nat, w25.drew.cell? ⟨w5.heap.size, 0, none⟩ = some (.slice x23a x23l x23c) ∧ ∃ x24 : Int, w25.drew.cell? ⟨w5.heap.size, 1, none⟩ = some (.int .i64 x24) ∧ 
                                        ((0 : Int) ≤ k4 ∧ k4 < ((revs1l : Nat) : Int)) ∧
                                        onSome revs1a fun p3 =>
                                        ∃ x25 : Int, w25.drew.cell? (Addr.add p3 (Int.toNat k4 * 1)) = some (.int .i64 x25) ∧
                                        Calls Try.prog 18 #[.agg #[.slice x23a x23l x23c, .int .i64 x24], .int .i64 x25, .string from1, .string to1] w25.drew (endK (fun v7 w27 =>
                                            ∃ x26 : ByteArray, ∃ x27 : Bool, v7 = .tuple #[.string x26, .bool x27] ∧
                                            ((0 : Int) ≤ k4 ∧ k4 < ((revs1l : Nat) : Int)) ∧
                                            onSome revs1a fun p4 =>
                                            ∃ x28 : Int, w27.drew.cell? (Addr.add p4 (Int.toNat k4 * 1)) = some (.int .i64 x28) ∧
                                            ∃ x29a : Option Addr, ∃ x29l : Nat, ∃ x29c : Nat, w27.drew.cell? ⟨w5.heap.size, 0, none⟩ = some (.slice x29a x29l x29c) ∧ ∃ x30 : Int, w27.drew.cell? ⟨w5.heap.size, 1, none⟩ = some (.int .i64 x30) ∧ 
                                            ((0 : Int) ≤ k4 ∧ k4 < ((revs1l : Nat) : Int)) ∧
                                            onSome revs1a fun p5 =>
                                            ∃ x31 : Int, w27.drew.cell? (Addr.add p5 (Int.toNat k4 * 1)) = some (.int .i64 x31) ∧
                                            Calls Try.prog 19 #[.pointer x3, .string key1, .int .i64 x28] w27.drew (endK (fun v8 w29 =>
                                                ∃ x32 : Bool, v8 = .bool x32 ∧
                                                (∃ x33a : Option Addr, ∃ x33l : Nat, ∃ x33c : Nat, w29.cell? ⟨w5.heap.size, 0, none⟩ = some (.slice x33a x33l x33c) ∧ ∃ x34 : Int, w29.cell? ⟨w5.heap.size, 1, none⟩ = some (.int .i64 x34) ∧ 
                                                  ((.agg #[.slice x33a x33l x33c, .int .i64 x34]) : Value) = (.agg #[.slice x29a x29l x29c, .int .i64 x30])) ∧
                                                (∃ x35 : Int, w29.cell? (Addr.add p5 (Int.toNat k4 * 1)) = some (.int .i64 x35) ∧
                                                  ((.int .i64 x35) : Value) = (.int .i64 x31)) ∧
                                                Calls Try.prog 20 #[.agg #[.slice x29a x29l x29c, .int .i64 x30], .string key1, .int .i64 x31] w29 (endK (fun v9 w31 =>
                                                    ∃ x36 : Bool, v9 = .bool x36 ∧
                                                    iteP ((!(x32 == x36))) (
                                                      (True) ∧
                                                      (True) ∧
                                                      (True) ∧
                                                      (True) ∧
                                                      (True) ∧
                                                      R (.returned (.bool false)) w31) (
                                                      ∃ x37 : ByteArray, w31.cell? ⟨w10.heap.size, 1, none⟩ = some (.string x37) ∧
                                                      ((0 : Int) ≤ k4 ∧ k4 < ((revs1l : Nat) : Int)) ∧
                                                      onSome revs1a fun p6 =>
                                                      ∃ x38 : Int, w31.cell? (Addr.add p6 (Int.toNat k4 * 1)) = some (.int .i64 x38) ∧
                                                      ∃ x39a : Option Addr, ∃ x39l : Nat, ∃ x39c : Nat, w31.cell? ⟨w5.heap.size, 0, none⟩ = some (.slice x39a x39l x39c) ∧ ∃ x40 : Int, w31.cell? ⟨w5.heap.size, 1, none⟩ = some (.int .i64 x40) ∧ 
                                                      ∃ x41 : ByteArray, w31.cell? ⟨w10.heap.size, 1, none⟩ = some (.string x41) ∧
                                                      ((0 : Int) ≤ k4 ∧ k4 < ((revs1l : Nat) : Int)) ∧
                                                      onSome revs1a fun p7 =>
                                                      ∃ x42 : Int, w31.cell? (Addr.add p7 (Int.toNat k4 * 1)) = some (.int .i64 x42) ∧
                                                      Calls Try.prog 19 #[.pointer x3, .string x37, .int .i64 x38] w31 (endK (fun v10 w33 =>
                                                          ∃ x43 : Bool, v10 = .bool x43 ∧
                                                          (∃ x44a : Option Addr, ∃ x44l : Nat, ∃ x44c : Nat, w33.cell? ⟨w5.heap.size, 0, none⟩ = some (.slice x44a x44l x44c) ∧ ∃ x45 : Int, w33.cell? ⟨w5.heap.size, 1, none⟩ = some (.int .i64 x45) ∧ 
                                                            ((.agg #[.slice x44a x44l x44c, .int .i64 x45]) : Value) = (.agg #[.slice x39a x39l x39c, .int .i64 x40])) ∧
                                                          (∃ x46 : ByteArray, w33.cell? ⟨w10.heap.size, 1, none⟩ = some (.string x46) ∧
                                                            ((.string x46) : Value) = (.string x41)) ∧
                                                          (∃ x47 : Int, w33.cell? (Addr.add p7 (Int.toNat k4 * 1)) = some (.int .i64 x47) ∧
                                                            ((.int .i64 x47) : Value) = (.int .i64 x42)) ∧
                                                          Calls Try.prog 20 #[.agg #[.slice x39a x39l x39c, .int .i64 x40], .string x41, .int .i64 x42] w33 (endK (fun v11 w35 =>
                                                              ∃ x48 : Bool, v11 = .bool x48 ∧
                                                              iteP ((!(x43 == x48))) (
                                                                (True) ∧
                                                                (True) ∧
                                                                R (.returned (.bool false)) w35) (
                                                                iteP ((!(x21.toList == x26.toList))) (
                                                                  (True) ∧
                                                                  (True) ∧
                                                                  R (.returned (.bool false)) w35) (
                                                                  iteP ((!(x22 == x27))) (
                                                                    (True) ∧
                                                                    (True) ∧
                                                                    R (.returned (.bool false)) w35) (
                                                                    ((0 : Int) ≤ k4 ∧ k4 < ((revs1l : Nat) : Int)) ∧
                                                                    onSome revs1a fun p8 =>
                                                                    ∃ x49 : Int, w35.cell? (Addr.add p8 (Int.toNat k4 * 1)) = some (.int .i64 x49) ∧
                                                                    ∃ x50a : Option Addr, ∃ x50l : Nat, ∃ x50c : Nat, w35.cell? ⟨w5.heap.size, 0, none⟩ = some (.slice x50a x50l x50c) ∧ ∃ x51 : Int, w35.cell? ⟨w5.heap.size, 1, none⟩ = some (.int .i64 x51) ∧ 
                                                                    ((0 : Int) ≤ k4 ∧ k4 < ((revs1l : Nat) : Int)) ∧
                                                                    onSome revs1a fun p9 =>
                                                                    ∃ x52 : Int, w35.cell? (Addr.add p9 (Int.toNat k4 * 1)) = some (.int .i64 x52) ∧
                                                                    Calls Try.prog 21 #[.pointer x3, .int .i64 x49] w35 (endK (fun v12 w37 =>
                                                                        ∃ x53 : Int, v12 = .int .i64 x53 ∧
                                                                        (∃ x54a : Option Addr, ∃ x54l : Nat, ∃ x54c : Nat, w37.cell? ⟨w5.heap.size, 0, none⟩ = some (.slice x54a x54l x54c) ∧ ∃ x55 : Int, w37.cell? ⟨w5.heap.size, 1, none⟩ = some (.int .i64 x55) ∧ 
                                                                          ((.agg #[.slice x54a x54l x54c, .int .i64 x55]) : Value) = (.agg #[.slice x50a x50l x50c, .int .i64 x51])) ∧
                                                                        (∃ x56 : Int, w37.cell? (Addr.add p9 (Int.toNat k4 * 1)) = some (.int .i64 x56) ∧
                                                                          ((.int .i64 x56) : Value) = (.int .i64 x52)) ∧
                                                                        Calls Try.prog 22 #[.agg #[.slice x50a x50l x50c, .int .i64 x51], .int .i64 x52] w37 (endK (fun v13 w39 =>
                                                                            ∃ x57 : Int, v13 = .int .i64 x57 ∧
                                                                            iteP (x53 != x57) (
                                                                              R (.returned (.bool false)) w39) (
                                                                              ((0 : Int) ≤ 0 ∧ 0 < ((revs1l : Nat) : Int)) ∧
                                                                              onSome revs1a fun p10 =>
                                                                              ∃ x58 : Int, w39.drew.cell? (Addr.add p10 (Int.toNat 0 * 1)) = some (.int .i64 x58) ∧
                                                                              ((0 : Int) ≤ k4 ∧ k4 < ((revs1l : Nat) : Int)) ∧
                                                                              onSome revs1a fun p11 =>
                                                                              ∃ x59 : Int, w39.drew.cell? (Addr.add p11 (Int.toNat k4 * 1)) = some (.int .i64 x59) ∧
                                                                              Calls Try.prog 23 #[.pointer x3, .int .i64 x58, .int .i64 x59] w39.drew (endK (fun v14 w41 =>
                                                                                ∃ x60a : Option Addr, ∃ x60l : Nat, ∃ x60c : Nat, v14 = .slice x60a x60l x60c ∧
                                                                                ∃ x61a : Option Addr, ∃ x61l : Nat, ∃ x61c : Nat, w41.drew.cell? ⟨w5.heap.size, 0, none⟩ = some (.slice x61a x61l x61c) ∧ ∃ x62 : Int, w41.drew.cell? ⟨w5.heap.size, 1, none⟩ = some (.int .i64 x62) ∧ 
                                                                                ((0 : Int) ≤ 0 ∧ 0 < ((revs1l : Nat) : Int)) ∧
                                                                                onSome revs1a fun p12 =>
                                                                                ∃ x63 : Int, w41.drew.cell? (Addr.add p12 (Int.toNat 0 * 1)) = some (.int .i64 x63) ∧
                                                                                ((0 : Int) ≤ k4 ∧ k4 < ((revs1l : Nat) : Int)) ∧
                                                                                onSome revs1a fun p13 =>
                                                                                ∃ x64 : Int, w41.drew.cell? (Addr.add p13 (Int.toNat k4 * 1)) = some (.int .i64 x64) ∧
                                                                                Calls Try.prog 24 #[.agg #[.slice x61a x61l x61c, .int .i64 x62], .int .i64 x63, .int .i64 x64] w41.drew (endK (fun v15 w43 =>
                                                                                ∃ x65a : Option Addr, ∃ x65l : Nat, ∃ x65c : Nat, v15 = .slice x65a x65l x65c ∧
                                                                                iteP ((((x60l : Nat) : Int) != ((x65l : Nat) : Int))) (
                                                                                R (.returned (.bool false)) w43) (
                                                                                ∃ I3 : Int → Nat → World → Prop, (∃ k8, I3 0 k8 w43) ∧
                                                                                ∀ j1 : Int, ∀ (k9 : Nat) (w45 : World), I3 j1 k9 w45 → ∀ z3 : Fr,
                                                                                iteP ((decide (j1 < ((x60l : Nat) : Int)))) (
                                                                                ((0 : Int) ≤ j1 ∧ j1 < ((x60l : Nat) : Int)) ∧
                                                                                onSome x60a fun p14 =>
                                                                                ∃ x66 : Int, w45.drew.cell? (Addr.add p14 (Int.toNat j1 * 3)) = some (.int .i64 x66) ∧
                                                                                ((0 : Int) ≤ j1 ∧ j1 < ((x65l : Nat) : Int)) ∧
                                                                                onSome x65a fun p15 =>
                                                                                ∃ x67 : Int, w45.drew.cell? (Addr.add p15 (Int.toNat j1 * 3)) = some (.int .i64 x67) ∧
                                                                                iteP (x66 != x67) (
                                                                                R (.returned (.bool false)) w45.drew) (
                                                                                ((0 : Int) ≤ j1 ∧ j1 < ((x60l : Nat) : Int)) ∧
                                                                                onSome x60a fun p16 =>
                                                                                ∃ x68 : ByteArray, w45.drew.cell? (Addr.add (Addr.add p16 (Int.toNat j1 * 3)) 1) = some (.string x68) ∧
                                                                                ((0 : Int) ≤ j1 ∧ j1 < ((x65l : Nat) : Int)) ∧
                                                                                onSome x65a fun p17 =>
                                                                                ∃ x69 : ByteArray, w45.drew.cell? (Addr.add (Addr.add p17 (Int.toNat j1 * 3)) 1) = some (.string x69) ∧
                                                                                iteP ((!(x68.toList == x69.toList))) (
                                                                                R (.returned (.bool false)) w45.drew) (
                                                                                ((0 : Int) ≤ j1 ∧ j1 < ((x60l : Nat) : Int)) ∧
                                                                                onSome x60a fun p18 =>
                                                                                ∃ x70 : Bool, w45.drew.cell? (Addr.add (Addr.add p18 (Int.toNat j1 * 3)) 2) = some (.bool x70) ∧
                                                                                ((0 : Int) ≤ j1 ∧ j1 < ((x65l : Nat) : Int)) ∧
                                                                                onSome x65a fun p19 =>
                                                                                ∃ x71 : Bool, w45.drew.cell? (Addr.add (Addr.add p19 (Int.toNat j1 * 3)) 2) = some (.bool x71) ∧
                                                                                iteP ((!(x70 == x71))) (
                                                                                R (.returned (.bool false)) w45.drew) (
                                                                                ∃ k10, k10 < k9 ∧ I3 ((IntKind.wrap .i64 (j1 + 1))) k10 w45.drew)))) (
                                                                                ∃ k7, k7 < k6 ∧ I2 ((IntKind.wrap .i64 (k4 + 1))) k7 w45))) (fun c15 w44 => ∀ g : Fr, R (.panicked c15) w44))) (fun c14 w42 => ∀ g : Fr, R (.panicked c14) w42)))) (fun c13 w40 => ∀ g : Fr, R (.panicked c13) w40))) (fun c12 w38 => ∀ g : Fr, R (.panicked c12) w38)))))) (fun c11 w36 => ∀ g : Fr, R (.panicked c11) w36))) (fun c10 w34 => ∀ g : Fr, R (.panicked c10) w34)))) (fun c9 w32 => ∀ g : Fr, R (.panicked c9) w32))) (fun c8 w30 => ∀ g : Fr, R (.panicked c8) w30))) (fun c7 w28 => ∀ g : Fr, R (.panicked c7) w28))) (fun c6 w26 => R (.panicked c6) w26))) (
                                    ∃ k3, k3 < k2 ∧ I1 ((IntKind.wrap .i64 (i1 + 1))) k3 w24))) (fun c5 w18 => R (.panicked c5) w18))) (fun c4 w16 => R (.panicked c4) w16))) (
                        iteP (x7 == 1) (
                          ∃ x72 : ByteArray, w14.cell? ⟨w10.heap.size, 1, none⟩ = some (.string x72) ∧
                          ∃ x73 : Int, w14.cell? ⟨w10.heap.size, 2, none⟩ = some (.int .i64 x73) ∧
                          Calls Try.prog 13 #[.pointer x3, .string x72, .int .i64 x73] w14 (endK (fun v16 w46 =>
                              ∃ x74 : Bool, v16 = .bool x74 ∧
                              ∃ x75a : Option Addr, ∃ x75l : Nat, ∃ x75c : Nat, w46.cell? ⟨w5.heap.size, 0, none⟩ = some (.slice x75a x75l x75c) ∧ ∃ x76 : Int, w46.cell? ⟨w5.heap.size, 1, none⟩ = some (.int .i64 x76) ∧ 
                              ∃ x77 : ByteArray, w46.cell? ⟨w10.heap.size, 1, none⟩ = some (.string x77) ∧
                              ∃ x78 : Int, w46.cell? ⟨w10.heap.size, 2, none⟩ = some (.int .i64 x78) ∧
                              Calls Try.prog 14 #[.agg #[.slice x75a x75l x75c, .int .i64 x76], .string x77, .int .i64 x78] w46 (endK (fun v17 w48 =>
                                  ∃ x79a : Option Addr, ∃ x79l : Nat, ∃ x79c : Nat, ∃ x80 : Int, ∃ x81 : Bool, v17 = .tuple #[.agg #[.slice x79a x79l x79c, .int .i64 x80], .bool x81] ∧
                                  allocK w48 (.cells #[.slice none 0 0, .int .i64 0] 30) fun w50 =>
                                  storeK w50 ⟨w48.heap.size, 0, none⟩ (.slice x79a x79l x79c) fun w51 =>
                                  storeK w51 ⟨w48.heap.size, 1, none⟩ (.int .i64 x80) fun w52 =>
                                  ∃ x82a : Option Addr, ∃ x82l : Nat, ∃ x82c : Nat, w52.cell? ⟨w48.heap.size, 0, none⟩ = some (.slice x82a x82l x82c) ∧ ∃ x83 : Int, w52.cell? ⟨w48.heap.size, 1, none⟩ = some (.int .i64 x83) ∧ 
                                  storeK w52 ⟨w5.heap.size, 0, none⟩ (.slice x82a x82l x82c) fun w53 =>
                                  storeK w53 ⟨w5.heap.size, 1, none⟩ (.int .i64 x83) fun w54 =>
                                  iteP ((!(x74 == x81))) (
                                    R (.returned (.bool false)) w54) (
                                    ∃ I4 : Int → Nat → World → Prop, (∃ k12, I4 0 k12 w54) ∧
                                    ∀ k11 : Int, ∀ (k13 : Nat) (w55 : World), I4 k11 k13 w55 → ∀ z4 : Fr,
                                    iteP ((decide (k11 < ((revs1l : Nat) : Int)))) (
                                      ((0 : Int) ≤ k11 ∧ k11 < ((revs1l : Nat) : Int)) ∧
                                      onSome revs1a fun p20 =>
                                      ∃ x84 : Int, w55.cell? (Addr.add p20 (Int.toNat k11 * 1)) = some (.int .i64 x84) ∧
                                      Calls Try.prog 17 #[.pointer x3, .int .i64 x84, .string from1, .string to1] w55 (endK (fun v18 w56 =>
                                          ∃ x85 : ByteArray, ∃ x86 : Bool, v18 = .tuple #[.string x85, .bool x86] ∧
                                          ∃ x87a : Option Addr, ∃ x87l : Nat, ∃ x87c : Nat, w56.drew.cell? ⟨w5.heap.size, 0, none⟩ = some (.slice x87a x87l x87c) ∧ ∃ x88 : Int, w56.drew.cell? ⟨w5.heap.size, 1, none⟩ = some (.int .i64 x88) ∧ 
                                          ((0 : Int) ≤ k11 ∧ k11 < ((revs1l : Nat) : Int)) ∧
                                          onSome revs1a fun p21 =>
                                          ∃ x89 : Int, w56.drew.cell? (Addr.add p21 (Int.toNat k11 * 1)) = some (.int .i64 x89) ∧
                                          Calls Try.prog 18 #[.agg #[.slice x87a x87l x87c, .int .i64 x88], .int .i64 x89, .string from1, .string to1] w56.drew (endK (fun v19 w58 =>
                                              ∃ x90 : ByteArray, ∃ x91 : Bool, v19 = .tuple #[.string x90, .bool x91] ∧
                                              ((0 : Int) ≤ k11 ∧ k11 < ((revs1l : Nat) : Int)) ∧
                                              onSome revs1a fun p22 =>
                                              ∃ x92 : Int, w58.drew.cell? (Addr.add p22 (Int.toNat k11 * 1)) = some (.int .i64 x92) ∧
                                              ∃ x93a : Option Addr, ∃ x93l : Nat, ∃ x93c : Nat, w58.drew.cell? ⟨w5.heap.size, 0, none⟩ = some (.slice x93a x93l x93c) ∧ ∃ x94 : Int, w58.drew.cell? ⟨w5.heap.size, 1, none⟩ = some (.int .i64 x94) ∧ 
                                              ((0 : Int) ≤ k11 ∧ k11 < ((revs1l : Nat) : Int)) ∧
                                              onSome revs1a fun p23 =>
                                              ∃ x95 : Int, w58.drew.cell? (Addr.add p23 (Int.toNat k11 * 1)) = some (.int .i64 x95) ∧
                                              Calls Try.prog 19 #[.pointer x3, .string key1, .int .i64 x92] w58.drew (endK (fun v20 w60 =>
                                                  ∃ x96 : Bool, v20 = .bool x96 ∧
                                                  (∃ x97a : Option Addr, ∃ x97l : Nat, ∃ x97c : Nat, w60.cell? ⟨w5.heap.size, 0, none⟩ = some (.slice x97a x97l x97c) ∧ ∃ x98 : Int, w60.cell? ⟨w5.heap.size, 1, none⟩ = some (.int .i64 x98) ∧ 
                                                    ((.agg #[.slice x97a x97l x97c, .int .i64 x98]) : Value) = (.agg #[.slice x93a x93l x93c, .int .i64 x94])) ∧
                                                  (∃ x99 : Int, w60.cell? (Addr.add p23 (Int.toNat k11 * 1)) = some (.int .i64 x99) ∧
                                                    ((.int .i64 x99) : Value) = (.int .i64 x95)) ∧
                                                  Calls Try.prog 20 #[.agg #[.slice x93a x93l x93c, .int .i64 x94], .string key1, .int .i64 x95] w60 (endK (fun v21 w62 =>
                                                      ∃ x100 : Bool, v21 = .bool x100 ∧
                                                      iteP ((!(x96 == x100))) (
                                                        (True) ∧
                                                        (True) ∧
                                                        (True) ∧
                                                        (True) ∧
                                                        (True) ∧
                                                        R (.returned (.bool false)) w62) (
                                                        ∃ x101 : ByteArray, w62.cell? ⟨w10.heap.size, 1, none⟩ = some (.string x101) ∧
                                                        ((0 : Int) ≤ k11 ∧ k11 < ((revs1l : Nat) : Int)) ∧
                                                        onSome revs1a fun p24 =>
                                                        ∃ x102 : Int, w62.cell? (Addr.add p24 (Int.toNat k11 * 1)) = some (.int .i64 x102) ∧
                                                        ∃ x103a : Option Addr, ∃ x103l : Nat, ∃ x103c : Nat, w62.cell? ⟨w5.heap.size, 0, none⟩ = some (.slice x103a x103l x103c) ∧ ∃ x104 : Int, w62.cell? ⟨w5.heap.size, 1, none⟩ = some (.int .i64 x104) ∧ 
                                                        ∃ x105 : ByteArray, w62.cell? ⟨w10.heap.size, 1, none⟩ = some (.string x105) ∧
                                                        ((0 : Int) ≤ k11 ∧ k11 < ((revs1l : Nat) : Int)) ∧
                                                        onSome revs1a fun p25 =>
                                                        ∃ x106 : Int, w62.cell? (Addr.add p25 (Int.toNat k11 * 1)) = some (.int .i64 x106) ∧
                                                        Calls Try.prog 19 #[.pointer x3, .string x101, .int .i64 x102] w62 (endK (fun v22 w64 =>
                                                            ∃ x107 : Bool, v22 = .bool x107 ∧
                                                            (∃ x108a : Option Addr, ∃ x108l : Nat, ∃ x108c : Nat, w64.cell? ⟨w5.heap.size, 0, none⟩ = some (.slice x108a x108l x108c) ∧ ∃ x109 : Int, w64.cell? ⟨w5.heap.size, 1, none⟩ = some (.int .i64 x109) ∧ 
                                                              ((.agg #[.slice x108a x108l x108c, .int .i64 x109]) : Value) = (.agg #[.slice x103a x103l x103c, .int .i64 x104])) ∧
                                                            (∃ x110 : ByteArray, w64.cell? ⟨w10.heap.size, 1, none⟩ = some (.string x110) ∧
                                                              ((.string x110) : Value) = (.string x105)) ∧
                                                            (∃ x111 : Int, w64.cell? (Addr.add p25 (Int.toNat k11 * 1)) = some (.int .i64 x111) ∧
                                                              ((.int .i64 x111) : Value) = (.int .i64 x106)) ∧
                                                            Calls Try.prog 20 #[.agg #[.slice x103a x103l x103c, .int .i64 x104], .string x105, .int .i64 x106] w64 (endK (fun v23 w66 =>
                                                                ∃ x112 : Bool, v23 = .bool x112 ∧
                                                                iteP ((!(x107 == x112))) (
                                                                  (True) ∧
                                                                  (True) ∧
                                                                  R (.returned (.bool false)) w66) (
                                                                  iteP ((!(x85.toList == x90.toList))) (
                                                                    (True) ∧
                                                                    (True) ∧
                                                                    R (.returned (.bool false)) w66) (
                                                                    iteP ((!(x86 == x91))) (
                                                                      (True) ∧
                                                                      (True) ∧
                                                                      R (.returned (.bool false)) w66) (
                                                                      ((0 : Int) ≤ k11 ∧ k11 < ((revs1l : Nat) : Int)) ∧
                                                                      onSome revs1a fun p26 =>
                                                                      ∃ x113 : Int, w66.cell? (Addr.add p26 (Int.toNat k11 * 1)) = some (.int .i64 x113) ∧
                                                                      ∃ x114a : Option Addr, ∃ x114l : Nat, ∃ x114c : Nat, w66.cell? ⟨w5.heap.size, 0, none⟩ = some (.slice x114a x114l x114c) ∧ ∃ x115 : Int, w66.cell? ⟨w5.heap.size, 1, none⟩ = some (.int .i64 x115) ∧ 
                                                                      ((0 : Int) ≤ k11 ∧ k11 < ((revs1l : Nat) : Int)) ∧
                                                                      onSome revs1a fun p27 =>
                                                                      ∃ x116 : Int, w66.cell? (Addr.add p27 (Int.toNat k11 * 1)) = some (.int .i64 x116) ∧
                                                                      Calls Try.prog 21 #[.pointer x3, .int .i64 x113] w66 (endK (fun v24 w68 =>
                                                                          ∃ x117 : Int, v24 = .int .i64 x117 ∧
                                                                          (∃ x118a : Option Addr, ∃ x118l : Nat, ∃ x118c : Nat, w68.cell? ⟨w5.heap.size, 0, none⟩ = some (.slice x118a x118l x118c) ∧ ∃ x119 : Int, w68.cell? ⟨w5.heap.size, 1, none⟩ = some (.int .i64 x119) ∧ 
                                                                            ((.agg #[.slice x118a x118l x118c, .int .i64 x119]) : Value) = (.agg #[.slice x114a x114l x114c, .int .i64 x115])) ∧
                                                                          (∃ x120 : Int, w68.cell? (Addr.add p27 (Int.toNat k11 * 1)) = some (.int .i64 x120) ∧
                                                                            ((.int .i64 x120) : Value) = (.int .i64 x116)) ∧
                                                                          Calls Try.prog 22 #[.agg #[.slice x114a x114l x114c, .int .i64 x115], .int .i64 x116] w68 (endK (fun v25 w70 =>
                                                                              ∃ x121 : Int, v25 = .int .i64 x121 ∧
                                                                              iteP (x117 != x121) (
                                                                                R (.returned (.bool false)) w70) (
                                                                                ((0 : Int) ≤ 0 ∧ 0 < ((revs1l : Nat) : Int)) ∧
                                                                                onSome revs1a fun p28 =>
                                                                                ∃ x122 : Int, w70.drew.cell? (Addr.add p28 (Int.toNat 0 * 1)) = some (.int .i64 x122) ∧
                                                                                ((0 : Int) ≤ k11 ∧ k11 < ((revs1l : Nat) : Int)) ∧
                                                                                onSome revs1a fun p29 =>
                                                                                ∃ x123 : Int, w70.drew.cell? (Addr.add p29 (Int.toNat k11 * 1)) = some (.int .i64 x123) ∧
                                                                                Calls Try.prog 23 #[.pointer x3, .int .i64 x122, .int .i64 x123] w70.drew (endK (fun v26 w72 =>
                                                                                ∃ x124a : Option Addr, ∃ x124l : Nat, ∃ x124c : Nat, v26 = .slice x124a x124l x124c ∧
                                                                                ∃ x125a : Option Addr, ∃ x125l : Nat, ∃ x125c : Nat, w72.drew.cell? ⟨w5.heap.size, 0, none⟩ = some (.slice x125a x125l x125c) ∧ ∃ x126 : Int, w72.drew.cell? ⟨w5.heap.size, 1, none⟩ = some (.int .i64 x126) ∧ 
                                                                                ((0 : Int) ≤ 0 ∧ 0 < ((revs1l : Nat) : Int)) ∧
                                                                                onSome revs1a fun p30 =>
                                                                                ∃ x127 : Int, w72.drew.cell? (Addr.add p30 (Int.toNat 0 * 1)) = some (.int .i64 x127) ∧
                                                                                ((0 : Int) ≤ k11 ∧ k11 < ((revs1l : Nat) : Int)) ∧
                                                                                onSome revs1a fun p31 =>
                                                                                ∃ x128 : Int, w72.drew.cell? (Addr.add p31 (Int.toNat k11 * 1)) = some (.int .i64 x128) ∧
                                                                                Calls Try.prog 24 #[.agg #[.slice x125a x125l x125c, .int .i64 x126], .int .i64 x127, .int .i64 x128] w72.drew (endK (fun v27 w74 =>
                                                                                ∃ x129a : Option Addr, ∃ x129l : Nat, ∃ x129c : Nat, v27 = .slice x129a x129l x129c ∧
                                                                                iteP ((((x124l : Nat) : Int) != ((x129l : Nat) : Int))) (
                                                                                R (.returned (.bool false)) w74) (
                                                                                ∃ I5 : Int → Nat → World → Prop, (∃ k15, I5 0 k15 w74) ∧
                                                                                ∀ j2 : Int, ∀ (k16 : Nat) (w76 : World), I5 j2 k16 w76 → ∀ z5 : Fr,
                                                                                iteP ((decide (j2 < ((x124l : Nat) : Int)))) (
                                                                                ((0 : Int) ≤ j2 ∧ j2 < ((x124l : Nat) : Int)) ∧
                                                                                onSome x124a fun p32 =>
                                                                                ∃ x130 : Int, w76.drew.cell? (Addr.add p32 (Int.toNat j2 * 3)) = some (.int .i64 x130) ∧
                                                                                ((0 : Int) ≤ j2 ∧ j2 < ((x129l : Nat) : Int)) ∧
                                                                                onSome x129a fun p33 =>
                                                                                ∃ x131 : Int, w76.drew.cell? (Addr.add p33 (Int.toNat j2 * 3)) = some (.int .i64 x131) ∧
                                                                                iteP (x130 != x131) (
                                                                                R (.returned (.bool false)) w76.drew) (
                                                                                ((0 : Int) ≤ j2 ∧ j2 < ((x124l : Nat) : Int)) ∧
                                                                                onSome x124a fun p34 =>
                                                                                ∃ x132 : ByteArray, w76.drew.cell? (Addr.add (Addr.add p34 (Int.toNat j2 * 3)) 1) = some (.string x132) ∧
                                                                                ((0 : Int) ≤ j2 ∧ j2 < ((x129l : Nat) : Int)) ∧
                                                                                onSome x129a fun p35 =>
                                                                                ∃ x133 : ByteArray, w76.drew.cell? (Addr.add (Addr.add p35 (Int.toNat j2 * 3)) 1) = some (.string x133) ∧
                                                                                iteP ((!(x132.toList == x133.toList))) (
                                                                                R (.returned (.bool false)) w76.drew) (
                                                                                ((0 : Int) ≤ j2 ∧ j2 < ((x124l : Nat) : Int)) ∧
                                                                                onSome x124a fun p36 =>
                                                                                ∃ x134 : Bool, w76.drew.cell? (Addr.add (Addr.add p36 (Int.toNat j2 * 3)) 2) = some (.bool x134) ∧
                                                                                ((0 : Int) ≤ j2 ∧ j2 < ((x129l : Nat) : Int)) ∧
                                                                                onSome x129a fun p37 =>
                                                                                ∃ x135 : Bool, w76.drew.cell? (Addr.add (Addr.add p37 (Int.toNat j2 * 3)) 2) = some (.bool x135) ∧
                                                                                iteP ((!(x134 == x135))) (
                                                                                R (.returned (.bool false)) w76.drew) (
                                                                                ∃ k17, k17 < k16 ∧ I5 ((IntKind.wrap .i64 (j2 + 1))) k17 w76.drew)))) (
                                                                                ∃ k14, k14 < k13 ∧ I4 ((IntKind.wrap .i64 (k11 + 1))) k14 w76))) (fun c27 w75 => ∀ g : Fr, R (.panicked c27) w75))) (fun c26 w73 => ∀ g : Fr, R (.panicked c26) w73)))) (fun c25 w71 => ∀ g : Fr, R (.panicked c25) w71))) (fun c24 w69 => ∀ g : Fr, R (.panicked c24) w69)))))) (fun c23 w67 => ∀ g : Fr, R (.panicked c23) w67))) (fun c22 w65 => ∀ g : Fr, R (.panicked c22) w65)))) (fun c21 w63 => ∀ g : Fr, R (.panicked c21) w63))) (fun c20 w61 => ∀ g : Fr, R (.panicked c20) w61))) (fun c19 w59 => ∀ g : Fr, R (.panicked c19) w59))) (fun c18 w57 => R (.panicked c18) w57))) (
                                      ∃ k3, k3 < k2 ∧ I1 ((IntKind.wrap .i64 (i1 + 1))) k3 w55))) (fun c17 w49 => R (.panicked c17) w49))) (fun c16 w47 => R (.panicked c16) w47))) (
                          ∃ x136 : Int, w14.cell? ⟨w10.heap.size, 2, none⟩ = some (.int .i64 x136) ∧
                          Calls Try.prog 15 #[.pointer x3, .int .i64 x136] w14 (endK (fun v28 w77 =>
                              ∃ x137 : Int, v28 = .int .i64 x137 ∧
                              ∃ x138a : Option Addr, ∃ x138l : Nat, ∃ x138c : Nat, w77.cell? ⟨w5.heap.size, 0, none⟩ = some (.slice x138a x138l x138c) ∧ ∃ x139 : Int, w77.cell? ⟨w5.heap.size, 1, none⟩ = some (.int .i64 x139) ∧ 
                              ∃ x140 : Int, w77.cell? ⟨w10.heap.size, 2, none⟩ = some (.int .i64 x140) ∧
                              Calls Try.prog 16 #[.agg #[.slice x138a x138l x138c, .int .i64 x139], .int .i64 x140] w77 (endK (fun v29 w79 =>
                                  ∃ x141a : Option Addr, ∃ x141l : Nat, ∃ x141c : Nat, ∃ x142 : Int, ∃ x143 : Int, v29 = .tuple #[.agg #[.slice x141a x141l x141c, .int .i64 x142], .int .i64 x143] ∧
                                  allocK w79 (.cells #[.slice none 0 0, .int .i64 0] 30) fun w81 =>
                                  storeK w81 ⟨w79.heap.size, 0, none⟩ (.slice x141a x141l x141c) fun w82 =>
                                  storeK w82 ⟨w79.heap.size, 1, none⟩ (.int .i64 x142) fun w83 =>
                                  ∃ x144a : Option Addr, ∃ x144l : Nat, ∃ x144c : Nat, w83.cell? ⟨w79.heap.size, 0, none⟩ = some (.slice x144a x144l x144c) ∧ ∃ x145 : Int, w83.cell? ⟨w79.heap.size, 1, none⟩ = some (.int .i64 x145) ∧ 
                                  storeK w83 ⟨w5.heap.size, 0, none⟩ (.slice x144a x144l x144c) fun w84 =>
                                  storeK w84 ⟨w5.heap.size, 1, none⟩ (.int .i64 x145) fun w85 =>
                                  iteP ((!(true == (x137 == x143)))) (
                                    R (.returned (.bool false)) w85) (
                                    ∃ I6 : Int → Nat → World → Prop, (∃ k19, I6 0 k19 w85) ∧
                                    ∀ k18 : Int, ∀ (k20 : Nat) (w86 : World), I6 k18 k20 w86 → ∀ z6 : Fr,
                                    iteP ((decide (k18 < ((revs1l : Nat) : Int)))) (
                                      ((0 : Int) ≤ k18 ∧ k18 < ((revs1l : Nat) : Int)) ∧
                                      onSome revs1a fun p38 =>
                                      ∃ x146 : Int, w86.cell? (Addr.add p38 (Int.toNat k18 * 1)) = some (.int .i64 x146) ∧
                                      Calls Try.prog 17 #[.pointer x3, .int .i64 x146, .string from1, .string to1] w86 (endK (fun v30 w87 =>
                                          ∃ x147 : ByteArray, ∃ x148 : Bool, v30 = .tuple #[.string x147, .bool x148] ∧
                                          ∃ x149a : Option Addr, ∃ x149l : Nat, ∃ x149c : Nat, w87.drew.cell? ⟨w5.heap.size, 0, none⟩ = some (.slice x149a x149l x149c) ∧ ∃ x150 : Int, w87.drew.cell? ⟨w5.heap.size, 1, none⟩ = some (.int .i64 x150) ∧ 
                                          ((0 : Int) ≤ k18 ∧ k18 < ((revs1l : Nat) : Int)) ∧
                                          onSome revs1a fun p39 =>
                                          ∃ x151 : Int, w87.drew.cell? (Addr.add p39 (Int.toNat k18 * 1)) = some (.int .i64 x151) ∧
                                          Calls Try.prog 18 #[.agg #[.slice x149a x149l x149c, .int .i64 x150], .int .i64 x151, .string from1, .string to1] w87.drew (endK (fun v31 w89 =>
                                              ∃ x152 : ByteArray, ∃ x153 : Bool, v31 = .tuple #[.string x152, .bool x153] ∧
                                              ((0 : Int) ≤ k18 ∧ k18 < ((revs1l : Nat) : Int)) ∧
                                              onSome revs1a fun p40 =>
                                              ∃ x154 : Int, w89.drew.cell? (Addr.add p40 (Int.toNat k18 * 1)) = some (.int .i64 x154) ∧
                                              ∃ x155a : Option Addr, ∃ x155l : Nat, ∃ x155c : Nat, w89.drew.cell? ⟨w5.heap.size, 0, none⟩ = some (.slice x155a x155l x155c) ∧ ∃ x156 : Int, w89.drew.cell? ⟨w5.heap.size, 1, none⟩ = some (.int .i64 x156) ∧ 
                                              ((0 : Int) ≤ k18 ∧ k18 < ((revs1l : Nat) : Int)) ∧
                                              onSome revs1a fun p41 =>
                                              ∃ x157 : Int, w89.drew.cell? (Addr.add p41 (Int.toNat k18 * 1)) = some (.int .i64 x157) ∧
                                              Calls Try.prog 19 #[.pointer x3, .string key1, .int .i64 x154] w89.drew (endK (fun v32 w91 =>
                                                  ∃ x158 : Bool, v32 = .bool x158 ∧
                                                  (∃ x159a : Option Addr, ∃ x159l : Nat, ∃ x159c : Nat, w91.cell? ⟨w5.heap.size, 0, none⟩ = some (.slice x159a x159l x159c) ∧ ∃ x160 : Int, w91.cell? ⟨w5.heap.size, 1, none⟩ = some (.int .i64 x160) ∧ 
                                                    ((.agg #[.slice x159a x159l x159c, .int .i64 x160]) : Value) = (.agg #[.slice x155a x155l x155c, .int .i64 x156])) ∧
                                                  (∃ x161 : Int, w91.cell? (Addr.add p41 (Int.toNat k18 * 1)) = some (.int .i64 x161) ∧
                                                    ((.int .i64 x161) : Value) = (.int .i64 x157)) ∧
                                                  Calls Try.prog 20 #[.agg #[.slice x155a x155l x155c, .int .i64 x156], .string key1, .int .i64 x157] w91 (endK (fun v33 w93 =>
                                                      ∃ x162 : Bool, v33 = .bool x162 ∧
                                                      iteP ((!(x158 == x162))) (
                                                        (True) ∧
                                                        (True) ∧
                                                        (True) ∧
                                                        (True) ∧
                                                        (True) ∧
                                                        R (.returned (.bool false)) w93) (
                                                        ∃ x163 : ByteArray, w93.cell? ⟨w10.heap.size, 1, none⟩ = some (.string x163) ∧
                                                        ((0 : Int) ≤ k18 ∧ k18 < ((revs1l : Nat) : Int)) ∧
                                                        onSome revs1a fun p42 =>
                                                        ∃ x164 : Int, w93.cell? (Addr.add p42 (Int.toNat k18 * 1)) = some (.int .i64 x164) ∧
                                                        ∃ x165a : Option Addr, ∃ x165l : Nat, ∃ x165c : Nat, w93.cell? ⟨w5.heap.size, 0, none⟩ = some (.slice x165a x165l x165c) ∧ ∃ x166 : Int, w93.cell? ⟨w5.heap.size, 1, none⟩ = some (.int .i64 x166) ∧ 
                                                        ∃ x167 : ByteArray, w93.cell? ⟨w10.heap.size, 1, none⟩ = some (.string x167) ∧
                                                        ((0 : Int) ≤ k18 ∧ k18 < ((revs1l : Nat) : Int)) ∧
                                                        onSome revs1a fun p43 =>
                                                        ∃ x168 : Int, w93.cell? (Addr.add p43 (Int.toNat k18 * 1)) = some (.int .i64 x168) ∧
                                                        Calls Try.prog 19 #[.pointer x3, .string x163, .int .i64 x164] w93 (endK (fun v34 w95 =>
                                                            ∃ x169 : Bool, v34 = .bool x169 ∧
                                                            (∃ x170a : Option Addr, ∃ x170l : Nat, ∃ x170c : Nat, w95.cell? ⟨w5.heap.size, 0, none⟩ = some (.slice x170a x170l x170c) ∧ ∃ x171 : Int, w95.cell? ⟨w5.heap.size, 1, none⟩ = some (.int .i64 x171) ∧ 
                                                              ((.agg #[.slice x170a x170l x170c, .int .i64 x171]) : Value) = (.agg #[.slice x165a x165l x165c, .int .i64 x166])) ∧
                                                            (∃ x172 : ByteArray, w95.cell? ⟨w10.heap.size, 1, none⟩ = some (.string x172) ∧
                                                              ((.string x172) : Value) = (.string x167)) ∧
                                                            (∃ x173 : Int, w95.cell? (Addr.add p43 (Int.toNat k18 * 1)) = some (.int .i64 x173) ∧
                                                              ((.int .i64 x173) : Value) = (.int .i64 x168)) ∧
                                                            Calls Try.prog 20 #[.agg #[.slice x165a x165l x165c, .int .i64 x166], .string x167, .int .i64 x168] w95 (endK (fun v35 w97 =>
                                                                ∃ x174 : Bool, v35 = .bool x174 ∧
                                                                iteP ((!(x169 == x174))) (
                                                                  (True) ∧
                                                                  (True) ∧
                                                                  R (.returned (.bool false)) w97) (
                                                                  iteP ((!(x147.toList == x152.toList))) (
                                                                    (True) ∧
                                                                    (True) ∧
                                                                    R (.returned (.bool false)) w97) (
                                                                    iteP ((!(x148 == x153))) (
                                                                      (True) ∧
                                                                      (True) ∧
                                                                      R (.returned (.bool false)) w97) (
                                                                      ((0 : Int) ≤ k18 ∧ k18 < ((revs1l : Nat) : Int)) ∧
                                                                      onSome revs1a fun p44 =>
                                                                      ∃ x175 : Int, w97.cell? (Addr.add p44 (Int.toNat k18 * 1)) = some (.int .i64 x175) ∧
                                                                      ∃ x176a : Option Addr, ∃ x176l : Nat, ∃ x176c : Nat, w97.cell? ⟨w5.heap.size, 0, none⟩ = some (.slice x176a x176l x176c) ∧ ∃ x177 : Int, w97.cell? ⟨w5.heap.size, 1, none⟩ = some (.int .i64 x177) ∧ 
                                                                      ((0 : Int) ≤ k18 ∧ k18 < ((revs1l : Nat) : Int)) ∧
                                                                      onSome revs1a fun p45 =>
                                                                      ∃ x178 : Int, w97.cell? (Addr.add p45 (Int.toNat k18 * 1)) = some (.int .i64 x178) ∧
                                                                      Calls Try.prog 21 #[.pointer x3, .int .i64 x175] w97 (endK (fun v36 w99 =>
                                                                          ∃ x179 : Int, v36 = .int .i64 x179 ∧
                                                                          (∃ x180a : Option Addr, ∃ x180l : Nat, ∃ x180c : Nat, w99.cell? ⟨w5.heap.size, 0, none⟩ = some (.slice x180a x180l x180c) ∧ ∃ x181 : Int, w99.cell? ⟨w5.heap.size, 1, none⟩ = some (.int .i64 x181) ∧ 
                                                                            ((.agg #[.slice x180a x180l x180c, .int .i64 x181]) : Value) = (.agg #[.slice x176a x176l x176c, .int .i64 x177])) ∧
                                                                          (∃ x182 : Int, w99.cell? (Addr.add p45 (Int.toNat k18 * 1)) = some (.int .i64 x182) ∧
                                                                            ((.int .i64 x182) : Value) = (.int .i64 x178)) ∧
                                                                          Calls Try.prog 22 #[.agg #[.slice x176a x176l x176c, .int .i64 x177], .int .i64 x178] w99 (endK (fun v37 w101 =>
                                                                              ∃ x183 : Int, v37 = .int .i64 x183 ∧
                                                                              iteP (x179 != x183) (
                                                                                R (.returned (.bool false)) w101) (
                                                                                ((0 : Int) ≤ 0 ∧ 0 < ((revs1l : Nat) : Int)) ∧
                                                                                onSome revs1a fun p46 =>
                                                                                ∃ x184 : Int, w101.drew.cell? (Addr.add p46 (Int.toNat 0 * 1)) = some (.int .i64 x184) ∧
                                                                                ((0 : Int) ≤ k18 ∧ k18 < ((revs1l : Nat) : Int)) ∧
                                                                                onSome revs1a fun p47 =>
                                                                                ∃ x185 : Int, w101.drew.cell? (Addr.add p47 (Int.toNat k18 * 1)) = some (.int .i64 x185) ∧
                                                                                Calls Try.prog 23 #[.pointer x3, .int .i64 x184, .int .i64 x185] w101.drew (endK (fun v38 w103 =>
                                                                                ∃ x186a : Option Addr, ∃ x186l : Nat, ∃ x186c : Nat, v38 = .slice x186a x186l x186c ∧
                                                                                ∃ x187a : Option Addr, ∃ x187l : Nat, ∃ x187c : Nat, w103.drew.cell? ⟨w5.heap.size, 0, none⟩ = some (.slice x187a x187l x187c) ∧ ∃ x188 : Int, w103.drew.cell? ⟨w5.heap.size, 1, none⟩ = some (.int .i64 x188) ∧ 
                                                                                ((0 : Int) ≤ 0 ∧ 0 < ((revs1l : Nat) : Int)) ∧
                                                                                onSome revs1a fun p48 =>
                                                                                ∃ x189 : Int, w103.drew.cell? (Addr.add p48 (Int.toNat 0 * 1)) = some (.int .i64 x189) ∧
                                                                                ((0 : Int) ≤ k18 ∧ k18 < ((revs1l : Nat) : Int)) ∧
                                                                                onSome revs1a fun p49 =>
                                                                                ∃ x190 : Int, w103.drew.cell? (Addr.add p49 (Int.toNat k18 * 1)) = some (.int .i64 x190) ∧
                                                                                Calls Try.prog 24 #[.agg #[.slice x187a x187l x187c, .int .i64 x188], .int .i64 x189, .int .i64 x190] w103.drew (endK (fun v39 w105 =>
                                                                                ∃ x191a : Option Addr, ∃ x191l : Nat, ∃ x191c : Nat, v39 = .slice x191a x191l x191c ∧
                                                                                iteP ((((x186l : Nat) : Int) != ((x191l : Nat) : Int))) (
                                                                                R (.returned (.bool false)) w105) (
                                                                                ∃ I7 : Int → Nat → World → Prop, (∃ k22, I7 0 k22 w105) ∧
                                                                                ∀ j3 : Int, ∀ (k23 : Nat) (w107 : World), I7 j3 k23 w107 → ∀ z7 : Fr,
                                                                                iteP ((decide (j3 < ((x186l : Nat) : Int)))) (
                                                                                ((0 : Int) ≤ j3 ∧ j3 < ((x186l : Nat) : Int)) ∧
                                                                                onSome x186a fun p50 =>
                                                                                ∃ x192 : Int, w107.drew.cell? (Addr.add p50 (Int.toNat j3 * 3)) = some (.int .i64 x192) ∧
                                                                                ((0 : Int) ≤ j3 ∧ j3 < ((x191l : Nat) : Int)) ∧
                                                                                onSome x191a fun p51 =>
                                                                                ∃ x193 : Int, w107.drew.cell? (Addr.add p51 (Int.toNat j3 * 3)) = some (.int .i64 x193) ∧
                                                                                iteP (x192 != x193) (
                                                                                R (.returned (.bool false)) w107.drew) (
                                                                                ((0 : Int) ≤ j3 ∧ j3 < ((x186l : Nat) : Int)) ∧
                                                                                onSome x186a fun p52 =>
                                                                                ∃ x194 : ByteArray, w107.drew.cell? (Addr.add (Addr.add p52 (Int.toNat j3 * 3)) 1) = some (.string x194) ∧
                                                                                ((0 : Int) ≤ j3 ∧ j3 < ((x191l : Nat) : Int)) ∧
                                                                                onSome x191a fun p53 =>
                                                                                ∃ x195 : ByteArray, w107.drew.cell? (Addr.add (Addr.add p53 (Int.toNat j3 * 3)) 1) = some (.string x195) ∧
                                                                                iteP ((!(x194.toList == x195.toList))) (
                                                                                R (.returned (.bool false)) w107.drew) (
                                                                                ((0 : Int) ≤ j3 ∧ j3 < ((x186l : Nat) : Int)) ∧
                                                                                onSome x186a fun p54 =>
                                                                                ∃ x196 : Bool, w107.drew.cell? (Addr.add (Addr.add p54 (Int.toNat j3 * 3)) 2) = some (.bool x196) ∧
                                                                                ((0 : Int) ≤ j3 ∧ j3 < ((x191l : Nat) : Int)) ∧
                                                                                onSome x191a fun p55 =>
                                                                                ∃ x197 : Bool, w107.drew.cell? (Addr.add (Addr.add p55 (Int.toNat j3 * 3)) 2) = some (.bool x197) ∧
                                                                                iteP ((!(x196 == x197))) (
                                                                                R (.returned (.bool false)) w107.drew) (
                                                                                ∃ k24, k24 < k23 ∧ I7 ((IntKind.wrap .i64 (j3 + 1))) k24 w107.drew)))) (
                                                                                ∃ k21, k21 < k20 ∧ I6 ((IntKind.wrap .i64 (k18 + 1))) k21 w107))) (fun c39 w106 => ∀ g : Fr, R (.panicked c39) w106))) (fun c38 w104 => ∀ g : Fr, R (.panicked c38) w104)))) (fun c37 w102 => ∀ g : Fr, R (.panicked c37) w102))) (fun c36 w100 => ∀ g : Fr, R (.panicked c36) w100)))))) (fun c35 w98 => ∀ g : Fr, R (.panicked c35) w98))) (fun c34 w96 => ∀ g : Fr, R (.panicked c34) w96)))) (fun c33 w94 => ∀ g : Fr, R (.panicked c33) w94))) (fun c32 w92 => ∀ g : Fr, R (.panicked c32) w92))) (fun c31 w90 => ∀ g : Fr, R (.panicked c31) w90))) (fun c30 w88 => R (.panicked c30) w88))) (
                                      ∃ k3, k3 < k2 ∧ I1 ((IntKind.wrap .i64 (i1 + 1))) k3 w86))) (fun c29 w80 => R (.panicked c29) w80))) (fun c28 w78 => R (.panicked c28) w78))))) (
                      Calls Try.prog 17 #[.pointer none, .int .i64 1, .string ⟨#[]⟩, .string ⟨#[]⟩] w10 (endK (fun v40 w108 =>
                          ∃ x198 : ByteArray, ∃ x199 : Bool, v40 = .tuple #[.string x198, .bool x199] ∧
                          Calls Try.prog 11 #[.pointer none, .string ⟨#[97]⟩, .int .i64 1] w108 (endK (fun v41 w110 =>
                              ∃ x200 : Bool, v41 = .bool x200 ∧
                              iteP (!x200) (
                                Calls Try.prog 13 #[.pointer none, .string ⟨#[97]⟩, .int .i64 1] w110 (endK (fun v42 w112 =>
                                    ∃ x201 : Bool, v42 = .bool x201 ∧
                                    iteP (!x201) (
                                      Calls Try.prog 19 #[.pointer none, .string ⟨#[97]⟩, .int .i64 1] w112 (endK (fun v43 w114 =>
                                          ∃ x202 : Bool, v43 = .bool x202 ∧
                                          iteP (!x202) (
                                            iteP (!x199) (
                                              Calls Try.prog 21 #[.pointer none, .int .i64 1] w114 (endK (fun v44 w116 =>
                                                  ∃ x203 : Int, v44 = .int .i64 x203 ∧
                                                  Calls Try.prog 15 #[.pointer none, .int .i64 1] w116 (endK (fun v45 w118 =>
                                                      ∃ x204 : Int, v45 = .int .i64 x204 ∧
                                                      Calls Try.prog 23 #[.pointer none, .int .i64 0, .int .i64 9] w118 (endK (fun v46 w120 =>
                                                          ∃ x205a : Option Addr, ∃ x205l : Nat, ∃ x205c : Nat, v46 = .slice x205a x205l x205c ∧
                                                          R (.returned (.bool ((IntKind.wrap .i64 ((IntKind.wrap .i64 (x203 + x204)) + ((x205l : Nat) : Int))) == 0))) w120) (fun c46 w121 => R (.panicked c46) w121))) (fun c45 w119 => R (.panicked c45) w119))) (fun c44 w117 => R (.panicked c44) w117))) (
                                              R (.returned (.bool false)) w114)) (
                                            R (.returned (.bool false)) w114)) (fun c43 w115 => R (.panicked c43) w115))) (
                                      R (.returned (.bool false)) w112)) (fun c42 w113 => R (.panicked c42) w113))) (
                                R (.returned (.bool false)) w110)) (fun c41 w111 => R (.panicked c41) w111))) (fun c40 w109 => R (.panicked c40) w109)))) (fun c3 w6 => R (.panicked c3) w6))))) (fun c2 w4 => R (.panicked c2) w4)))) (fun c1 w2 => R (.panicked c1) w2))
theorem F3.eq (l1a : Option Addr) (l1l : Nat) (l1c : Nat) (key1 : ByteArray) (revs1a : Option Addr) (revs1l : Nat) (revs1c : Nat) (from1 : ByteArray) (to1 : ByteArray) (w : World) (R : Ending → World → Prop) : lift Try.prog none F3.A 306 (bodyOf Try.f3) (retK Try.prog F3.A Try.f3 R) (argsF [.slice l1a l1l l1c, .string key1, .slice revs1a revs1l revs1c, .string from1, .string to1]) [] w = F3.sh l1a l1l l1c key1 revs1a revs1l revs1c from1 to1 w R := by kernel_rfl
theorem F3.calls_of (l1a : Option Addr) (l1l : Nat) (l1c : Nat) (key1 : ByteArray) (revs1a : Option Addr) (revs1l : Nat) (revs1c : Nat) (from1 : ByteArray) (to1 : ByteArray) {w : World} {R : Ending → World → Prop} (h : F3.sh l1a l1l l1c key1 revs1a revs1l revs1c from1 to1 w R) : Calls Try.prog 3 #[.slice l1a l1l l1c, .string key1, .slice revs1a revs1l revs1c, .string from1, .string to1] w R :=
  calls_of_lift noNG mixedOk (fn := Try.f3) (c := bodyOf Try.f3) (args := [.slice l1a l1l l1c, .string key1, .slice revs1a revs1l revs1c, .string from1, .string to1]) Try.func3 rfl rfl (cast (F3.eq l1a l1l l1c key1 revs1a revs1l revs1c from1 to1 w R).symm h)

/-! #### doorman/doormanlaw14.SpansLead -/
def F4.A : Ann := annOf [(19, (.one (.one .bool))), (23, (.one (.one .bool))), (39, (.one (.one .ptr))), (50, (.one (.one (.int .u8)))), (58, (.one (.one .str))), (63, (.one (.one (.int .i64)))), (64, (.one (.one .bool))), (70, (.one (.one .str))), (75, (.one (.one (.int .i64)))), (76, (.one (.one .bool))), (79, (.one (.one .slice))), (82, (.one (.one .slice))), (86, (.one (.one .slice))), (100, (.one (.one .str))), (104, (.one (.one .str))), (112, (.one (.one .str))), (114, (.one (.one .bool))), (128, (.one (.one .str))), (132, (.one (.one .str))), (145, (.one (.one .str))), (149, (.one (.one .str))), (156, (.one (.one .bool))), (162, (.one (.one .bool))), (170, (.one (.one (.int .i64)))), (177, (.one (.one (.int .i64))))] [(9, [10], [(.one (.int .i64))], [40, 41, 42, 43, 44, 45, 46, 47, 48, 49, 50, 51, 52, 53, 54, 55, 56, 57, 58, 59, 60, 61, 62, 63, 64, 65, 66, 67, 68, 69, 70, 71, 72, 73, 74, 75, 76]), (19, [14, 15], [(.one (.int .i64)), (.one (.int .i64))], [6, 16, 17, 18, 87, 88, 89, 90, 91, 92, 93, 94, 95, 96, 97, 98, 99, 100, 101, 102, 103, 104, 105, 106, 107, 108, 109, 110, 111, 112, 113, 114, 115, 116, 117, 118, 119, 120, 121, 122, 123, 124, 125, 126, 127, 128, 129, 130, 131, 132, 133, 134, 135, 136, 137, 138, 139, 140, 141, 142, 143, 144, 145, 146, 147, 148, 149, 150, 151, 152, 153, 154, 155, 156, 157, 158, 159, 160, 161, 162, 163, 164, 165, 166]), (25, [16, 17], [(.one .bool), (.one (.int .i64))], [117, 118, 119, 120, 121, 122, 123, 124, 125, 126, 127, 128, 129, 130, 131, 132, 133, 134]), (29, [16, 18], [(.one .bool), (.one (.int .i64))], [6, 135, 136, 137, 138, 139, 140, 141, 142, 143, 144, 145, 146, 147, 148, 149, 150, 151, 152, 153, 154, 155, 156, 157, 158, 159, 160, 161, 162])]
def F4.sh (l1a : Option Addr) (l1l : Nat) (l1c : Nat) (a1 : Int) (b1 : Int) (w : World) (R : Ending → World → Prop) : Prop :=
  Calls Try.prog 8 #[] w (endK (fun v1 w1 =>
      ∃ x1 : Bool, v1 = .bool x1 ∧
      iteP (!x1) (
        R (.returned (.bool false)) w1) (
        Calls Try.prog 9 #[.slice l1a l1l l1c] w1 (endK (fun v2 w3 =>
            ∃ x2 : Bool, v2 = .bool x2 ∧
            iteP (!x2) (
              R (.returned (.bool true)) w3) (
              iteP ((decide (a1 > b1))) (
                R (.returned (.bool true)) w3) (
                iteP ((decide (a1 < 0))) (
                  R (.returned (.bool true)) w3) (
                  iteP ((decide (b1 > 1000000))) (
                    R (.returned (.bool true)) w3) (
                    Calls Try.prog 10 #[] w3 (endK (fun v3 w5 =>
                        ∃ x3 : Option Addr, v3 = .pointer x3 ∧
                        ∃ I1 : Int → Nat → World → Prop, (∃ k1, I1 0 k1 w5) ∧
                        ∀ i1 : Int, ∀ (k2 : Nat) (w7 : World), I1 i1 k2 w7 → ∀ z1 : Fr,
                        iteP ((decide (i1 < ((l1l : Nat) : Int)))) (
                          ((0 : Int) ≤ i1 ∧ i1 < ((l1l : Nat) : Int)) ∧
                          onSome l1a fun p1 =>
                          ∃ x4 : Int, w7.cell? (Addr.add p1 (Int.toNat i1 * 3)) = some (.int .u8 x4) ∧
                          iteP (((Int.tmod x4 2) == 0)) (
                            ((0 : Int) ≤ i1 ∧ i1 < ((l1l : Nat) : Int)) ∧
                            onSome l1a fun p2 =>
                            ∃ x5 : ByteArray, w7.drew.cell? (Addr.add (Addr.add p2 (Int.toNat i1 * 3)) 1) = some (.string x5) ∧
                            ((0 : Int) ≤ i1 ∧ i1 < ((l1l : Nat) : Int)) ∧
                            onSome l1a fun p3 =>
                            ∃ x6 : Int, w7.drew.cell? (Addr.add (Addr.add p3 (Int.toNat i1 * 3)) 2) = some (.int .i64 x6) ∧
                            Calls Try.prog 11 #[.pointer x3, .string x5, .int .i64 x6] w7.drew (endK (fun v4 w8 =>
                                ∃ x7 : Bool, v4 = .bool x7 ∧
                                ∃ k3, k3 < k2 ∧ I1 ((IntKind.wrap .i64 (i1 + 1))) k3 w8) (fun c4 w9 => ∀ g : Fr, R (.panicked c4) w9))) (
                            ((0 : Int) ≤ i1 ∧ i1 < ((l1l : Nat) : Int)) ∧
                            onSome l1a fun p4 =>
                            ∃ x8 : ByteArray, w7.drew.cell? (Addr.add (Addr.add p4 (Int.toNat i1 * 3)) 1) = some (.string x8) ∧
                            ((0 : Int) ≤ i1 ∧ i1 < ((l1l : Nat) : Int)) ∧
                            onSome l1a fun p5 =>
                            ∃ x9 : Int, w7.drew.cell? (Addr.add (Addr.add p5 (Int.toNat i1 * 3)) 2) = some (.int .i64 x9) ∧
                            Calls Try.prog 13 #[.pointer x3, .string x8, .int .i64 x9] w7.drew (endK (fun v5 w10 =>
                                ∃ x10 : Bool, v5 = .bool x10 ∧
                                ∃ k3, k3 < k2 ∧ I1 ((IntKind.wrap .i64 (i1 + 1))) k3 w10) (fun c5 w11 => ∀ g : Fr, R (.panicked c5) w11)))) (
                          Calls Try.prog 25 #[.pointer x3, .int .i64 a1] w7 (endK (fun v6 w12 =>
                              ∃ x11a : Option Addr, ∃ x11l : Nat, ∃ x11c : Nat, v6 = .slice x11a x11l x11c ∧
                              Calls Try.prog 25 #[.pointer x3, .int .i64 b1] w12 (endK (fun v7 w14 =>
                                  ∃ x12a : Option Addr, ∃ x12l : Nat, ∃ x12c : Nat, v7 = .slice x12a x12l x12c ∧
                                  Calls Try.prog 23 #[.pointer x3, .int .i64 a1, .int .i64 b1] w14 (endK (fun v8 w16 =>
                                      ∃ x13a : Option Addr, ∃ x13l : Nat, ∃ x13c : Nat, v8 = .slice x13a x13l x13c ∧
                                      ∃ I2 : Int → Int → Nat → World → Prop, (∃ k4, I2 0 0 k4 w16) ∧
                                      ∀ had1 : Int, ∀ i2 : Int, ∀ (k5 : Nat) (w18 : World), I2 had1 i2 k5 w18 → ∀ z2 : Fr,
                                      iteP ((decide (i2 < ((x12l : Nat) : Int)))) (
                                        iteP ((decide (i2 > 0))) (
                                          ((0 : Int) ≤ (IntKind.wrap .i64 (i2 - 1)) ∧ (IntKind.wrap .i64 (i2 - 1)) < ((x12l : Nat) : Int)) ∧
                                          onSome x12a fun p6 =>
                                          ∃ x14 : ByteArray, w18.drew.cell? (Addr.add p6 (Int.toNat ((IntKind.wrap .i64 (i2 - 1))) * 1)) = some (.string x14) ∧
                                          ((0 : Int) ≤ i2 ∧ i2 < ((x12l : Nat) : Int)) ∧
                                          onSome x12a fun p7 =>
                                          ∃ x15 : ByteArray, w18.drew.cell? (Addr.add p7 (Int.toNat i2 * 1)) = some (.string x15) ∧
                                          iteP (!Op.bytesLess x14.toList x15.toList) (
                                            R (.returned (.bool false)) w18.drew) (
                                            ((0 : Int) ≤ i2 ∧ i2 < ((x12l : Nat) : Int)) ∧
                                            onSome x12a fun p8 =>
                                            ∃ x16 : ByteArray, w18.drew.cell? (Addr.add p8 (Int.toNat i2 * 1)) = some (.string x16) ∧
                                            Calls Try.prog 19 #[.pointer x3, .string x16, .int .i64 b1] w18.drew (endK (fun v9 w19 =>
                                                ∃ x17 : Bool, v9 = .bool x17 ∧
                                                iteP (!x17) (
                                                  R (.returned (.bool false)) w19) (
                                                  ∃ I3 : Bool → Int → Nat → World → Prop, (∃ k8, I3 false 0 k8 w19) ∧
                                                  ∀ in1 : Bool, ∀ k7 : Int, ∀ (k9 : Nat) (w21 : World), I3 in1 k7 k9 w21 → ∀ z3 : Fr,
                                                  iteP ((decide (k7 < ((x11l : Nat) : Int)))) (
                                                    iteP in1 (
                                                      ∃ k10, k10 < k9 ∧ I3 true ((IntKind.wrap .i64 (k7 + 1))) k10 w21.drew) (
                                                      ((0 : Int) ≤ k7 ∧ k7 < ((x11l : Nat) : Int)) ∧
                                                      onSome x11a fun p9 =>
                                                      ∃ x18 : ByteArray, w21.drew.cell? (Addr.add p9 (Int.toNat k7 * 1)) = some (.string x18) ∧
                                                      ((0 : Int) ≤ i2 ∧ i2 < ((x12l : Nat) : Int)) ∧
                                                      onSome x12a fun p10 =>
                                                      ∃ x19 : ByteArray, w21.drew.cell? (Addr.add p10 (Int.toNat i2 * 1)) = some (.string x19) ∧
                                                      ∃ k10, k10 < k9 ∧ I3 (x18.toList == x19.toList) ((IntKind.wrap .i64 (k7 + 1))) k10 w21.drew)) (
                                                    ∃ I4 : Bool → Int → Nat → World → Prop, (∃ k12, I4 in1 0 k12 w21) ∧
                                                    ∀ in2 : Bool, ∀ k11 : Int, ∀ (k13 : Nat) (w22 : World), I4 in2 k11 k13 w22 → ∀ z4 : Fr,
                                                    iteP ((decide (k11 < ((x13l : Nat) : Int)))) (
                                                      ((0 : Int) ≤ k11 ∧ k11 < ((x13l : Nat) : Int)) ∧
                                                      onSome x13a fun p11 =>
                                                      ∃ x20 : ByteArray, w22.drew.cell? (Addr.add (Addr.add p11 (Int.toNat k11 * 3)) 1) = some (.string x20) ∧
                                                      ((0 : Int) ≤ i2 ∧ i2 < ((x12l : Nat) : Int)) ∧
                                                      onSome x12a fun p12 =>
                                                      ∃ x21 : ByteArray, w22.drew.cell? (Addr.add p12 (Int.toNat i2 * 1)) = some (.string x21) ∧
                                                      iteP (x20.toList == x21.toList) (
                                                        ((0 : Int) ≤ k11 ∧ k11 < ((x13l : Nat) : Int)) ∧
                                                        onSome x13a fun p13 =>
                                                        ∃ x22 : Bool, w22.drew.cell? (Addr.add (Addr.add p13 (Int.toNat k11 * 3)) 2) = some (.bool x22) ∧
                                                        iteP (in2 == x22) (
                                                          R (.returned (.bool false)) w22.drew) (
                                                          ((0 : Int) ≤ k11 ∧ k11 < ((x13l : Nat) : Int)) ∧
                                                          onSome x13a fun p14 =>
                                                          ∃ x23 : Bool, w22.drew.cell? (Addr.add (Addr.add p14 (Int.toNat k11 * 3)) 2) = some (.bool x23) ∧
                                                          ∃ k14, k14 < k13 ∧ I4 x23 ((IntKind.wrap .i64 (k11 + 1))) k14 w22.drew)) (
                                                        ∃ k14, k14 < k13 ∧ I4 in2 ((IntKind.wrap .i64 (k11 + 1))) k14 w22.drew)) (
                                                      iteP (!in2) (
                                                        R (.returned (.bool false)) w22) (
                                                        ∃ k6, k6 < k5 ∧ I2 ((IntKind.wrap .i64 (had1 + 1))) ((IntKind.wrap .i64 (i2 + 1))) k6 w22))))) (fun c9 w20 => ∀ g : Fr, R (.panicked c9) w20)))) (
                                          ((0 : Int) ≤ i2 ∧ i2 < ((x12l : Nat) : Int)) ∧
                                          onSome x12a fun p15 =>
                                          ∃ x24 : ByteArray, w18.drew.cell? (Addr.add p15 (Int.toNat i2 * 1)) = some (.string x24) ∧
                                          Calls Try.prog 19 #[.pointer x3, .string x24, .int .i64 b1] w18.drew (endK (fun v10 w23 =>
                                              ∃ x25 : Bool, v10 = .bool x25 ∧
                                              iteP (!x25) (
                                                R (.returned (.bool false)) w23) (
                                                ∃ I5 : Bool → Int → Nat → World → Prop, (∃ k16, I5 false 0 k16 w23) ∧
                                                ∀ in3 : Bool, ∀ k15 : Int, ∀ (k17 : Nat) (w25 : World), I5 in3 k15 k17 w25 → ∀ z5 : Fr,
                                                iteP ((decide (k15 < ((x11l : Nat) : Int)))) (
                                                  iteP in3 (
                                                    ∃ k18, k18 < k17 ∧ I5 true ((IntKind.wrap .i64 (k15 + 1))) k18 w25.drew) (
                                                    ((0 : Int) ≤ k15 ∧ k15 < ((x11l : Nat) : Int)) ∧
                                                    onSome x11a fun p16 =>
                                                    ∃ x26 : ByteArray, w25.drew.cell? (Addr.add p16 (Int.toNat k15 * 1)) = some (.string x26) ∧
                                                    ((0 : Int) ≤ i2 ∧ i2 < ((x12l : Nat) : Int)) ∧
                                                    onSome x12a fun p17 =>
                                                    ∃ x27 : ByteArray, w25.drew.cell? (Addr.add p17 (Int.toNat i2 * 1)) = some (.string x27) ∧
                                                    ∃ k18, k18 < k17 ∧ I5 (x26.toList == x27.toList) ((IntKind.wrap .i64 (k15 + 1))) k18 w25.drew)) (
                                                  ∃ I6 : Bool → Int → Nat → World → Prop, (∃ k20, I6 in3 0 k20 w25) ∧
                                                  ∀ in4 : Bool, ∀ k19 : Int, ∀ (k21 : Nat) (w26 : World), I6 in4 k19 k21 w26 → ∀ z6 : Fr,
                                                  iteP ((decide (k19 < ((x13l : Nat) : Int)))) (
                                                    ((0 : Int) ≤ k19 ∧ k19 < ((x13l : Nat) : Int)) ∧
                                                    onSome x13a fun p18 =>
                                                    ∃ x28 : ByteArray, w26.drew.cell? (Addr.add (Addr.add p18 (Int.toNat k19 * 3)) 1) = some (.string x28) ∧
                                                    ((0 : Int) ≤ i2 ∧ i2 < ((x12l : Nat) : Int)) ∧
                                                    onSome x12a fun p19 =>
                                                    ∃ x29 : ByteArray, w26.drew.cell? (Addr.add p19 (Int.toNat i2 * 1)) = some (.string x29) ∧
                                                    iteP (x28.toList == x29.toList) (
                                                      ((0 : Int) ≤ k19 ∧ k19 < ((x13l : Nat) : Int)) ∧
                                                      onSome x13a fun p20 =>
                                                      ∃ x30 : Bool, w26.drew.cell? (Addr.add (Addr.add p20 (Int.toNat k19 * 3)) 2) = some (.bool x30) ∧
                                                      iteP (in4 == x30) (
                                                        R (.returned (.bool false)) w26.drew) (
                                                        ((0 : Int) ≤ k19 ∧ k19 < ((x13l : Nat) : Int)) ∧
                                                        onSome x13a fun p21 =>
                                                        ∃ x31 : Bool, w26.drew.cell? (Addr.add (Addr.add p21 (Int.toNat k19 * 3)) 2) = some (.bool x31) ∧
                                                        ∃ k22, k22 < k21 ∧ I6 x31 ((IntKind.wrap .i64 (k19 + 1))) k22 w26.drew)) (
                                                      ∃ k22, k22 < k21 ∧ I6 in4 ((IntKind.wrap .i64 (k19 + 1))) k22 w26.drew)) (
                                                    iteP (!in4) (
                                                      R (.returned (.bool false)) w26) (
                                                      ∃ k6, k6 < k5 ∧ I2 ((IntKind.wrap .i64 (had1 + 1))) ((IntKind.wrap .i64 (i2 + 1))) k6 w26))))) (fun c10 w24 => ∀ g : Fr, R (.panicked c10) w24)))) (
                                        Calls Try.prog 21 #[.pointer x3, .int .i64 b1] w18 (endK (fun v11 w27 =>
                                            ∃ x32 : Int, v11 = .int .i64 x32 ∧
                                            iteP (had1 == x32) (
                                              Calls Try.prog 21 #[.pointer x3, .int .i64 a1] w27 (endK (fun v12 w29 =>
                                                  ∃ x33 : Int, v12 = .int .i64 x33 ∧
                                                  R (.returned (.bool (((x11l : Nat) : Int) == x33))) w29) (fun c12 w30 => R (.panicked c12) w30))) (
                                              R (.returned (.bool false)) w27)) (fun c11 w28 => R (.panicked c11) w28)))) (fun c8 w17 => R (.panicked c8) w17))) (fun c7 w15 => R (.panicked c7) w15))) (fun c6 w13 => R (.panicked c6) w13)))) (fun c3 w6 => R (.panicked c3) w6))))))) (fun c2 w4 => R (.panicked c2) w4)))) (fun c1 w2 => R (.panicked c1) w2))
theorem F4.eq (l1a : Option Addr) (l1l : Nat) (l1c : Nat) (a1 : Int) (b1 : Int) (w : World) (R : Ending → World → Prop) : lift Try.prog none F4.A 180 (bodyOf Try.f4) (retK Try.prog F4.A Try.f4 R) (argsF [.slice l1a l1l l1c, .int .i64 a1, .int .i64 b1]) [] w = F4.sh l1a l1l l1c a1 b1 w R := by kernel_rfl
theorem F4.calls_of (l1a : Option Addr) (l1l : Nat) (l1c : Nat) (a1 : Int) (b1 : Int) {w : World} {R : Ending → World → Prop} (h : F4.sh l1a l1l l1c a1 b1 w R) : Calls Try.prog 4 #[.slice l1a l1l l1c, .int .i64 a1, .int .i64 b1] w R :=
  calls_of_lift noNG mixedOk (fn := Try.f4) (c := bodyOf Try.f4) (args := [.slice l1a l1l l1c, .int .i64 a1, .int .i64 b1]) Try.func4 rfl rfl (cast (F4.eq l1a l1l l1c a1 b1 w R).symm h)

/-! #### doorman/doormanlaw14.SpansTrim -/
def F5.A : Ann := annOf [(21, (.one (.one .bool))), (25, (.one (.one .bool))), (41, (.one (.one .ptr))), (42, (.one (.one .ptr))), (53, (.one (.one (.int .u8)))), (61, (.one (.one .str))), (66, (.one (.one (.int .i64)))), (67, (.one (.one .bool))), (73, (.one (.one .str))), (78, (.one (.one (.int .i64)))), (79, (.one (.one .bool))), (85, (.one (.one .str))), (90, (.one (.one (.int .i64)))), (91, (.one (.one .bool))), (97, (.one (.one .str))), (102, (.one (.one (.int .i64)))), (103, (.one (.one .bool))), (106, (.one (.one (.int .i64)))), (112, (.one (.one (.int .i64)))), (124, (.one (.one (.int .i64)))), (130, (.one (.one .slice))), (133, (.one (.one .slice))), (137, (.one (.one .slice))), (141, (.one (.one .slice))), (157, (.one (.one (.int .i64)))), (160, (.one (.one (.int .i64)))), (172, (.one (.one .str))), (176, (.one (.one .str))), (187, (.one (.agg [(.int .i64), .str, .bool]))), (191, (.one (.agg [(.int .i64), .str, .bool]))), (192, (.one (.one .bool)))] [(10, [11], [(.one (.int .i64))], [43, 44, 45, 46, 47, 48, 49, 50, 51, 52, 53, 54, 55, 56, 57, 58, 59, 60, 61, 62, 63, 64, 65, 66, 67, 68, 69, 70, 71, 72, 73, 74, 75, 76, 77, 78, 79, 80, 81, 82, 83, 84, 85, 86, 87, 88, 89, 90, 91, 92, 93, 94, 95, 96, 97, 98, 99, 100, 101, 102, 103]), (21, [13], [(.one (.int .i64))], [6, 14, 15, 16, 17, 18, 19, 20, 115, 116, 117, 118, 119, 120, 121, 122, 123, 124, 125, 126, 127, 128, 129, 130, 131, 132, 133, 134, 135, 136, 137, 138, 139, 140, 141, 142, 143, 144, 145, 146, 147, 148, 149, 150, 151, 152, 153, 154, 155, 156, 157, 158, 159, 160, 161, 162, 163, 164, 165, 166, 167, 168, 169, 170, 171, 172, 173, 174, 175, 176, 177, 178, 179, 180, 181, 182, 183, 184, 185, 186, 187, 188, 189, 190, 191, 192]), (32, [19], [(.one (.int .i64))], [6, 163, 164, 165, 166, 167, 168, 169, 170, 171, 172, 173, 174, 175, 176, 177]), (37, [20], [(.one (.int .i64))], [6, 178, 179, 180, 181, 182, 183, 184, 185, 186, 187, 188, 189, 190, 191, 192])]
def F5.sh (l1a : Option Addr) (l1l : Nat) (l1c : Nat) (rev1 : Int) (later1a : Option Addr) (later1l : Nat) (later1c : Nat) (w : World) (R : Ending → World → Prop) : Prop :=
  Calls Try.prog 8 #[] w (endK (fun v1 w1 =>
      ∃ x1 : Bool, v1 = .bool x1 ∧
      iteP (!x1) (
        R (.returned (.bool false)) w1) (
        Calls Try.prog 9 #[.slice l1a l1l l1c] w1 (endK (fun v2 w3 =>
            ∃ x2 : Bool, v2 = .bool x2 ∧
            iteP (!x2) (
              R (.returned (.bool true)) w3) (
              iteP ((decide (((later1l : Nat) : Int) > 12))) (
                R (.returned (.bool true)) w3) (
                iteP ((decide (rev1 > 1000000))) (
                  R (.returned (.bool true)) w3) (
                  iteP ((decide (rev1 < 0))) (
                    R (.returned (.bool true)) w3) (
                    Calls Try.prog 10 #[] w3 (endK (fun v3 w5 =>
                        ∃ x3 : Option Addr, v3 = .pointer x3 ∧
                        Calls Try.prog 10 #[] w5 (endK (fun v4 w7 =>
                            ∃ x4 : Option Addr, v4 = .pointer x4 ∧
                            ∃ I1 : Int → Nat → World → Prop, (∃ k1, I1 0 k1 w7) ∧
                            ∀ i1 : Int, ∀ (k2 : Nat) (w9 : World), I1 i1 k2 w9 → ∀ z1 : Fr,
                            iteP ((decide (i1 < ((l1l : Nat) : Int)))) (
                              ((0 : Int) ≤ i1 ∧ i1 < ((l1l : Nat) : Int)) ∧
                              onSome l1a fun p1 =>
                              ∃ x5 : Int, w9.cell? (Addr.add p1 (Int.toNat i1 * 3)) = some (.int .u8 x5) ∧
                              iteP (((Int.tmod x5 2) == 0)) (
                                ((0 : Int) ≤ i1 ∧ i1 < ((l1l : Nat) : Int)) ∧
                                onSome l1a fun p2 =>
                                ∃ x6 : ByteArray, w9.drew.cell? (Addr.add (Addr.add p2 (Int.toNat i1 * 3)) 1) = some (.string x6) ∧
                                ((0 : Int) ≤ i1 ∧ i1 < ((l1l : Nat) : Int)) ∧
                                onSome l1a fun p3 =>
                                ∃ x7 : Int, w9.drew.cell? (Addr.add (Addr.add p3 (Int.toNat i1 * 3)) 2) = some (.int .i64 x7) ∧
                                Calls Try.prog 11 #[.pointer x3, .string x6, .int .i64 x7] w9.drew (endK (fun v5 w10 =>
                                    ∃ x8 : Bool, v5 = .bool x8 ∧
                                    ((0 : Int) ≤ i1 ∧ i1 < ((l1l : Nat) : Int)) ∧
                                    onSome l1a fun p4 =>
                                    ∃ x9 : ByteArray, w10.drew.cell? (Addr.add (Addr.add p4 (Int.toNat i1 * 3)) 1) = some (.string x9) ∧
                                    ((0 : Int) ≤ i1 ∧ i1 < ((l1l : Nat) : Int)) ∧
                                    onSome l1a fun p5 =>
                                    ∃ x10 : Int, w10.drew.cell? (Addr.add (Addr.add p5 (Int.toNat i1 * 3)) 2) = some (.int .i64 x10) ∧
                                    Calls Try.prog 11 #[.pointer x4, .string x9, .int .i64 x10] w10.drew (endK (fun v6 w12 =>
                                        ∃ x11 : Bool, v6 = .bool x11 ∧
                                        ∃ k3, k3 < k2 ∧ I1 ((IntKind.wrap .i64 (i1 + 1))) k3 w12) (fun c6 w13 => ∀ g : Fr, R (.panicked c6) w13))) (fun c5 w11 => ∀ g : Fr, R (.panicked c5) w11))) (
                                ((0 : Int) ≤ i1 ∧ i1 < ((l1l : Nat) : Int)) ∧
                                onSome l1a fun p6 =>
                                ∃ x12 : ByteArray, w9.drew.cell? (Addr.add (Addr.add p6 (Int.toNat i1 * 3)) 1) = some (.string x12) ∧
                                ((0 : Int) ≤ i1 ∧ i1 < ((l1l : Nat) : Int)) ∧
                                onSome l1a fun p7 =>
                                ∃ x13 : Int, w9.drew.cell? (Addr.add (Addr.add p7 (Int.toNat i1 * 3)) 2) = some (.int .i64 x13) ∧
                                Calls Try.prog 13 #[.pointer x3, .string x12, .int .i64 x13] w9.drew (endK (fun v7 w14 =>
                                    ∃ x14 : Bool, v7 = .bool x14 ∧
                                    ((0 : Int) ≤ i1 ∧ i1 < ((l1l : Nat) : Int)) ∧
                                    onSome l1a fun p8 =>
                                    ∃ x15 : ByteArray, w14.drew.cell? (Addr.add (Addr.add p8 (Int.toNat i1 * 3)) 1) = some (.string x15) ∧
                                    ((0 : Int) ≤ i1 ∧ i1 < ((l1l : Nat) : Int)) ∧
                                    onSome l1a fun p9 =>
                                    ∃ x16 : Int, w14.drew.cell? (Addr.add (Addr.add p9 (Int.toNat i1 * 3)) 2) = some (.int .i64 x16) ∧
                                    Calls Try.prog 13 #[.pointer x4, .string x15, .int .i64 x16] w14.drew (endK (fun v8 w16 =>
                                        ∃ x17 : Bool, v8 = .bool x17 ∧
                                        ∃ k3, k3 < k2 ∧ I1 ((IntKind.wrap .i64 (i1 + 1))) k3 w16) (fun c8 w17 => ∀ g : Fr, R (.panicked c8) w17))) (fun c7 w15 => ∀ g : Fr, R (.panicked c7) w15)))) (
                              Calls Try.prog 15 #[.pointer x4, .int .i64 rev1] w9 (endK (fun v9 w18 =>
                                  ∃ x18 : Int, v9 = .int .i64 x18 ∧
                                  iteP ((decide (x18 < 0))) (
                                    R (.returned (.bool false)) w18) (
                                    Calls Try.prog 15 #[.pointer x4, .int .i64 rev1] w18 (endK (fun v10 w20 =>
                                        ∃ x19 : Int, v10 = .int .i64 x19 ∧
                                        iteP (x19 != 0) (
                                          R (.returned (.bool false)) w20) (
                                          ∃ I2 : Int → Nat → World → Prop, (∃ k4, I2 0 k4 w20) ∧
                                          ∀ i2 : Int, ∀ (k5 : Nat) (w22 : World), I2 i2 k5 w22 → ∀ z2 : Fr,
                                          iteP ((decide (i2 < ((later1l : Nat) : Int)))) (
                                            ((0 : Int) ≤ i2 ∧ i2 < ((later1l : Nat) : Int)) ∧
                                            onSome later1a fun p10 =>
                                            ∃ x20 : Int, w22.cell? (Addr.add p10 (Int.toNat i2 * 1)) = some (.int .i64 x20) ∧
                                            iteP ((decide (x20 < rev1))) (
                                              ∃ k6, k6 < k5 ∧ I2 ((IntKind.wrap .i64 (i2 + 1))) k6 w22) (
                                              Calls Try.prog 25 #[.pointer x3, .int .i64 x20] w22 (endK (fun v11 w23 =>
                                                  ∃ x21a : Option Addr, ∃ x21l : Nat, ∃ x21c : Nat, v11 = .slice x21a x21l x21c ∧
                                                  Calls Try.prog 25 #[.pointer x4, .int .i64 x20] w23 (endK (fun v12 w25 =>
                                                      ∃ x22a : Option Addr, ∃ x22l : Nat, ∃ x22c : Nat, v12 = .slice x22a x22l x22c ∧
                                                      Calls Try.prog 23 #[.pointer x3, .int .i64 rev1, .int .i64 x20] w25 (endK (fun v13 w27 =>
                                                          ∃ x23a : Option Addr, ∃ x23l : Nat, ∃ x23c : Nat, v13 = .slice x23a x23l x23c ∧
                                                          Calls Try.prog 23 #[.pointer x4, .int .i64 rev1, .int .i64 x20] w27 (endK (fun v14 w29 =>
                                                              ∃ x24a : Option Addr, ∃ x24l : Nat, ∃ x24c : Nat, v14 = .slice x24a x24l x24c ∧
                                                              iteP ((((x21l : Nat) : Int) != ((x22l : Nat) : Int))) (
                                                                R (.returned (.bool false)) w29) (
                                                                iteP ((((x23l : Nat) : Int) != ((x24l : Nat) : Int))) (
                                                                  R (.returned (.bool false)) w29) (
                                                                  Calls Try.prog 21 #[.pointer x3, .int .i64 x20] w29 (endK (fun v15 w31 =>
                                                                      ∃ x25 : Int, v15 = .int .i64 x25 ∧
                                                                      Calls Try.prog 21 #[.pointer x4, .int .i64 x20] w31 (endK (fun v16 w33 =>
                                                                          ∃ x26 : Int, v16 = .int .i64 x26 ∧
                                                                          iteP (x25 != x26) (
                                                                            R (.returned (.bool false)) w33) (
                                                                            ∃ I3 : Int → Nat → World → Prop, (∃ k7, I3 0 k7 w33) ∧
                                                                            ∀ j1 : Int, ∀ (k8 : Nat) (w35 : World), I3 j1 k8 w35 → ∀ z3 : Fr,
                                                                            iteP ((decide (j1 < ((x21l : Nat) : Int)))) (
                                                                              ((0 : Int) ≤ j1 ∧ j1 < ((x21l : Nat) : Int)) ∧
                                                                              onSome x21a fun p11 =>
                                                                              ∃ x27 : ByteArray, w35.drew.cell? (Addr.add p11 (Int.toNat j1 * 1)) = some (.string x27) ∧
                                                                              ((0 : Int) ≤ j1 ∧ j1 < ((x22l : Nat) : Int)) ∧
                                                                              onSome x22a fun p12 =>
                                                                              ∃ x28 : ByteArray, w35.drew.cell? (Addr.add p12 (Int.toNat j1 * 1)) = some (.string x28) ∧
                                                                              iteP ((!(x27.toList == x28.toList))) (
                                                                                R (.returned (.bool false)) w35.drew) (
                                                                                ∃ k9, k9 < k8 ∧ I3 ((IntKind.wrap .i64 (j1 + 1))) k9 w35.drew)) (
                                                                              ∃ I4 : Int → Nat → World → Prop, (∃ k10, I4 0 k10 w35) ∧
                                                                              ∀ j2 : Int, ∀ (k11 : Nat) (w36 : World), I4 j2 k11 w36 → ∀ z4 : Fr,
                                                                              iteP ((decide (j2 < ((x23l : Nat) : Int)))) (
                                                                                ((0 : Int) ≤ j2 ∧ j2 < ((x23l : Nat) : Int)) ∧
                                                                                onSome x23a fun p13 =>
                                                                                ∃ x29 : Int, w36.drew.cell? (Addr.add p13 (Int.toNat j2 * 3)) = some (.int .i64 x29) ∧ ∃ x30 : ByteArray, w36.drew.cell? (Addr.add (Addr.add p13 (Int.toNat j2 * 3)) 1) = some (.string x30) ∧ ∃ x31 : Bool, w36.drew.cell? (Addr.add (Addr.add p13 (Int.toNat j2 * 3)) 2) = some (.bool x31) ∧ 
                                                                                ((0 : Int) ≤ j2 ∧ j2 < ((x24l : Nat) : Int)) ∧
                                                                                onSome x24a fun p14 =>
                                                                                ∃ x32 : Int, w36.drew.cell? (Addr.add p14 (Int.toNat j2 * 3)) = some (.int .i64 x32) ∧ ∃ x33 : ByteArray, w36.drew.cell? (Addr.add (Addr.add p14 (Int.toNat j2 * 3)) 1) = some (.string x33) ∧ ∃ x34 : Bool, w36.drew.cell? (Addr.add (Addr.add p14 (Int.toNat j2 * 3)) 2) = some (.bool x34) ∧ 
                                                                                rdRunK Try.prog ((do eqGuard .neq 49 (.tmp 187) (.tmp 191) (.agg #[.int .i64 x29, .string x30, .bool x31]) (.agg #[.int .i64 x32, .string x33, .bool x34]); binOp .neq 49 (.agg #[.int .i64 x29, .string x30, .bool x31]) (.agg #[.int .i64 x32, .string x33, .bool x34]))) w36.drew fun v17 =>
                                                                                ∃ b1 : Bool, v17 = .bool b1 ∧
                                                                                iteP b1 (
                                                                                R (.returned (.bool false)) w36.drew) (
                                                                                ∃ k12, k12 < k11 ∧ I4 ((IntKind.wrap .i64 (j2 + 1))) k12 w36.drew)) (
                                                                                ∃ k6, k6 < k5 ∧ I2 ((IntKind.wrap .i64 (i2 + 1))) k6 w36)))) (fun c16 w34 => R (.panicked c16) w34))) (fun c15 w32 => R (.panicked c15) w32))))) (fun c14 w30 => R (.panicked c14) w30))) (fun c13 w28 => R (.panicked c13) w28))) (fun c12 w26 => R (.panicked c12) w26))) (fun c11 w24 => R (.panicked c11) w24)))) (
                                            R (.returned (.bool true)) w22))) (fun c10 w21 => R (.panicked c10) w21)))) (fun c9 w19 => R (.panicked c9) w19)))) (fun c4 w8 => R (.panicked c4) w8))) (fun c3 w6 => R (.panicked c3) w6))))))) (fun c2 w4 => R (.panicked c2) w4)))) (fun c1 w2 => R (.panicked c1) w2))
theorem F5.eq (l1a : Option Addr) (l1l : Nat) (l1c : Nat) (rev1 : Int) (later1a : Option Addr) (later1l : Nat) (later1c : Nat) (w : World) (R : Ending → World → Prop) : lift Try.prog none F5.A 193 (bodyOf Try.f5) (retK Try.prog F5.A Try.f5 R) (argsF [.slice l1a l1l l1c, .int .i64 rev1, .slice later1a later1l later1c]) [] w = F5.sh l1a l1l l1c rev1 later1a later1l later1c w R := by kernel_rfl
theorem F5.calls_of (l1a : Option Addr) (l1l : Nat) (l1c : Nat) (rev1 : Int) (later1a : Option Addr) (later1l : Nat) (later1c : Nat) {w : World} {R : Ending → World → Prop} (h : F5.sh l1a l1l l1c rev1 later1a later1l later1c w R) : Calls Try.prog 5 #[.slice l1a l1l l1c, .int .i64 rev1, .slice later1a later1l later1c] w R :=
  calls_of_lift noNG mixedOk (fn := Try.f5) (c := bodyOf Try.f5) (args := [.slice l1a l1l l1c, .int .i64 rev1, .slice later1a later1l later1c]) Try.func5 rfl rfl (cast (F5.eq l1a l1l l1c rev1 later1a later1l later1c w R).symm h)

/-! #### doorman/doormanlaw14.SpansOnce -/
def F6.A : Ann := annOf [(15, (.one (.one .bool))), (19, (.one (.one .bool))), (40, (.one (.one .ptr))), (51, (.one (.one .str))), (59, (.one (.one (.int .i64)))), (68, (.one (.one .str))), (73, (.one (.one (.int .i64)))), (74, (.one (.one .bool))), (79, (.one (.one (.int .i64)))), (82, (.one (.one (.int .i64)))), (90, (.one (.one .bool))), (97, (.one (.one .bool))), (103, (.one (.one .bool))), (109, (.one (.one .bool))), (117, (.one (.one .bool))), (123, (.one (.one .bool))), (129, (.one (.one (.int .i64)))), (137, (.one (.one .bool))), (142, (.one (.one .bool))), (149, (.one (.one .bool))), (155, (.one (.one .bool))), (162, (.one (.one .bool))), (168, (.one (.one (.int .i64)))), (175, (.one (.one .bool))), (180, (.one (.one .bool))), (185, (.one (.one (.int .i64)))), (191, (.one (.one (.int .i64)))), (200, (.one (.one .bool)))] [(10, [12, 13], [(.one (.int .i64)), (.one (.int .i64))], [41, 42, 43, 44, 45, 46, 47, 48, 49, 50, 51, 52, 53, 54, 55, 56, 57, 58, 59, 60, 61, 62, 63, 64, 65, 66, 67, 68, 69, 70, 71, 72, 73, 74, 75, 76, 77, 78, 79])]
def F6.sh (l1a : Option Addr) (l1l : Nat) (l1c : Nat) (key1 : ByteArray) (a1 : Int) (b1 : Int) (w : World) (R : Ending → World → Prop) : Prop :=
  Calls Try.prog 8 #[] w (endK (fun v1 w1 =>
      ∃ x1 : Bool, v1 = .bool x1 ∧
      iteP (!x1) (
        R (.returned (.bool false)) w1) (
        Calls Try.prog 9 #[.slice l1a l1l l1c] w1 (endK (fun v2 w3 =>
            ∃ x2 : Bool, v2 = .bool x2 ∧
            iteP (!x2) (
              R (.returned (.bool true)) w3) (
              iteP ((decide (a1 < 1))) (
                R (.returned (.bool true)) w3) (
                iteP ((decide (b1 ≤ a1))) (
                  R (.returned (.bool true)) w3) (
                  iteP ((decide (b1 > 1000000))) (
                    R (.returned (.bool true)) w3) (
                    iteP ((decide ((key1.size : Int) > 40))) (
                      R (.returned (.bool true)) w3) (
                      Calls Try.prog 10 #[] w3 (endK (fun v3 w5 =>
                          ∃ x3 : Option Addr, v3 = .pointer x3 ∧
                          ∃ I1 : Int → Int → Nat → World → Prop, (∃ k1, I1 0 0 k1 w5) ∧
                          ∀ last1 : Int, ∀ i1 : Int, ∀ (k2 : Nat) (w7 : World), I1 last1 i1 k2 w7 → ∀ z1 : Fr,
                          iteP ((decide (i1 < ((l1l : Nat) : Int)))) (
                            ((0 : Int) ≤ i1 ∧ i1 < ((l1l : Nat) : Int)) ∧
                            onSome l1a fun p1 =>
                            ∃ x4 : ByteArray, w7.cell? (Addr.add (Addr.add p1 (Int.toNat i1 * 3)) 1) = some (.string x4) ∧
                            iteP ((!(x4.toList == key1.toList))) (
                              ((0 : Int) ≤ i1 ∧ i1 < ((l1l : Nat) : Int)) ∧
                              onSome l1a fun p2 =>
                              ∃ x5 : Int, w7.cell? (Addr.add (Addr.add p2 (Int.toNat i1 * 3)) 2) = some (.int .i64 x5) ∧
                              iteP ((decide (x5 < a1))) (
                                ((0 : Int) ≤ i1 ∧ i1 < ((l1l : Nat) : Int)) ∧
                                onSome l1a fun p3 =>
                                ∃ x6 : ByteArray, w7.drew.cell? (Addr.add (Addr.add p3 (Int.toNat i1 * 3)) 1) = some (.string x6) ∧
                                ((0 : Int) ≤ i1 ∧ i1 < ((l1l : Nat) : Int)) ∧
                                onSome l1a fun p4 =>
                                ∃ x7 : Int, w7.drew.cell? (Addr.add (Addr.add p4 (Int.toNat i1 * 3)) 2) = some (.int .i64 x7) ∧
                                Calls Try.prog 11 #[.pointer x3, .string x6, .int .i64 x7] w7.drew (endK (fun v4 w8 =>
                                    ∃ x8 : Bool, v4 = .bool x8 ∧
                                    iteP x8 (
                                      ((0 : Int) ≤ i1 ∧ i1 < ((l1l : Nat) : Int)) ∧
                                      onSome l1a fun p5 =>
                                      ∃ x9 : Int, w8.cell? (Addr.add (Addr.add p5 (Int.toNat i1 * 3)) 2) = some (.int .i64 x9) ∧
                                      ∃ k3, k3 < k2 ∧ I1 x9 ((IntKind.wrap .i64 (i1 + 1))) k3 w8) (
                                      ∃ k3, k3 < k2 ∧ I1 last1 ((IntKind.wrap .i64 (i1 + 1))) k3 w8)) (fun c4 w9 => ∀ g : Fr, R (.panicked c4) w9))) (
                                ∃ k3, k3 < k2 ∧ I1 last1 ((IntKind.wrap .i64 (i1 + 1))) k3 w7)) (
                              ∃ k3, k3 < k2 ∧ I1 last1 ((IntKind.wrap .i64 (i1 + 1))) k3 w7)) (
                            Calls Try.prog 21 #[.pointer x3, .int .i64 a1] w7 (endK (fun v5 w10 =>
                                ∃ x10 : Int, v5 = .int .i64 x10 ∧
                                iteP ((decide (last1 > a1))) (
                                  R (.returned (.bool false)) w10) (
                                  Calls Try.prog 11 #[.pointer x3, .string key1, .int .i64 a1] w10 (endK (fun v6 w12 =>
                                      ∃ x11 : Bool, v6 = .bool x11 ∧
                                      iteP (!x11) (
                                        R (.returned (.bool false)) w12) (
                                        Calls Try.prog 11 #[.pointer x3, .string key1, .int .i64 a1] w12 (endK (fun v7 w14 =>
                                            ∃ x12 : Bool, v7 = .bool x12 ∧
                                            iteP x12 (
                                              R (.returned (.bool false)) w14) (
                                              Calls Try.prog 11 #[.pointer x3, .string key1, .int .i64 b1] w14 (endK (fun v8 w16 =>
                                                  ∃ x13 : Bool, v8 = .bool x13 ∧
                                                  iteP x13 (
                                                    R (.returned (.bool false)) w16) (
                                                    Calls Try.prog 19 #[.pointer x3, .string key1, .int .i64 a1] w16 (endK (fun v9 w18 =>
                                                        ∃ x14 : Bool, v9 = .bool x14 ∧
                                                        iteP (!x14) (
                                                          R (.returned (.bool false)) w18) (
                                                          Calls Try.prog 19 #[.pointer x3, .string key1, .int .i64 (IntKind.wrap .i64 (a1 - 1))] w18 (endK (fun v10 w20 =>
                                                              ∃ x15 : Bool, v10 = .bool x15 ∧
                                                              iteP x15 (
                                                                R (.returned (.bool false)) w20) (
                                                                Calls Try.prog 19 #[.pointer x3, .string key1, .int .i64 b1] w20 (endK (fun v11 w22 =>
                                                                    ∃ x16 : Bool, v11 = .bool x16 ∧
                                                                    iteP (!x16) (
                                                                      R (.returned (.bool false)) w22) (
                                                                      Calls Try.prog 21 #[.pointer x3, .int .i64 a1] w22 (endK (fun v12 w24 =>
                                                                          ∃ x17 : Int, v12 = .int .i64 x17 ∧
                                                                          iteP ((x17 != (IntKind.wrap .i64 (x10 + 1)))) (
                                                                            R (.returned (.bool false)) w24) (
                                                                            Calls Try.prog 13 #[.pointer x3, .string key1, .int .i64 a1] w24 (endK (fun v13 w26 =>
                                                                                ∃ x18 : Bool, v13 = .bool x18 ∧
                                                                                iteP x18 (
                                                                                R (.returned (.bool false)) w26) (
                                                                                Calls Try.prog 13 #[.pointer x3, .string key1, .int .i64 b1] w26 (endK (fun v14 w28 =>
                                                                                ∃ x19 : Bool, v14 = .bool x19 ∧
                                                                                iteP (!x19) (
                                                                                R (.returned (.bool false)) w28) (
                                                                                Calls Try.prog 13 #[.pointer x3, .string key1, .int .i64 b1] w28 (endK (fun v15 w30 =>
                                                                                ∃ x20 : Bool, v15 = .bool x20 ∧
                                                                                iteP x20 (
                                                                                R (.returned (.bool false)) w30) (
                                                                                Calls Try.prog 19 #[.pointer x3, .string key1, .int .i64 b1] w30 (endK (fun v16 w32 =>
                                                                                ∃ x21 : Bool, v16 = .bool x21 ∧
                                                                                iteP x21 (
                                                                                R (.returned (.bool false)) w32) (
                                                                                Calls Try.prog 19 #[.pointer x3, .string key1, .int .i64 (IntKind.wrap .i64 (b1 - 1))] w32 (endK (fun v17 w34 =>
                                                                                ∃ x22 : Bool, v17 = .bool x22 ∧
                                                                                iteP (!x22) (
                                                                                R (.returned (.bool false)) w34) (
                                                                                Calls Try.prog 21 #[.pointer x3, .int .i64 b1] w34 (endK (fun v18 w36 =>
                                                                                ∃ x23 : Int, v18 = .int .i64 x23 ∧
                                                                                iteP (x23 != x10) (
                                                                                R (.returned (.bool false)) w36) (
                                                                                Calls Try.prog 11 #[.pointer x3, .string key1, .int .i64 b1] w36 (endK (fun v19 w38 =>
                                                                                ∃ x24 : Bool, v19 = .bool x24 ∧
                                                                                iteP x24 (
                                                                                Calls Try.prog 19 #[.pointer x3, .string key1, .int .i64 b1] w38 (endK (fun v20 w40 =>
                                                                                ∃ x25 : Bool, v20 = .bool x25 ∧
                                                                                iteP x25 (
                                                                                Calls Try.prog 15 #[.pointer x3, .int .i64 b1] w40 (endK (fun v21 w42 =>
                                                                                ∃ x26 : Int, v21 = .int .i64 x26 ∧
                                                                                iteP (x26 == 1) (
                                                                                Calls Try.prog 21 #[.pointer x3, .int .i64 b1] w42 (endK (fun v22 w44 =>
                                                                                ∃ x27 : Int, v22 = .int .i64 x27 ∧
                                                                                iteP ((x27 == (IntKind.wrap .i64 (x10 + 1)))) (
                                                                                Calls Try.prog 19 #[.pointer x3, .string key1, .int .i64 b1] w44 (endK (fun v23 w46 =>
                                                                                ∃ x28 : Bool, v23 = .bool x28 ∧
                                                                                R (.returned (.bool x28)) w46) (fun c23 w47 => R (.panicked c23) w47))) (
                                                                                R (.returned (.bool false)) w44)) (fun c22 w45 => R (.panicked c22) w45))) (
                                                                                R (.returned (.bool false)) w42)) (fun c21 w43 => R (.panicked c21) w43))) (
                                                                                R (.returned (.bool false)) w40)) (fun c20 w41 => R (.panicked c20) w41))) (
                                                                                R (.returned (.bool false)) w38)) (fun c19 w39 => R (.panicked c19) w39)))) (fun c18 w37 => R (.panicked c18) w37)))) (fun c17 w35 => R (.panicked c17) w35)))) (fun c16 w33 => R (.panicked c16) w33)))) (fun c15 w31 => R (.panicked c15) w31)))) (fun c14 w29 => R (.panicked c14) w29)))) (fun c13 w27 => R (.panicked c13) w27)))) (fun c12 w25 => R (.panicked c12) w25)))) (fun c11 w23 => R (.panicked c11) w23)))) (fun c10 w21 => R (.panicked c10) w21)))) (fun c9 w19 => R (.panicked c9) w19)))) (fun c8 w17 => R (.panicked c8) w17)))) (fun c7 w15 => R (.panicked c7) w15)))) (fun c6 w13 => R (.panicked c6) w13)))) (fun c5 w11 => R (.panicked c5) w11)))) (fun c3 w6 => R (.panicked c3) w6)))))))) (fun c2 w4 => R (.panicked c2) w4)))) (fun c1 w2 => R (.panicked c1) w2))
theorem F6.eq (l1a : Option Addr) (l1l : Nat) (l1c : Nat) (key1 : ByteArray) (a1 : Int) (b1 : Int) (w : World) (R : Ending → World → Prop) : lift Try.prog none F6.A 202 (bodyOf Try.f6) (retK Try.prog F6.A Try.f6 R) (argsF [.slice l1a l1l l1c, .string key1, .int .i64 a1, .int .i64 b1]) [] w = F6.sh l1a l1l l1c key1 a1 b1 w R := by kernel_rfl
theorem F6.calls_of (l1a : Option Addr) (l1l : Nat) (l1c : Nat) (key1 : ByteArray) (a1 : Int) (b1 : Int) {w : World} {R : Ending → World → Prop} (h : F6.sh l1a l1l l1c key1 a1 b1 w R) : Calls Try.prog 6 #[.slice l1a l1l l1c, .string key1, .int .i64 a1, .int .i64 b1] w R :=
  calls_of_lift noNG mixedOk (fn := Try.f6) (c := bodyOf Try.f6) (args := [.slice l1a l1l l1c, .string key1, .int .i64 a1, .int .i64 b1]) Try.func6 rfl rfl (cast (F6.eq l1a l1l l1c key1 a1 b1 w R).symm h)

/-! #### doorman/doormanlaw14.SpansEvents -/
def F7.A : Ann := annOf [(16, (.one (.one .bool))), (20, (.one (.one .bool))), (33, (.one (.one .ptr))), (44, (.one (.one (.int .u8)))), (52, (.one (.one .str))), (57, (.one (.one (.int .i64)))), (58, (.one (.one .bool))), (64, (.one (.one .str))), (69, (.one (.one (.int .i64)))), (70, (.one (.one .bool))), (75, (.one (.one .slice))), (76, (.one (.one .slice))), (81, (.one (.one .slice))), (82, (.one (.one .slice))), (86, (.one (.one .slice))), (96, (.one (.one .slice))), (104, (.one (.one .slice))), (122, (.one (.agg [(.int .i64), .str, .bool]))), (126, (.one (.agg [(.int .i64), .str, .bool]))), (127, (.one (.one .bool))), (133, (.one (.one (.int .i64)))), (142, (.one (.one (.int .i64))))] [(9, [12], [(.one (.int .i64))], [34, 35, 36, 37, 38, 39, 40, 41, 42, 43, 44, 45, 46, 47, 48, 49, 50, 51, 52, 53, 54, 55, 56, 57, 58, 59, 60, 61, 62, 63, 64, 65, 66, 67, 68, 69, 70]), (21, [15], [(.one (.int .i64))], [8, 113, 114, 115, 116, 117, 118, 119, 120, 121, 122, 123, 124, 125, 126, 127, 128, 129, 130, 131, 132, 133, 134, 135, 136, 137, 138, 139, 140, 141, 142, 143, 144, 145])]
def F7.sh (l1a : Option Addr) (l1l : Nat) (l1c : Nat) (a1 : Int) (b1 : Int) (c1 : Int) (w : World) (R : Ending → World → Prop) : Prop :=
  Calls Try.prog 8 #[] w (endK (fun v1 w1 =>
      ∃ x1 : Bool, v1 = .bool x1 ∧
      iteP (!x1) (
        R (.returned (.bool false)) w1) (
        Calls Try.prog 9 #[.slice l1a l1l l1c] w1 (endK (fun v2 w3 =>
            ∃ x2 : Bool, v2 = .bool x2 ∧
            iteP (!x2) (
              R (.returned (.bool true)) w3) (
              iteP ((decide (a1 > b1))) (
                R (.returned (.bool true)) w3) (
                iteP ((decide (b1 > c1))) (
                  R (.returned (.bool true)) w3) (
                  Calls Try.prog 10 #[] w3 (endK (fun v3 w5 =>
                      ∃ x3 : Option Addr, v3 = .pointer x3 ∧
                      ∃ I1 : Int → Nat → World → Prop, (∃ k1, I1 0 k1 w5) ∧
                      ∀ i1 : Int, ∀ (k2 : Nat) (w7 : World), I1 i1 k2 w7 → ∀ z1 : Fr,
                      iteP ((decide (i1 < ((l1l : Nat) : Int)))) (
                        ((0 : Int) ≤ i1 ∧ i1 < ((l1l : Nat) : Int)) ∧
                        onSome l1a fun p1 =>
                        ∃ x4 : Int, w7.cell? (Addr.add p1 (Int.toNat i1 * 3)) = some (.int .u8 x4) ∧
                        iteP (((Int.tmod x4 2) == 0)) (
                          ((0 : Int) ≤ i1 ∧ i1 < ((l1l : Nat) : Int)) ∧
                          onSome l1a fun p2 =>
                          ∃ x5 : ByteArray, w7.drew.cell? (Addr.add (Addr.add p2 (Int.toNat i1 * 3)) 1) = some (.string x5) ∧
                          ((0 : Int) ≤ i1 ∧ i1 < ((l1l : Nat) : Int)) ∧
                          onSome l1a fun p3 =>
                          ∃ x6 : Int, w7.drew.cell? (Addr.add (Addr.add p3 (Int.toNat i1 * 3)) 2) = some (.int .i64 x6) ∧
                          Calls Try.prog 11 #[.pointer x3, .string x5, .int .i64 x6] w7.drew (endK (fun v4 w8 =>
                              ∃ x7 : Bool, v4 = .bool x7 ∧
                              ∃ k3, k3 < k2 ∧ I1 ((IntKind.wrap .i64 (i1 + 1))) k3 w8) (fun c5 w9 => ∀ g : Fr, R (.panicked c5) w9))) (
                          ((0 : Int) ≤ i1 ∧ i1 < ((l1l : Nat) : Int)) ∧
                          onSome l1a fun p4 =>
                          ∃ x8 : ByteArray, w7.drew.cell? (Addr.add (Addr.add p4 (Int.toNat i1 * 3)) 1) = some (.string x8) ∧
                          ((0 : Int) ≤ i1 ∧ i1 < ((l1l : Nat) : Int)) ∧
                          onSome l1a fun p5 =>
                          ∃ x9 : Int, w7.drew.cell? (Addr.add (Addr.add p5 (Int.toNat i1 * 3)) 2) = some (.int .i64 x9) ∧
                          Calls Try.prog 13 #[.pointer x3, .string x8, .int .i64 x9] w7.drew (endK (fun v5 w10 =>
                              ∃ x10 : Bool, v5 = .bool x10 ∧
                              ∃ k3, k3 < k2 ∧ I1 ((IntKind.wrap .i64 (i1 + 1))) k3 w10) (fun c6 w11 => ∀ g : Fr, R (.panicked c6) w11)))) (
                        Calls Try.prog 23 #[.pointer x3, .int .i64 a1, .int .i64 b1] w7 (endK (fun v6 w12 =>
                            ∃ x11a : Option Addr, ∃ x11l : Nat, ∃ x11c : Nat, v6 = .slice x11a x11l x11c ∧
                            runK Try.prog (Builtin.append_ #[44, 44] 44 #[.slice none 0 0, .slice x11a x11l x11c]) w12 fun v7 w14 =>
                            ∃ x12a : Option Addr, ∃ x12l : Nat, ∃ x12c : Nat, v7 = .slice x12a x12l x12c ∧
                            Calls Try.prog 23 #[.pointer x3, .int .i64 b1, .int .i64 c1] w14 (endK (fun v8 w15 =>
                                ∃ x13a : Option Addr, ∃ x13l : Nat, ∃ x13c : Nat, v8 = .slice x13a x13l x13c ∧
                                runK Try.prog (Builtin.append_ #[44, 44] 44 #[.slice x12a x12l x12c, .slice x13a x13l x13c]) w15 fun v9 w17 =>
                                ∃ x14a : Option Addr, ∃ x14l : Nat, ∃ x14c : Nat, v9 = .slice x14a x14l x14c ∧
                                Calls Try.prog 23 #[.pointer x3, .int .i64 a1, .int .i64 c1] w17 (endK (fun v10 w18 =>
                                    ∃ x15a : Option Addr, ∃ x15l : Nat, ∃ x15c : Nat, v10 = .slice x15a x15l x15c ∧
                                    iteP ((((x14l : Nat) : Int) != ((x15l : Nat) : Int))) (
                                      R (.returned (.bool false)) w18) (
                                      Calls Try.prog 23 #[.pointer x3, .int .i64 b1, .int .i64 b1] w18 (endK (fun v11 w20 =>
                                          ∃ x16a : Option Addr, ∃ x16l : Nat, ∃ x16c : Nat, v11 = .slice x16a x16l x16c ∧
                                          iteP ((((x16l : Nat) : Int) != 0)) (
                                            R (.returned (.bool false)) w20) (
                                            Calls Try.prog 23 #[.pointer x3, .int .i64 c1, .int .i64 a1] w20 (endK (fun v12 w22 =>
                                                ∃ x17a : Option Addr, ∃ x17l : Nat, ∃ x17c : Nat, v12 = .slice x17a x17l x17c ∧
                                                iteP ((((x17l : Nat) : Int) != 0)) (
                                                  iteP (a1 != c1) (
                                                    R (.returned (.bool false)) w22) (
                                                    ∃ I2 : Int → Nat → World → Prop, (∃ k4, I2 0 k4 w22) ∧
                                                    ∀ i2 : Int, ∀ (k5 : Nat) (w24 : World), I2 i2 k5 w24 → ∀ z2 : Fr,
                                                    iteP ((decide (i2 < ((x14l : Nat) : Int)))) (
                                                      ((0 : Int) ≤ i2 ∧ i2 < ((x14l : Nat) : Int)) ∧
                                                      onSome x14a fun p6 =>
                                                      ∃ x18 : Int, w24.drew.cell? (Addr.add p6 (Int.toNat i2 * 3)) = some (.int .i64 x18) ∧ ∃ x19 : ByteArray, w24.drew.cell? (Addr.add (Addr.add p6 (Int.toNat i2 * 3)) 1) = some (.string x19) ∧ ∃ x20 : Bool, w24.drew.cell? (Addr.add (Addr.add p6 (Int.toNat i2 * 3)) 2) = some (.bool x20) ∧ 
                                                      ((0 : Int) ≤ i2 ∧ i2 < ((x15l : Nat) : Int)) ∧
                                                      onSome x15a fun p7 =>
                                                      ∃ x21 : Int, w24.drew.cell? (Addr.add p7 (Int.toNat i2 * 3)) = some (.int .i64 x21) ∧ ∃ x22 : ByteArray, w24.drew.cell? (Addr.add (Addr.add p7 (Int.toNat i2 * 3)) 1) = some (.string x22) ∧ ∃ x23 : Bool, w24.drew.cell? (Addr.add (Addr.add p7 (Int.toNat i2 * 3)) 2) = some (.bool x23) ∧ 
                                                      rdRunK Try.prog ((do eqGuard .neq 49 (.tmp 122) (.tmp 126) (.agg #[.int .i64 x18, .string x19, .bool x20]) (.agg #[.int .i64 x21, .string x22, .bool x23]); binOp .neq 49 (.agg #[.int .i64 x18, .string x19, .bool x20]) (.agg #[.int .i64 x21, .string x22, .bool x23]))) w24.drew fun v13 =>
                                                      ∃ b2 : Bool, v13 = .bool b2 ∧
                                                      iteP b2 (
                                                        R (.returned (.bool false)) w24.drew) (
                                                        ((0 : Int) ≤ i2 ∧ i2 < ((x15l : Nat) : Int)) ∧
                                                        onSome x15a fun p8 =>
                                                        ∃ x24 : Int, w24.drew.cell? (Addr.add p8 (Int.toNat i2 * 3)) = some (.int .i64 x24) ∧
                                                        iteP ((decide (x24 ≤ a1))) (
                                                          R (.returned (.bool false)) w24.drew) (
                                                          ((0 : Int) ≤ i2 ∧ i2 < ((x15l : Nat) : Int)) ∧
                                                          onSome x15a fun p9 =>
                                                          ∃ x25 : Int, w24.drew.cell? (Addr.add p9 (Int.toNat i2 * 3)) = some (.int .i64 x25) ∧
                                                          iteP ((decide (x25 > c1))) (
                                                            R (.returned (.bool false)) w24.drew) (
                                                            ∃ k6, k6 < k5 ∧ I2 ((IntKind.wrap .i64 (i2 + 1))) k6 w24.drew)))) (
                                                      R (.returned (.bool true)) w24))) (
                                                  ∃ I3 : Int → Nat → World → Prop, (∃ k7, I3 0 k7 w22) ∧
                                                  ∀ i3 : Int, ∀ (k8 : Nat) (w25 : World), I3 i3 k8 w25 → ∀ z3 : Fr,
                                                  iteP ((decide (i3 < ((x14l : Nat) : Int)))) (
                                                    ((0 : Int) ≤ i3 ∧ i3 < ((x14l : Nat) : Int)) ∧
                                                    onSome x14a fun p10 =>
                                                    ∃ x26 : Int, w25.drew.cell? (Addr.add p10 (Int.toNat i3 * 3)) = some (.int .i64 x26) ∧ ∃ x27 : ByteArray, w25.drew.cell? (Addr.add (Addr.add p10 (Int.toNat i3 * 3)) 1) = some (.string x27) ∧ ∃ x28 : Bool, w25.drew.cell? (Addr.add (Addr.add p10 (Int.toNat i3 * 3)) 2) = some (.bool x28) ∧ 
                                                    ((0 : Int) ≤ i3 ∧ i3 < ((x15l : Nat) : Int)) ∧
                                                    onSome x15a fun p11 =>
                                                    ∃ x29 : Int, w25.drew.cell? (Addr.add p11 (Int.toNat i3 * 3)) = some (.int .i64 x29) ∧ ∃ x30 : ByteArray, w25.drew.cell? (Addr.add (Addr.add p11 (Int.toNat i3 * 3)) 1) = some (.string x30) ∧ ∃ x31 : Bool, w25.drew.cell? (Addr.add (Addr.add p11 (Int.toNat i3 * 3)) 2) = some (.bool x31) ∧ 
                                                    rdRunK Try.prog ((do eqGuard .neq 49 (.tmp 122) (.tmp 126) (.agg #[.int .i64 x26, .string x27, .bool x28]) (.agg #[.int .i64 x29, .string x30, .bool x31]); binOp .neq 49 (.agg #[.int .i64 x26, .string x27, .bool x28]) (.agg #[.int .i64 x29, .string x30, .bool x31]))) w25.drew fun v14 =>
                                                    ∃ b3 : Bool, v14 = .bool b3 ∧
                                                    iteP b3 (
                                                      R (.returned (.bool false)) w25.drew) (
                                                      ((0 : Int) ≤ i3 ∧ i3 < ((x15l : Nat) : Int)) ∧
                                                      onSome x15a fun p12 =>
                                                      ∃ x32 : Int, w25.drew.cell? (Addr.add p12 (Int.toNat i3 * 3)) = some (.int .i64 x32) ∧
                                                      iteP ((decide (x32 ≤ a1))) (
                                                        R (.returned (.bool false)) w25.drew) (
                                                        ((0 : Int) ≤ i3 ∧ i3 < ((x15l : Nat) : Int)) ∧
                                                        onSome x15a fun p13 =>
                                                        ∃ x33 : Int, w25.drew.cell? (Addr.add p13 (Int.toNat i3 * 3)) = some (.int .i64 x33) ∧
                                                        iteP ((decide (x33 > c1))) (
                                                          R (.returned (.bool false)) w25.drew) (
                                                          ∃ k9, k9 < k8 ∧ I3 ((IntKind.wrap .i64 (i3 + 1))) k9 w25.drew)))) (
                                                    R (.returned (.bool true)) w25))) (fun c11 w23 => R (.panicked c11) w23)))) (fun c10 w21 => R (.panicked c10) w21)))) (fun c9 w19 => R (.panicked c9) w19))) (fun c8 w16 => R (.panicked c8) w16))) (fun c7 w13 => R (.panicked c7) w13)))) (fun c4 w6 => R (.panicked c4) w6)))))) (fun c3 w4 => R (.panicked c3) w4)))) (fun c2 w2 => R (.panicked c2) w2))
theorem F7.eq (l1a : Option Addr) (l1l : Nat) (l1c : Nat) (a1 : Int) (b1 : Int) (c1 : Int) (w : World) (R : Ending → World → Prop) : lift Try.prog none F7.A 146 (bodyOf Try.f7) (retK Try.prog F7.A Try.f7 R) (argsF [.slice l1a l1l l1c, .int .i64 a1, .int .i64 b1, .int .i64 c1]) [] w = F7.sh l1a l1l l1c a1 b1 c1 w R := by kernel_rfl
theorem F7.calls_of (l1a : Option Addr) (l1l : Nat) (l1c : Nat) (a1 : Int) (b1 : Int) (c1 : Int) {w : World} {R : Ending → World → Prop} (h : F7.sh l1a l1l l1c a1 b1 c1 w R) : Calls Try.prog 7 #[.slice l1a l1l l1c, .int .i64 a1, .int .i64 b1, .int .i64 c1] w R :=
  calls_of_lift noNG mixedOk (fn := Try.f7) (c := bodyOf Try.f7) (args := [.slice l1a l1l l1c, .int .i64 a1, .int .i64 b1, .int .i64 c1]) Try.func7 rfl rfl (cast (F7.eq l1a l1l l1c a1 b1 c1 w R).symm h)

/-! #### doorman/doormanlaw14.awake -/
def F8.A : Ann := annOf [(8, (.one (.one .ptr))), (10, (.one (.one .bool))), (12, (.one (.one .bool))), (14, (.one (.one .bool))), (17, (.tup [(.one .str), (.one .bool)])), (21, (.one (.one .slice))), (31, (.one (.one .bool))), (35, (.one (.one .bool))), (39, (.one (.one .bool))), (51, (.one (.one (.int .i64)))), (62, (.one (.agg [(.int .i64), .str, .bool]))), (64, (.one (.one .bool))), (70, (.one (.one .bool))), (74, (.one (.one (.int .i64)))), (79, (.one (.one .bool)))] []
def F8.sh (w : World) (R : Ending → World → Prop) : Prop :=
  Calls Try.prog 10 #[] w (endK (fun v1 w1 =>
      ∃ x1 : Option Addr, v1 = .pointer x1 ∧
      Calls Try.prog 11 #[.pointer x1, .string ⟨#[97]⟩, .int .i64 1] w1 (endK (fun v2 w3 =>
          ∃ x2 : Bool, v2 = .bool x2 ∧
          Calls Try.prog 13 #[.pointer x1, .string ⟨#[97]⟩, .int .i64 3] w3 (endK (fun v3 w5 =>
              ∃ x3 : Bool, v3 = .bool x3 ∧
              Calls Try.prog 11 #[.pointer x1, .string ⟨#[98]⟩, .int .i64 3] w5 (endK (fun v4 w7 =>
                  ∃ x4 : Bool, v4 = .bool x4 ∧
                  Calls Try.prog 17 #[.pointer x1, .int .i64 3, .string ⟨#[]⟩, .string ⟨#[]⟩] w7 (endK (fun v5 w9 =>
                      ∃ x5 : ByteArray, ∃ x6 : Bool, v5 = .tuple #[.string x5, .bool x6] ∧
                      Calls Try.prog 23 #[.pointer x1, .int .i64 1, .int .i64 3] w9 (endK (fun v6 w11 =>
                          ∃ x7a : Option Addr, ∃ x7l : Nat, ∃ x7c : Nat, v6 = .slice x7a x7l x7c ∧
                          iteP x2 (
                            iteP x3 (
                              iteP x4 (
                                Calls Try.prog 19 #[.pointer x1, .string ⟨#[97]⟩, .int .i64 1] w11 (endK (fun v7 w13 =>
                                    ∃ x8 : Bool, v7 = .bool x8 ∧
                                    iteP x8 (
                                      Calls Try.prog 19 #[.pointer x1, .string ⟨#[97]⟩, .int .i64 2] w13 (endK (fun v8 w15 =>
                                          ∃ x9 : Bool, v8 = .bool x9 ∧
                                          iteP x9 (
                                            Calls Try.prog 19 #[.pointer x1, .string ⟨#[97]⟩, .int .i64 3] w15 (endK (fun v9 w17 =>
                                                ∃ x10 : Bool, v9 = .bool x10 ∧
                                                iteP (!x10) (
                                                  iteP ((x5.toList == (⟨#[98]⟩ : ByteArray).toList)) (
                                                    iteP x6 (
                                                      Calls Try.prog 21 #[.pointer x1, .int .i64 2] w17 (endK (fun v10 w19 =>
                                                          ∃ x11 : Int, v10 = .int .i64 x11 ∧
                                                          iteP (x11 == 1) (
                                                            iteP ((((x7l : Nat) : Int) == 2)) (
                                                              ((0 : Int) ≤ 0 ∧ 0 < ((x7l : Nat) : Int)) ∧
                                                              onSome x7a fun p1 =>
                                                              ∃ x12 : Int, w19.cell? (Addr.add p1 (Int.toNat 0 * 3)) = some (.int .i64 x12) ∧ ∃ x13 : ByteArray, w19.cell? (Addr.add (Addr.add p1 (Int.toNat 0 * 3)) 1) = some (.string x13) ∧ ∃ x14 : Bool, w19.cell? (Addr.add (Addr.add p1 (Int.toNat 0 * 3)) 2) = some (.bool x14) ∧ 
                                                              runK Try.prog ((do eqGuard .eql 49 (.tmp 62) (.tmp 63) (.agg #[.int .i64 x12, .string x13, .bool x14]) (.agg #[.int .i64 3, .string ⟨#[97]⟩, .bool false]); binOp .eql 49 (.agg #[.int .i64 x12, .string x13, .bool x14]) (.agg #[.int .i64 3, .string ⟨#[97]⟩, .bool false]))) w19 fun v11 w21 =>
                                                              ∃ b1 : Bool, v11 = .bool b1 ∧
                                                              iteP b1 (
                                                                ((0 : Int) ≤ 1 ∧ 1 < ((x7l : Nat) : Int)) ∧
                                                                onSome x7a fun p2 =>
                                                                ∃ x15 : Bool, w21.cell? (Addr.add (Addr.add p2 (Int.toNat 1 * 3)) 2) = some (.bool x15) ∧
                                                                iteP x15 (
                                                                  Calls Try.prog 15 #[.pointer x1, .int .i64 3] w21 (endK (fun v12 w22 =>
                                                                      ∃ x16 : Int, v12 = .int .i64 x16 ∧
                                                                      iteP (x16 == 1) (
                                                                        Calls Try.prog 19 #[.pointer x1, .string ⟨#[97]⟩, .int .i64 2] w22 (endK (fun v13 w24 =>
                                                                            ∃ x17 : Bool, v13 = .bool x17 ∧
                                                                            R (.returned (.bool (!x17))) w24) (fun c12 w25 => R (.panicked c12) w25))) (
                                                                        R (.returned (.bool false)) w22)) (fun c11 w23 => R (.panicked c11) w23))) (
                                                                  R (.returned (.bool false)) w21)) (
                                                                R (.returned (.bool false)) w21)) (
                                                              R (.returned (.bool false)) w19)) (
                                                            R (.returned (.bool false)) w19)) (fun c10 w20 => R (.panicked c10) w20))) (
                                                      R (.returned (.bool false)) w17)) (
                                                    R (.returned (.bool false)) w17)) (
                                                  R (.returned (.bool false)) w17)) (fun c9 w18 => R (.panicked c9) w18))) (
                                            R (.returned (.bool false)) w15)) (fun c8 w16 => R (.panicked c8) w16))) (
                                      R (.returned (.bool false)) w13)) (fun c7 w14 => R (.panicked c7) w14))) (
                                R (.returned (.bool false)) w11)) (
                              R (.returned (.bool false)) w11)) (
                            R (.returned (.bool false)) w11)) (fun c6 w12 => R (.panicked c6) w12))) (fun c5 w10 => R (.panicked c5) w10))) (fun c4 w8 => R (.panicked c4) w8))) (fun c3 w6 => R (.panicked c3) w6))) (fun c2 w4 => R (.panicked c2) w4))) (fun c1 w2 => R (.panicked c1) w2))
theorem F8.eq (w : World) (R : Ending → World → Prop) : lift Try.prog none F8.A 82 (bodyOf Try.f8) (retK Try.prog F8.A Try.f8 R) (argsF []) [] w = F8.sh  w R := by kernel_rfl
theorem F8.calls_of {w : World} {R : Ending → World → Prop} (h : F8.sh  w R) : Calls Try.prog 8 #[] w R :=
  calls_of_lift noNG mixedOk (fn := Try.f8) (c := bodyOf Try.f8) (args := []) Try.func8 rfl rfl (cast (F8.eq  w R).symm h)

/-! #### doorman/doormanlaw14.few -/
def F9.A : Ann := annOf [(14, (.one (.one .str))), (22, (.one (.one (.int .i64))))] [(2, [3], [(.one (.int .i64))], [2, 4, 5, 6, 7, 8, 9, 10, 11, 12, 13, 14, 15, 16, 17, 18, 19, 20, 21, 22, 23, 24])]
def F9.sh (l1a : Option Addr) (l1l : Nat) (l1c : Nat) (w : World) (R : Ending → World → Prop) : Prop :=
  ∃ I1 : Int → Nat → World → Prop, (∃ k1, I1 0 k1 w) ∧
  ∀ i1 : Int, ∀ (k2 : Nat) (w1 : World), I1 i1 k2 w1 → ∀ z1 : Fr,
  iteP ((decide (i1 < ((l1l : Nat) : Int)))) (
    ((0 : Int) ≤ i1 ∧ i1 < ((l1l : Nat) : Int)) ∧
    onSome l1a fun p1 =>
    ∃ x1 : ByteArray, w1.cell? (Addr.add (Addr.add p1 (Int.toNat i1 * 3)) 1) = some (.string x1) ∧
    iteP ((decide ((x1.size : Int) > 40))) (
      R (.returned (.bool false)) w1) (
      ((0 : Int) ≤ i1 ∧ i1 < ((l1l : Nat) : Int)) ∧
      onSome l1a fun p2 =>
      ∃ x2 : Int, w1.cell? (Addr.add (Addr.add p2 (Int.toNat i1 * 3)) 2) = some (.int .i64 x2) ∧
      iteP ((decide (x2 > 1000000))) (
        R (.returned (.bool false)) w1) (
        ∃ k3, k3 < k2 ∧ I1 ((IntKind.wrap .i64 (i1 + 1))) k3 w1))) (
    R (.returned (.bool (decide (((l1l : Nat) : Int) ≤ 60)))) w1)
theorem F9.eq (l1a : Option Addr) (l1l : Nat) (l1c : Nat) (w : World) (R : Ending → World → Prop) : lift Try.prog none F9.A 28 (bodyOf Try.f9) (retK Try.prog F9.A Try.f9 R) (argsF [.slice l1a l1l l1c]) [] w = F9.sh l1a l1l l1c w R := by kernel_rfl
theorem F9.calls_of (l1a : Option Addr) (l1l : Nat) (l1c : Nat) {w : World} {R : Ending → World → Prop} (h : F9.sh l1a l1l l1c w R) : Calls Try.prog 9 #[.slice l1a l1l l1c] w R :=
  calls_of_lift noNG mixedOk (fn := Try.f9) (c := bodyOf Try.f9) (args := [.slice l1a l1l l1c]) Try.func9 rfl rfl (cast (F9.eq l1a l1l l1c w R).symm h)

/-! #### doorman/spans.New -/
def F10.A : Ann := annOf [] []
def F10.sh (w : World) (R : Ending → World → Prop) : Prop :=
  allocK w (.map #[] 0) fun w1 =>
  allocK w1 (.cells #[.map (some w.heap.size), .slice none 0 0, .int .i64 0] 60) fun w2 =>
  R (.returned (.pointer (some ⟨w1.heap.size, 0, none⟩))) w2
theorem F10.eq (w : World) (R : Ending → World → Prop) : lift Try.prog none F10.A 4 (bodyOf Try.f10) (retK Try.prog F10.A Try.f10 R) (argsF []) [] w = F10.sh  w R := by kernel_rfl
theorem F10.calls_of {w : World} {R : Ending → World → Prop} (h : F10.sh  w R) : Calls Try.prog 10 #[] w R :=
  calls_of_lift noNG mixedOk (fn := Try.f10) (c := bodyOf Try.f10) (args := []) Try.func10 rfl rfl (cast (F10.eq  w R).symm h)

/-! #### (*doorman/spans.Spans).Put -/
def F11.A : Ann := annOf [(20, (.one (.one (.int .i64)))), (26, (.one (.one .ptr))), (33, (.one (.one .slice))), (35, (.tup [(.one (.int .i64)), (.one .bool)])), (44, (.one (.one .slice))), (48, (.one (.one .slice))), (54, (.one (.one .map))), (59, (.one (.one .map))), (61, (.one (.one .slice))), (65, (.one (.one .slice)))] []
def F11.sh (s1 : Option Addr) (key1 : ByteArray) (rev1 : Int) (w : World) (R : Ending → World → Prop) : Prop :=
  iteP (Option.isNone s1) (
    R (.returned (.bool false)) w) (
    iteP ((decide (rev1 < 1))) (
      R (.returned (.bool false)) w) (
      onSome s1 fun p1 =>
      ∃ x1 : Int, w.cell? (Addr.add p1 2) = some (.int .i64 x1) ∧
      iteP ((decide (rev1 < x1))) (
        R (.returned (.bool false)) w) (
        Calls Try.prog 26 #[.pointer s1, .string key1] w (endK (fun v1 w1 =>
            ∃ x2 : Option Addr, v1 = .pointer x2 ∧
            iteP ((!(Option.isNone x2))) (
              R (.returned (.bool false)) w1) (
              onSome s1 fun p2 =>
              ∃ x3a : Option Addr, ∃ x3l : Nat, ∃ x3c : Nat, w1.cell? (Addr.add p2 1) = some (.slice x3a x3l x3c) ∧
              Calls Try.prog 27 #[.slice x3a x3l x3c, .string key1] w1 (endK (fun v2 w3 =>
                  ∃ x4 : Int, ∃ x5 : Bool, v2 = .tuple #[.int .i64 x4, .bool x5] ∧
                  iteP (!x5) (
                    onSome s1 fun p3 =>
                    ∃ x6a : Option Addr, ∃ x6l : Nat, ∃ x6c : Nat, w3.cell? (Addr.add p3 1) = some (.slice x6a x6l x6c) ∧
                    allocK w3 (.cells #[.string key1] 9) fun w5 =>
                    Calls Try.prog 28 #[.slice x6a x6l x6c, .int .i64 x4, .slice (some ⟨w3.heap.size, 0, none⟩) 1 1] w5 (endK (fun v3 w6 =>
                        ∃ x7a : Option Addr, ∃ x7l : Nat, ∃ x7c : Nat, v3 = .slice x7a x7l x7c ∧
                        onSome s1 fun p4 =>
                        storeK w6 (Addr.add p4 1) (.slice x7a x7l x7c) fun w8 =>
                        onSome s1 fun p5 =>
                        ∃ x8 : Option Nat, w8.drew.cell? p5 = some (.map x8) ∧
                        onSome s1 fun p6 =>
                        ∃ x9 : Option Nat, w8.drew.cell? p6 = some (.map x9) ∧
                        rdRunK Try.prog (Instr.lookup 58 (.map x9) (.string key1) false) w8.drew fun v4 =>
                        ∃ x10a : Option Addr, ∃ x10l : Nat, ∃ x10c : Nat, v4 = .slice x10a x10l x10c ∧
                        allocK w8.drew (.cells #[.int .i64 rev1, .int .i64 0] 68) fun w9 =>
                        (∃ x11 : Option Nat, w9.cell? p5 = some (.map x11) ∧
                          ((.map x11) : Value) = (.map x8)) ∧
                        (∃ x12 : Option Nat, w9.cell? p6 = some (.map x12) ∧
                          ((.map x12) : Value) = (.map x9)) ∧
                        (rdRunK Try.prog (Instr.lookup 58 (.map x9) (.string key1) false) w9 fun v5 =>
                          ∃ x13a : Option Addr, ∃ x13l : Nat, ∃ x13c : Nat, v5 = .slice x13a x13l x13c ∧
                          ((.slice x13a x13l x13c) : Value) = (.slice x10a x10l x10c)) ∧
                        runK Try.prog (Builtin.append_ #[66, 66] 66 #[.slice x10a x10l x10c, .slice (some ⟨w8.drew.heap.size, 0, none⟩) 1 1]) w9 fun v6 w10 =>
                        ∃ x14a : Option Addr, ∃ x14l : Nat, ∃ x14c : Nat, v6 = .slice x14a x14l x14c ∧
                        (∃ x15 : Option Nat, w10.cell? p5 = some (.map x15) ∧
                          ((.map x15) : Value) = (.map x8)) ∧
                        runK Try.prog (unitV (Instr.mapUpdate 58 (.map x8) (.string key1) (.slice x14a x14l x14c))) w10 fun v7 w11 =>
                        onSome s1 fun p7 =>
                        storeK w11 (Addr.add p7 2) (.int .i64 rev1) fun w12 =>
                        R (.returned (.bool true)) w12) (fun c3 w7 => R (.panicked c3) w7))) (
                    onSome s1 fun p8 =>
                    ∃ x16 : Option Nat, w3.drew.cell? p8 = some (.map x16) ∧
                    onSome s1 fun p9 =>
                    ∃ x17 : Option Nat, w3.drew.cell? p9 = some (.map x17) ∧
                    rdRunK Try.prog (Instr.lookup 58 (.map x17) (.string key1) false) w3.drew fun v8 =>
                    ∃ x18a : Option Addr, ∃ x18l : Nat, ∃ x18c : Nat, v8 = .slice x18a x18l x18c ∧
                    allocK w3.drew (.cells #[.int .i64 rev1, .int .i64 0] 68) fun w13 =>
                    (∃ x19 : Option Nat, w13.cell? p8 = some (.map x19) ∧
                      ((.map x19) : Value) = (.map x16)) ∧
                    (∃ x20 : Option Nat, w13.cell? p9 = some (.map x20) ∧
                      ((.map x20) : Value) = (.map x17)) ∧
                    (rdRunK Try.prog (Instr.lookup 58 (.map x17) (.string key1) false) w13 fun v9 =>
                      ∃ x21a : Option Addr, ∃ x21l : Nat, ∃ x21c : Nat, v9 = .slice x21a x21l x21c ∧
                      ((.slice x21a x21l x21c) : Value) = (.slice x18a x18l x18c)) ∧
                    runK Try.prog (Builtin.append_ #[66, 66] 66 #[.slice x18a x18l x18c, .slice (some ⟨w3.drew.heap.size, 0, none⟩) 1 1]) w13 fun v10 w14 =>
                    ∃ x22a : Option Addr, ∃ x22l : Nat, ∃ x22c : Nat, v10 = .slice x22a x22l x22c ∧
                    (∃ x23 : Option Nat, w14.cell? p8 = some (.map x23) ∧
                      ((.map x23) : Value) = (.map x16)) ∧
                    runK Try.prog (unitV (Instr.mapUpdate 58 (.map x16) (.string key1) (.slice x22a x22l x22c))) w14 fun v11 w15 =>
                    onSome s1 fun p10 =>
                    storeK w15 (Addr.add p10 2) (.int .i64 rev1) fun w16 =>
                    R (.returned (.bool true)) w16)) (fun c2 w4 => R (.panicked c2) w4)))) (fun c1 w2 => R (.panicked c1) w2)))))
theorem F11.eq (s1 : Option Addr) (key1 : ByteArray) (rev1 : Int) (w : World) (R : Ending → World → Prop) : lift Try.prog none F11.A 70 (bodyOf Try.f11) (retK Try.prog F11.A Try.f11 R) (argsF [.pointer s1, .string key1, .int .i64 rev1]) [] w = F11.sh s1 key1 rev1 w R := by kernel_rfl
theorem F11.calls_of (s1 : Option Addr) (key1 : ByteArray) (rev1 : Int) {w : World} {R : Ending → World → Prop} (h : F11.sh s1 key1 rev1 w R) : Calls Try.prog 11 #[.pointer s1, .string key1, .int .i64 rev1] w R :=
  calls_of_lift noNG mixedOk (fn := Try.f11) (c := bodyOf Try.f11) (args := [.pointer s1, .string key1, .int .i64 rev1]) Try.func11 rfl rfl (cast (F11.eq s1 key1 rev1 w R).symm h)

/-! #### doorman/doormanref14.Put -/
def F12.A : Ann := annOf [(14, (.one (.one (.int .i64)))), (18, (.one (.agg [.slice, (.int .i64)]))), (20, (.one (.one (.int .i64)))), (23, (.one (.agg [.slice, (.int .i64)]))), (26, (.one (.one .slice))), (27, (.one (.one .slice))), (33, (.one (.one .slice))), (100006, (.one (.agg [.slice, (.int .i64)])))] []
def F12.sh (s1a : Option Addr) (s1l : Nat) (s1c : Nat) (s2 : Int) (key1 : ByteArray) (rev1 : Int) (w : World) (R : Ending → World → Prop) : Prop :=
  allocK w (.cells #[.slice s1a s1l s1c, .int .i64 s2] 30) fun w1 =>
  allocK w1 (.cells #[.slice none 0 0, .int .i64 0] 30) fun w2 =>
  iteP ((decide (rev1 < 1))) (
    ∃ x1a : Option Addr, ∃ x1l : Nat, ∃ x1c : Nat, w2.cell? ⟨w.heap.size, 0, none⟩ = some (.slice x1a x1l x1c) ∧ ∃ x2 : Int, w2.cell? ⟨w.heap.size, 1, none⟩ = some (.int .i64 x2) ∧ 
    storeK w2 ⟨w1.heap.size, 0, none⟩ (.slice x1a x1l x1c) fun w3 =>
    storeK w3 ⟨w1.heap.size, 1, none⟩ (.int .i64 x2) fun w4 =>
    ∃ x3a : Option Addr, ∃ x3l : Nat, ∃ x3c : Nat, w4.cell? ⟨w1.heap.size, 0, none⟩ = some (.slice x3a x3l x3c) ∧ ∃ x4 : Int, w4.cell? ⟨w1.heap.size, 1, none⟩ = some (.int .i64 x4) ∧ 
    R (.returned (.tuple #[.agg #[.slice x3a x3l x3c, .int .i64 x4], .bool false])) w4) (
    ∃ x5 : Int, w2.cell? ⟨w.heap.size, 1, none⟩ = some (.int .i64 x5) ∧
    iteP ((decide (rev1 < x5))) (
      ∃ x6a : Option Addr, ∃ x6l : Nat, ∃ x6c : Nat, w2.cell? ⟨w.heap.size, 0, none⟩ = some (.slice x6a x6l x6c) ∧ ∃ x7 : Int, w2.cell? ⟨w.heap.size, 1, none⟩ = some (.int .i64 x7) ∧ 
      storeK w2 ⟨w1.heap.size, 0, none⟩ (.slice x6a x6l x6c) fun w5 =>
      storeK w5 ⟨w1.heap.size, 1, none⟩ (.int .i64 x7) fun w6 =>
      ∃ x8a : Option Addr, ∃ x8l : Nat, ∃ x8c : Nat, w6.cell? ⟨w1.heap.size, 0, none⟩ = some (.slice x8a x8l x8c) ∧ ∃ x9 : Int, w6.cell? ⟨w1.heap.size, 1, none⟩ = some (.int .i64 x9) ∧ 
      R (.returned (.tuple #[.agg #[.slice x8a x8l x8c, .int .i64 x9], .bool false])) w6) (
      ∃ x10a : Option Addr, ∃ x10l : Nat, ∃ x10c : Nat, w2.cell? ⟨w.heap.size, 0, none⟩ = some (.slice x10a x10l x10c) ∧ ∃ x11 : Int, w2.cell? ⟨w.heap.size, 1, none⟩ = some (.int .i64 x11) ∧ 
      Calls Try.prog 29 #[.agg #[.slice x10a x10l x10c, .int .i64 x11], .string key1] w2 (endK (fun v1 w7 =>
          ∃ x12 : Int, v1 = .int .i64 x12 ∧
          iteP ((decide (x12 ≥ 0))) (
            ∃ x13a : Option Addr, ∃ x13l : Nat, ∃ x13c : Nat, w7.cell? ⟨w.heap.size, 0, none⟩ = some (.slice x13a x13l x13c) ∧ ∃ x14 : Int, w7.cell? ⟨w.heap.size, 1, none⟩ = some (.int .i64 x14) ∧ 
            storeK w7 ⟨w1.heap.size, 0, none⟩ (.slice x13a x13l x13c) fun w9 =>
            storeK w9 ⟨w1.heap.size, 1, none⟩ (.int .i64 x14) fun w10 =>
            ∃ x15a : Option Addr, ∃ x15l : Nat, ∃ x15c : Nat, w10.cell? ⟨w1.heap.size, 0, none⟩ = some (.slice x15a x15l x15c) ∧ ∃ x16 : Int, w10.cell? ⟨w1.heap.size, 1, none⟩ = some (.int .i64 x16) ∧ 
            R (.returned (.tuple #[.agg #[.slice x15a x15l x15c, .int .i64 x16], .bool false])) w10) (
            ∃ x17a : Option Addr, ∃ x17l : Nat, ∃ x17c : Nat, w7.cell? ⟨w.heap.size, 0, none⟩ = some (.slice x17a x17l x17c) ∧
            runK Try.prog (Builtin.append_ #[28, 28] 28 #[.slice none 0 0, .slice x17a x17l x17c]) w7 fun v2 w11 =>
            ∃ x18a : Option Addr, ∃ x18l : Nat, ∃ x18c : Nat, v2 = .slice x18a x18l x18c ∧
            allocK w11 (.cells #[.string key1, .int .i64 rev1, .int .i64 0] 71) fun w12 =>
            runK Try.prog (Builtin.append_ #[28, 28] 28 #[.slice x18a x18l x18c, .slice (some ⟨w11.heap.size, 0, none⟩) 1 1]) w12 fun v3 w13 =>
            ∃ x19a : Option Addr, ∃ x19l : Nat, ∃ x19c : Nat, v3 = .slice x19a x19l x19c ∧
            storeK w13 ⟨w1.heap.size, 0, none⟩ (.slice x19a x19l x19c) fun w14 =>
            storeK w14 ⟨w1.heap.size, 1, none⟩ (.int .i64 rev1) fun w15 =>
            ∃ x20a : Option Addr, ∃ x20l : Nat, ∃ x20c : Nat, w15.cell? ⟨w1.heap.size, 0, none⟩ = some (.slice x20a x20l x20c) ∧ ∃ x21 : Int, w15.cell? ⟨w1.heap.size, 1, none⟩ = some (.int .i64 x21) ∧ 
            R (.returned (.tuple #[.agg #[.slice x20a x20l x20c, .int .i64 x21], .bool true])) w15)) (fun c1 w8 => R (.panicked c1) w8))))
theorem F12.eq (s1a : Option Addr) (s1l : Nat) (s1c : Nat) (s2 : Int) (key1 : ByteArray) (rev1 : Int) (w : World) (R : Ending → World → Prop) : lift Try.prog none F12.A 37 (bodyOf Try.f12) (retK Try.prog F12.A Try.f12 R) (argsF [.agg #[.slice s1a s1l s1c, .int .i64 s2], .string key1, .int .i64 rev1]) [] w = F12.sh s1a s1l s1c s2 key1 rev1 w R := by kernel_rfl
theorem F12.calls_of (s1a : Option Addr) (s1l : Nat) (s1c : Nat) (s2 : Int) (key1 : ByteArray) (rev1 : Int) {w : World} {R : Ending → World → Prop} (h : F12.sh s1a s1l s1c s2 key1 rev1 w R) : Calls Try.prog 12 #[.agg #[.slice s1a s1l s1c, .int .i64 s2], .string key1, .int .i64 rev1] w R :=
  calls_of_lift noNG mixedOk (fn := Try.f12) (c := bodyOf Try.f12) (args := [.agg #[.slice s1a s1l s1c, .int .i64 s2], .string key1, .int .i64 rev1]) Try.func12 rfl rfl (cast (F12.eq s1a s1l s1c s2 key1 rev1 w R).symm h)

/-! #### (*doorman/spans.Spans).Drop -/
def F13.A : Ann := annOf [(15, (.one (.one (.int .i64)))), (20, (.one (.one .ptr))), (27, (.one (.one (.int .i64))))] []
def F13.sh (s1 : Option Addr) (key1 : ByteArray) (rev1 : Int) (w : World) (R : Ending → World → Prop) : Prop :=
  iteP (Option.isNone s1) (
    R (.returned (.bool false)) w) (
    onSome s1 fun p1 =>
    ∃ x1 : Int, w.cell? (Addr.add p1 2) = some (.int .i64 x1) ∧
    iteP ((decide (rev1 < x1))) (
      R (.returned (.bool false)) w) (
      Calls Try.prog 26 #[.pointer s1, .string key1] w (endK (fun v1 w1 =>
          ∃ x2 : Option Addr, v1 = .pointer x2 ∧
          iteP (Option.isNone x2) (
            R (.returned (.bool false)) w1) (
            onSome x2 fun p2 =>
            ∃ x3 : Int, w1.cell? p2 = some (.int .i64 x3) ∧
            iteP ((decide (x3 ≥ rev1))) (
              R (.returned (.bool false)) w1) (
              onSome x2 fun p3 =>
              storeK w1 (Addr.add p3 1) (.int .i64 rev1) fun w3 =>
              onSome s1 fun p4 =>
              storeK w3 (Addr.add p4 2) (.int .i64 rev1) fun w4 =>
              R (.returned (.bool true)) w4))) (fun c1 w2 => R (.panicked c1) w2))))
theorem F13.eq (s1 : Option Addr) (key1 : ByteArray) (rev1 : Int) (w : World) (R : Ending → World → Prop) : lift Try.prog none F13.A 39 (bodyOf Try.f13) (retK Try.prog F13.A Try.f13 R) (argsF [.pointer s1, .string key1, .int .i64 rev1]) [] w = F13.sh s1 key1 rev1 w R := by kernel_rfl
theorem F13.calls_of (s1 : Option Addr) (key1 : ByteArray) (rev1 : Int) {w : World} {R : Ending → World → Prop} (h : F13.sh s1 key1 rev1 w R) : Calls Try.prog 13 #[.pointer s1, .string key1, .int .i64 rev1] w R :=
  calls_of_lift noNG mixedOk (fn := Try.f13) (c := bodyOf Try.f13) (args := [.pointer s1, .string key1, .int .i64 rev1]) Try.func13 rfl rfl (cast (F13.eq s1 key1 rev1 w R).symm h)

/-! #### doorman/doormanref14.Drop -/
def F14.A : Ann := annOf [(10, (.one (.agg [.slice, (.int .i64)]))), (12, (.one (.one (.int .i64)))), (15, (.one (.one (.int .i64)))), (23, (.one (.one .slice))), (27, (.one (.one (.int .i64)))), (31, (.one (.agg [.slice, (.int .i64)]))), (34, (.one (.one .slice))), (35, (.one (.one .slice))), (100006, (.one (.agg [.slice, (.int .i64)])))] []
def F14.sh (s1a : Option Addr) (s1l : Nat) (s1c : Nat) (s2 : Int) (key1 : ByteArray) (rev1 : Int) (w : World) (R : Ending → World → Prop) : Prop :=
  allocK w (.cells #[.slice s1a s1l s1c, .int .i64 s2] 30) fun w1 =>
  allocK w1 (.cells #[.slice none 0 0, .int .i64 0] 30) fun w2 =>
  ∃ x1a : Option Addr, ∃ x1l : Nat, ∃ x1c : Nat, w2.cell? ⟨w.heap.size, 0, none⟩ = some (.slice x1a x1l x1c) ∧ ∃ x2 : Int, w2.cell? ⟨w.heap.size, 1, none⟩ = some (.int .i64 x2) ∧ 
  Calls Try.prog 29 #[.agg #[.slice x1a x1l x1c, .int .i64 x2], .string key1] w2 (endK (fun v1 w3 =>
      ∃ x3 : Int, v1 = .int .i64 x3 ∧
      ∃ x4 : Int, w3.cell? ⟨w.heap.size, 1, none⟩ = some (.int .i64 x4) ∧
      iteP ((decide (rev1 < x4))) (
        ∃ x5a : Option Addr, ∃ x5l : Nat, ∃ x5c : Nat, w3.cell? ⟨w.heap.size, 0, none⟩ = some (.slice x5a x5l x5c) ∧ ∃ x6 : Int, w3.cell? ⟨w.heap.size, 1, none⟩ = some (.int .i64 x6) ∧ 
        storeK w3 ⟨w1.heap.size, 0, none⟩ (.slice x5a x5l x5c) fun w5 =>
        storeK w5 ⟨w1.heap.size, 1, none⟩ (.int .i64 x6) fun w6 =>
        ∃ x7a : Option Addr, ∃ x7l : Nat, ∃ x7c : Nat, w6.cell? ⟨w1.heap.size, 0, none⟩ = some (.slice x7a x7l x7c) ∧ ∃ x8 : Int, w6.cell? ⟨w1.heap.size, 1, none⟩ = some (.int .i64 x8) ∧ 
        R (.returned (.tuple #[.agg #[.slice x7a x7l x7c, .int .i64 x8], .bool false])) w6) (
        iteP ((decide (x3 < 0))) (
          ∃ x9a : Option Addr, ∃ x9l : Nat, ∃ x9c : Nat, w3.cell? ⟨w.heap.size, 0, none⟩ = some (.slice x9a x9l x9c) ∧ ∃ x10 : Int, w3.cell? ⟨w.heap.size, 1, none⟩ = some (.int .i64 x10) ∧ 
          storeK w3 ⟨w1.heap.size, 0, none⟩ (.slice x9a x9l x9c) fun w7 =>
          storeK w7 ⟨w1.heap.size, 1, none⟩ (.int .i64 x10) fun w8 =>
          ∃ x11a : Option Addr, ∃ x11l : Nat, ∃ x11c : Nat, w8.cell? ⟨w1.heap.size, 0, none⟩ = some (.slice x11a x11l x11c) ∧ ∃ x12 : Int, w8.cell? ⟨w1.heap.size, 1, none⟩ = some (.int .i64 x12) ∧ 
          R (.returned (.tuple #[.agg #[.slice x11a x11l x11c, .int .i64 x12], .bool false])) w8) (
          ∃ x13a : Option Addr, ∃ x13l : Nat, ∃ x13c : Nat, w3.cell? ⟨w.heap.size, 0, none⟩ = some (.slice x13a x13l x13c) ∧
          ((0 : Int) ≤ x3 ∧ x3 < ((x13l : Nat) : Int)) ∧
          onSome x13a fun p1 =>
          ∃ x14 : Int, w3.cell? (Addr.add (Addr.add p1 (Int.toNat x3 * 3)) 1) = some (.int .i64 x14) ∧
          iteP ((decide (x14 ≥ rev1))) (
            ∃ x15a : Option Addr, ∃ x15l : Nat, ∃ x15c : Nat, w3.cell? ⟨w.heap.size, 0, none⟩ = some (.slice x15a x15l x15c) ∧ ∃ x16 : Int, w3.cell? ⟨w.heap.size, 1, none⟩ = some (.int .i64 x16) ∧ 
            storeK w3 ⟨w1.heap.size, 0, none⟩ (.slice x15a x15l x15c) fun w9 =>
            storeK w9 ⟨w1.heap.size, 1, none⟩ (.int .i64 x16) fun w10 =>
            ∃ x17a : Option Addr, ∃ x17l : Nat, ∃ x17c : Nat, w10.cell? ⟨w1.heap.size, 0, none⟩ = some (.slice x17a x17l x17c) ∧ ∃ x18 : Int, w10.cell? ⟨w1.heap.size, 1, none⟩ = some (.int .i64 x18) ∧ 
            R (.returned (.tuple #[.agg #[.slice x17a x17l x17c, .int .i64 x18], .bool false])) w10) (
            ∃ x19a : Option Addr, ∃ x19l : Nat, ∃ x19c : Nat, w3.cell? ⟨w.heap.size, 0, none⟩ = some (.slice x19a x19l x19c) ∧
            runK Try.prog (Builtin.append_ #[28, 28] 28 #[.slice none 0 0, .slice x19a x19l x19c]) w3 fun v2 w11 =>
            ∃ x20a : Option Addr, ∃ x20l : Nat, ∃ x20c : Nat, v2 = .slice x20a x20l x20c ∧
            ((0 : Int) ≤ x3 ∧ x3 < ((x20l : Nat) : Int)) ∧
            onSome x20a fun p2 =>
            storeK w11 (Addr.add (Addr.add p2 (Int.toNat x3 * 3)) 2) (.int .i64 rev1) fun w12 =>
            storeK w12 ⟨w1.heap.size, 0, none⟩ (.slice x20a x20l x20c) fun w13 =>
            storeK w13 ⟨w1.heap.size, 1, none⟩ (.int .i64 rev1) fun w14 =>
            ∃ x21a : Option Addr, ∃ x21l : Nat, ∃ x21c : Nat, w14.cell? ⟨w1.heap.size, 0, none⟩ = some (.slice x21a x21l x21c) ∧ ∃ x22 : Int, w14.cell? ⟨w1.heap.size, 1, none⟩ = some (.int .i64 x22) ∧ 
            R (.returned (.tuple #[.agg #[.slice x21a x21l x21c, .int .i64 x22], .bool true])) w14)))) (fun c1 w4 => R (.panicked c1) w4))
theorem F14.eq (s1a : Option Addr) (s1l : Nat) (s1c : Nat) (s2 : Int) (key1 : ByteArray) (rev1 : Int) (w : World) (R : Ending → World → Prop) : lift Try.prog none F14.A 44 (bodyOf Try.f14) (retK Try.prog F14.A Try.f14 R) (argsF [.agg #[.slice s1a s1l s1c, .int .i64 s2], .string key1, .int .i64 rev1]) [] w = F14.sh s1a s1l s1c s2 key1 rev1 w R := by kernel_rfl
theorem F14.calls_of (s1a : Option Addr) (s1l : Nat) (s1c : Nat) (s2 : Int) (key1 : ByteArray) (rev1 : Int) {w : World} {R : Ending → World → Prop} (h : F14.sh s1a s1l s1c s2 key1 rev1 w R) : Calls Try.prog 14 #[.agg #[.slice s1a s1l s1c, .int .i64 s2], .string key1, .int .i64 rev1] w R :=
  calls_of_lift noNG mixedOk (fn := Try.f14) (c := bodyOf Try.f14) (args := [.agg #[.slice s1a s1l s1c, .int .i64 s2], .string key1, .int .i64 rev1]) Try.func14 rfl rfl (cast (F14.eq s1a s1l s1c s2 key1 rev1 w R).symm h)

/-! #### (*doorman/spans.Spans).Trim -/
def F15.A : Ann := annOf [(10, (.one (.one .ptr))), (13, (.one (.one .ptr))), (16, (.one (.one .map))), (18, (.one (.one .slice))), (23, (.one (.one .str))), (24, (.one (.one .ptr))), (27, (.one (.one .map))), (29, (.one (.one .slice))), (31, (.one (.one .ptr))), (34, (.one (.one .map))), (36, (.one (.one .ptr))), (39, (.one (.one .map))), (41, (.one (.one .slice))), (43, (.one (.one .slice))), (46, (.one (.one .ptr))), (49, (.one (.one .map))), (51, (.one (.one .slice))), (55, (.one (.one .ptr))), (58, (.one (.one .map))), (60, (.one (.one .slice))), (63, (.one (.one .ptr))), (66, (.one (.one .map))), (69, (.one (.one .ptr))), (70, (.one (.one .ptr))), (73, (.one (.one .slice))), (75, (.one (.one .slice)))] [(6, [5, 20], [(.one (.int .i64)), (.one (.int .i64))], [8, 9, 21, 22, 23, 24, 25, 26, 27, 28, 29, 30, 31, 32, 33, 34, 35, 36, 37, 38, 39, 40, 41, 42, 43, 44, 45, 46, 47, 48, 49, 50, 51, 52, 53, 54, 55, 56, 57, 58, 59, 60, 61, 62, 63, 64, 65, 66, 67, 68])]
def F15.sh (s1 : Option Addr) (rev1 : Int) (w : World) (R : Ending → World → Prop) : Prop :=
  allocK w (.cells #[.pointer s1] 26) fun w1 =>
  allocK w1 (.cells #[.int .i64 rev1] 3) fun w2 =>
  ∃ x1 : Option Addr, w2.cell? ⟨w.heap.size, 0, none⟩ = some (.pointer x1) ∧
  iteP (Option.isNone x1) (
    R (.returned (.int .i64 0)) w2) (
    ∃ x2 : Option Addr, w2.cell? ⟨w.heap.size, 0, none⟩ = some (.pointer x2) ∧
    onSome x2 fun p1 =>
    ∃ x3 : Option Nat, w2.cell? p1 = some (.map x3) ∧
    Calls Try.prog 32 #[.map x3] w2 (endK (fun v1 w3 =>
        Calls Try.prog 31 #[v1] w3 (endK (fun v2 w5 =>
            ∃ x4a : Option Addr, ∃ x4l : Nat, ∃ x4c : Nat, v2 = .slice x4a x4l x4c ∧
            ∃ I1 : Int → Int → Nat → World → Prop, (∃ k1, I1 0 0 k1 w5) ∧
            ∀ n1 : Int, ∀ i1 : Int, ∀ (k2 : Nat) (w7 : World), I1 n1 i1 k2 w7 → ∀ z1 : Fr,
            iteP ((decide (i1 < ((x4l : Nat) : Int)))) (
              ((0 : Int) ≤ i1 ∧ i1 < ((x4l : Nat) : Int)) ∧
              onSome x4a fun p2 =>
              ∃ x5 : ByteArray, w7.cell? (Addr.add p2 (Int.toNat i1 * 1)) = some (.string x5) ∧
              ∃ x6 : Option Addr, w7.cell? ⟨w.heap.size, 0, none⟩ = some (.pointer x6) ∧
              onSome x6 fun p3 =>
              ∃ x7 : Option Nat, w7.cell? p3 = some (.map x7) ∧
              runK Try.prog (Instr.lookup 58 (.map x7) (.string x5) false) w7 fun v3 w8 =>
              ∃ x8a : Option Addr, ∃ x8l : Nat, ∃ x8c : Nat, v3 = .slice x8a x8l x8c ∧
              ∃ x9 : Option Addr, w8.drew.cell? ⟨w.heap.size, 0, none⟩ = some (.pointer x9) ∧
              onSome x9 fun p4 =>
              ∃ x10 : Option Nat, w8.drew.cell? p4 = some (.map x10) ∧
              ∃ x11 : Option Addr, w8.drew.cell? ⟨w.heap.size, 0, none⟩ = some (.pointer x11) ∧
              onSome x11 fun p5 =>
              ∃ x12 : Option Nat, w8.drew.cell? p5 = some (.map x12) ∧
              rdRunK Try.prog (Instr.lookup 58 (.map x12) (.string x5) false) w8.drew fun v4 =>
              ∃ x13a : Option Addr, ∃ x13l : Nat, ∃ x13c : Nat, v4 = .slice x13a x13l x13c ∧
              Calls Try.prog 33 #[.slice x13a x13l x13c, .func (.func 30) #[] #[.pointer (some ⟨w1.heap.size, 0, none⟩)]] w8.drew (endK (fun v5 w9 =>
                  ∃ x14a : Option Addr, ∃ x14l : Nat, ∃ x14c : Nat, v5 = .slice x14a x14l x14c ∧
                  (∃ x15 : Option Addr, w9.cell? ⟨w.heap.size, 0, none⟩ = some (.pointer x15) ∧
                    ((.pointer x15) : Value) = (.pointer x9)) ∧
                  (∃ x16 : Option Nat, w9.cell? p4 = some (.map x16) ∧
                    ((.map x16) : Value) = (.map x10)) ∧
                  runK Try.prog (unitV (Instr.mapUpdate 58 (.map x10) (.string x5) (.slice x14a x14l x14c))) w9 fun v6 w11 =>
                  ∃ x17 : Option Addr, w11.cell? ⟨w.heap.size, 0, none⟩ = some (.pointer x17) ∧
                  onSome x17 fun p6 =>
                  ∃ x18 : Option Nat, w11.cell? p6 = some (.map x18) ∧
                  runK Try.prog (Instr.lookup 58 (.map x18) (.string x5) false) w11 fun v7 w12 =>
                  ∃ x19a : Option Addr, ∃ x19l : Nat, ∃ x19c : Nat, v7 = .slice x19a x19l x19c ∧
                  ∃ x20 : Option Addr, w12.cell? ⟨w.heap.size, 0, none⟩ = some (.pointer x20) ∧
                  onSome x20 fun p7 =>
                  ∃ x21 : Option Nat, w12.cell? p7 = some (.map x21) ∧
                  runK Try.prog (Instr.lookup 58 (.map x21) (.string x5) false) w12 fun v8 w13 =>
                  ∃ x22a : Option Addr, ∃ x22l : Nat, ∃ x22c : Nat, v8 = .slice x22a x22l x22c ∧
                  iteP ((((x22l : Nat) : Int) == 0)) (
                    ∃ x23 : Option Addr, w13.cell? ⟨w.heap.size, 0, none⟩ = some (.pointer x23) ∧
                    onSome x23 fun p8 =>
                    ∃ x24 : Option Nat, w13.cell? p8 = some (.map x24) ∧
                    runK Try.prog (Builtin.delete_ #[58, 9] 0 #[.map x24, .string x5]) w13 fun v9 w14 =>
                    ∃ k3, k3 < k2 ∧ I1 ((IntKind.wrap .i64 (n1 + (IntKind.wrap .i64 (((x8l : Nat) : Int) - ((x19l : Nat) : Int)))))) ((IntKind.wrap .i64 (i1 + 1))) k3 w14) (
                    ∃ k3, k3 < k2 ∧ I1 ((IntKind.wrap .i64 (n1 + (IntKind.wrap .i64 (((x8l : Nat) : Int) - ((x19l : Nat) : Int)))))) ((IntKind.wrap .i64 (i1 + 1))) k3 w13)) (fun c3 w10 => ∀ g : Fr, R (.panicked c3) w10))) (
              ∃ x25 : Option Addr, w7.drew.cell? ⟨w.heap.size, 0, none⟩ = some (.pointer x25) ∧
              ∃ x26 : Option Addr, w7.drew.cell? ⟨w.heap.size, 0, none⟩ = some (.pointer x26) ∧
              onSome x26 fun p9 =>
              ∃ x27a : Option Addr, ∃ x27l : Nat, ∃ x27c : Nat, w7.drew.cell? (Addr.add p9 1) = some (.slice x27a x27l x27c) ∧
              Calls Try.prog 34 #[.slice x27a x27l x27c, .func (.func 35) #[] #[.pointer (some ⟨w.heap.size, 0, none⟩)]] w7.drew (endK (fun v10 w15 =>
                  ∃ x28a : Option Addr, ∃ x28l : Nat, ∃ x28c : Nat, v10 = .slice x28a x28l x28c ∧
                  (∃ x29 : Option Addr, w15.cell? ⟨w.heap.size, 0, none⟩ = some (.pointer x29) ∧
                    ((.pointer x29) : Value) = (.pointer x25)) ∧
                  onSome x25 fun p10 =>
                  storeK w15 (Addr.add p10 1) (.slice x28a x28l x28c) fun w17 =>
                  R (.returned (.int .i64 n1)) w17) (fun c4 w16 => ∀ g : Fr, R (.panicked c4) w16)))) (fun c2 w6 => R (.panicked c2) w6))) (fun c1 w4 => R (.panicked c1) w4)))
theorem F15.eq (s1 : Option Addr) (rev1 : Int) (w : World) (R : Ending → World → Prop) : lift Try.prog none F15.A 79 (bodyOf Try.f15) (retK Try.prog F15.A Try.f15 R) (argsF [.pointer s1, .int .i64 rev1]) [] w = F15.sh s1 rev1 w R := by kernel_rfl
theorem F15.calls_of (s1 : Option Addr) (rev1 : Int) {w : World} {R : Ending → World → Prop} (h : F15.sh s1 rev1 w R) : Calls Try.prog 15 #[.pointer s1, .int .i64 rev1] w R :=
  calls_of_lift noNG mixedOk (fn := Try.f15) (c := bodyOf Try.f15) (args := [.pointer s1, .int .i64 rev1]) Try.func15 rfl rfl (cast (F15.eq s1 rev1 w R).symm h)

/-! #### doorman/doormanref14.Trim -/
def F16.A : Ann := annOf [(10, (.one (.one .slice))), (16, (.one (.one .slice))), (20, (.one (.one (.int .i64)))), (24, (.one (.one .slice))), (28, (.one (.one (.int .i64)))), (34, (.one (.one .slice))), (37, (.one (.agg [.str, (.int .i64), (.int .i64)]))), (39, (.one (.one .slice))), (42, (.one (.one (.int .i64)))), (45, (.one (.one .slice))), (100004, (.one (.agg [.slice, (.int .i64)])))] [(3, [6, 7], [(.one .slice), (.one (.int .i64))], [8, 9, 10, 11, 12, 13, 14, 15, 16, 17, 18, 19, 20, 21, 22, 23, 24, 25, 26, 27, 28, 29, 30, 31, 32, 33, 34, 35, 36, 37, 38, 39])]
def F16.sh (s1a : Option Addr) (s1l : Nat) (s1c : Nat) (s2 : Int) (rev1 : Int) (w : World) (R : Ending → World → Prop) : Prop :=
  allocK w (.cells #[.slice s1a s1l s1c, .int .i64 s2] 30) fun w1 =>
  allocK w1 (.cells #[.slice none 0 0, .int .i64 0] 30) fun w2 =>
  ∃ I1 : Option Addr → Nat → Nat → Int → Nat → World → Prop, (∃ k1, I1 none 0 0 0 k1 w2) ∧
  ∀ l1a : Option Addr, ∀ l1l : Nat, ∀ l1c : Nat, ∀ i1 : Int, ∀ (k2 : Nat) (w3 : World), I1 l1a l1l l1c i1 k2 w3 → ∀ z1 : Fr,
  ∃ x1a : Option Addr, ∃ x1l : Nat, ∃ x1c : Nat, w3.cell? ⟨w.heap.size, 0, none⟩ = some (.slice x1a x1l x1c) ∧
  iteP ((decide (i1 < ((x1l : Nat) : Int)))) (
    ∃ x2a : Option Addr, ∃ x2l : Nat, ∃ x2c : Nat, w3.cell? ⟨w.heap.size, 0, none⟩ = some (.slice x2a x2l x2c) ∧
    ((0 : Int) ≤ i1 ∧ i1 < ((x2l : Nat) : Int)) ∧
    onSome x2a fun p1 =>
    ∃ x3 : Int, w3.cell? (Addr.add (Addr.add p1 (Int.toNat i1 * 3)) 2) = some (.int .i64 x3) ∧
    iteP (x3 == 0) (
      ∃ x4a : Option Addr, ∃ x4l : Nat, ∃ x4c : Nat, w3.cell? ⟨w.heap.size, 0, none⟩ = some (.slice x4a x4l x4c) ∧
      ((0 : Int) ≤ i1 ∧ i1 < ((x4l : Nat) : Int)) ∧
      onSome x4a fun p2 =>
      ∃ x5 : ByteArray, w3.cell? (Addr.add p2 (Int.toNat i1 * 3)) = some (.string x5) ∧ ∃ x6 : Int, w3.cell? (Addr.add (Addr.add p2 (Int.toNat i1 * 3)) 1) = some (.int .i64 x6) ∧ ∃ x7 : Int, w3.cell? (Addr.add (Addr.add p2 (Int.toNat i1 * 3)) 2) = some (.int .i64 x7) ∧ 
      allocK w3 (.cells #[.string x5, .int .i64 x6, .int .i64 x7] 71) fun w4 =>
      runK Try.prog (Builtin.append_ #[28, 28] 28 #[.slice l1a l1l l1c, .slice (some ⟨w3.heap.size, 0, none⟩) 1 1]) w4 fun v1 w5 =>
      ∃ x8a : Option Addr, ∃ x8l : Nat, ∃ x8c : Nat, v1 = .slice x8a x8l x8c ∧
      ∃ k3, k3 < k2 ∧ I1 x8a x8l x8c ((IntKind.wrap .i64 (i1 + 1))) k3 w5) (
      ∃ x9a : Option Addr, ∃ x9l : Nat, ∃ x9c : Nat, w3.cell? ⟨w.heap.size, 0, none⟩ = some (.slice x9a x9l x9c) ∧
      ((0 : Int) ≤ i1 ∧ i1 < ((x9l : Nat) : Int)) ∧
      onSome x9a fun p3 =>
      ∃ x10 : Int, w3.cell? (Addr.add (Addr.add p3 (Int.toNat i1 * 3)) 2) = some (.int .i64 x10) ∧
      iteP ((decide (x10 > rev1))) (
        ∃ x11a : Option Addr, ∃ x11l : Nat, ∃ x11c : Nat, w3.cell? ⟨w.heap.size, 0, none⟩ = some (.slice x11a x11l x11c) ∧
        ((0 : Int) ≤ i1 ∧ i1 < ((x11l : Nat) : Int)) ∧
        onSome x11a fun p4 =>
        ∃ x12 : ByteArray, w3.cell? (Addr.add p4 (Int.toNat i1 * 3)) = some (.string x12) ∧ ∃ x13 : Int, w3.cell? (Addr.add (Addr.add p4 (Int.toNat i1 * 3)) 1) = some (.int .i64 x13) ∧ ∃ x14 : Int, w3.cell? (Addr.add (Addr.add p4 (Int.toNat i1 * 3)) 2) = some (.int .i64 x14) ∧ 
        allocK w3 (.cells #[.string x12, .int .i64 x13, .int .i64 x14] 71) fun w6 =>
        runK Try.prog (Builtin.append_ #[28, 28] 28 #[.slice l1a l1l l1c, .slice (some ⟨w3.heap.size, 0, none⟩) 1 1]) w6 fun v2 w7 =>
        ∃ x15a : Option Addr, ∃ x15l : Nat, ∃ x15c : Nat, v2 = .slice x15a x15l x15c ∧
        ∃ k3, k3 < k2 ∧ I1 x15a x15l x15c ((IntKind.wrap .i64 (i1 + 1))) k3 w7) (
        ∃ k3, k3 < k2 ∧ I1 l1a l1l l1c ((IntKind.wrap .i64 (i1 + 1))) k3 w3))) (
    ∃ x16 : Int, w3.drew.cell? ⟨w.heap.size, 1, none⟩ = some (.int .i64 x16) ∧
    ∃ x17a : Option Addr, ∃ x17l : Nat, ∃ x17c : Nat, w3.drew.cell? ⟨w.heap.size, 0, none⟩ = some (.slice x17a x17l x17c) ∧
    storeK w3.drew ⟨w1.heap.size, 0, none⟩ (.slice l1a l1l l1c) fun w8 =>
    storeK w8 ⟨w1.heap.size, 1, none⟩ (.int .i64 x16) fun w9 =>
    (∃ x18a : Option Addr, ∃ x18l : Nat, ∃ x18c : Nat, w9.cell? ⟨w.heap.size, 0, none⟩ = some (.slice x18a x18l x18c) ∧
      ((.slice x18a x18l x18c) : Value) = (.slice x17a x17l x17c)) ∧
    ∃ x19a : Option Addr, ∃ x19l : Nat, ∃ x19c : Nat, w9.cell? ⟨w1.heap.size, 0, none⟩ = some (.slice x19a x19l x19c) ∧ ∃ x20 : Int, w9.cell? ⟨w1.heap.size, 1, none⟩ = some (.int .i64 x20) ∧ 
    R (.returned (.tuple #[.agg #[.slice x19a x19l x19c, .int .i64 x20], .int .i64 (IntKind.wrap .i64 (((x17l : Nat) : Int) - ((l1l : Nat) : Int)))])) w9)
theorem F16.eq (s1a : Option Addr) (s1l : Nat) (s1c : Nat) (s2 : Int) (rev1 : Int) (w : World) (R : Ending → World → Prop) : lift Try.prog none F16.A 50 (bodyOf Try.f16) (retK Try.prog F16.A Try.f16 R) (argsF [.agg #[.slice s1a s1l s1c, .int .i64 s2], .int .i64 rev1]) [] w = F16.sh s1a s1l s1c s2 rev1 w R := by kernel_rfl
theorem F16.calls_of (s1a : Option Addr) (s1l : Nat) (s1c : Nat) (s2 : Int) (rev1 : Int) {w : World} {R : Ending → World → Prop} (h : F16.sh s1a s1l s1c s2 rev1 w R) : Calls Try.prog 16 #[.agg #[.slice s1a s1l s1c, .int .i64 s2], .int .i64 rev1] w R :=
  calls_of_lift noNG mixedOk (fn := Try.f16) (c := bodyOf Try.f16) (args := [.agg #[.slice s1a s1l s1c, .int .i64 s2], .int .i64 rev1]) Try.func16 rfl rfl (cast (F16.eq s1a s1l s1c s2 rev1 w R).symm h)

/-! #### (*doorman/spans.Spans).Next -/
def F17.A : Ann := annOf [(20, (.one (.one .slice))), (22, (.tup [(.one (.int .i64)), (.one .bool)])), (28, (.one (.one .slice))), (35, (.one (.one .str))), (48, (.one (.one .bool)))] [(5, [32], [(.one (.int .i64))], [8, 9, 13, 33, 34, 35, 36, 37, 38, 39, 40, 41, 42, 43, 44, 45, 46, 47, 48, 49, 50])]
def F17.sh (s1 : Option Addr) (rev1 : Int) (from1 : ByteArray) (to1 : ByteArray) (w : World) (R : Ending → World → Prop) : Prop :=
  iteP (Option.isNone s1) (
    R (.returned (.tuple #[.string ⟨#[]⟩, .bool false])) w) (
    onSome s1 fun p1 =>
    ∃ x1a : Option Addr, ∃ x1l : Nat, ∃ x1c : Nat, w.cell? (Addr.add p1 1) = some (.slice x1a x1l x1c) ∧
    Calls Try.prog 27 #[.slice x1a x1l x1c, .string from1] w (endK (fun v1 w1 =>
        ∃ x2 : Int, ∃ x3 : Bool, v1 = .tuple #[.int .i64 x2, .bool x3] ∧
        onSome s1 fun p2 =>
        ∃ x4a : Option Addr, ∃ x4l : Nat, ∃ x4c : Nat, w1.cell? (Addr.add p2 1) = some (.slice x4a x4l x4c) ∧
        ((0 : Int) ≤ x2 ∧ x2 ≤ ((x4l : Nat) : Int)) ∧
        ∃ I1 : Int → Nat → World → Prop, (∃ k1, I1 0 k1 w1) ∧
        ∀ i1 : Int, ∀ (k2 : Nat) (w3 : World), I1 i1 k2 w3 → ∀ z1 : Fr,
        iteP ((decide (i1 < (((x4l - (Int.toNat x2)) : Nat) : Int)))) (
          ((0 : Int) ≤ i1 ∧ i1 < (((x4l - (Int.toNat x2)) : Nat) : Int)) ∧
          onSome ((slA x4a (Int.toNat x2) x4c 1)) fun p3 =>
          ∃ x5 : ByteArray, w3.cell? (Addr.add p3 (Int.toNat i1 * 1)) = some (.string x5) ∧
          iteP ((!(to1.toList == (⟨#[]⟩ : ByteArray).toList))) (
            iteP (!Op.bytesLess x5.toList to1.toList) (
              R (.returned (.tuple #[.string ⟨#[]⟩, .bool false])) w3) (
              Calls Try.prog 19 #[.pointer s1, .string x5, .int .i64 rev1] w3 (endK (fun v2 w4 =>
                  ∃ x6 : Bool, v2 = .bool x6 ∧
                  iteP x6 (
                    R (.returned (.tuple #[.string x5, .bool true])) w4) (
                    ∃ k3, k3 < k2 ∧ I1 ((IntKind.wrap .i64 (i1 + 1))) k3 w4)) (fun c2 w5 => R (.panicked c2) w5)))) (
            Calls Try.prog 19 #[.pointer s1, .string x5, .int .i64 rev1] w3 (endK (fun v3 w6 =>
                ∃ x7 : Bool, v3 = .bool x7 ∧
                iteP x7 (
                  R (.returned (.tuple #[.string x5, .bool true])) w6) (
                  ∃ k3, k3 < k2 ∧ I1 ((IntKind.wrap .i64 (i1 + 1))) k3 w6)) (fun c3 w7 => R (.panicked c3) w7)))) (
          R (.returned (.tuple #[.string ⟨#[]⟩, .bool false])) w3)) (fun c1 w2 => R (.panicked c1) w2)))
theorem F17.eq (s1 : Option Addr) (rev1 : Int) (from1 : ByteArray) (to1 : ByteArray) (w : World) (R : Ending → World → Prop) : lift Try.prog none F17.A 51 (bodyOf Try.f17) (retK Try.prog F17.A Try.f17 R) (argsF [.pointer s1, .int .i64 rev1, .string from1, .string to1]) [] w = F17.sh s1 rev1 from1 to1 w R := by kernel_rfl
theorem F17.calls_of (s1 : Option Addr) (rev1 : Int) (from1 : ByteArray) (to1 : ByteArray) {w : World} {R : Ending → World → Prop} (h : F17.sh s1 rev1 from1 to1 w R) : Calls Try.prog 17 #[.pointer s1, .int .i64 rev1, .string from1, .string to1] w R :=
  calls_of_lift noNG mixedOk (fn := Try.f17) (c := bodyOf Try.f17) (args := [.pointer s1, .int .i64 rev1, .string from1, .string to1]) Try.func17 rfl rfl (cast (F17.eq s1 rev1 from1 to1 w R).symm h)

/-! #### doorman/doormanref14.Next -/
def F18.A : Ann := annOf [(17, (.one (.one .slice))), (23, (.one (.one .slice))), (27, (.one (.one .str))), (29, (.one (.one .slice))), (32, (.one (.agg [.str, (.int .i64), (.int .i64)]))), (34, (.one (.one .bool)))] [(4, [10, 11, 12], [(.one .str), (.one .bool), (.one (.int .i64))], [13, 14, 15, 16, 17, 18, 19, 20, 21, 22, 23, 24, 25, 26, 27, 28, 29, 30, 31, 32, 33, 34, 35, 36, 37, 38, 39, 40, 41, 42, 43, 44, 45, 46, 47, 48, 49, 50, 51, 52, 53, 54, 55, 56, 57, 58, 59])]
def F18.sh (s1a : Option Addr) (s1l : Nat) (s1c : Nat) (s2 : Int) (rev1 : Int) (from1 : ByteArray) (to1 : ByteArray) (w : World) (R : Ending → World → Prop) : Prop :=
  allocK w (.cells #[.slice s1a s1l s1c, .int .i64 s2] 30) fun w1 =>
  ∃ I1 : ByteArray → Bool → Int → Nat → World → Prop, (∃ k1, I1 ⟨#[]⟩ false 0 k1 w1) ∧
  ∀ best1 : ByteArray, ∀ is1 : Bool, ∀ i1 : Int, ∀ (k2 : Nat) (w2 : World), I1 best1 is1 i1 k2 w2 → ∀ z1 : Fr,
  ∃ x1a : Option Addr, ∃ x1l : Nat, ∃ x1c : Nat, w2.cell? ⟨w.heap.size, 0, none⟩ = some (.slice x1a x1l x1c) ∧
  iteP ((decide (i1 < ((x1l : Nat) : Int)))) (
    ∃ x2a : Option Addr, ∃ x2l : Nat, ∃ x2c : Nat, w2.cell? ⟨w.heap.size, 0, none⟩ = some (.slice x2a x2l x2c) ∧
    ((0 : Int) ≤ i1 ∧ i1 < ((x2l : Nat) : Int)) ∧
    onSome x2a fun p1 =>
    ∃ x3 : ByteArray, w2.cell? (Addr.add p1 (Int.toNat i1 * 3)) = some (.string x3) ∧
    ∃ x4a : Option Addr, ∃ x4l : Nat, ∃ x4c : Nat, w2.cell? ⟨w.heap.size, 0, none⟩ = some (.slice x4a x4l x4c) ∧
    ((0 : Int) ≤ i1 ∧ i1 < ((x4l : Nat) : Int)) ∧
    onSome x4a fun p2 =>
    ∃ x5 : ByteArray, w2.cell? (Addr.add p2 (Int.toNat i1 * 3)) = some (.string x5) ∧ ∃ x6 : Int, w2.cell? (Addr.add (Addr.add p2 (Int.toNat i1 * 3)) 1) = some (.int .i64 x6) ∧ ∃ x7 : Int, w2.cell? (Addr.add (Addr.add p2 (Int.toNat i1 * 3)) 2) = some (.int .i64 x7) ∧ 
    Calls Try.prog 36 #[.agg #[.string x5, .int .i64 x6, .int .i64 x7], .int .i64 rev1] w2 (endK (fun v1 w3 =>
        ∃ x8 : Bool, v1 = .bool x8 ∧
        iteP x8 (
          iteP (!Op.bytesLess x3.toList from1.toList) (
            iteP ((to1.toList == (⟨#[]⟩ : ByteArray).toList)) (
              iteP (!is1) (
                ∃ k3, k3 < k2 ∧ I1 x3 true ((IntKind.wrap .i64 (i1 + 1))) k3 w3) (
                iteP (Op.bytesLess x3.toList best1.toList) (
                  ∃ k3, k3 < k2 ∧ I1 x3 true ((IntKind.wrap .i64 (i1 + 1))) k3 w3) (
                  ∃ k3, k3 < k2 ∧ I1 best1 is1 ((IntKind.wrap .i64 (i1 + 1))) k3 w3))) (
              iteP (Op.bytesLess x3.toList to1.toList) (
                iteP (!is1) (
                  ∃ k3, k3 < k2 ∧ I1 x3 true ((IntKind.wrap .i64 (i1 + 1))) k3 w3) (
                  iteP (Op.bytesLess x3.toList best1.toList) (
                    ∃ k3, k3 < k2 ∧ I1 x3 true ((IntKind.wrap .i64 (i1 + 1))) k3 w3) (
                    ∃ k3, k3 < k2 ∧ I1 best1 is1 ((IntKind.wrap .i64 (i1 + 1))) k3 w3))) (
                ∃ k3, k3 < k2 ∧ I1 best1 is1 ((IntKind.wrap .i64 (i1 + 1))) k3 w3))) (
            ∃ k3, k3 < k2 ∧ I1 best1 is1 ((IntKind.wrap .i64 (i1 + 1))) k3 w3)) (
          ∃ k3, k3 < k2 ∧ I1 best1 is1 ((IntKind.wrap .i64 (i1 + 1))) k3 w3)) (fun c1 w4 => R (.panicked c1) w4))) (
    R (.returned (.tuple #[.string best1, .bool is1])) w2)
theorem F18.eq (s1a : Option Addr) (s1l : Nat) (s1c : Nat) (s2 : Int) (rev1 : Int) (from1 : ByteArray) (to1 : ByteArray) (w : World) (R : Ending → World → Prop) : lift Try.prog none F18.A 62 (bodyOf Try.f18) (retK Try.prog F18.A Try.f18 R) (argsF [.agg #[.slice s1a s1l s1c, .int .i64 s2], .int .i64 rev1, .string from1, .string to1]) [] w = F18.sh s1a s1l s1c s2 rev1 from1 to1 w R := by kernel_rfl
theorem F18.calls_of (s1a : Option Addr) (s1l : Nat) (s1c : Nat) (s2 : Int) (rev1 : Int) (from1 : ByteArray) (to1 : ByteArray) {w : World} {R : Ending → World → Prop} (h : F18.sh s1a s1l s1c s2 rev1 from1 to1 w R) : Calls Try.prog 18 #[.agg #[.slice s1a s1l s1c, .int .i64 s2], .int .i64 rev1, .string from1, .string to1] w R :=
  calls_of_lift noNG mixedOk (fn := Try.f18) (c := bodyOf Try.f18) (args := [.agg #[.slice s1a s1l s1c, .int .i64 s2], .int .i64 rev1, .string from1, .string to1]) Try.func18 rfl rfl (cast (F18.eq s1a s1l s1c s2 rev1 from1 to1 w R).symm h)

/-! #### (*doorman/spans.Spans).Has -/
def F19.A : Ann := annOf [(12, (.one (.one .map))), (14, (.one (.one .slice))), (16, (.one (.one .bool)))] []
def F19.sh (s1 : Option Addr) (key1 : ByteArray) (rev1 : Int) (w : World) (R : Ending → World → Prop) : Prop :=
  allocK w (.cells #[.int .i64 rev1] 3) fun w1 =>
  iteP (Option.isNone s1) (
    R (.returned (.bool false)) w1) (
    onSome s1 fun p1 =>
    ∃ x1 : Option Nat, w1.cell? p1 = some (.map x1) ∧
    runK Try.prog (Instr.lookup 58 (.map x1) (.string key1) false) w1 fun v1 w2 =>
    ∃ x2a : Option Addr, ∃ x2l : Nat, ∃ x2c : Nat, v1 = .slice x2a x2l x2c ∧
    Calls Try.prog 37 #[.slice x2a x2l x2c, .func (.func 38) #[] #[.pointer (some ⟨w.heap.size, 0, none⟩)]] w2 (endK (fun v2 w3 =>
        ∃ x3 : Bool, v2 = .bool x3 ∧
        R (.returned (.bool x3)) w3) (fun c1 w4 => R (.panicked c1) w4)))
theorem F19.eq (s1 : Option Addr) (key1 : ByteArray) (rev1 : Int) (w : World) (R : Ending → World → Prop) : lift Try.prog none F19.A 17 (bodyOf Try.f19) (retK Try.prog F19.A Try.f19 R) (argsF [.pointer s1, .string key1, .int .i64 rev1]) [] w = F19.sh s1 key1 rev1 w R := by kernel_rfl
theorem F19.calls_of (s1 : Option Addr) (key1 : ByteArray) (rev1 : Int) {w : World} {R : Ending → World → Prop} (h : F19.sh s1 key1 rev1 w R) : Calls Try.prog 19 #[.pointer s1, .string key1, .int .i64 rev1] w R :=
  calls_of_lift noNG mixedOk (fn := Try.f19) (c := bodyOf Try.f19) (args := [.pointer s1, .string key1, .int .i64 rev1]) Try.func19 rfl rfl (cast (F19.eq s1 key1 rev1 w R).symm h)

/-! #### doorman/doormanref14.Has -/
def F20.A : Ann := annOf [(11, (.one (.one .slice))), (17, (.one (.one .slice))), (20, (.one (.agg [.str, (.int .i64), (.int .i64)]))), (22, (.one (.one .bool))), (26, (.one (.one .slice))), (30, (.one (.one .str)))] [(2, [7], [(.one (.int .i64))], [6, 8, 9, 10, 11, 12, 13, 14, 15, 16, 17, 18, 19, 20, 21, 22, 23, 24, 25, 26, 27, 28, 29, 30, 31, 32, 33])]
def F20.sh (s1a : Option Addr) (s1l : Nat) (s1c : Nat) (s2 : Int) (key1 : ByteArray) (rev1 : Int) (w : World) (R : Ending → World → Prop) : Prop :=
  allocK w (.cells #[.slice s1a s1l s1c, .int .i64 s2] 30) fun w1 =>
  ∃ I1 : Int → Nat → World → Prop, (∃ k1, I1 0 k1 w1) ∧
  ∀ i1 : Int, ∀ (k2 : Nat) (w2 : World), I1 i1 k2 w2 → ∀ z1 : Fr,
  ∃ x1a : Option Addr, ∃ x1l : Nat, ∃ x1c : Nat, w2.cell? ⟨w.heap.size, 0, none⟩ = some (.slice x1a x1l x1c) ∧
  iteP ((decide (i1 < ((x1l : Nat) : Int)))) (
    ∃ x2a : Option Addr, ∃ x2l : Nat, ∃ x2c : Nat, w2.cell? ⟨w.heap.size, 0, none⟩ = some (.slice x2a x2l x2c) ∧
    ((0 : Int) ≤ i1 ∧ i1 < ((x2l : Nat) : Int)) ∧
    onSome x2a fun p1 =>
    ∃ x3 : ByteArray, w2.cell? (Addr.add p1 (Int.toNat i1 * 3)) = some (.string x3) ∧ ∃ x4 : Int, w2.cell? (Addr.add (Addr.add p1 (Int.toNat i1 * 3)) 1) = some (.int .i64 x4) ∧ ∃ x5 : Int, w2.cell? (Addr.add (Addr.add p1 (Int.toNat i1 * 3)) 2) = some (.int .i64 x5) ∧ 
    Calls Try.prog 36 #[.agg #[.string x3, .int .i64 x4, .int .i64 x5], .int .i64 rev1] w2 (endK (fun v1 w3 =>
        ∃ x6 : Bool, v1 = .bool x6 ∧
        iteP x6 (
          ∃ x7a : Option Addr, ∃ x7l : Nat, ∃ x7c : Nat, w3.cell? ⟨w.heap.size, 0, none⟩ = some (.slice x7a x7l x7c) ∧
          ((0 : Int) ≤ i1 ∧ i1 < ((x7l : Nat) : Int)) ∧
          onSome x7a fun p2 =>
          ∃ x8 : ByteArray, w3.cell? (Addr.add p2 (Int.toNat i1 * 3)) = some (.string x8) ∧
          iteP (x8.toList == key1.toList) (
            R (.returned (.bool true)) w3) (
            ∃ k3, k3 < k2 ∧ I1 ((IntKind.wrap .i64 (i1 + 1))) k3 w3)) (
          ∃ k3, k3 < k2 ∧ I1 ((IntKind.wrap .i64 (i1 + 1))) k3 w3)) (fun c1 w4 => R (.panicked c1) w4))) (
    R (.returned (.bool false)) w2)
theorem F20.eq (s1a : Option Addr) (s1l : Nat) (s1c : Nat) (s2 : Int) (key1 : ByteArray) (rev1 : Int) (w : World) (R : Ending → World → Prop) : lift Try.prog none F20.A 34 (bodyOf Try.f20) (retK Try.prog F20.A Try.f20 R) (argsF [.agg #[.slice s1a s1l s1c, .int .i64 s2], .string key1, .int .i64 rev1]) [] w = F20.sh s1a s1l s1c s2 key1 rev1 w R := by kernel_rfl
theorem F20.calls_of (s1a : Option Addr) (s1l : Nat) (s1c : Nat) (s2 : Int) (key1 : ByteArray) (rev1 : Int) {w : World} {R : Ending → World → Prop} (h : F20.sh s1a s1l s1c s2 key1 rev1 w R) : Calls Try.prog 20 #[.agg #[.slice s1a s1l s1c, .int .i64 s2], .string key1, .int .i64 rev1] w R :=
  calls_of_lift noNG mixedOk (fn := Try.f20) (c := bodyOf Try.f20) (args := [.agg #[.slice s1a s1l s1c, .int .i64 s2], .string key1, .int .i64 rev1]) Try.func20 rfl rfl (cast (F20.eq s1a s1l s1c s2 key1 rev1 w R).symm h)

/-! #### (*doorman/spans.Spans).Count -/
def F21.A : Ann := annOf [(12, (.one (.agg [(.int .i64), (.int .i64)]))), (13, (.one (.one (.int .i64)))), (14, (.one (.one .bool))), (15, (.one (.one (.int .i64)))), (17, (.one (.one (.int .i64))))] [(1000010, [], [(.one .str), (.agg [(.int .i64), (.int .i64)])], [])]
def F21.sh (s1 : Option Addr) (rev1 : Int) (w : World) (R : Ending → World → Prop) : Prop :=
  allocK w (.cells #[.int .i64 rev1] 3) fun w1 =>
  allocK w1 (.cells #[.int .i64 0] 3) fun w2 =>
  storeK w2 ⟨w1.heap.size, 0, none⟩ (.int .i64 0) fun w3 =>
  Calls Try.prog 40 #[.pointer s1] w3 (endK (fun v1 w4 =>
      ∃ (k1 : Nat) (first1 cap1 : Array Value), (v1 : Value) = .func (.func k1) first1 cap1 ∧ bodied Try.prog k1 = true ∧
      ∀ rec1 : Rec,
      (∀ y1 : ByteArray, ∀ y2 : Int, ∀ y3 : Int, ∀ (w6 : World) (K1 : Value → World → Prop), w6.heap[w4.heap.size + 1]? = some (rec1 .ready none) →
        (allocK w6 (.cells #[.int .i64 0, .int .i64 0] 68) fun w7 =>
          storeK w7 ⟨w6.heap.size, 0, none⟩ (.int .i64 y2) fun w8 =>
          storeK w8 ⟨w6.heap.size, 1, none⟩ (.int .i64 y3) fun w9 =>
          w9.heap[w4.heap.size + 1]? = some (rec1 .ready none) ∧
          ∃ x1 : Int, (w9.putObj (w4.heap.size + 1) (rec1 .busy none)).cell? ⟨w6.heap.size, 0, none⟩ = some (.int .i64 x1) ∧ ∃ x2 : Int, (w9.putObj (w4.heap.size + 1) (rec1 .busy none)).cell? ⟨w6.heap.size, 1, none⟩ = some (.int .i64 x2) ∧ 
          ∃ x3 : Int, (w9.putObj (w4.heap.size + 1) (rec1 .busy none)).cell? ⟨w.heap.size, 0, none⟩ = some (.int .i64 x3) ∧
          Calls Try.prog 39 #[.agg #[.int .i64 x1, .int .i64 x2], .int .i64 x3] (w9.putObj (w4.heap.size + 1) (rec1 .busy none)) (endK (fun v2 w10 =>
              ∃ x4 : Bool, v2 = .bool x4 ∧
              iteP x4 (
                ∃ x5 : Int, w10.cell? ⟨w1.heap.size, 0, none⟩ = some (.int .i64 x5) ∧
                storeK w10 ⟨w1.heap.size, 0, none⟩ (.int .i64 (IntKind.wrap .i64 (x5 + 1))) fun w12 =>
                w12.heap[w4.heap.size + 1]? = some (rec1 .busy none) ∧ K1 (.bool true) (w12.putObj (w4.heap.size + 1) (rec1 .ready none))) (
                w10.heap[w4.heap.size + 1]? = some (rec1 .busy none) ∧ K1 (.bool true) (w10.putObj (w4.heap.size + 1) (rec1 .ready none)))) (fun c2 w11 => False))) →
        yieldAny Try.prog (w4.heap.size + 1) #[.string y1, .agg #[.int .i64 y2, .int .i64 y3]] w6 K1) →
      Calls Try.prog k1 (first1 ++ #[.func (.yield (w4.heap.size + 1)) #[] #[]] ++ cap1) ((w4.alloc (.deferred (some []))).alloc (rec1 .ready none)) (endK (fun _ w13 =>
          (w13.heap[w4.heap.size + 1]? = some (rec1 .ready none) ∧
            ∃ x6 : Int, (w13.putObj (w4.heap.size + 1) (rec1 .exhausted none)).cell? ⟨w1.heap.size, 0, none⟩ = some (.int .i64 x6) ∧
            (w13.putObj (w4.heap.size + 1) (rec1 .exhausted none)).heap[w4.heap.size]? = some (.deferred (some [])) ∧
            R (.returned (.int .i64 x6)) ((w13.putObj (w4.heap.size + 1) (rec1 .exhausted none)).putObj w4.heap.size (.deferred none))) ∨
          False) (fun _ _ => False))) (fun c1 w5 => R (.panicked c1) w5))
theorem F21.eq (s1 : Option Addr) (rev1 : Int) (w : World) (R : Ending → World → Prop) : lift Try.prog none F21.A 18 (bodyOf Try.f21) (retK Try.prog F21.A Try.f21 R) (argsF [.pointer s1, .int .i64 rev1]) [] w = F21.sh s1 rev1 w R := by kernel_rfl
theorem F21.calls_of (s1 : Option Addr) (rev1 : Int) {w : World} {R : Ending → World → Prop} (h : F21.sh s1 rev1 w R) : Calls Try.prog 21 #[.pointer s1, .int .i64 rev1] w R :=
  calls_of_lift noNG mixedOk (fn := Try.f21) (c := bodyOf Try.f21) (args := [.pointer s1, .int .i64 rev1]) Try.func21 rfl rfl (cast (F21.eq s1 rev1 w R).symm h)

/-! #### doorman/doormanref14.Count -/
def F22.A : Ann := annOf [(10, (.one (.one .slice))), (16, (.one (.one .slice))), (19, (.one (.agg [.str, (.int .i64), (.int .i64)]))), (21, (.one (.one .bool)))] [(3, [5, 6], [(.one (.int .i64)), (.one (.int .i64))], [7, 8, 9, 10, 11, 12, 13, 14, 15, 16, 17, 18, 19, 20, 21, 22, 23, 24])]
def F22.sh (s1a : Option Addr) (s1l : Nat) (s1c : Nat) (s2 : Int) (rev1 : Int) (w : World) (R : Ending → World → Prop) : Prop :=
  allocK w (.cells #[.slice s1a s1l s1c, .int .i64 s2] 30) fun w1 =>
  ∃ I1 : Int → Int → Nat → World → Prop, (∃ k1, I1 0 0 k1 w1) ∧
  ∀ n1 : Int, ∀ i1 : Int, ∀ (k2 : Nat) (w2 : World), I1 n1 i1 k2 w2 → ∀ z1 : Fr,
  ∃ x1a : Option Addr, ∃ x1l : Nat, ∃ x1c : Nat, w2.cell? ⟨w.heap.size, 0, none⟩ = some (.slice x1a x1l x1c) ∧
  iteP ((decide (i1 < ((x1l : Nat) : Int)))) (
    ∃ x2a : Option Addr, ∃ x2l : Nat, ∃ x2c : Nat, w2.cell? ⟨w.heap.size, 0, none⟩ = some (.slice x2a x2l x2c) ∧
    ((0 : Int) ≤ i1 ∧ i1 < ((x2l : Nat) : Int)) ∧
    onSome x2a fun p1 =>
    ∃ x3 : ByteArray, w2.cell? (Addr.add p1 (Int.toNat i1 * 3)) = some (.string x3) ∧ ∃ x4 : Int, w2.cell? (Addr.add (Addr.add p1 (Int.toNat i1 * 3)) 1) = some (.int .i64 x4) ∧ ∃ x5 : Int, w2.cell? (Addr.add (Addr.add p1 (Int.toNat i1 * 3)) 2) = some (.int .i64 x5) ∧ 
    Calls Try.prog 36 #[.agg #[.string x3, .int .i64 x4, .int .i64 x5], .int .i64 rev1] w2 (endK (fun v1 w3 =>
        ∃ x6 : Bool, v1 = .bool x6 ∧
        iteP x6 (
          ∃ k3, k3 < k2 ∧ I1 ((IntKind.wrap .i64 (n1 + 1))) ((IntKind.wrap .i64 (i1 + 1))) k3 w3) (
          ∃ k3, k3 < k2 ∧ I1 n1 ((IntKind.wrap .i64 (i1 + 1))) k3 w3)) (fun c1 w4 => R (.panicked c1) w4))) (
    R (.returned (.int .i64 n1)) w2)
theorem F22.eq (s1a : Option Addr) (s1l : Nat) (s1c : Nat) (s2 : Int) (rev1 : Int) (w : World) (R : Ending → World → Prop) : lift Try.prog none F22.A 26 (bodyOf Try.f22) (retK Try.prog F22.A Try.f22 R) (argsF [.agg #[.slice s1a s1l s1c, .int .i64 s2], .int .i64 rev1]) [] w = F22.sh s1a s1l s1c s2 rev1 w R := by kernel_rfl
theorem F22.calls_of (s1a : Option Addr) (s1l : Nat) (s1c : Nat) (s2 : Int) (rev1 : Int) {w : World} {R : Ending → World → Prop} (h : F22.sh s1a s1l s1c s2 rev1 w R) : Calls Try.prog 22 #[.agg #[.slice s1a s1l s1c, .int .i64 s2], .int .i64 rev1] w R :=
  calls_of_lift noNG mixedOk (fn := Try.f22) (c := bodyOf Try.f22) (args := [.agg #[.slice s1a s1l s1c, .int .i64 s2], .int .i64 rev1]) Try.func22 rfl rfl (cast (F22.eq s1a s1l s1c s2 rev1 w R).symm h)

/-! #### (*doorman/spans.Spans).Events -/
def F23.A : Ann := annOf [(15, (.one (.one (.int .i64)))), (16, (.one (.one (.int .i64)))), (20, (.one (.one (.int .i64)))), (21, (.one (.one (.int .i64)))), (24, (.one (.one .slice))), (26, (.one (.one (.int .i64)))), (30, (.one (.one .slice))), (32, (.one (.one (.int .i64)))), (33, (.one (.one (.int .i64)))), (38, (.one (.one (.int .i64)))), (39, (.one (.one (.int .i64)))), (42, (.one (.one .slice))), (44, (.one (.one (.int .i64)))), (48, (.one (.one .slice))), (49, (.one (.one .slice))), (50, (.tup [])), (51, (.one (.one .slice)))] [(1000012, [], [(.one .str), (.agg [(.int .i64), (.int .i64)])], [])]
def F23.sh (s1 : Option Addr) (from1 : Int) (to1 : Int) (w : World) (R : Ending → World → Prop) : Prop :=
  allocK w (.cells #[.int .i64 from1] 3) fun w1 =>
  allocK w1 (.cells #[.int .i64 to1] 3) fun w2 =>
  allocK w2 (.cells #[.slice none 0 0] 44) fun w3 =>
  Calls Try.prog 40 #[.pointer s1] w3 (endK (fun v1 w4 =>
      ∃ (k1 : Nat) (first1 cap1 : Array Value), (v1 : Value) = .func (.func k1) first1 cap1 ∧ bodied Try.prog k1 = true ∧
      ∀ rec1 : Rec,
      (∀ y1 : ByteArray, ∀ y2 : Int, ∀ y3 : Int, ∀ (w6 : World) (K1 : Value → World → Prop), w6.heap[w4.heap.size + 1]? = some (rec1 .ready none) →
        (allocK w6 (.cells #[.int .i64 0, .int .i64 0] 68) fun w7 =>
          storeK w7 ⟨w6.heap.size, 0, none⟩ (.int .i64 y2) fun w8 =>
          storeK w8 ⟨w6.heap.size, 1, none⟩ (.int .i64 y3) fun w9 =>
          w9.heap[w4.heap.size + 1]? = some (rec1 .ready none) ∧
          ∃ x1 : Int, (w9.putObj (w4.heap.size + 1) (rec1 .busy none)).cell? ⟨w6.heap.size, 0, none⟩ = some (.int .i64 x1) ∧
          ∃ x2 : Int, (w9.putObj (w4.heap.size + 1) (rec1 .busy none)).cell? ⟨w.heap.size, 0, none⟩ = some (.int .i64 x2) ∧
          iteP ((decide (x1 > x2))) (
            ∃ x3 : Int, (w9.putObj (w4.heap.size + 1) (rec1 .busy none)).cell? ⟨w6.heap.size, 0, none⟩ = some (.int .i64 x3) ∧
            ∃ x4 : Int, (w9.putObj (w4.heap.size + 1) (rec1 .busy none)).cell? ⟨w1.heap.size, 0, none⟩ = some (.int .i64 x4) ∧
            iteP ((decide (x3 ≤ x4))) (
              ∃ x5a : Option Addr, ∃ x5l : Nat, ∃ x5c : Nat, (w9.putObj (w4.heap.size + 1) (rec1 .busy none)).cell? ⟨w2.heap.size, 0, none⟩ = some (.slice x5a x5l x5c) ∧
              ∃ x6 : Int, (w9.putObj (w4.heap.size + 1) (rec1 .busy none)).cell? ⟨w6.heap.size, 0, none⟩ = some (.int .i64 x6) ∧
              allocK (w9.putObj (w4.heap.size + 1) (rec1 .busy none)) (.cells #[.int .i64 x6, .string y1, .bool true] 49) fun w10 =>
              runK Try.prog (Builtin.append_ #[44, 44] 44 #[.slice x5a x5l x5c, .slice (some ⟨(w9.putObj (w4.heap.size + 1) (rec1 .busy none)).heap.size, 0, none⟩) 1 1]) w10 fun v2 w11 =>
              ∃ x7a : Option Addr, ∃ x7l : Nat, ∃ x7c : Nat, v2 = .slice x7a x7l x7c ∧
              storeK w11 ⟨w2.heap.size, 0, none⟩ (.slice x7a x7l x7c) fun w12 =>
              ∃ x8 : Int, w12.cell? ⟨w6.heap.size, 1, none⟩ = some (.int .i64 x8) ∧
              ∃ x9 : Int, w12.cell? ⟨w.heap.size, 0, none⟩ = some (.int .i64 x9) ∧
              iteP ((decide (x8 > (if 0 > x9 then 0 else x9)))) (
                ∃ x10 : Int, w12.cell? ⟨w6.heap.size, 1, none⟩ = some (.int .i64 x10) ∧
                ∃ x11 : Int, w12.cell? ⟨w1.heap.size, 0, none⟩ = some (.int .i64 x11) ∧
                iteP ((decide (x10 ≤ x11))) (
                  ∃ x12a : Option Addr, ∃ x12l : Nat, ∃ x12c : Nat, w12.cell? ⟨w2.heap.size, 0, none⟩ = some (.slice x12a x12l x12c) ∧
                  ∃ x13 : Int, w12.cell? ⟨w6.heap.size, 1, none⟩ = some (.int .i64 x13) ∧
                  allocK w12 (.cells #[.int .i64 x13, .string y1, .bool false] 49) fun w13 =>
                  runK Try.prog (Builtin.append_ #[44, 44] 44 #[.slice x12a x12l x12c, .slice (some ⟨w12.heap.size, 0, none⟩) 1 1]) w13 fun v3 w14 =>
                  ∃ x14a : Option Addr, ∃ x14l : Nat, ∃ x14c : Nat, v3 = .slice x14a x14l x14c ∧
                  storeK w14 ⟨w2.heap.size, 0, none⟩ (.slice x14a x14l x14c) fun w15 =>
                  w15.heap[w4.heap.size + 1]? = some (rec1 .busy none) ∧ K1 (.bool true) (w15.putObj (w4.heap.size + 1) (rec1 .ready none))) (
                  w12.heap[w4.heap.size + 1]? = some (rec1 .busy none) ∧ K1 (.bool true) (w12.putObj (w4.heap.size + 1) (rec1 .ready none)))) (
                w12.heap[w4.heap.size + 1]? = some (rec1 .busy none) ∧ K1 (.bool true) (w12.putObj (w4.heap.size + 1) (rec1 .ready none)))) (
              ∃ x15 : Int, (w9.putObj (w4.heap.size + 1) (rec1 .busy none)).cell? ⟨w6.heap.size, 1, none⟩ = some (.int .i64 x15) ∧
              ∃ x16 : Int, (w9.putObj (w4.heap.size + 1) (rec1 .busy none)).cell? ⟨w.heap.size, 0, none⟩ = some (.int .i64 x16) ∧
              iteP ((decide (x15 > (if 0 > x16 then 0 else x16)))) (
                ∃ x17 : Int, (w9.putObj (w4.heap.size + 1) (rec1 .busy none)).cell? ⟨w6.heap.size, 1, none⟩ = some (.int .i64 x17) ∧
                ∃ x18 : Int, (w9.putObj (w4.heap.size + 1) (rec1 .busy none)).cell? ⟨w1.heap.size, 0, none⟩ = some (.int .i64 x18) ∧
                iteP ((decide (x17 ≤ x18))) (
                  ∃ x19a : Option Addr, ∃ x19l : Nat, ∃ x19c : Nat, (w9.putObj (w4.heap.size + 1) (rec1 .busy none)).cell? ⟨w2.heap.size, 0, none⟩ = some (.slice x19a x19l x19c) ∧
                  ∃ x20 : Int, (w9.putObj (w4.heap.size + 1) (rec1 .busy none)).cell? ⟨w6.heap.size, 1, none⟩ = some (.int .i64 x20) ∧
                  allocK (w9.putObj (w4.heap.size + 1) (rec1 .busy none)) (.cells #[.int .i64 x20, .string y1, .bool false] 49) fun w16 =>
                  runK Try.prog (Builtin.append_ #[44, 44] 44 #[.slice x19a x19l x19c, .slice (some ⟨(w9.putObj (w4.heap.size + 1) (rec1 .busy none)).heap.size, 0, none⟩) 1 1]) w16 fun v4 w17 =>
                  ∃ x21a : Option Addr, ∃ x21l : Nat, ∃ x21c : Nat, v4 = .slice x21a x21l x21c ∧
                  storeK w17 ⟨w2.heap.size, 0, none⟩ (.slice x21a x21l x21c) fun w18 =>
                  w18.heap[w4.heap.size + 1]? = some (rec1 .busy none) ∧ K1 (.bool true) (w18.putObj (w4.heap.size + 1) (rec1 .ready none))) (
                  (w9.putObj (w4.heap.size + 1) (rec1 .busy none)).heap[w4.heap.size + 1]? = some (rec1 .busy none) ∧ K1 (.bool true) ((w9.putObj (w4.heap.size + 1) (rec1 .busy none)).putObj (w4.heap.size + 1) (rec1 .ready none)))) (
                (w9.putObj (w4.heap.size + 1) (rec1 .busy none)).heap[w4.heap.size + 1]? = some (rec1 .busy none) ∧ K1 (.bool true) ((w9.putObj (w4.heap.size + 1) (rec1 .busy none)).putObj (w4.heap.size + 1) (rec1 .ready none))))) (
            ∃ x22 : Int, (w9.putObj (w4.heap.size + 1) (rec1 .busy none)).cell? ⟨w6.heap.size, 1, none⟩ = some (.int .i64 x22) ∧
            ∃ x23 : Int, (w9.putObj (w4.heap.size + 1) (rec1 .busy none)).cell? ⟨w.heap.size, 0, none⟩ = some (.int .i64 x23) ∧
            iteP ((decide (x22 > (if 0 > x23 then 0 else x23)))) (
              ∃ x24 : Int, (w9.putObj (w4.heap.size + 1) (rec1 .busy none)).cell? ⟨w6.heap.size, 1, none⟩ = some (.int .i64 x24) ∧
              ∃ x25 : Int, (w9.putObj (w4.heap.size + 1) (rec1 .busy none)).cell? ⟨w1.heap.size, 0, none⟩ = some (.int .i64 x25) ∧
              iteP ((decide (x24 ≤ x25))) (
                ∃ x26a : Option Addr, ∃ x26l : Nat, ∃ x26c : Nat, (w9.putObj (w4.heap.size + 1) (rec1 .busy none)).cell? ⟨w2.heap.size, 0, none⟩ = some (.slice x26a x26l x26c) ∧
                ∃ x27 : Int, (w9.putObj (w4.heap.size + 1) (rec1 .busy none)).cell? ⟨w6.heap.size, 1, none⟩ = some (.int .i64 x27) ∧
                allocK (w9.putObj (w4.heap.size + 1) (rec1 .busy none)) (.cells #[.int .i64 x27, .string y1, .bool false] 49) fun w19 =>
                runK Try.prog (Builtin.append_ #[44, 44] 44 #[.slice x26a x26l x26c, .slice (some ⟨(w9.putObj (w4.heap.size + 1) (rec1 .busy none)).heap.size, 0, none⟩) 1 1]) w19 fun v5 w20 =>
                ∃ x28a : Option Addr, ∃ x28l : Nat, ∃ x28c : Nat, v5 = .slice x28a x28l x28c ∧
                storeK w20 ⟨w2.heap.size, 0, none⟩ (.slice x28a x28l x28c) fun w21 =>
                w21.heap[w4.heap.size + 1]? = some (rec1 .busy none) ∧ K1 (.bool true) (w21.putObj (w4.heap.size + 1) (rec1 .ready none))) (
                (w9.putObj (w4.heap.size + 1) (rec1 .busy none)).heap[w4.heap.size + 1]? = some (rec1 .busy none) ∧ K1 (.bool true) ((w9.putObj (w4.heap.size + 1) (rec1 .busy none)).putObj (w4.heap.size + 1) (rec1 .ready none)))) (
              (w9.putObj (w4.heap.size + 1) (rec1 .busy none)).heap[w4.heap.size + 1]? = some (rec1 .busy none) ∧ K1 (.bool true) ((w9.putObj (w4.heap.size + 1) (rec1 .busy none)).putObj (w4.heap.size + 1) (rec1 .ready none))))) →
        yieldAny Try.prog (w4.heap.size + 1) #[.string y1, .agg #[.int .i64 y2, .int .i64 y3]] w6 K1) →
      Calls Try.prog k1 (first1 ++ #[.func (.yield (w4.heap.size + 1)) #[] #[]] ++ cap1) ((w4.alloc (.deferred (some []))).alloc (rec1 .ready none)) (endK (fun _ w22 =>
          (w22.heap[w4.heap.size + 1]? = some (rec1 .ready none) ∧
            ∃ x29a : Option Addr, ∃ x29l : Nat, ∃ x29c : Nat, (w22.putObj (w4.heap.size + 1) (rec1 .exhausted none)).cell? ⟨w2.heap.size, 0, none⟩ = some (.slice x29a x29l x29c) ∧
            Calls Try.prog 41 #[.slice x29a x29l x29c, .func (.func 42) #[] #[]] (w22.putObj (w4.heap.size + 1) (rec1 .exhausted none)) (endK (fun v6 w23 =>
                v6 = .tuple #[] ∧
                ∃ x30a : Option Addr, ∃ x30l : Nat, ∃ x30c : Nat, w23.cell? ⟨w2.heap.size, 0, none⟩ = some (.slice x30a x30l x30c) ∧
                w23.heap[w4.heap.size]? = some (.deferred (some [])) ∧
                R (.returned (.slice x30a x30l x30c)) (w23.putObj w4.heap.size (.deferred none))) (fun c2 w24 => w24.heap[w4.heap.size]? = some (.deferred (some [])) ∧
                R (.panicked c2) (w24.putObj w4.heap.size (.deferred none))))) ∨
          False) (fun _ _ => False))) (fun c1 w5 => R (.panicked c1) w5))
theorem F23.eq (s1 : Option Addr) (from1 : Int) (to1 : Int) (w : World) (R : Ending → World → Prop) : lift Try.prog none F23.A 52 (bodyOf Try.f23) (retK Try.prog F23.A Try.f23 R) (argsF [.pointer s1, .int .i64 from1, .int .i64 to1]) [] w = F23.sh s1 from1 to1 w R := by kernel_rfl
theorem F23.calls_of (s1 : Option Addr) (from1 : Int) (to1 : Int) {w : World} {R : Ending → World → Prop} (h : F23.sh s1 from1 to1 w R) : Calls Try.prog 23 #[.pointer s1, .int .i64 from1, .int .i64 to1] w R :=
  calls_of_lift noNG mixedOk (fn := Try.f23) (c := bodyOf Try.f23) (args := [.pointer s1, .int .i64 from1, .int .i64 to1]) Try.func23 rfl rfl (cast (F23.eq s1 from1 to1 w R).symm h)

/-! #### doorman/doormanref14.Events -/
def F24.A : Ann := annOf [(12, (.one (.one .slice))), (18, (.one (.one .slice))), (21, (.one (.agg [.str, (.int .i64), (.int .i64)]))), (23, (.one (.one (.int .i64)))), (28, (.one (.one (.int .i64)))), (34, (.one (.one (.int .i64)))), (36, (.one (.one .str))), (38, (.one (.one .slice))), (40, (.one (.one (.int .i64)))), (44, (.one (.one (.int .i64)))), (50, (.one (.one (.int .i64)))), (56, (.one (.one (.int .i64)))), (58, (.one (.one .str))), (60, (.one (.one .slice)))] [(3, [7, 8], [(.one .slice), (.one (.int .i64))], [9, 10, 11, 12, 13, 14, 15, 16, 17, 18, 19, 20, 21, 22, 23, 24, 25, 26, 27, 28, 29, 30, 31, 32, 33, 34, 35, 36, 37, 38, 39, 40, 41, 42, 43, 44, 45, 46, 47, 48, 49, 50, 51, 52, 53, 54, 55, 56, 57, 58, 59, 60])]
def F24.sh (s1a : Option Addr) (s1l : Nat) (s1c : Nat) (s2 : Int) (from1 : Int) (to1 : Int) (w : World) (R : Ending → World → Prop) : Prop :=
  allocK w (.cells #[.slice s1a s1l s1c, .int .i64 s2] 30) fun w1 =>
  ∃ I1 : Option Addr → Nat → Nat → Int → Nat → World → Prop, (∃ k1, I1 none 0 0 0 k1 w1) ∧
  ∀ out1a : Option Addr, ∀ out1l : Nat, ∀ out1c : Nat, ∀ i1 : Int, ∀ (k2 : Nat) (w2 : World), I1 out1a out1l out1c i1 k2 w2 → ∀ z1 : Fr,
  ∃ x1a : Option Addr, ∃ x1l : Nat, ∃ x1c : Nat, w2.cell? ⟨w.heap.size, 0, none⟩ = some (.slice x1a x1l x1c) ∧
  iteP ((decide (i1 < ((x1l : Nat) : Int)))) (
    ∃ x2a : Option Addr, ∃ x2l : Nat, ∃ x2c : Nat, w2.cell? ⟨w.heap.size, 0, none⟩ = some (.slice x2a x2l x2c) ∧
    ((0 : Int) ≤ i1 ∧ i1 < ((x2l : Nat) : Int)) ∧
    onSome x2a fun p1 =>
    ∃ x3 : ByteArray, w2.cell? (Addr.add p1 (Int.toNat i1 * 3)) = some (.string x3) ∧ ∃ x4 : Int, w2.cell? (Addr.add (Addr.add p1 (Int.toNat i1 * 3)) 1) = some (.int .i64 x4) ∧ ∃ x5 : Int, w2.cell? (Addr.add (Addr.add p1 (Int.toNat i1 * 3)) 2) = some (.int .i64 x5) ∧ 
    allocK w2 (.cells #[.string ⟨#[]⟩, .int .i64 0, .int .i64 0] 71) fun w3 =>
    storeK w3 ⟨w2.heap.size, 0, none⟩ (.string x3) fun w4 =>
    storeK w4 ⟨w2.heap.size, 1, none⟩ (.int .i64 x4) fun w5 =>
    storeK w5 ⟨w2.heap.size, 2, none⟩ (.int .i64 x5) fun w6 =>
    ∃ x6 : Int, w6.cell? ⟨w2.heap.size, 1, none⟩ = some (.int .i64 x6) ∧
    iteP ((decide (x6 > from1))) (
      ∃ x7 : Int, w6.cell? ⟨w2.heap.size, 1, none⟩ = some (.int .i64 x7) ∧
      iteP ((decide (x7 ≤ to1))) (
        ∃ x8 : Int, w6.cell? ⟨w2.heap.size, 1, none⟩ = some (.int .i64 x8) ∧
        ∃ x9 : ByteArray, w6.cell? ⟨w2.heap.size, 0, none⟩ = some (.string x9) ∧
        Calls Try.prog 43 #[.slice out1a out1l out1c, .agg #[.int .i64 x8, .string x9, .bool true]] w6 (endK (fun v1 w7 =>
            ∃ x10a : Option Addr, ∃ x10l : Nat, ∃ x10c : Nat, v1 = .slice x10a x10l x10c ∧
            ∃ x11 : Int, w7.cell? ⟨w2.heap.size, 2, none⟩ = some (.int .i64 x11) ∧
            iteP ((decide (x11 > 0))) (
              ∃ x12 : Int, w7.cell? ⟨w2.heap.size, 2, none⟩ = some (.int .i64 x12) ∧
              iteP ((decide (x12 > from1))) (
                ∃ x13 : Int, w7.cell? ⟨w2.heap.size, 2, none⟩ = some (.int .i64 x13) ∧
                iteP ((decide (x13 ≤ to1))) (
                  ∃ x14 : Int, w7.cell? ⟨w2.heap.size, 2, none⟩ = some (.int .i64 x14) ∧
                  ∃ x15 : ByteArray, w7.cell? ⟨w2.heap.size, 0, none⟩ = some (.string x15) ∧
                  Calls Try.prog 43 #[.slice x10a x10l x10c, .agg #[.int .i64 x14, .string x15, .bool false]] w7 (endK (fun v2 w9 =>
                      ∃ x16a : Option Addr, ∃ x16l : Nat, ∃ x16c : Nat, v2 = .slice x16a x16l x16c ∧
                      ∃ k3, k3 < k2 ∧ I1 x16a x16l x16c ((IntKind.wrap .i64 (i1 + 1))) k3 w9) (fun c2 w10 => R (.panicked c2) w10))) (
                  ∃ k3, k3 < k2 ∧ I1 x10a x10l x10c ((IntKind.wrap .i64 (i1 + 1))) k3 w7)) (
                ∃ k3, k3 < k2 ∧ I1 x10a x10l x10c ((IntKind.wrap .i64 (i1 + 1))) k3 w7)) (
              ∃ k3, k3 < k2 ∧ I1 x10a x10l x10c ((IntKind.wrap .i64 (i1 + 1))) k3 w7)) (fun c1 w8 => R (.panicked c1) w8))) (
        ∃ x17 : Int, w6.cell? ⟨w2.heap.size, 2, none⟩ = some (.int .i64 x17) ∧
        iteP ((decide (x17 > 0))) (
          ∃ x18 : Int, w6.cell? ⟨w2.heap.size, 2, none⟩ = some (.int .i64 x18) ∧
          iteP ((decide (x18 > from1))) (
            ∃ x19 : Int, w6.cell? ⟨w2.heap.size, 2, none⟩ = some (.int .i64 x19) ∧
            iteP ((decide (x19 ≤ to1))) (
              ∃ x20 : Int, w6.cell? ⟨w2.heap.size, 2, none⟩ = some (.int .i64 x20) ∧
              ∃ x21 : ByteArray, w6.cell? ⟨w2.heap.size, 0, none⟩ = some (.string x21) ∧
              Calls Try.prog 43 #[.slice out1a out1l out1c, .agg #[.int .i64 x20, .string x21, .bool false]] w6 (endK (fun v3 w11 =>
                  ∃ x22a : Option Addr, ∃ x22l : Nat, ∃ x22c : Nat, v3 = .slice x22a x22l x22c ∧
                  ∃ k3, k3 < k2 ∧ I1 x22a x22l x22c ((IntKind.wrap .i64 (i1 + 1))) k3 w11) (fun c3 w12 => R (.panicked c3) w12))) (
              ∃ k3, k3 < k2 ∧ I1 out1a out1l out1c ((IntKind.wrap .i64 (i1 + 1))) k3 w6)) (
            ∃ k3, k3 < k2 ∧ I1 out1a out1l out1c ((IntKind.wrap .i64 (i1 + 1))) k3 w6)) (
          ∃ k3, k3 < k2 ∧ I1 out1a out1l out1c ((IntKind.wrap .i64 (i1 + 1))) k3 w6))) (
      ∃ x23 : Int, w6.cell? ⟨w2.heap.size, 2, none⟩ = some (.int .i64 x23) ∧
      iteP ((decide (x23 > 0))) (
        ∃ x24 : Int, w6.cell? ⟨w2.heap.size, 2, none⟩ = some (.int .i64 x24) ∧
        iteP ((decide (x24 > from1))) (
          ∃ x25 : Int, w6.cell? ⟨w2.heap.size, 2, none⟩ = some (.int .i64 x25) ∧
          iteP ((decide (x25 ≤ to1))) (
            ∃ x26 : Int, w6.cell? ⟨w2.heap.size, 2, none⟩ = some (.int .i64 x26) ∧
            ∃ x27 : ByteArray, w6.cell? ⟨w2.heap.size, 0, none⟩ = some (.string x27) ∧
            Calls Try.prog 43 #[.slice out1a out1l out1c, .agg #[.int .i64 x26, .string x27, .bool false]] w6 (endK (fun v4 w13 =>
                ∃ x28a : Option Addr, ∃ x28l : Nat, ∃ x28c : Nat, v4 = .slice x28a x28l x28c ∧
                ∃ k3, k3 < k2 ∧ I1 x28a x28l x28c ((IntKind.wrap .i64 (i1 + 1))) k3 w13) (fun c4 w14 => R (.panicked c4) w14))) (
            ∃ k3, k3 < k2 ∧ I1 out1a out1l out1c ((IntKind.wrap .i64 (i1 + 1))) k3 w6)) (
          ∃ k3, k3 < k2 ∧ I1 out1a out1l out1c ((IntKind.wrap .i64 (i1 + 1))) k3 w6)) (
        ∃ k3, k3 < k2 ∧ I1 out1a out1l out1c ((IntKind.wrap .i64 (i1 + 1))) k3 w6))) (
    R (.returned (.slice out1a out1l out1c)) w2)
theorem F24.eq (s1a : Option Addr) (s1l : Nat) (s1c : Nat) (s2 : Int) (from1 : Int) (to1 : Int) (w : World) (R : Ending → World → Prop) : lift Try.prog none F24.A 62 (bodyOf Try.f24) (retK Try.prog F24.A Try.f24 R) (argsF [.agg #[.slice s1a s1l s1c, .int .i64 s2], .int .i64 from1, .int .i64 to1]) [] w = F24.sh s1a s1l s1c s2 from1 to1 w R := by kernel_rfl
theorem F24.calls_of (s1a : Option Addr) (s1l : Nat) (s1c : Nat) (s2 : Int) (from1 : Int) (to1 : Int) {w : World} {R : Ending → World → Prop} (h : F24.sh s1a s1l s1c s2 from1 to1 w R) : Calls Try.prog 24 #[.agg #[.slice s1a s1l s1c, .int .i64 s2], .int .i64 from1, .int .i64 to1] w R :=
  calls_of_lift noNG mixedOk (fn := Try.f24) (c := bodyOf Try.f24) (args := [.agg #[.slice s1a s1l s1c, .int .i64 s2], .int .i64 from1, .int .i64 to1]) Try.func24 rfl rfl (cast (F24.eq s1a s1l s1c s2 from1 to1 w R).symm h)

/-! #### doorman/doormanlaw14.keys -/
def F25.A : Ann := annOf [(11, (.tup [(.one .str), (.one .bool)])), (23, (.one (.one .slice))), (29, (.tup [(.one .str), (.one .bool)]))] [(3, [5, 6, 7], [(.one .slice), (.one .str), (.one .bool)], [14, 15, 16, 17, 18, 19, 20, 21, 22, 23, 24, 25, 26, 27, 28, 29, 30, 31])]
def F25.sh (s1 : Option Addr) (rev1 : Int) (w : World) (R : Ending → World → Prop) : Prop :=
  Calls Try.prog 17 #[.pointer s1, .int .i64 rev1, .string ⟨#[]⟩, .string ⟨#[]⟩] w (endK (fun v1 w1 =>
      ∃ x1 : ByteArray, ∃ x2 : Bool, v1 = .tuple #[.string x1, .bool x2] ∧
      ∃ I1 : Option Addr → Nat → Nat → ByteArray → Bool → Nat → World → Prop, (∃ k2, I1 none 0 0 x1 x2 k2 w1) ∧
      ∀ out1a : Option Addr, ∀ out1l : Nat, ∀ out1c : Nat, ∀ k1 : ByteArray, ∀ is1 : Bool, ∀ (k3 : Nat) (w3 : World), I1 out1a out1l out1c k1 is1 k3 w3 → ∀ z1 : Fr,
      iteP is1 (
        iteP ((decide (((out1l : Nat) : Int) < 200))) (
          allocK w3 (.cells #[.string k1] 9) fun w4 =>
          runK Try.prog (Builtin.append_ #[52, 52] 52 #[.slice out1a out1l out1c, .slice (some ⟨w3.heap.size, 0, none⟩) 1 1]) w4 fun v2 w5 =>
          ∃ x3a : Option Addr, ∃ x3l : Nat, ∃ x3c : Nat, v2 = .slice x3a x3l x3c ∧
          ((k1.size + (⟨#[0]⟩ : ByteArray).size : Nat) : Int) ≤ IntKind.i64.max ∧
          Calls Try.prog 17 #[.pointer s1, .int .i64 rev1, .string (k1 ++ (⟨#[0]⟩ : ByteArray)), .string ⟨#[]⟩] w5 (endK (fun v3 w6 =>
              ∃ x4 : ByteArray, ∃ x5 : Bool, v3 = .tuple #[.string x4, .bool x5] ∧
              ∃ k4, k4 < k3 ∧ I1 x3a x3l x3c x4 x5 k4 w6) (fun c2 w7 => R (.panicked c2) w7))) (
          R (.returned (.slice out1a out1l out1c)) w3)) (
        R (.returned (.slice out1a out1l out1c)) w3)) (fun c1 w2 => R (.panicked c1) w2))
theorem F25.eq (s1 : Option Addr) (rev1 : Int) (w : World) (R : Ending → World → Prop) : lift Try.prog none F25.A 33 (bodyOf Try.f25) (retK Try.prog F25.A Try.f25 R) (argsF [.pointer s1, .int .i64 rev1]) [] w = F25.sh s1 rev1 w R := by kernel_rfl
theorem F25.calls_of (s1 : Option Addr) (rev1 : Int) {w : World} {R : Ending → World → Prop} (h : F25.sh s1 rev1 w R) : Calls Try.prog 25 #[.pointer s1, .int .i64 rev1] w R :=
  calls_of_lift noNG mixedOk (fn := Try.f25) (c := bodyOf Try.f25) (args := [.pointer s1, .int .i64 rev1]) Try.func25 rfl rfl (cast (F25.eq s1 rev1 w R).symm h)

/-! #### (*doorman/spans.Spans).open -/
def F26.A : Ann := annOf [(9, (.one (.one .map))), (11, (.one (.one .slice))), (22, (.one (.one (.int .i64))))] []
def F26.sh (s1 : Option Addr) (key1 : ByteArray) (w : World) (R : Ending → World → Prop) : Prop :=
  onSome s1 fun p1 =>
  ∃ x1 : Option Nat, w.cell? p1 = some (.map x1) ∧
  runK Try.prog (Instr.lookup 58 (.map x1) (.string key1) false) w fun v1 w1 =>
  ∃ x2a : Option Addr, ∃ x2l : Nat, ∃ x2c : Nat, v1 = .slice x2a x2l x2c ∧
  iteP ((((x2l : Nat) : Int) == 0)) (
    R (.returned (.pointer none)) w1) (
    ((0 : Int) ≤ (IntKind.wrap .i64 (((x2l : Nat) : Int) - 1)) ∧ (IntKind.wrap .i64 (((x2l : Nat) : Int) - 1)) < ((x2l : Nat) : Int)) ∧
    onSome x2a fun p2 =>
    ∃ x3 : Int, w1.cell? (Addr.add (Addr.add p2 (Int.toNat ((IntKind.wrap .i64 (((x2l : Nat) : Int) - 1))) * 2)) 1) = some (.int .i64 x3) ∧
    iteP (x3 != 0) (
      R (.returned (.pointer none)) w1) (
      ((0 : Int) ≤ (IntKind.wrap .i64 (((x2l : Nat) : Int) - 1)) ∧ (IntKind.wrap .i64 (((x2l : Nat) : Int) - 1)) < ((x2l : Nat) : Int)) ∧
      onSome x2a fun p3 =>
      R (.returned (.pointer (some (Addr.add p3 (Int.toNat ((IntKind.wrap .i64 (((x2l : Nat) : Int) - 1))) * 2))))) w1))
theorem F26.eq (s1 : Option Addr) (key1 : ByteArray) (w : World) (R : Ending → World → Prop) : lift Try.prog none F26.A 30 (bodyOf Try.f26) (retK Try.prog F26.A Try.f26 R) (argsF [.pointer s1, .string key1]) [] w = F26.sh s1 key1 w R := by kernel_rfl
theorem F26.calls_of (s1 : Option Addr) (key1 : ByteArray) {w : World} {R : Ending → World → Prop} (h : F26.sh s1 key1 w R) : Calls Try.prog 26 #[.pointer s1, .string key1] w R :=
  calls_of_lift noNG mixedOk (fn := Try.f26) (c := bodyOf Try.f26) (args := [.pointer s1, .string key1]) Try.func26 rfl rfl (cast (F26.eq s1 key1 w R).symm h)

/-! #### slices.BinarySearch[[]string,string] -/
def F27.A : Ann := annOf [(25, (.one (.one .str))), (27, (.one (.one .bool))), (39, (.one (.one .str))), (46, (.one (.one .str))), (47, (.one (.one .bool))), (50, (.one (.one .bool)))] [(3, [7, 8], [(.one (.int .i64)), (.one (.int .i64))], [9, 13, 14, 15, 16, 17, 18, 19, 20, 21, 22, 23, 24, 25, 26, 27, 28, 29, 30])]
def F27.sh (x1a : Option Addr) (x1l : Nat) (x1c : Nat) (target1 : ByteArray) (w : World) (R : Ending → World → Prop) : Prop :=
  ∃ I1 : Int → Int → Nat → World → Prop, (∃ k1, I1 0 (((x1l : Nat) : Int)) k1 w) ∧
  ∀ i1 : Int, ∀ j1 : Int, ∀ (k2 : Nat) (w1 : World), I1 i1 j1 k2 w1 → ∀ z1 : Fr,
  iteP ((decide (i1 < j1))) (
    ((0 : Int) ≤ (IntKind.wrap .i64 (Int.fdiv (IntKind.wrap .u64 (IntKind.wrap .i64 (i1 + j1))) (2 ^ (min (Int.toNat 1) (IntKind.bits .u64))))) ∧ (IntKind.wrap .i64 (Int.fdiv (IntKind.wrap .u64 (IntKind.wrap .i64 (i1 + j1))) (2 ^ (min (Int.toNat 1) (IntKind.bits .u64))))) < ((x1l : Nat) : Int)) ∧
    onSome x1a fun p1 =>
    ∃ x2 : ByteArray, w1.cell? (Addr.add p1 (Int.toNat ((IntKind.wrap .i64 (Int.fdiv (IntKind.wrap .u64 (IntKind.wrap .i64 (i1 + j1))) (2 ^ (min (Int.toNat 1) (IntKind.bits .u64)))))) * 1)) = some (.string x2) ∧
    Calls Try.prog 44 #[.string x2, .string target1] w1 (endK (fun v1 w2 =>
        ∃ x3 : Bool, v1 = .bool x3 ∧
        iteP x3 (
          ∃ k3, k3 < k2 ∧ I1 ((IntKind.wrap .i64 ((IntKind.wrap .i64 (Int.fdiv (IntKind.wrap .u64 (IntKind.wrap .i64 (i1 + j1))) (2 ^ (min (Int.toNat 1) (IntKind.bits .u64))))) + 1))) j1 k3 w2) (
          ∃ k3, k3 < k2 ∧ I1 i1 ((IntKind.wrap .i64 (Int.fdiv (IntKind.wrap .u64 (IntKind.wrap .i64 (i1 + j1))) (2 ^ (min (Int.toNat 1) (IntKind.bits .u64)))))) k3 w2)) (fun c1 w3 => R (.panicked c1) w3))) (
    iteP ((decide (i1 < ((x1l : Nat) : Int)))) (
      ((0 : Int) ≤ i1 ∧ i1 < ((x1l : Nat) : Int)) ∧
      onSome x1a fun p2 =>
      ∃ x4 : ByteArray, w1.cell? (Addr.add p2 (Int.toNat i1 * 1)) = some (.string x4) ∧
      iteP (x4.toList == target1.toList) (
        R (.returned (.tuple #[.int .i64 i1, .bool true])) w1) (
        ((0 : Int) ≤ i1 ∧ i1 < ((x1l : Nat) : Int)) ∧
        onSome x1a fun p3 =>
        ∃ x5 : ByteArray, w1.cell? (Addr.add p3 (Int.toNat i1 * 1)) = some (.string x5) ∧
        Calls Try.prog 45 #[.string x5] w1 (endK (fun v2 w4 =>
            ∃ x6 : Bool, v2 = .bool x6 ∧
            iteP x6 (
              Calls Try.prog 45 #[.string target1] w4 (endK (fun v3 w6 =>
                  ∃ x7 : Bool, v3 = .bool x7 ∧
                  R (.returned (.tuple #[.int .i64 i1, .bool x7])) w6) (fun c3 w7 => R (.panicked c3) w7))) (
              R (.returned (.tuple #[.int .i64 i1, .bool false])) w4)) (fun c2 w5 => R (.panicked c2) w5)))) (
      R (.returned (.tuple #[.int .i64 i1, .bool false])) w1))
theorem F27.eq (x1a : Option Addr) (x1l : Nat) (x1c : Nat) (target1 : ByteArray) (w : World) (R : Ending → World → Prop) : lift Try.prog none F27.A 54 (bodyOf Try.f27) (retK Try.prog F27.A Try.f27 R) (argsF [.slice x1a x1l x1c, .string target1]) [] w = F27.sh x1a x1l x1c target1 w R := by kernel_rfl
theorem F27.calls_of (x1a : Option Addr) (x1l : Nat) (x1c : Nat) (target1 : ByteArray) {w : World} {R : Ending → World → Prop} (h : F27.sh x1a x1l x1c target1 w R) : Calls Try.prog 27 #[.slice x1a x1l x1c, .string target1] w R :=
  calls_of_lift noNG mixedOk (fn := Try.f27) (c := bodyOf Try.f27) (args := [.slice x1a x1l x1c, .string target1]) Try.func27 rfl rfl (cast (F27.eq x1a x1l x1c target1 w R).symm h)

/-! #### slices.Insert[[]string,string] -/
def F28.A : Ann := annOf [(25, (.one (.one .slice))), (40, (.one (.one .slice))), (45, (.one (.one (.int .i64)))), (54, (.one (.one (.int .i64)))), (67, (.one (.one .bool))), (77, (.one (.one (.int .i64)))), (82, (.one (.one (.int .i64)))), (88, (.one (.one (.int .i64)))), (93, (.tup []))] []
def F28.sh (s1a : Option Addr) (s1l : Nat) (s1c : Nat) (i1 : Int) (v1a : Option Addr) (v1l : Nat) (v1c : Nat) (w : World) (R : Ending → World → Prop) : Prop :=
  ((0 : Int) ≤ i1 ∧ i1 ≤ ((s1l : Nat) : Int)) ∧
  iteP ((((v1l : Nat) : Int) == 0)) (
    R (.returned (.slice s1a s1l s1c)) w) (
    iteP ((i1 == ((s1l : Nat) : Int))) (
      runK Try.prog (Builtin.append_ #[52, 52] 52 #[.slice s1a s1l s1c, .slice v1a v1l v1c]) w fun v2 w1 =>
      ∃ x1a : Option Addr, ∃ x1l : Nat, ∃ x1c : Nat, v2 = .slice x1a x1l x1c ∧
      R (.returned (.slice x1a x1l x1c)) w1) (
      iteP ((decide ((IntKind.wrap .i64 (((s1l : Nat) : Int) + ((v1l : Nat) : Int))) > ((s1c : Nat) : Int)))) (
        ((0 : Int) ≤ i1 ∧ i1 ≤ ((s1c : Nat) : Int)) ∧
        runK Try.prog (Builtin.append_ #[52, 3] 52 #[.slice (slA s1a 0 s1c 1) ((Int.toNat i1) - 0) (s1c - 0), .int .i64 (IntKind.wrap .i64 ((IntKind.wrap .i64 (((s1l : Nat) : Int) + ((v1l : Nat) : Int))) - i1))]) w fun v3 w2 =>
        ∃ x2a : Option Addr, ∃ x2l : Nat, ∃ x2c : Nat, v3 = .slice x2a x2l x2c ∧
        ((0 : Int) ≤ i1 ∧ i1 ≤ ((x2l : Nat) : Int)) ∧
        runK Try.prog (Builtin.copy_ #[52, 52] 3 #[.slice (slA x2a (Int.toNat i1) x2c 1) (x2l - (Int.toNat i1)) (x2c - (Int.toNat i1)), .slice v1a v1l v1c]) w2 fun v4 w3 =>
        ∃ x3 : Int, v4 = .int .i64 x3 ∧
        ((0 : Int) ≤ (IntKind.wrap .i64 (i1 + ((v1l : Nat) : Int))) ∧ (IntKind.wrap .i64 (i1 + ((v1l : Nat) : Int))) ≤ ((x2l : Nat) : Int)) ∧
        ((0 : Int) ≤ i1 ∧ i1 ≤ ((s1l : Nat) : Int)) ∧
        runK Try.prog (Builtin.copy_ #[52, 52] 3 #[.slice (slA x2a (Int.toNat ((IntKind.wrap .i64 (i1 + ((v1l : Nat) : Int))))) x2c 1) (x2l - (Int.toNat ((IntKind.wrap .i64 (i1 + ((v1l : Nat) : Int)))))) (x2c - (Int.toNat ((IntKind.wrap .i64 (i1 + ((v1l : Nat) : Int)))))), .slice (slA s1a (Int.toNat i1) s1c 1) (s1l - (Int.toNat i1)) (s1c - (Int.toNat i1))]) w3.drew fun v5 w4 =>
        ∃ x4 : Int, v5 = .int .i64 x4 ∧
        R (.returned (.slice x2a x2l x2c)) w4) (
        ((0 : Int) ≤ (IntKind.wrap .i64 (((s1l : Nat) : Int) + ((v1l : Nat) : Int))) ∧ (IntKind.wrap .i64 (((s1l : Nat) : Int) + ((v1l : Nat) : Int))) ≤ ((s1c : Nat) : Int)) ∧
        ((0 : Int) ≤ (IntKind.wrap .i64 (i1 + ((v1l : Nat) : Int))) ∧ (IntKind.wrap .i64 (i1 + ((v1l : Nat) : Int))) ≤ ((((Int.toNat ((IntKind.wrap .i64 (((s1l : Nat) : Int) + ((v1l : Nat) : Int))))) - 0) : Nat) : Int)) ∧
        externK Try.prog 46 #[.slice v1a v1l v1c, .slice (slA (slA s1a 0 s1c 1) (Int.toNat ((IntKind.wrap .i64 (i1 + ((v1l : Nat) : Int))))) (s1c - 0) 1) (((Int.toNat ((IntKind.wrap .i64 (((s1l : Nat) : Int) + ((v1l : Nat) : Int))))) - 0) - (Int.toNat ((IntKind.wrap .i64 (i1 + ((v1l : Nat) : Int)))))) ((s1c - 0) - (Int.toNat ((IntKind.wrap .i64 (i1 + ((v1l : Nat) : Int))))))] w fun v6 w5 =>
        ∃ x5 : Bool, v6 = .bool x5 ∧
        iteP (!x5) (
          ((0 : Int) ≤ (IntKind.wrap .i64 (i1 + ((v1l : Nat) : Int))) ∧ (IntKind.wrap .i64 (i1 + ((v1l : Nat) : Int))) ≤ ((((Int.toNat ((IntKind.wrap .i64 (((s1l : Nat) : Int) + ((v1l : Nat) : Int))))) - 0) : Nat) : Int)) ∧
          ((0 : Int) ≤ i1 ∧ i1 ≤ ((((Int.toNat ((IntKind.wrap .i64 (((s1l : Nat) : Int) + ((v1l : Nat) : Int))))) - 0) : Nat) : Int)) ∧
          runK Try.prog (Builtin.copy_ #[52, 52] 3 #[.slice (slA (slA s1a 0 s1c 1) (Int.toNat ((IntKind.wrap .i64 (i1 + ((v1l : Nat) : Int))))) (s1c - 0) 1) (((Int.toNat ((IntKind.wrap .i64 (((s1l : Nat) : Int) + ((v1l : Nat) : Int))))) - 0) - (Int.toNat ((IntKind.wrap .i64 (i1 + ((v1l : Nat) : Int)))))) ((s1c - 0) - (Int.toNat ((IntKind.wrap .i64 (i1 + ((v1l : Nat) : Int)))))), .slice (slA (slA s1a 0 s1c 1) (Int.toNat i1) (s1c - 0) 1) (((Int.toNat ((IntKind.wrap .i64 (((s1l : Nat) : Int) + ((v1l : Nat) : Int))))) - 0) - (Int.toNat i1)) ((s1c - 0) - (Int.toNat i1))]) w5.drew fun v7 w7 =>
          ∃ x6 : Int, v7 = .int .i64 x6 ∧
          ((0 : Int) ≤ i1 ∧ i1 ≤ ((((Int.toNat ((IntKind.wrap .i64 (((s1l : Nat) : Int) + ((v1l : Nat) : Int))))) - 0) : Nat) : Int)) ∧
          runK Try.prog (Builtin.copy_ #[52, 52] 3 #[.slice (slA (slA s1a 0 s1c 1) (Int.toNat i1) (s1c - 0) 1) (((Int.toNat ((IntKind.wrap .i64 (((s1l : Nat) : Int) + ((v1l : Nat) : Int))))) - 0) - (Int.toNat i1)) ((s1c - 0) - (Int.toNat i1)), .slice v1a v1l v1c]) w7 fun v8 w8 =>
          ∃ x7 : Int, v8 = .int .i64 x7 ∧
          R (.returned (.slice (slA s1a 0 s1c 1) ((Int.toNat ((IntKind.wrap .i64 (((s1l : Nat) : Int) + ((v1l : Nat) : Int))))) - 0) (s1c - 0))) w8) (
          ((0 : Int) ≤ ((s1l : Nat) : Int) ∧ ((s1l : Nat) : Int) ≤ ((((Int.toNat ((IntKind.wrap .i64 (((s1l : Nat) : Int) + ((v1l : Nat) : Int))))) - 0) : Nat) : Int)) ∧
          runK Try.prog (Builtin.copy_ #[52, 52] 3 #[.slice (slA (slA s1a 0 s1c 1) (Int.toNat (((s1l : Nat) : Int))) (s1c - 0) 1) (((Int.toNat ((IntKind.wrap .i64 (((s1l : Nat) : Int) + ((v1l : Nat) : Int))))) - 0) - (Int.toNat (((s1l : Nat) : Int)))) ((s1c - 0) - (Int.toNat (((s1l : Nat) : Int)))), .slice v1a v1l v1c]) w5 fun v9 w9 =>
          ∃ x8 : Int, v9 = .int .i64 x8 ∧
          ((0 : Int) ≤ i1 ∧ i1 ≤ ((((Int.toNat ((IntKind.wrap .i64 (((s1l : Nat) : Int) + ((v1l : Nat) : Int))))) - 0) : Nat) : Int)) ∧
          Calls Try.prog 47 #[.slice (slA (slA s1a 0 s1c 1) (Int.toNat i1) (s1c - 0) 1) (((Int.toNat ((IntKind.wrap .i64 (((s1l : Nat) : Int) + ((v1l : Nat) : Int))))) - 0) - (Int.toNat i1)) ((s1c - 0) - (Int.toNat i1)), .int .i64 ((v1l : Nat) : Int)] w9 (endK (fun v10 w10 =>
              v10 = .tuple #[] ∧
              R (.returned (.slice (slA s1a 0 s1c 1) ((Int.toNat ((IntKind.wrap .i64 (((s1l : Nat) : Int) + ((v1l : Nat) : Int))))) - 0) (s1c - 0))) w10) (fun c2 w11 => R (.panicked c2) w11))))))
theorem F28.eq (s1a : Option Addr) (s1l : Nat) (s1c : Nat) (i1 : Int) (v1a : Option Addr) (v1l : Nat) (v1c : Nat) (w : World) (R : Ending → World → Prop) : lift Try.prog none F28.A 95 (bodyOf Try.f28) (retK Try.prog F28.A Try.f28 R) (argsF [.slice s1a s1l s1c, .int .i64 i1, .slice v1a v1l v1c]) [] w = F28.sh s1a s1l s1c i1 v1a v1l v1c w R := by kernel_rfl
theorem F28.calls_of (s1a : Option Addr) (s1l : Nat) (s1c : Nat) (i1 : Int) (v1a : Option Addr) (v1l : Nat) (v1c : Nat) {w : World} {R : Ending → World → Prop} (h : F28.sh s1a s1l s1c i1 v1a v1l v1c w R) : Calls Try.prog 28 #[.slice s1a s1l s1c, .int .i64 i1, .slice v1a v1l v1c] w R :=
  calls_of_lift noNG mixedOk (fn := Try.f28) (c := bodyOf Try.f28) (args := [.slice s1a s1l s1c, .int .i64 i1, .slice v1a v1l v1c]) Try.func28 rfl rfl (cast (F28.eq s1a s1l s1c i1 v1a v1l v1c w R).symm h)

/-! #### doorman/doormanref14.open -/
def F29.A : Ann := annOf [(8, (.one (.one .slice))), (14, (.one (.one .slice))), (18, (.one (.one .str))), (23, (.one (.one .slice))), (27, (.one (.one (.int .i64))))] [(2, [5], [(.one (.int .i64))], [4, 6, 7, 8, 9, 10, 11, 12, 13, 14, 15, 16, 17, 18, 19, 20, 21, 22, 23, 24, 25, 26, 27, 28, 29, 30])]
def F29.sh (s1a : Option Addr) (s1l : Nat) (s1c : Nat) (s2 : Int) (key1 : ByteArray) (w : World) (R : Ending → World → Prop) : Prop :=
  allocK w (.cells #[.slice s1a s1l s1c, .int .i64 s2] 30) fun w1 =>
  ∃ I1 : Int → Nat → World → Prop, (∃ k1, I1 0 k1 w1) ∧
  ∀ i1 : Int, ∀ (k2 : Nat) (w2 : World), I1 i1 k2 w2 → ∀ z1 : Fr,
  ∃ x1a : Option Addr, ∃ x1l : Nat, ∃ x1c : Nat, w2.cell? ⟨w.heap.size, 0, none⟩ = some (.slice x1a x1l x1c) ∧
  iteP ((decide (i1 < ((x1l : Nat) : Int)))) (
    ∃ x2a : Option Addr, ∃ x2l : Nat, ∃ x2c : Nat, w2.cell? ⟨w.heap.size, 0, none⟩ = some (.slice x2a x2l x2c) ∧
    ((0 : Int) ≤ i1 ∧ i1 < ((x2l : Nat) : Int)) ∧
    onSome x2a fun p1 =>
    ∃ x3 : ByteArray, w2.cell? (Addr.add p1 (Int.toNat i1 * 3)) = some (.string x3) ∧
    iteP (x3.toList == key1.toList) (
      ∃ x4a : Option Addr, ∃ x4l : Nat, ∃ x4c : Nat, w2.cell? ⟨w.heap.size, 0, none⟩ = some (.slice x4a x4l x4c) ∧
      ((0 : Int) ≤ i1 ∧ i1 < ((x4l : Nat) : Int)) ∧
      onSome x4a fun p2 =>
      ∃ x5 : Int, w2.cell? (Addr.add (Addr.add p2 (Int.toNat i1 * 3)) 2) = some (.int .i64 x5) ∧
      iteP (x5 == 0) (
        R (.returned (.int .i64 i1)) w2) (
        ∃ k3, k3 < k2 ∧ I1 ((IntKind.wrap .i64 (i1 + 1))) k3 w2)) (
      ∃ k3, k3 < k2 ∧ I1 ((IntKind.wrap .i64 (i1 + 1))) k3 w2)) (
    R (.returned (.int .i64 (-1))) w2)
theorem F29.eq (s1a : Option Addr) (s1l : Nat) (s1c : Nat) (s2 : Int) (key1 : ByteArray) (w : World) (R : Ending → World → Prop) : lift Try.prog none F29.A 31 (bodyOf Try.f29) (retK Try.prog F29.A Try.f29 R) (argsF [.agg #[.slice s1a s1l s1c, .int .i64 s2], .string key1]) [] w = F29.sh s1a s1l s1c s2 key1 w R := by kernel_rfl
theorem F29.calls_of (s1a : Option Addr) (s1l : Nat) (s1c : Nat) (s2 : Int) (key1 : ByteArray) {w : World} {R : Ending → World → Prop} (h : F29.sh s1a s1l s1c s2 key1 w R) : Calls Try.prog 29 #[.agg #[.slice s1a s1l s1c, .int .i64 s2], .string key1] w R :=
  calls_of_lift noNG mixedOk (fn := Try.f29) (c := bodyOf Try.f29) (args := [.agg #[.slice s1a s1l s1c, .int .i64 s2], .string key1]) Try.func29 rfl rfl (cast (F29.eq s1a s1l s1c s2 key1 w R).symm h)

/-! #### (*doorman/spans.Spans).Trim$1 -/
def F30.A : Ann := annOf [(5, (.one (.one (.int .i64)))), (9, (.one (.one (.int .i64)))), (10, (.one (.one (.int .i64))))] []
def F30.sh (x1 : Int) (x2 : Int) (free1 : Option Addr) (w : World) (R : Ending → World → Prop) : Prop :=
  allocK w (.cells #[.int .i64 x1, .int .i64 x2] 68) fun w1 =>
  ∃ x3 : Int, w1.cell? ⟨w.heap.size, 1, none⟩ = some (.int .i64 x3) ∧
  iteP (x3 != 0) (
    ∃ x4 : Int, w1.cell? ⟨w.heap.size, 1, none⟩ = some (.int .i64 x4) ∧
    onSome free1 fun p1 =>
    ∃ x5 : Int, w1.cell? p1 = some (.int .i64 x5) ∧
    R (.returned (.bool (decide (x4 ≤ x5)))) w1) (
    R (.returned (.bool false)) w1)
theorem F30.eq (x1 : Int) (x2 : Int) (free1 : Option Addr) (w : World) (R : Ending → World → Prop) : lift Try.prog none F30.A 13 (bodyOf Try.f30) (retK Try.prog F30.A Try.f30 R) (argsF [.agg #[.int .i64 x1, .int .i64 x2], .pointer free1]) [] w = F30.sh x1 x2 free1 w R := by kernel_rfl
theorem F30.calls_of (x1 : Int) (x2 : Int) (free1 : Option Addr) {w : World} {R : Ending → World → Prop} (h : F30.sh x1 x2 free1 w R) : Calls Try.prog 30 #[.agg #[.int .i64 x1, .int .i64 x2], .pointer free1] w R :=
  calls_of_lift noNG mixedOk (fn := Try.f30) (c := bodyOf Try.f30) (args := [.agg #[.int .i64 x1, .int .i64 x2], .pointer free1]) Try.func30 rfl rfl (cast (F30.eq x1 x2 free1 w R).symm h)

/-! #### slices.Collect[string] -/
def F31.A : Ann := annOf [(4, (.one (.one .slice)))] []
def F31.sh (seq1g : Nat) (seq1c : Array Value) (w : World) (R : Ending → World → Prop) : Prop :=
  Calls Try.prog 48 #[.slice none 0 0, .func (.func seq1g) #[] seq1c] w (endK (fun v1 w1 =>
      ∃ x1a : Option Addr, ∃ x1l : Nat, ∃ x1c : Nat, v1 = .slice x1a x1l x1c ∧
      R (.returned (.slice x1a x1l x1c)) w1) (fun c1 w2 => R (.panicked c1) w2))
theorem F31.eq (seq1g : Nat) (seq1c : Array Value) (w : World) (R : Ending → World → Prop) : lift Try.prog none F31.A 5 (bodyOf Try.f31) (retK Try.prog F31.A Try.f31 R) (argsF [.func (.func seq1g) #[] seq1c]) [] w = F31.sh seq1g seq1c w R := by kernel_rfl
theorem F31.calls_of (seq1g : Nat) (seq1c : Array Value) {w : World} {R : Ending → World → Prop} (h : F31.sh seq1g seq1c w R) : Calls Try.prog 31 #[.func (.func seq1g) #[] seq1c] w R :=
  calls_of_lift noNG mixedOk (fn := Try.f31) (c := bodyOf Try.f31) (args := [.func (.func seq1g) #[] seq1c]) Try.func31 rfl rfl (cast (F31.eq seq1g seq1c w R).symm h)

/-! #### maps.Keys[map[string][]doorman/spans.span,string,[]doorman/spans.span] -/
def F32.A : Ann := annOf [] []
def F32.sh (m1 : Option Nat) (w : World) (R : Ending → World → Prop) : Prop :=
  allocK w (.cells #[.map m1] 58) fun w1 =>
  R (.returned (.func (.func 49) #[] #[.pointer (some ⟨w.heap.size, 0, none⟩)])) w1
theorem F32.eq (m1 : Option Nat) (w : World) (R : Ending → World → Prop) : lift Try.prog none F32.A 4 (bodyOf Try.f32) (retK Try.prog F32.A Try.f32 R) (argsF [.map m1]) [] w = F32.sh m1 w R := by kernel_rfl
theorem F32.calls_of (m1 : Option Nat) {w : World} {R : Ending → World → Prop} (h : F32.sh m1 w R) : Calls Try.prog 32 #[.map m1] w R :=
  calls_of_lift noNG mixedOk (fn := Try.f32) (c := bodyOf Try.f32) (args := [.map m1]) Try.func32 rfl rfl (cast (F32.eq m1 w R).symm h)

/-! #### slices.DeleteFunc[[]doorman/spans.span,doorman/spans.span] -/
def F33.A : Ann := annOf [(10, (.one (.one (.int .i64)))), (25, (.one (.agg [(.int .i64), (.int .i64)]))), (27, (.one (.agg [(.int .i64), (.int .i64)]))), (28, (.one (.one .bool))), (32, (.one (.agg [(.int .i64), (.int .i64)])))] [(5, [5, 6], [(.one (.int .i64)), (.one (.int .i64))], [7, 16, 17, 18, 19, 20, 21, 22, 23, 24, 25, 26, 27, 28, 29, 30, 31, 32, 33, 34, 35])]
def F33.sh (s1a : Option Addr) (s1l : Nat) (s1c : Nat) (del1g : Nat) (del1c : Array Value) (w : World) (R : Ending → World → Prop) : Prop :=
  Calls Try.prog 50 #[.slice s1a s1l s1c, .func (.func del1g) #[] del1c] w (endK (fun v1 w1 =>
      ∃ x1 : Int, v1 = .int .i64 x1 ∧
      iteP ((x1 == (-1))) (
        R (.returned (.slice s1a s1l s1c)) w1) (
        ∃ I1 : Int → Int → Nat → World → Prop, (∃ k1, I1 x1 ((IntKind.wrap .i64 (x1 + 1))) k1 w1) ∧
        ∀ i1 : Int, ∀ j1 : Int, ∀ (k2 : Nat) (w3 : World), I1 i1 j1 k2 w3 → ∀ z1 : Fr,
        iteP ((decide (j1 < ((s1l : Nat) : Int)))) (
          ((0 : Int) ≤ j1 ∧ j1 < ((s1l : Nat) : Int)) ∧
          onSome s1a fun p1 =>
          ∃ x2 : Int, w3.cell? (Addr.add p1 (Int.toNat j1 * 2)) = some (.int .i64 x2) ∧ ∃ x3 : Int, w3.cell? (Addr.add (Addr.add p1 (Int.toNat j1 * 2)) 1) = some (.int .i64 x3) ∧ 
          allocK w3 (.cells #[.int .i64 0, .int .i64 0] 68) fun w4 =>
          storeK w4 ⟨w3.heap.size, 0, none⟩ (.int .i64 x2) fun w5 =>
          storeK w5 ⟨w3.heap.size, 1, none⟩ (.int .i64 x3) fun w6 =>
          ∃ x4 : Int, w6.cell? ⟨w3.heap.size, 0, none⟩ = some (.int .i64 x4) ∧ ∃ x5 : Int, w6.cell? ⟨w3.heap.size, 1, none⟩ = some (.int .i64 x5) ∧ 
          callAny Try.prog del1g (.agg #[.int .i64 x4, .int .i64 x5] :: del1c.toList).toArray w6 (fun v2 w7 =>
            ∃ x6 : Bool, v2 = .bool x6 ∧
            iteP (!x6) (
              ∃ x7 : Int, w7.cell? ⟨w3.heap.size, 0, none⟩ = some (.int .i64 x7) ∧ ∃ x8 : Int, w7.cell? ⟨w3.heap.size, 1, none⟩ = some (.int .i64 x8) ∧ 
              ((0 : Int) ≤ i1 ∧ i1 < ((s1l : Nat) : Int)) ∧
              onSome s1a fun p2 =>
              storeK w7 (Addr.add p2 (Int.toNat i1 * 2)) (.int .i64 x7) fun w9 =>
              storeK w9 (Addr.add (Addr.add p2 (Int.toNat i1 * 2)) 1) (.int .i64 x8) fun w10 =>
              ∃ k3, k3 < k2 ∧ I1 ((IntKind.wrap .i64 (i1 + 1))) ((IntKind.wrap .i64 (j1 + 1))) k3 w10) (
              ∃ k3, k3 < k2 ∧ I1 i1 ((IntKind.wrap .i64 (j1 + 1))) k3 w7)) (fun c2 w8 => R (.panicked c2) w8)) (
          ((0 : Int) ≤ i1 ∧ i1 ≤ ((s1l : Nat) : Int)) ∧
          runK Try.prog (Builtin.clear_ #[66] 0 #[.slice (slA s1a (Int.toNat i1) s1c 2) (s1l - (Int.toNat i1)) (s1c - (Int.toNat i1))]) w3 fun v3 w11 =>
          ((0 : Int) ≤ i1 ∧ i1 ≤ ((s1c : Nat) : Int)) ∧
          R (.returned (.slice (slA s1a 0 s1c 2) ((Int.toNat i1) - 0) (s1c - 0))) w11))) (fun c1 w2 => R (.panicked c1) w2))
theorem F33.eq (s1a : Option Addr) (s1l : Nat) (s1c : Nat) (del1g : Nat) (del1c : Array Value) (w : World) (R : Ending → World → Prop) : lift Try.prog none F33.A 42 (bodyOf Try.f33) (retK Try.prog F33.A Try.f33 R) (argsF [.slice s1a s1l s1c, .func (.func del1g) #[] del1c]) [] w = F33.sh s1a s1l s1c del1g del1c w R := by kernel_rfl
theorem F33.calls_of (s1a : Option Addr) (s1l : Nat) (s1c : Nat) (del1g : Nat) (del1c : Array Value) {w : World} {R : Ending → World → Prop} (h : F33.sh s1a s1l s1c del1g del1c w R) : Calls Try.prog 33 #[.slice s1a s1l s1c, .func (.func del1g) #[] del1c] w R :=
  calls_of_lift noNG mixedOk (fn := Try.f33) (c := bodyOf Try.f33) (args := [.slice s1a s1l s1c, .func (.func del1g) #[] del1c]) Try.func33 rfl rfl (cast (F33.eq s1a s1l s1c del1g del1c w R).symm h)

/-! #### slices.DeleteFunc[[]string,string] -/
def F34.A : Ann := annOf [(10, (.one (.one (.int .i64)))), (25, (.one (.one .str))), (28, (.one (.one .bool)))] [(5, [5, 6], [(.one (.int .i64)), (.one (.int .i64))], [7, 16, 17, 18, 19, 20, 21, 22, 23, 24, 25, 26, 27, 28, 29, 30, 31, 32, 33, 34, 35])]
def F34.sh (s1a : Option Addr) (s1l : Nat) (s1c : Nat) (del1g : Nat) (del1c : Array Value) (w : World) (R : Ending → World → Prop) : Prop :=
  Calls Try.prog 51 #[.slice s1a s1l s1c, .func (.func del1g) #[] del1c] w (endK (fun v1 w1 =>
      ∃ x1 : Int, v1 = .int .i64 x1 ∧
      iteP ((x1 == (-1))) (
        R (.returned (.slice s1a s1l s1c)) w1) (
        ∃ I1 : Int → Int → Nat → World → Prop, (∃ k1, I1 x1 ((IntKind.wrap .i64 (x1 + 1))) k1 w1) ∧
        ∀ i1 : Int, ∀ j1 : Int, ∀ (k2 : Nat) (w3 : World), I1 i1 j1 k2 w3 → ∀ z1 : Fr,
        iteP ((decide (j1 < ((s1l : Nat) : Int)))) (
          ((0 : Int) ≤ j1 ∧ j1 < ((s1l : Nat) : Int)) ∧
          onSome s1a fun p1 =>
          ∃ x2 : ByteArray, w3.cell? (Addr.add p1 (Int.toNat j1 * 1)) = some (.string x2) ∧
          callAny Try.prog del1g (.string x2 :: del1c.toList).toArray w3 (fun v2 w4 =>
            ∃ x3 : Bool, v2 = .bool x3 ∧
            iteP (!x3) (
              ((0 : Int) ≤ i1 ∧ i1 < ((s1l : Nat) : Int)) ∧
              onSome s1a fun p2 =>
              storeK w4 (Addr.add p2 (Int.toNat i1 * 1)) (.string x2) fun w6 =>
              ∃ k3, k3 < k2 ∧ I1 ((IntKind.wrap .i64 (i1 + 1))) ((IntKind.wrap .i64 (j1 + 1))) k3 w6) (
              ∃ k3, k3 < k2 ∧ I1 i1 ((IntKind.wrap .i64 (j1 + 1))) k3 w4)) (fun c2 w5 => R (.panicked c2) w5)) (
          ((0 : Int) ≤ i1 ∧ i1 ≤ ((s1l : Nat) : Int)) ∧
          runK Try.prog (Builtin.clear_ #[52] 0 #[.slice (slA s1a (Int.toNat i1) s1c 1) (s1l - (Int.toNat i1)) (s1c - (Int.toNat i1))]) w3 fun v3 w7 =>
          ((0 : Int) ≤ i1 ∧ i1 ≤ ((s1c : Nat) : Int)) ∧
          R (.returned (.slice (slA s1a 0 s1c 1) ((Int.toNat i1) - 0) (s1c - 0))) w7))) (fun c1 w2 => R (.panicked c1) w2))
theorem F34.eq (s1a : Option Addr) (s1l : Nat) (s1c : Nat) (del1g : Nat) (del1c : Array Value) (w : World) (R : Ending → World → Prop) : lift Try.prog none F34.A 42 (bodyOf Try.f34) (retK Try.prog F34.A Try.f34 R) (argsF [.slice s1a s1l s1c, .func (.func del1g) #[] del1c]) [] w = F34.sh s1a s1l s1c del1g del1c w R := by kernel_rfl
theorem F34.calls_of (s1a : Option Addr) (s1l : Nat) (s1c : Nat) (del1g : Nat) (del1c : Array Value) {w : World} {R : Ending → World → Prop} (h : F34.sh s1a s1l s1c del1g del1c w R) : Calls Try.prog 34 #[.slice s1a s1l s1c, .func (.func del1g) #[] del1c] w R :=
  calls_of_lift noNG mixedOk (fn := Try.f34) (c := bodyOf Try.f34) (args := [.slice s1a s1l s1c, .func (.func del1g) #[] del1c]) Try.func34 rfl rfl (cast (F34.eq s1a s1l s1c del1g del1c w R).symm h)

/-! #### (*doorman/spans.Spans).Trim$2 -/
def F35.A : Ann := annOf [(4, (.one (.one .ptr))), (7, (.one (.one .map))), (9, (.one (.one .slice)))] []
def F35.sh (key1 : ByteArray) (free1 : Option Addr) (w : World) (R : Ending → World → Prop) : Prop :=
  onSome free1 fun p1 =>
  ∃ x1 : Option Addr, w.cell? p1 = some (.pointer x1) ∧
  onSome x1 fun p2 =>
  ∃ x2 : Option Nat, w.cell? p2 = some (.map x2) ∧
  runK Try.prog (Instr.lookup 58 (.map x2) (.string key1) false) w fun v1 w1 =>
  ∃ x3a : Option Addr, ∃ x3l : Nat, ∃ x3c : Nat, v1 = .slice x3a x3l x3c ∧
  R (.returned (.bool (((x3l : Nat) : Int) == 0))) w1
theorem F35.eq (key1 : ByteArray) (free1 : Option Addr) (w : World) (R : Ending → World → Prop) : lift Try.prog none F35.A 12 (bodyOf Try.f35) (retK Try.prog F35.A Try.f35 R) (argsF [.string key1, .pointer free1]) [] w = F35.sh key1 free1 w R := by kernel_rfl
theorem F35.calls_of (key1 : ByteArray) (free1 : Option Addr) {w : World} {R : Ending → World → Prop} (h : F35.sh key1 free1 w R) : Calls Try.prog 35 #[.string key1, .pointer free1] w R :=
  calls_of_lift noNG mixedOk (fn := Try.f35) (c := bodyOf Try.f35) (args := [.string key1, .pointer free1]) Try.func35 rfl rfl (cast (F35.eq key1 free1 w R).symm h)

/-! #### doorman/doormanref14.holds -/
def F36.A : Ann := annOf [(6, (.one (.one (.int .i64)))), (11, (.one (.one (.int .i64)))), (15, (.one (.one (.int .i64))))] []
def F36.sh (x1 : ByteArray) (x2 : Int) (x3 : Int) (rev1 : Int) (w : World) (R : Ending → World → Prop) : Prop :=
  allocK w (.cells #[.string x1, .int .i64 x2, .int .i64 x3] 71) fun w1 =>
  ∃ x4 : Int, w1.cell? ⟨w.heap.size, 1, none⟩ = some (.int .i64 x4) ∧
  iteP ((decide (x4 ≤ rev1))) (
    ∃ x5 : Int, w1.cell? ⟨w.heap.size, 2, none⟩ = some (.int .i64 x5) ∧
    iteP (x5 == 0) (
      R (.returned (.bool true)) w1) (
      ∃ x6 : Int, w1.cell? ⟨w.heap.size, 2, none⟩ = some (.int .i64 x6) ∧
      R (.returned (.bool (decide (x6 > rev1)))) w1)) (
    R (.returned (.bool false)) w1)
theorem F36.eq (x1 : ByteArray) (x2 : Int) (x3 : Int) (rev1 : Int) (w : World) (R : Ending → World → Prop) : lift Try.prog none F36.A 20 (bodyOf Try.f36) (retK Try.prog F36.A Try.f36 R) (argsF [.agg #[.string x1, .int .i64 x2, .int .i64 x3], .int .i64 rev1]) [] w = F36.sh x1 x2 x3 rev1 w R := by kernel_rfl
theorem F36.calls_of (x1 : ByteArray) (x2 : Int) (x3 : Int) (rev1 : Int) {w : World} {R : Ending → World → Prop} (h : F36.sh x1 x2 x3 rev1 w R) : Calls Try.prog 36 #[.agg #[.string x1, .int .i64 x2, .int .i64 x3], .int .i64 rev1] w R :=
  calls_of_lift noNG mixedOk (fn := Try.f36) (c := bodyOf Try.f36) (args := [.agg #[.string x1, .int .i64 x2, .int .i64 x3], .int .i64 rev1]) Try.func36 rfl rfl (cast (F36.eq x1 x2 x3 rev1 w R).symm h)

/-! #### slices.ContainsFunc[[]doorman/spans.span,doorman/spans.span] -/
def F37.A : Ann := annOf [(7, (.one (.one (.int .i64))))] []
def F37.sh (s1a : Option Addr) (s1l : Nat) (s1c : Nat) (f1g : Nat) (f1c : Array Value) (w : World) (R : Ending → World → Prop) : Prop :=
  Calls Try.prog 50 #[.slice s1a s1l s1c, .func (.func f1g) #[] f1c] w (endK (fun v1 w1 =>
      ∃ x1 : Int, v1 = .int .i64 x1 ∧
      R (.returned (.bool (decide (x1 ≥ 0)))) w1) (fun c1 w2 => R (.panicked c1) w2))
theorem F37.eq (s1a : Option Addr) (s1l : Nat) (s1c : Nat) (f1g : Nat) (f1c : Array Value) (w : World) (R : Ending → World → Prop) : lift Try.prog none F37.A 9 (bodyOf Try.f37) (retK Try.prog F37.A Try.f37 R) (argsF [.slice s1a s1l s1c, .func (.func f1g) #[] f1c]) [] w = F37.sh s1a s1l s1c f1g f1c w R := by kernel_rfl
theorem F37.calls_of (s1a : Option Addr) (s1l : Nat) (s1c : Nat) (f1g : Nat) (f1c : Array Value) {w : World} {R : Ending → World → Prop} (h : F37.sh s1a s1l s1c f1g f1c w R) : Calls Try.prog 37 #[.slice s1a s1l s1c, .func (.func f1g) #[] f1c] w R :=
  calls_of_lift noNG mixedOk (fn := Try.f37) (c := bodyOf Try.f37) (args := [.slice s1a s1l s1c, .func (.func f1g) #[] f1c]) Try.func37 rfl rfl (cast (F37.eq s1a s1l s1c f1g f1c w R).symm h)

/-! #### (*doorman/spans.Spans).Has$1 -/
def F38.A : Ann := annOf [(4, (.one (.agg [(.int .i64), (.int .i64)]))), (5, (.one (.one (.int .i64)))), (6, (.one (.one .bool)))] []
def F38.sh (x1 : Int) (x2 : Int) (free1 : Option Addr) (w : World) (R : Ending → World → Prop) : Prop :=
  allocK w (.cells #[.int .i64 x1, .int .i64 x2] 68) fun w1 =>
  ∃ x3 : Int, w1.cell? ⟨w.heap.size, 0, none⟩ = some (.int .i64 x3) ∧ ∃ x4 : Int, w1.cell? ⟨w.heap.size, 1, none⟩ = some (.int .i64 x4) ∧ 
  onSome free1 fun p1 =>
  ∃ x5 : Int, w1.cell? p1 = some (.int .i64 x5) ∧
  Calls Try.prog 39 #[.agg #[.int .i64 x3, .int .i64 x4], .int .i64 x5] w1 (endK (fun v1 w2 =>
      ∃ x6 : Bool, v1 = .bool x6 ∧
      R (.returned (.bool x6)) w2) (fun c1 w3 => R (.panicked c1) w3))
theorem F38.eq (x1 : Int) (x2 : Int) (free1 : Option Addr) (w : World) (R : Ending → World → Prop) : lift Try.prog none F38.A 7 (bodyOf Try.f38) (retK Try.prog F38.A Try.f38 R) (argsF [.agg #[.int .i64 x1, .int .i64 x2], .pointer free1]) [] w = F38.sh x1 x2 free1 w R := by kernel_rfl
theorem F38.calls_of (x1 : Int) (x2 : Int) (free1 : Option Addr) {w : World} {R : Ending → World → Prop} (h : F38.sh x1 x2 free1 w R) : Calls Try.prog 38 #[.agg #[.int .i64 x1, .int .i64 x2], .pointer free1] w R :=
  calls_of_lift noNG mixedOk (fn := Try.f38) (c := bodyOf Try.f38) (args := [.agg #[.int .i64 x1, .int .i64 x2], .pointer free1]) Try.func38 rfl rfl (cast (F38.eq x1 x2 free1 w R).symm h)

/-! #### (doorman/spans.span).has -/
def F39.A : Ann := annOf [(6, (.one (.one (.int .i64)))), (11, (.one (.one (.int .i64)))), (15, (.one (.one (.int .i64))))] []
def F39.sh (x1 : Int) (x2 : Int) (rev1 : Int) (w : World) (R : Ending → World → Prop) : Prop :=
  allocK w (.cells #[.int .i64 x1, .int .i64 x2] 68) fun w1 =>
  ∃ x3 : Int, w1.cell? ⟨w.heap.size, 0, none⟩ = some (.int .i64 x3) ∧
  iteP ((decide (x3 ≤ rev1))) (
    ∃ x4 : Int, w1.cell? ⟨w.heap.size, 1, none⟩ = some (.int .i64 x4) ∧
    iteP (x4 == 0) (
      R (.returned (.bool true)) w1) (
      ∃ x5 : Int, w1.cell? ⟨w.heap.size, 1, none⟩ = some (.int .i64 x5) ∧
      R (.returned (.bool (decide (x5 > rev1)))) w1)) (
    R (.returned (.bool false)) w1)
theorem F39.eq (x1 : Int) (x2 : Int) (rev1 : Int) (w : World) (R : Ending → World → Prop) : lift Try.prog none F39.A 20 (bodyOf Try.f39) (retK Try.prog F39.A Try.f39 R) (argsF [.agg #[.int .i64 x1, .int .i64 x2], .int .i64 rev1]) [] w = F39.sh x1 x2 rev1 w R := by kernel_rfl
theorem F39.calls_of (x1 : Int) (x2 : Int) (rev1 : Int) {w : World} {R : Ending → World → Prop} (h : F39.sh x1 x2 rev1 w R) : Calls Try.prog 39 #[.agg #[.int .i64 x1, .int .i64 x2], .int .i64 rev1] w R :=
  calls_of_lift noNG mixedOk (fn := Try.f39) (c := bodyOf Try.f39) (args := [.agg #[.int .i64 x1, .int .i64 x2], .int .i64 rev1]) Try.func39 rfl rfl (cast (F39.eq x1 x2 rev1 w R).symm h)

/-! #### (*doorman/spans.Spans).each -/
def F40.A : Ann := annOf [] []
def F40.sh (s1 : Option Addr) (w : World) (R : Ending → World → Prop) : Prop :=
  allocK w (.cells #[.pointer s1] 26) fun w1 =>
  R (.returned (.func (.func 52) #[] #[.pointer (some ⟨w.heap.size, 0, none⟩)])) w1
theorem F40.eq (s1 : Option Addr) (w : World) (R : Ending → World → Prop) : lift Try.prog none F40.A 4 (bodyOf Try.f40) (retK Try.prog F40.A Try.f40 R) (argsF [.pointer s1]) [] w = F40.sh s1 w R := by kernel_rfl
theorem F40.calls_of (s1 : Option Addr) {w : World} {R : Ending → World → Prop} (h : F40.sh s1 w R) : Calls Try.prog 40 #[.pointer s1] w R :=
  calls_of_lift noNG mixedOk (fn := Try.f40) (c := bodyOf Try.f40) (args := [.pointer s1]) Try.func40 rfl rfl (cast (F40.eq s1 w R).symm h)

/-! #### slices.SortFunc[[]doorman/spans.Event,doorman/spans.Event] -/
def F41.A : Ann := annOf [(11, (.one (.one (.int .i64)))), (13, (.tup []))] []
def F41.sh (x1a : Option Addr) (x1l : Nat) (x1c : Nat) (cmp1g : Nat) (cmp1c : Array Value) (w : World) (R : Ending → World → Prop) : Prop :=
  Calls Try.prog 54 #[.int .u64 (IntKind.wrap .u64 ((x1l : Nat) : Int))] w (endK (fun v1 w1 =>
      ∃ x2 : Int, v1 = .int .i64 x2 ∧
      Calls Try.prog 53 #[.slice x1a x1l x1c, .int .i64 0, .int .i64 ((x1l : Nat) : Int), .int .i64 x2, .func (.func cmp1g) #[] cmp1c] w1 (endK (fun v2 w3 =>
          v2 = .tuple #[] ∧
          R (.returned (.tuple #[])) w3) (fun c2 w4 => R (.panicked c2) w4))) (fun c1 w2 => R (.panicked c1) w2))
theorem F41.eq (x1a : Option Addr) (x1l : Nat) (x1c : Nat) (cmp1g : Nat) (cmp1c : Array Value) (w : World) (R : Ending → World → Prop) : lift Try.prog none F41.A 14 (bodyOf Try.f41) (retK Try.prog F41.A Try.f41 R) (argsF [.slice x1a x1l x1c, .func (.func cmp1g) #[] cmp1c]) [] w = F41.sh x1a x1l x1c cmp1g cmp1c w R := by kernel_rfl
theorem F41.calls_of (x1a : Option Addr) (x1l : Nat) (x1c : Nat) (cmp1g : Nat) (cmp1c : Array Value) {w : World} {R : Ending → World → Prop} (h : F41.sh x1a x1l x1c cmp1g cmp1c w R) : Calls Try.prog 41 #[.slice x1a x1l x1c, .func (.func cmp1g) #[] cmp1c] w R :=
  calls_of_lift noNG mixedOk (fn := Try.f41) (c := bodyOf Try.f41) (args := [.slice x1a x1l x1c, .func (.func cmp1g) #[] cmp1c]) Try.func41 rfl rfl (cast (F41.eq x1a x1l x1c cmp1g cmp1c w R).symm h)

/-! #### doorman/spans.compare -/
def F42.A : Ann := annOf [(7, (.one (.one (.int .i64)))), (9, (.one (.one (.int .i64)))), (10, (.one (.one (.int .i64)))), (12, (.one (.one .str))), (14, (.one (.one .str))), (15, (.one (.one (.int .i64)))), (17, (.one (.agg [(.int .i64), .str, .bool]))), (18, (.one (.one (.int .i64)))), (20, (.one (.agg [(.int .i64), .str, .bool]))), (21, (.one (.one (.int .i64)))), (22, (.one (.one (.int .i64)))), (24, (.one (.one (.int .i64))))] []
def F42.sh (a1 : Int) (a2 : ByteArray) (a3 : Bool) (b1 : Int) (b2 : ByteArray) (b3 : Bool) (w : World) (R : Ending → World → Prop) : Prop :=
  allocK w (.cells #[.int .i64 a1, .string a2, .bool a3] 49) fun w1 =>
  allocK w1 (.cells #[.int .i64 b1, .string b2, .bool b3] 49) fun w2 =>
  ∃ x1 : Int, w2.drew.cell? ⟨w.heap.size, 0, none⟩ = some (.int .i64 x1) ∧
  ∃ x2 : Int, w2.drew.cell? ⟨w1.heap.size, 0, none⟩ = some (.int .i64 x2) ∧
  ∃ x3 : ByteArray, w2.drew.cell? ⟨w.heap.size, 1, none⟩ = some (.string x3) ∧
  ∃ x4 : ByteArray, w2.drew.cell? ⟨w1.heap.size, 1, none⟩ = some (.string x4) ∧
  ∃ x5 : Int, w2.drew.cell? ⟨w.heap.size, 0, none⟩ = some (.int .i64 x5) ∧ ∃ x6 : ByteArray, w2.drew.cell? ⟨w.heap.size, 1, none⟩ = some (.string x6) ∧ ∃ x7 : Bool, w2.drew.cell? ⟨w.heap.size, 2, none⟩ = some (.bool x7) ∧ 
  ∃ x8 : Int, w2.drew.cell? ⟨w1.heap.size, 0, none⟩ = some (.int .i64 x8) ∧ ∃ x9 : ByteArray, w2.drew.cell? ⟨w1.heap.size, 1, none⟩ = some (.string x9) ∧ ∃ x10 : Bool, w2.drew.cell? ⟨w1.heap.size, 2, none⟩ = some (.bool x10) ∧ 
  Calls Try.prog 57 #[.int .i64 x1, .int .i64 x2] w2.drew (endK (fun v1 w3 =>
      ∃ x11 : Int, v1 = .int .i64 x11 ∧
      (∃ x12 : ByteArray, w3.cell? ⟨w.heap.size, 1, none⟩ = some (.string x12) ∧
        ((.string x12) : Value) = (.string x3)) ∧
      (∃ x13 : ByteArray, w3.cell? ⟨w1.heap.size, 1, none⟩ = some (.string x13) ∧
        ((.string x13) : Value) = (.string x4)) ∧
      (∃ x14 : Int, w3.cell? ⟨w.heap.size, 0, none⟩ = some (.int .i64 x14) ∧ ∃ x15 : ByteArray, w3.cell? ⟨w.heap.size, 1, none⟩ = some (.string x15) ∧ ∃ x16 : Bool, w3.cell? ⟨w.heap.size, 2, none⟩ = some (.bool x16) ∧ 
        ((.agg #[.int .i64 x14, .string x15, .bool x16]) : Value) = (.agg #[.int .i64 x5, .string x6, .bool x7])) ∧
      (∃ x17 : Int, w3.cell? ⟨w1.heap.size, 0, none⟩ = some (.int .i64 x17) ∧ ∃ x18 : ByteArray, w3.cell? ⟨w1.heap.size, 1, none⟩ = some (.string x18) ∧ ∃ x19 : Bool, w3.cell? ⟨w1.heap.size, 2, none⟩ = some (.bool x19) ∧ 
        ((.agg #[.int .i64 x17, .string x18, .bool x19]) : Value) = (.agg #[.int .i64 x8, .string x9, .bool x10])) ∧
      Calls Try.prog 58 #[.string x3, .string x4] w3 (endK (fun v2 w5 =>
          ∃ x20 : Int, v2 = .int .i64 x20 ∧
          (∃ x21 : Int, w5.cell? ⟨w.heap.size, 0, none⟩ = some (.int .i64 x21) ∧ ∃ x22 : ByteArray, w5.cell? ⟨w.heap.size, 1, none⟩ = some (.string x22) ∧ ∃ x23 : Bool, w5.cell? ⟨w.heap.size, 2, none⟩ = some (.bool x23) ∧ 
            ((.agg #[.int .i64 x21, .string x22, .bool x23]) : Value) = (.agg #[.int .i64 x5, .string x6, .bool x7])) ∧
          (∃ x24 : Int, w5.cell? ⟨w1.heap.size, 0, none⟩ = some (.int .i64 x24) ∧ ∃ x25 : ByteArray, w5.cell? ⟨w1.heap.size, 1, none⟩ = some (.string x25) ∧ ∃ x26 : Bool, w5.cell? ⟨w1.heap.size, 2, none⟩ = some (.bool x26) ∧ 
            ((.agg #[.int .i64 x24, .string x25, .bool x26]) : Value) = (.agg #[.int .i64 x8, .string x9, .bool x10])) ∧
          Calls Try.prog 55 #[.agg #[.int .i64 x5, .string x6, .bool x7]] w5 (endK (fun v3 w7 =>
              ∃ x27 : Int, v3 = .int .i64 x27 ∧
              (∃ x28 : Int, w7.cell? ⟨w1.heap.size, 0, none⟩ = some (.int .i64 x28) ∧ ∃ x29 : ByteArray, w7.cell? ⟨w1.heap.size, 1, none⟩ = some (.string x29) ∧ ∃ x30 : Bool, w7.cell? ⟨w1.heap.size, 2, none⟩ = some (.bool x30) ∧ 
                ((.agg #[.int .i64 x28, .string x29, .bool x30]) : Value) = (.agg #[.int .i64 x8, .string x9, .bool x10])) ∧
              Calls Try.prog 55 #[.agg #[.int .i64 x8, .string x9, .bool x10]] w7 (endK (fun v4 w9 =>
                  ∃ x31 : Int, v4 = .int .i64 x31 ∧
                  Calls Try.prog 57 #[.int .i64 x27, .int .i64 x31] w9 (endK (fun v5 w11 =>
                      ∃ x32 : Int, v5 = .int .i64 x32 ∧
                      allocK w11 (.cells #[.int .i64 x11, .int .i64 x20, .int .i64 x32] 3) fun w13 =>
                      Calls Try.prog 56 #[.slice (some ⟨w11.heap.size, 0, none⟩) 3 3] w13 (endK (fun v6 w14 =>
                          ∃ x33 : Int, v6 = .int .i64 x33 ∧
                          R (.returned (.int .i64 x33)) w14) (fun c6 w15 => ∀ g : Fr, R (.panicked c6) w15))) (fun c5 w12 => ∀ g : Fr, R (.panicked c5) w12))) (fun c4 w10 => ∀ g : Fr, R (.panicked c4) w10))) (fun c3 w8 => ∀ g : Fr, R (.panicked c3) w8))) (fun c2 w6 => ∀ g : Fr, R (.panicked c2) w6))) (fun c1 w4 => ∀ g : Fr, R (.panicked c1) w4))
theorem F42.eq (a1 : Int) (a2 : ByteArray) (a3 : Bool) (b1 : Int) (b2 : ByteArray) (b3 : Bool) (w : World) (R : Ending → World → Prop) : lift Try.prog none F42.A 25 (bodyOf Try.f42) (retK Try.prog F42.A Try.f42 R) (argsF [.agg #[.int .i64 a1, .string a2, .bool a3], .agg #[.int .i64 b1, .string b2, .bool b3]]) [] w = F42.sh a1 a2 a3 b1 b2 b3 w R := by kernel_rfl
theorem F42.calls_of (a1 : Int) (a2 : ByteArray) (a3 : Bool) (b1 : Int) (b2 : ByteArray) (b3 : Bool) {w : World} {R : Ending → World → Prop} (h : F42.sh a1 a2 a3 b1 b2 b3 w R) : Calls Try.prog 42 #[.agg #[.int .i64 a1, .string a2, .bool a3], .agg #[.int .i64 b1, .string b2, .bool b3]] w R :=
  calls_of_lift noNG mixedOk (fn := Try.f42) (c := bodyOf Try.f42) (args := [.agg #[.int .i64 a1, .string a2, .bool a3], .agg #[.int .i64 b1, .string b2, .bool b3]]) Try.func42 rfl rfl (cast (F42.eq a1 a2 a3 b1 b2 b3 w R).symm h)

/-! #### doorman/doormanref14.put -/
def F43.A : Ann := annOf [(15, (.one (.agg [(.int .i64), .str, .bool]))), (16, (.one (.agg [(.int .i64), .str, .bool]))), (17, (.one (.one .bool))), (25, (.one (.one .slice))), (27, (.one (.agg [(.int .i64), .str, .bool]))), (29, (.one (.one .slice))), (34, (.one (.one .slice)))] [(2, [5], [(.one (.int .i64))], [7, 8, 9, 10, 11, 12, 13, 14, 15, 16, 17, 18, 19, 20])]
def F43.sh (l1a : Option Addr) (l1l : Nat) (l1c : Nat) (x1 : Int) (x2 : ByteArray) (x3 : Bool) (w : World) (R : Ending → World → Prop) : Prop :=
  allocK w (.cells #[.int .i64 x1, .string x2, .bool x3] 50) fun w1 =>
  ∃ I1 : Int → Nat → World → Prop, (∃ k1, I1 0 k1 w1) ∧
  ∀ at1 : Int, ∀ (k2 : Nat) (w2 : World), I1 at1 k2 w2 → ∀ z1 : Fr,
  iteP ((decide (at1 < ((l1l : Nat) : Int)))) (
    ((0 : Int) ≤ at1 ∧ at1 < ((l1l : Nat) : Int)) ∧
    onSome l1a fun p1 =>
    ∃ x4 : Int, w2.drew.cell? (Addr.add p1 (Int.toNat at1 * 3)) = some (.int .i64 x4) ∧ ∃ x5 : ByteArray, w2.drew.cell? (Addr.add (Addr.add p1 (Int.toNat at1 * 3)) 1) = some (.string x5) ∧ ∃ x6 : Bool, w2.drew.cell? (Addr.add (Addr.add p1 (Int.toNat at1 * 3)) 2) = some (.bool x6) ∧ 
    ∃ x7 : Int, w2.drew.cell? ⟨w.heap.size, 0, none⟩ = some (.int .i64 x7) ∧ ∃ x8 : ByteArray, w2.drew.cell? ⟨w.heap.size, 1, none⟩ = some (.string x8) ∧ ∃ x9 : Bool, w2.drew.cell? ⟨w.heap.size, 2, none⟩ = some (.bool x9) ∧ 
    Calls Try.prog 59 #[.agg #[.int .i64 x4, .string x5, .bool x6], .agg #[.int .i64 x7, .string x8, .bool x9]] w2.drew (endK (fun v1 w3 =>
        ∃ x10 : Bool, v1 = .bool x10 ∧
        iteP x10 (
          ∃ k3, k3 < k2 ∧ I1 ((IntKind.wrap .i64 (at1 + 1))) k3 w3) (
          ((0 : Int) ≤ at1 ∧ at1 ≤ ((l1c : Nat) : Int)) ∧
          runK Try.prog (Builtin.append_ #[46, 46] 46 #[.slice none 0 0, .slice (slA l1a 0 l1c 3) ((Int.toNat at1) - 0) (l1c - 0)]) w3 fun v2 w5 =>
          ∃ x11a : Option Addr, ∃ x11l : Nat, ∃ x11c : Nat, v2 = .slice x11a x11l x11c ∧
          ∃ x12 : Int, w5.cell? ⟨w.heap.size, 0, none⟩ = some (.int .i64 x12) ∧ ∃ x13 : ByteArray, w5.cell? ⟨w.heap.size, 1, none⟩ = some (.string x13) ∧ ∃ x14 : Bool, w5.cell? ⟨w.heap.size, 2, none⟩ = some (.bool x14) ∧ 
          allocK w5 (.cells #[.int .i64 x12, .string x13, .bool x14] 50) fun w6 =>
          runK Try.prog (Builtin.append_ #[46, 46] 46 #[.slice x11a x11l x11c, .slice (some ⟨w5.heap.size, 0, none⟩) 1 1]) w6 fun v3 w7 =>
          ∃ x15a : Option Addr, ∃ x15l : Nat, ∃ x15c : Nat, v3 = .slice x15a x15l x15c ∧
          ((0 : Int) ≤ at1 ∧ at1 ≤ ((l1l : Nat) : Int)) ∧
          runK Try.prog (Builtin.append_ #[46, 46] 46 #[.slice x15a x15l x15c, .slice (slA l1a (Int.toNat at1) l1c 3) (l1l - (Int.toNat at1)) (l1c - (Int.toNat at1))]) w7 fun v4 w8 =>
          ∃ x16a : Option Addr, ∃ x16l : Nat, ∃ x16c : Nat, v4 = .slice x16a x16l x16c ∧
          R (.returned (.slice x16a x16l x16c)) w8)) (fun c1 w4 => ∀ g : Fr, R (.panicked c1) w4))) (
    ((0 : Int) ≤ at1 ∧ at1 ≤ ((l1c : Nat) : Int)) ∧
    runK Try.prog (Builtin.append_ #[46, 46] 46 #[.slice none 0 0, .slice (slA l1a 0 l1c 3) ((Int.toNat at1) - 0) (l1c - 0)]) w2.drew fun v5 w9 =>
    ∃ x17a : Option Addr, ∃ x17l : Nat, ∃ x17c : Nat, v5 = .slice x17a x17l x17c ∧
    ∃ x18 : Int, w9.cell? ⟨w.heap.size, 0, none⟩ = some (.int .i64 x18) ∧ ∃ x19 : ByteArray, w9.cell? ⟨w.heap.size, 1, none⟩ = some (.string x19) ∧ ∃ x20 : Bool, w9.cell? ⟨w.heap.size, 2, none⟩ = some (.bool x20) ∧ 
    allocK w9 (.cells #[.int .i64 x18, .string x19, .bool x20] 50) fun w10 =>
    runK Try.prog (Builtin.append_ #[46, 46] 46 #[.slice x17a x17l x17c, .slice (some ⟨w9.heap.size, 0, none⟩) 1 1]) w10 fun v6 w11 =>
    ∃ x21a : Option Addr, ∃ x21l : Nat, ∃ x21c : Nat, v6 = .slice x21a x21l x21c ∧
    ((0 : Int) ≤ at1 ∧ at1 ≤ ((l1l : Nat) : Int)) ∧
    runK Try.prog (Builtin.append_ #[46, 46] 46 #[.slice x21a x21l x21c, .slice (slA l1a (Int.toNat at1) l1c 3) (l1l - (Int.toNat at1)) (l1c - (Int.toNat at1))]) w11 fun v7 w12 =>
    ∃ x22a : Option Addr, ∃ x22l : Nat, ∃ x22c : Nat, v7 = .slice x22a x22l x22c ∧
    R (.returned (.slice x22a x22l x22c)) w12)
theorem F43.eq (l1a : Option Addr) (l1l : Nat) (l1c : Nat) (x1 : Int) (x2 : ByteArray) (x3 : Bool) (w : World) (R : Ending → World → Prop) : lift Try.prog none F43.A 35 (bodyOf Try.f43) (retK Try.prog F43.A Try.f43 R) (argsF [.slice l1a l1l l1c, .agg #[.int .i64 x1, .string x2, .bool x3]]) [] w = F43.sh l1a l1l l1c x1 x2 x3 w R := by kernel_rfl
theorem F43.calls_of (l1a : Option Addr) (l1l : Nat) (l1c : Nat) (x1 : Int) (x2 : ByteArray) (x3 : Bool) {w : World} {R : Ending → World → Prop} (h : F43.sh l1a l1l l1c x1 x2 x3 w R) : Calls Try.prog 43 #[.slice l1a l1l l1c, .agg #[.int .i64 x1, .string x2, .bool x3]] w R :=
  calls_of_lift noNG mixedOk (fn := Try.f43) (c := bodyOf Try.f43) (args := [.slice l1a l1l l1c, .agg #[.int .i64 x1, .string x2, .bool x3]]) Try.func43 rfl rfl (cast (F43.eq l1a l1l l1c x1 x2 x3 w R).symm h)

/-! #### cmp.Less[string] -/
def F44.A : Ann := annOf [(6, (.one (.one .bool))), (9, (.one (.one .bool)))] []
def F44.sh (x1 : ByteArray) (y1 : ByteArray) (w : World) (R : Ending → World → Prop) : Prop :=
  Calls Try.prog 60 #[.string x1] w (endK (fun v1 w1 =>
      ∃ x2 : Bool, v1 = .bool x2 ∧
      iteP x2 (
        Calls Try.prog 60 #[.string y1] w1 (endK (fun v2 w3 =>
            ∃ x3 : Bool, v2 = .bool x3 ∧
            iteP (!x3) (
              R (.returned (.bool true)) w3) (
              R (.returned (.bool (Op.bytesLess x1.toList y1.toList))) w3)) (fun c2 w4 => R (.panicked c2) w4))) (
        R (.returned (.bool (Op.bytesLess x1.toList y1.toList))) w1)) (fun c1 w2 => R (.panicked c1) w2))
theorem F44.eq (x1 : ByteArray) (y1 : ByteArray) (w : World) (R : Ending → World → Prop) : lift Try.prog none F44.A 17 (bodyOf Try.f44) (retK Try.prog F44.A Try.f44 R) (argsF [.string x1, .string y1]) [] w = F44.sh x1 y1 w R := by kernel_rfl
theorem F44.calls_of (x1 : ByteArray) (y1 : ByteArray) {w : World} {R : Ending → World → Prop} (h : F44.sh x1 y1 w R) : Calls Try.prog 44 #[.string x1, .string y1] w R :=
  calls_of_lift noNG mixedOk (fn := Try.f44) (c := bodyOf Try.f44) (args := [.string x1, .string y1]) Try.func44 rfl rfl (cast (F44.eq x1 y1 w R).symm h)

/-! #### slices.isNaN[string] -/
def F45.A : Ann := annOf [] []
def F45.sh (x1 : ByteArray) (w : World) (R : Ending → World → Prop) : Prop :=
  R (.returned (.bool (!(x1.toList == x1.toList)))) w
theorem F45.eq (x1 : ByteArray) (w : World) (R : Ending → World → Prop) : lift Try.prog none F45.A 6 (bodyOf Try.f45) (retK Try.prog F45.A Try.f45 R) (argsF [.string x1]) [] w = F45.sh x1 w R := by kernel_rfl
theorem F45.calls_of (x1 : ByteArray) {w : World} {R : Ending → World → Prop} (h : F45.sh x1 w R) : Calls Try.prog 45 #[.string x1] w R :=
  calls_of_lift noNG mixedOk (fn := Try.f45) (c := bodyOf Try.f45) (args := [.string x1]) Try.func45 rfl rfl (cast (F45.eq x1 w R).symm h)

/-! #### slices.rotateRight[string] -/
def F47.A : Ann := annOf [(9, (.tup []))] []
def F47.sh (s1a : Option Addr) (s1l : Nat) (s1c : Nat) (r1 : Int) (w : World) (R : Ending → World → Prop) : Prop :=
  Calls Try.prog 61 #[.slice s1a s1l s1c, .int .i64 (IntKind.wrap .i64 (((s1l : Nat) : Int) - r1))] w (endK (fun v1 w1 =>
      v1 = .tuple #[] ∧
      R (.returned (.tuple #[])) w1) (fun c1 w2 => R (.panicked c1) w2))
theorem F47.eq (s1a : Option Addr) (s1l : Nat) (s1c : Nat) (r1 : Int) (w : World) (R : Ending → World → Prop) : lift Try.prog none F47.A 10 (bodyOf Try.f47) (retK Try.prog F47.A Try.f47 R) (argsF [.slice s1a s1l s1c, .int .i64 r1]) [] w = F47.sh s1a s1l s1c r1 w R := by kernel_rfl
theorem F47.calls_of (s1a : Option Addr) (s1l : Nat) (s1c : Nat) (r1 : Int) {w : World} {R : Ending → World → Prop} (h : F47.sh s1a s1l s1c r1 w R) : Calls Try.prog 47 #[.slice s1a s1l s1c, .int .i64 r1] w R :=
  calls_of_lift noNG mixedOk (fn := Try.f47) (c := bodyOf Try.f47) (args := [.slice s1a s1l s1c, .int .i64 r1]) Try.func47 rfl rfl (cast (F47.eq s1a s1l s1c r1 w R).symm h)

/-! #### slices.AppendSeq[[]string,string] -/
def F48.A : Ann := annOf [(8, (.one (.one .slice))), (11, (.one (.one .slice))), (12, (.one (.one .slice)))] [(1000007, [], [(.one .str)], [])]
def F48.sh (s1a : Option Addr) (s1l : Nat) (s1c : Nat) (seq1g : Nat) (seq1c : Array Value) (w : World) (R : Ending → World → Prop) : Prop :=
  allocK w (.cells #[.slice s1a s1l s1c] 52) fun w1 =>
  ∃ (k1 : Nat) (first1 cap1 : Array Value), (.func (.func seq1g) #[] seq1c : Value) = .func (.func k1) first1 cap1 ∧ bodied Try.prog k1 = true ∧
  ∀ rec1 : Rec,
  (∀ y1 : ByteArray, ∀ (w2 : World) (K1 : Value → World → Prop), w2.heap[w1.heap.size + 1]? = some (rec1 .ready none) →
    (w2.heap[w1.heap.size + 1]? = some (rec1 .ready none) ∧
      ∃ x1a : Option Addr, ∃ x1l : Nat, ∃ x1c : Nat, (w2.putObj (w1.heap.size + 1) (rec1 .busy none)).cell? ⟨w.heap.size, 0, none⟩ = some (.slice x1a x1l x1c) ∧
      allocK (w2.putObj (w1.heap.size + 1) (rec1 .busy none)) (.cells #[.string y1] 9) fun w3 =>
      runK Try.prog (Builtin.append_ #[52, 52] 52 #[.slice x1a x1l x1c, .slice (some ⟨(w2.putObj (w1.heap.size + 1) (rec1 .busy none)).heap.size, 0, none⟩) 1 1]) w3 fun v1 w4 =>
      ∃ x2a : Option Addr, ∃ x2l : Nat, ∃ x2c : Nat, v1 = .slice x2a x2l x2c ∧
      storeK w4 ⟨w.heap.size, 0, none⟩ (.slice x2a x2l x2c) fun w5 =>
      w5.heap[w1.heap.size + 1]? = some (rec1 .busy none) ∧ K1 (.bool true) (w5.putObj (w1.heap.size + 1) (rec1 .ready none))) →
    yieldAny Try.prog (w1.heap.size + 1) #[.string y1] w2 K1) →
  Calls Try.prog k1 (first1 ++ #[.func (.yield (w1.heap.size + 1)) #[] #[]] ++ cap1) ((w1.alloc (.deferred (some []))).alloc (rec1 .ready none)) (endK (fun _ w6 =>
      (w6.heap[w1.heap.size + 1]? = some (rec1 .ready none) ∧
        ∃ x3a : Option Addr, ∃ x3l : Nat, ∃ x3c : Nat, (w6.putObj (w1.heap.size + 1) (rec1 .exhausted none)).cell? ⟨w.heap.size, 0, none⟩ = some (.slice x3a x3l x3c) ∧
        (w6.putObj (w1.heap.size + 1) (rec1 .exhausted none)).heap[w1.heap.size]? = some (.deferred (some [])) ∧
        R (.returned (.slice x3a x3l x3c)) ((w6.putObj (w1.heap.size + 1) (rec1 .exhausted none)).putObj w1.heap.size (.deferred none))) ∨
      False) (fun _ _ => False))
theorem F48.eq (s1a : Option Addr) (s1l : Nat) (s1c : Nat) (seq1g : Nat) (seq1c : Array Value) (w : World) (R : Ending → World → Prop) : lift Try.prog none F48.A 13 (bodyOf Try.f48) (retK Try.prog F48.A Try.f48 R) (argsF [.slice s1a s1l s1c, .func (.func seq1g) #[] seq1c]) [] w = F48.sh s1a s1l s1c seq1g seq1c w R := by kernel_rfl
theorem F48.calls_of (s1a : Option Addr) (s1l : Nat) (s1c : Nat) (seq1g : Nat) (seq1c : Array Value) {w : World} {R : Ending → World → Prop} (h : F48.sh s1a s1l s1c seq1g seq1c w R) : Calls Try.prog 48 #[.slice s1a s1l s1c, .func (.func seq1g) #[] seq1c] w R :=
  calls_of_lift noNG mixedOk (fn := Try.f48) (c := bodyOf Try.f48) (args := [.slice s1a s1l s1c, .func (.func seq1g) #[] seq1c]) Try.func48 rfl rfl (cast (F48.eq s1a s1l s1c seq1g seq1c w R).symm h)

/-! #### slices.IndexFunc[[]doorman/spans.span,doorman/spans.span] -/
def F50.A : Ann := annOf [(15, (.one (.agg [(.int .i64), (.int .i64)]))), (16, (.one (.one .bool)))] [(2, [8], [(.one (.int .i64))], [4, 5, 9, 10, 11, 12, 13, 14, 15, 16, 17, 18])]
def F50.sh (s1a : Option Addr) (s1l : Nat) (s1c : Nat) (f1g : Nat) (f1c : Array Value) (w : World) (R : Ending → World → Prop) : Prop :=
  ∃ I1 : Int → Nat → World → Prop, (∃ k1, I1 0 k1 w) ∧
  ∀ i1 : Int, ∀ (k2 : Nat) (w1 : World), I1 i1 k2 w1 → ∀ z1 : Fr,
  iteP ((decide (i1 < ((s1l : Nat) : Int)))) (
    ((0 : Int) ≤ i1 ∧ i1 < ((s1l : Nat) : Int)) ∧
    onSome s1a fun p1 =>
    ∃ x1 : Int, w1.cell? (Addr.add p1 (Int.toNat i1 * 2)) = some (.int .i64 x1) ∧ ∃ x2 : Int, w1.cell? (Addr.add (Addr.add p1 (Int.toNat i1 * 2)) 1) = some (.int .i64 x2) ∧ 
    callAny Try.prog f1g (.agg #[.int .i64 x1, .int .i64 x2] :: f1c.toList).toArray w1 (fun v1 w2 =>
      ∃ x3 : Bool, v1 = .bool x3 ∧
      iteP x3 (
        R (.returned (.int .i64 i1)) w2) (
        ∃ k3, k3 < k2 ∧ I1 ((IntKind.wrap .i64 (i1 + 1))) k3 w2)) (fun c1 w3 => R (.panicked c1) w3)) (
    R (.returned (.int .i64 (-1))) w1)
theorem F50.eq (s1a : Option Addr) (s1l : Nat) (s1c : Nat) (f1g : Nat) (f1c : Array Value) (w : World) (R : Ending → World → Prop) : lift Try.prog none F50.A 19 (bodyOf Try.f50) (retK Try.prog F50.A Try.f50 R) (argsF [.slice s1a s1l s1c, .func (.func f1g) #[] f1c]) [] w = F50.sh s1a s1l s1c f1g f1c w R := by kernel_rfl
theorem F50.calls_of (s1a : Option Addr) (s1l : Nat) (s1c : Nat) (f1g : Nat) (f1c : Array Value) {w : World} {R : Ending → World → Prop} (h : F50.sh s1a s1l s1c f1g f1c w R) : Calls Try.prog 50 #[.slice s1a s1l s1c, .func (.func f1g) #[] f1c] w R :=
  calls_of_lift noNG mixedOk (fn := Try.f50) (c := bodyOf Try.f50) (args := [.slice s1a s1l s1c, .func (.func f1g) #[] f1c]) Try.func50 rfl rfl (cast (F50.eq s1a s1l s1c f1g f1c w R).symm h)

/-! #### slices.IndexFunc[[]string,string] -/
def F51.A : Ann := annOf [(15, (.one (.one .str))), (16, (.one (.one .bool)))] [(2, [8], [(.one (.int .i64))], [4, 5, 9, 10, 11, 12, 13, 14, 15, 16, 17, 18])]
def F51.sh (s1a : Option Addr) (s1l : Nat) (s1c : Nat) (f1g : Nat) (f1c : Array Value) (w : World) (R : Ending → World → Prop) : Prop :=
  ∃ I1 : Int → Nat → World → Prop, (∃ k1, I1 0 k1 w) ∧
  ∀ i1 : Int, ∀ (k2 : Nat) (w1 : World), I1 i1 k2 w1 → ∀ z1 : Fr,
  iteP ((decide (i1 < ((s1l : Nat) : Int)))) (
    ((0 : Int) ≤ i1 ∧ i1 < ((s1l : Nat) : Int)) ∧
    onSome s1a fun p1 =>
    ∃ x1 : ByteArray, w1.cell? (Addr.add p1 (Int.toNat i1 * 1)) = some (.string x1) ∧
    callAny Try.prog f1g (.string x1 :: f1c.toList).toArray w1 (fun v1 w2 =>
      ∃ x2 : Bool, v1 = .bool x2 ∧
      iteP x2 (
        R (.returned (.int .i64 i1)) w2) (
        ∃ k3, k3 < k2 ∧ I1 ((IntKind.wrap .i64 (i1 + 1))) k3 w2)) (fun c1 w3 => R (.panicked c1) w3)) (
    R (.returned (.int .i64 (-1))) w1)
theorem F51.eq (s1a : Option Addr) (s1l : Nat) (s1c : Nat) (f1g : Nat) (f1c : Array Value) (w : World) (R : Ending → World → Prop) : lift Try.prog none F51.A 19 (bodyOf Try.f51) (retK Try.prog F51.A Try.f51 R) (argsF [.slice s1a s1l s1c, .func (.func f1g) #[] f1c]) [] w = F51.sh s1a s1l s1c f1g f1c w R := by kernel_rfl
theorem F51.calls_of (s1a : Option Addr) (s1l : Nat) (s1c : Nat) (f1g : Nat) (f1c : Array Value) {w : World} {R : Ending → World → Prop} (h : F51.sh s1a s1l s1c f1g f1c w R) : Calls Try.prog 51 #[.slice s1a s1l s1c, .func (.func f1g) #[] f1c] w R :=
  calls_of_lift noNG mixedOk (fn := Try.f51) (c := bodyOf Try.f51) (args := [.slice s1a s1l s1c, .func (.func f1g) #[] f1c]) Try.func51 rfl rfl (cast (F51.eq s1a s1l s1c f1g f1c w R).symm h)

/-! #### (*doorman/spans.Spans).each$1 -/
def F52.A : Ann := annOf [(7, (.one (.one .ptr))), (9, (.one (.one .ptr))), (12, (.one (.one .slice))), (17, (.one (.one .str))), (18, (.one (.one .ptr))), (21, (.one (.one .map))), (23, (.one (.one .slice))), (28, (.one (.agg [(.int .i64), (.int .i64)]))), (31, (.one (.agg [(.int .i64), (.int .i64)]))), (32, (.one (.one .bool)))] [(2, [14], [(.one (.int .i64))], [4, 6, 15, 16, 17, 18, 19, 20, 21, 22, 23, 24, 25, 26, 27, 28, 29, 30, 31, 32, 33, 34, 35]), (5, [25], [(.one (.int .i64))], [6, 26, 27, 28, 29, 30, 31, 32, 33, 34])]
def F52.sh (yield1 : Nat) (free1 : Option Addr) (w : World) (R : Ending → World → Prop) : Prop :=
  onSome free1 fun p1 =>
  ∃ x1 : Option Addr, w.cell? p1 = some (.pointer x1) ∧
  iteP (Option.isNone x1) (
    R (.returned (.tuple #[])) w) (
    onSome free1 fun p2 =>
    ∃ x2 : Option Addr, w.cell? p2 = some (.pointer x2) ∧
    onSome x2 fun p3 =>
    ∃ x3a : Option Addr, ∃ x3l : Nat, ∃ x3c : Nat, w.cell? (Addr.add p3 1) = some (.slice x3a x3l x3c) ∧
    ∃ I1 : Int → Nat → World → Prop, (∃ k1, I1 0 k1 w) ∧
    ∀ i1 : Int, ∀ (k2 : Nat) (w1 : World), I1 i1 k2 w1 → ∀ z1 : Fr,
    iteP ((decide (i1 < ((x3l : Nat) : Int)))) (
      ((0 : Int) ≤ i1 ∧ i1 < ((x3l : Nat) : Int)) ∧
      onSome x3a fun p4 =>
      ∃ x4 : ByteArray, w1.cell? (Addr.add p4 (Int.toNat i1 * 1)) = some (.string x4) ∧
      onSome free1 fun p5 =>
      ∃ x5 : Option Addr, w1.cell? p5 = some (.pointer x5) ∧
      onSome x5 fun p6 =>
      ∃ x6 : Option Nat, w1.cell? p6 = some (.map x6) ∧
      runK Try.prog (Instr.lookup 58 (.map x6) (.string x4) false) w1 fun v1 w2 =>
      ∃ x7a : Option Addr, ∃ x7l : Nat, ∃ x7c : Nat, v1 = .slice x7a x7l x7c ∧
      ∃ I2 : Int → Nat → World → Prop, (∃ k4, I2 0 k4 w2) ∧
      ∀ i2 : Int, ∀ (k5 : Nat) (w3 : World), I2 i2 k5 w3 → ∀ z2 : Fr,
      iteP ((decide (i2 < ((x7l : Nat) : Int)))) (
        ((0 : Int) ≤ i2 ∧ i2 < ((x7l : Nat) : Int)) ∧
        onSome x7a fun p7 =>
        ∃ x8 : Int, w3.cell? (Addr.add p7 (Int.toNat i2 * 2)) = some (.int .i64 x8) ∧ ∃ x9 : Int, w3.cell? (Addr.add (Addr.add p7 (Int.toNat i2 * 2)) 1) = some (.int .i64 x9) ∧ 
        allocK w3 (.cells #[.int .i64 0, .int .i64 0] 68) fun w4 =>
        storeK w4 ⟨w3.heap.size, 0, none⟩ (.int .i64 x8) fun w5 =>
        storeK w5 ⟨w3.heap.size, 1, none⟩ (.int .i64 x9) fun w6 =>
        ∃ x10 : Int, w6.cell? ⟨w3.heap.size, 0, none⟩ = some (.int .i64 x10) ∧ ∃ x11 : Int, w6.cell? ⟨w3.heap.size, 1, none⟩ = some (.int .i64 x11) ∧ 
        yieldAny Try.prog yield1 #[.string x4, .agg #[.int .i64 x10, .int .i64 x11]] w6 fun v2 w7 =>
        ∃ x12 : Bool, v2 = .bool x12 ∧
        iteP (!x12) (
          R (.returned (.tuple #[])) w7) (
          ∃ k6, k6 < k5 ∧ I2 ((IntKind.wrap .i64 (i2 + 1))) k6 w7)) (
        ∃ k3, k3 < k2 ∧ I1 ((IntKind.wrap .i64 (i1 + 1))) k3 w3)) (
      R (.returned (.tuple #[])) w1))
theorem F52.eq (yield1 : Nat) (free1 : Option Addr) (w : World) (R : Ending → World → Prop) : lift Try.prog none F52.A 36 (bodyOf Try.f52) (retK Try.prog F52.A Try.f52 R) (argsF [.func (.yield yield1) #[] #[], .pointer free1]) [] w = F52.sh yield1 free1 w R := by kernel_rfl
theorem F52.calls_of (yield1 : Nat) (free1 : Option Addr) {w : World} {R : Ending → World → Prop} (h : F52.sh yield1 free1 w R) : Calls Try.prog 52 #[.func (.yield yield1) #[] #[], .pointer free1] w R :=
  calls_of_lift noNG mixedOk (fn := Try.f52) (c := bodyOf Try.f52) (args := [.func (.yield yield1) #[] #[], .pointer free1]) Try.func52 rfl rfl (cast (F52.eq yield1 free1 w R).symm h)

/-! #### math/bits.Len -/
def F54.A : Ann := annOf [(7, (.one (.one (.int .i64))))] []
def F54.sh (x1 : Int) (w : World) (R : Ending → World → Prop) : Prop :=
  Calls Try.prog 71 #[.int .u64 x1] w (endK (fun v1 w1 =>
      ∃ x2 : Int, v1 = .int .i64 x2 ∧
      R (.returned (.int .i64 x2)) w1) (fun c1 w2 => R (.panicked c1) w2))
theorem F54.eq (x1 : Int) (w : World) (R : Ending → World → Prop) : lift Try.prog none F54.A 8 (bodyOf Try.f54) (retK Try.prog F54.A Try.f54 R) (argsF [.int .u64 x1]) [] w = F54.sh x1 w R := by kernel_rfl
theorem F54.calls_of (x1 : Int) {w : World} {R : Ending → World → Prop} (h : F54.sh x1 w R) : Calls Try.prog 54 #[.int .u64 x1] w R :=
  calls_of_lift noNG mixedOk (fn := Try.f54) (c := bodyOf Try.f54) (args := [.int .u64 x1]) Try.func54 rfl rfl (cast (F54.eq x1 w R).symm h)

/-! #### doorman/spans.compare$1 -/
def F55.A : Ann := annOf [(4, (.one (.one .bool)))] []
def F55.sh (e1 : Int) (e2 : ByteArray) (e3 : Bool) (w : World) (R : Ending → World → Prop) : Prop :=
  allocK w (.cells #[.int .i64 e1, .string e2, .bool e3] 49) fun w1 =>
  ∃ x1 : Bool, w1.cell? ⟨w.heap.size, 2, none⟩ = some (.bool x1) ∧
  iteP x1 (
    R (.returned (.int .i64 1)) w1) (
    R (.returned (.int .i64 0)) w1)
theorem F55.eq (e1 : Int) (e2 : ByteArray) (e3 : Bool) (w : World) (R : Ending → World → Prop) : lift Try.prog none F55.A 5 (bodyOf Try.f55) (retK Try.prog F55.A Try.f55 R) (argsF [.agg #[.int .i64 e1, .string e2, .bool e3]]) [] w = F55.sh e1 e2 e3 w R := by kernel_rfl
theorem F55.calls_of (e1 : Int) (e2 : ByteArray) (e3 : Bool) {w : World} {R : Ending → World → Prop} (h : F55.sh e1 e2 e3 w R) : Calls Try.prog 55 #[.agg #[.int .i64 e1, .string e2, .bool e3]] w R :=
  calls_of_lift noNG mixedOk (fn := Try.f55) (c := bodyOf Try.f55) (args := [.agg #[.int .i64 e1, .string e2, .bool e3]]) Try.func55 rfl rfl (cast (F55.eq e1 e2 e3 w R).symm h)

/-! #### cmp.Or[int] -/
def F56.A : Ann := annOf [(11, (.one (.one (.int .i64))))] [(3, [8], [(.one (.int .i64))], [2, 5, 9, 10, 11, 12, 13, 14, 15, 16])]
def F56.sh (vals1a : Option Addr) (vals1l : Nat) (vals1c : Nat) (w : World) (R : Ending → World → Prop) : Prop :=
  ∃ I1 : Int → Nat → World → Prop, (∃ k1, I1 0 k1 w) ∧
  ∀ i1 : Int, ∀ (k2 : Nat) (w1 : World), I1 i1 k2 w1 → ∀ z1 : Fr,
  iteP ((decide (i1 < ((vals1l : Nat) : Int)))) (
    ((0 : Int) ≤ i1 ∧ i1 < ((vals1l : Nat) : Int)) ∧
    onSome vals1a fun p1 =>
    ∃ x1 : Int, w1.cell? (Addr.add p1 (Int.toNat i1 * 1)) = some (.int .i64 x1) ∧
    iteP (x1 != 0) (
      R (.returned (.int .i64 x1)) w1) (
      ∃ k3, k3 < k2 ∧ I1 ((IntKind.wrap .i64 (i1 + 1))) k3 w1)) (
    R (.returned (.int .i64 0)) w1)
theorem F56.eq (vals1a : Option Addr) (vals1l : Nat) (vals1c : Nat) (w : World) (R : Ending → World → Prop) : lift Try.prog none F56.A 18 (bodyOf Try.f56) (retK Try.prog F56.A Try.f56 R) (argsF [.slice vals1a vals1l vals1c]) [] w = F56.sh vals1a vals1l vals1c w R := by kernel_rfl
theorem F56.calls_of (vals1a : Option Addr) (vals1l : Nat) (vals1c : Nat) {w : World} {R : Ending → World → Prop} (h : F56.sh vals1a vals1l vals1c w R) : Calls Try.prog 56 #[.slice vals1a vals1l vals1c] w R :=
  calls_of_lift noNG mixedOk (fn := Try.f56) (c := bodyOf Try.f56) (args := [.slice vals1a vals1l vals1c]) Try.func56 rfl rfl (cast (F56.eq vals1a vals1l vals1c w R).symm h)

/-! #### cmp.Compare[int] -/
def F57.A : Ann := annOf [(8, (.one (.one .bool))), (10, (.one (.one .bool)))] []
def F57.sh (x1 : Int) (y1 : Int) (w : World) (R : Ending → World → Prop) : Prop :=
  Calls Try.prog 72 #[.int .i64 x1] w (endK (fun v1 w1 =>
      ∃ x2 : Bool, v1 = .bool x2 ∧
      Calls Try.prog 72 #[.int .i64 y1] w1 (endK (fun v2 w3 =>
          ∃ x3 : Bool, v2 = .bool x3 ∧
          iteP x2 (
            iteP x3 (
              R (.returned (.int .i64 0)) w3) (
              R (.returned (.int .i64 (-1))) w3)) (
            iteP x3 (
              R (.returned (.int .i64 1)) w3) (
              iteP ((decide (x1 < y1))) (
                R (.returned (.int .i64 (-1))) w3) (
                iteP ((decide (x1 > y1))) (
                  R (.returned (.int .i64 1)) w3) (
                  R (.returned (.int .i64 0)) w3))))) (fun c2 w4 => R (.panicked c2) w4))) (fun c1 w2 => R (.panicked c1) w2))
theorem F57.eq (x1 : Int) (y1 : Int) (w : World) (R : Ending → World → Prop) : lift Try.prog none F57.A 20 (bodyOf Try.f57) (retK Try.prog F57.A Try.f57 R) (argsF [.int .i64 x1, .int .i64 y1]) [] w = F57.sh x1 y1 w R := by kernel_rfl
theorem F57.calls_of (x1 : Int) (y1 : Int) {w : World} {R : Ending → World → Prop} (h : F57.sh x1 y1 w R) : Calls Try.prog 57 #[.int .i64 x1, .int .i64 y1] w R :=
  calls_of_lift noNG mixedOk (fn := Try.f57) (c := bodyOf Try.f57) (args := [.int .i64 x1, .int .i64 y1]) Try.func57 rfl rfl (cast (F57.eq x1 y1 w R).symm h)

/-! #### strings.Compare -/
def F58.A : Ann := annOf [(7, (.one (.one (.int .i64))))] []
def F58.sh (a1 : ByteArray) (b1 : ByteArray) (w : World) (R : Ending → World → Prop) : Prop :=
  Calls Try.prog 73 #[.string a1, .string b1] w (endK (fun v1 w1 =>
      ∃ x1 : Int, v1 = .int .i64 x1 ∧
      R (.returned (.int .i64 x1)) w1) (fun c1 w2 => R (.panicked c1) w2))
theorem F58.eq (a1 : ByteArray) (b1 : ByteArray) (w : World) (R : Ending → World → Prop) : lift Try.prog none F58.A 8 (bodyOf Try.f58) (retK Try.prog F58.A Try.f58 R) (argsF [.string a1, .string b1]) [] w = F58.sh a1 b1 w R := by kernel_rfl
theorem F58.calls_of (a1 : ByteArray) (b1 : ByteArray) {w : World} {R : Ending → World → Prop} (h : F58.sh a1 b1 w R) : Calls Try.prog 58 #[.string a1, .string b1] w R :=
  calls_of_lift noNG mixedOk (fn := Try.f58) (c := bodyOf Try.f58) (args := [.string a1, .string b1]) Try.func58 rfl rfl (cast (F58.eq a1 b1 w R).symm h)

/-! #### doorman/doormanref14.below -/
def F59.A : Ann := annOf [(6, (.one (.one (.int .i64)))), (8, (.one (.one (.int .i64)))), (11, (.one (.one (.int .i64)))), (13, (.one (.one (.int .i64)))), (16, (.one (.one .str))), (18, (.one (.one .str))), (21, (.one (.one .str))), (23, (.one (.one .str))), (26, (.one (.one .bool))), (30, (.one (.one .bool)))] []
def F59.sh (a1 : Int) (a2 : ByteArray) (a3 : Bool) (b1 : Int) (b2 : ByteArray) (b3 : Bool) (w : World) (R : Ending → World → Prop) : Prop :=
  allocK w (.cells #[.int .i64 a1, .string a2, .bool a3] 50) fun w1 =>
  allocK w1 (.cells #[.int .i64 b1, .string b2, .bool b3] 50) fun w2 =>
  ∃ x1 : Int, w2.cell? ⟨w.heap.size, 0, none⟩ = some (.int .i64 x1) ∧
  ∃ x2 : Int, w2.cell? ⟨w1.heap.size, 0, none⟩ = some (.int .i64 x2) ∧
  iteP (x1 != x2) (
    ∃ x3 : Int, w2.cell? ⟨w.heap.size, 0, none⟩ = some (.int .i64 x3) ∧
    ∃ x4 : Int, w2.cell? ⟨w1.heap.size, 0, none⟩ = some (.int .i64 x4) ∧
    R (.returned (.bool (decide (x3 < x4)))) w2) (
    ∃ x5 : ByteArray, w2.cell? ⟨w.heap.size, 1, none⟩ = some (.string x5) ∧
    ∃ x6 : ByteArray, w2.cell? ⟨w1.heap.size, 1, none⟩ = some (.string x6) ∧
    iteP ((!(x5.toList == x6.toList))) (
      ∃ x7 : ByteArray, w2.cell? ⟨w.heap.size, 1, none⟩ = some (.string x7) ∧
      ∃ x8 : ByteArray, w2.cell? ⟨w1.heap.size, 1, none⟩ = some (.string x8) ∧
      R (.returned (.bool (Op.bytesLess x7.toList x8.toList))) w2) (
      ∃ x9 : Bool, w2.cell? ⟨w.heap.size, 2, none⟩ = some (.bool x9) ∧
      iteP (!x9) (
        ∃ x10 : Bool, w2.cell? ⟨w1.heap.size, 2, none⟩ = some (.bool x10) ∧
        R (.returned (.bool x10)) w2) (
        R (.returned (.bool false)) w2)))
theorem F59.eq (a1 : Int) (a2 : ByteArray) (a3 : Bool) (b1 : Int) (b2 : ByteArray) (b3 : Bool) (w : World) (R : Ending → World → Prop) : lift Try.prog none F59.A 32 (bodyOf Try.f59) (retK Try.prog F59.A Try.f59 R) (argsF [.agg #[.int .i64 a1, .string a2, .bool a3], .agg #[.int .i64 b1, .string b2, .bool b3]]) [] w = F59.sh a1 a2 a3 b1 b2 b3 w R := by kernel_rfl
theorem F59.calls_of (a1 : Int) (a2 : ByteArray) (a3 : Bool) (b1 : Int) (b2 : ByteArray) (b3 : Bool) {w : World} {R : Ending → World → Prop} (h : F59.sh a1 a2 a3 b1 b2 b3 w R) : Calls Try.prog 59 #[.agg #[.int .i64 a1, .string a2, .bool a3], .agg #[.int .i64 b1, .string b2, .bool b3]] w R :=
  calls_of_lift noNG mixedOk (fn := Try.f59) (c := bodyOf Try.f59) (args := [.agg #[.int .i64 a1, .string a2, .bool a3], .agg #[.int .i64 b1, .string b2, .bool b3]]) Try.func59 rfl rfl (cast (F59.eq a1 a2 a3 b1 b2 b3 w R).symm h)

/-! #### cmp.isNaN[string] -/
def F60.A : Ann := annOf [] []
def F60.sh (x1 : ByteArray) (w : World) (R : Ending → World → Prop) : Prop :=
  R (.returned (.bool (!(x1.toList == x1.toList)))) w
theorem F60.eq (x1 : ByteArray) (w : World) (R : Ending → World → Prop) : lift Try.prog none F60.A 6 (bodyOf Try.f60) (retK Try.prog F60.A Try.f60 R) (argsF [.string x1]) [] w = F60.sh x1 w R := by kernel_rfl
theorem F60.calls_of (x1 : ByteArray) {w : World} {R : Ending → World → Prop} (h : F60.sh x1 w R) : Calls Try.prog 60 #[.string x1] w R :=
  calls_of_lift noNG mixedOk (fn := Try.f60) (c := bodyOf Try.f60) (args := [.string x1]) Try.func60 rfl rfl (cast (F60.eq x1 w R).symm h)

/-! #### cmp.isNaN[int] -/
def F72.A : Ann := annOf [] []
def F72.sh (x1 : Int) (w : World) (R : Ending → World → Prop) : Prop :=
  R (.returned (.bool (x1 != x1))) w
theorem F72.eq (x1 : Int) (w : World) (R : Ending → World → Prop) : lift Try.prog none F72.A 6 (bodyOf Try.f72) (retK Try.prog F72.A Try.f72 R) (argsF [.int .i64 x1]) [] w = F72.sh x1 w R := by kernel_rfl
theorem F72.calls_of (x1 : Int) {w : World} {R : Ending → World → Prop} (h : F72.sh x1 w R) : Calls Try.prog 72 #[.int .i64 x1] w R :=
  calls_of_lift noNG mixedOk (fn := Try.f72) (c := bodyOf Try.f72) (args := [.int .i64 x1]) Try.func72 rfl rfl (cast (F72.eq x1 w R).symm h)

end Go.Proofs
