/- Texts of the walk, gathered. -/
import Derived.Test.YtingeadhfbcacaaGreatMa1
import Derived.Test.YtingeadhfbcacaaGreatMa2
import Derived.Test.YtingeadhfbcacaaGreatMa3
import Derived.Test.YtingeadhfbcacaaGreatMa5
import Derived.Laws.MakeOwn
import Derived.WalkKit
import Derived.Defers
import Derived.Recover
import Derived.Tactics2
import Derived.Test.YtingeadhfbcacaaGreatRows
import Derived.ProofKit
import Derived.Deep.Slices
import Derived.SizedLaws
import Derived.Lib.SmallJoins
set_option linter.unusedSimpArgs false
set_option linter.unusedVariables false
namespace Go.Vx.Tryz
open Go Go.Vx Go.Proofs
section
set_option maxRecDepth 100000
theorem vc75 {a : Nat} {a0 : Option Addr} {a0l a0c : Nat} {a1 : Int} {a2 : Option Addr} {a2l a2c : Nat} {a3 : Option Addr} {a3l a3c : Nat} {a4 : Bool} {b0 b1 : Int} {b2 : ByteArray} {b3 : Option Addr} {b3l b3c : Nat} {c d : Int} {w : World} {R : Value → World → Prop} {X : ContX} (ha : w.heap[a]? = some (.cells #[.slice a0 a0l a0c, .int .i64 a1, .slice a2 a2l a2c, .slice a3 a3l a3c, .bool a4] 93 (0, 0))) (h : 
 ∀ id, w.heap.size ≤ id → ((!a4) = true → ∀ w1, Upd w w1 (setOf [a]) → id < w1.heap.size → w1.heap[a]? = some (.cells #[.slice a0 a0l a0c, .int .i64 (w64 (a1 + 1)), .slice a2 a2l a2c, .slice a3 a3l a3c, .bool false] 93) → R (.int .i64 0) w1) ∧ ((!a4) = false → (decide (w64 (a1 + 1) > 4096) = true → ∀ w11, Upd w w11 (setOf [a]) → id < w11.heap.size → w11.heap[a]? = some (.cells #[.slice a0 a0l a0c, .int .i64 (w64 (a1 + 1)), .slice a2 a2l a2c, .slice a3 a3l a3c, .bool false] 93) → R (.int .i64 0) w11) ∧ (decide (w64 (a1 + 1) > 4096) = false → ∀ w12, Upd w w12 (setOf [a]) → id < w12.heap.size → ∃ R1 X', CallsX E.P 103 #[.agg #[.int .i64 b0, .int .i64 b1, .string b2, .slice b3 b3l b3c]] w12 R1 X' ∧ (∀ v w2, R1 v w2 → ∃ x, v = .bool x ∧ ∃ S, Upd w12 w2 S ∧ Away [a, id] S ∧ ((!x) = true → ∀ w13, Upd w2 w13 (setOf [a]) → w13.heap[a]? = some (.cells #[.slice a0 a0l a0c, .int .i64 (w64 (a1 + 1)), .slice a2 a2l a2c, .slice a3 a3l a3c, .bool false] 93) → R (.int .i64 0) w13) ∧ ((!x) = false → ((b0 == 1) = true → w2.heap[a]? = some (.cells #[.slice a0 a0l a0c, .int .i64 (w64 (a1 + 1)), .slice a2 a2l a2c, .slice a3 a3l a3c, .bool a4] 93) → R (.int .i64 1) w2) ∧ ((b0 == 1) = false → ((b0 == 2) = true → w2.heap[a]? = some (.cells #[.slice a0 a0l a0c, .int .i64 (w64 (a1 + 1)), .slice a2 a2l a2c, .slice a3 a3l a3c, .bool a4] 93) → R (.int .i64 2) w2) ∧ ((b0 == 2) = false → ((b0 == 3) = true → w2.heap[a]? = some (.cells #[.slice a0 a0l a0c, .int .i64 (w64 (a1 + 1)), .slice a2 a2l a2c, .slice a3 a3l a3c, .bool a4] 93) → R (.int .i64 3) w2) ∧ ((b0 == 3) = false → ((b0 == 5) = true → (decide (b1 ≥ c) = true → ∀ w14, Upd w2 w14 (setOf [a]) → w14.heap[a]? = some (.cells #[.slice a0 a0l a0c, .int .i64 (w64 (a1 + 1)), .slice a2 a2l a2c, .slice a3 a3l a3c, .bool false] 93) → R (.int .i64 3) w14) ∧ (decide (b1 ≥ c) = false → w2.heap[a]? = some (.cells #[.slice a0 a0l a0c, .int .i64 (w64 (a1 + 1)), .slice a2 a2l a2c, .slice a3 a3l a3c, .bool a4] 93) → R (.int .i64 3) w2)) ∧ ((b0 == 5) = false → ((b0 == 6) = true → w2.heap[a]? = some (.cells #[.slice a0 a0l a0c, .int .i64 (w64 (a1 + 1)), .slice a2 a2l a2c, .slice a3 a3l a3c, .bool a4] 93) → ∃ R2 X'1, CallsX E.P 104 #[.pointer (some ⟨a, 0, none⟩), .agg #[.int .i64 b0, .int .i64 b1, .string b2, .slice b3 b3l b3c], .int .i64 c, .int .i64 d, .int .i64 1, .int .i64 1] w2 R2 X'1 ∧ (∀ v1 w21, R2 v1 w21 → ∃ x1, v1 = .int .i64 x1 ∧ ∃ S1, Upd w2 w21 S1 ∧ Away [id] S1 ∧ ∃ a1 n, ∃ c1 x2, ∃ a2 n1, ∃ c2 a3, ∃ n2 c3 x3, w21.heap[a]? = some (.cells #[.slice a1 n c1, .int .i64 x2, .slice a2 n1 c2, .slice a3 n2 c3, .bool x3] 93) ∧ 5 = 5 ∧ (w21.heap[a]? = some (.cells #[.slice a1 n c1, .int .i64 x2, .slice a2 n1 c2, .slice a3 n2 c3, .bool x3] 93) → R (.int .i64 x1) w21)) ∧ PX X'1 X) ∧ ((b0 == 6) = false → ((b0 == 8) = true → w2.heap[a]? = some (.cells #[.slice a0 a0l a0c, .int .i64 (w64 (a1 + 1)), .slice a2 a2l a2c, .slice a3 a3l a3c, .bool a4] 93) → ∃ R3 X'2, CallsX E.P 104 #[.pointer (some ⟨a, 0, none⟩), .agg #[.int .i64 b0, .int .i64 b1, .string b2, .slice b3 b3l b3c], .int .i64 c, .int .i64 d, .int .i64 1, .int .i64 1] w2 R3 X'2 ∧ (∀ v2 w23, R3 v2 w23 → ∃ x4, v2 = .int .i64 x4 ∧ ∃ S2, Upd w2 w23 S2 ∧ Away [id] S2 ∧ ∃ a4 n3, ∃ c4 x5, ∃ a5 n4, ∃ c5 a6, ∃ n5 c6 x6, w23.heap[a]? = some (.cells #[.slice a4 n3 c4, .int .i64 x5, .slice a5 n4 c5, .slice a6 n5 c6, .bool x6] 93) ∧ 5 = 5 ∧ (w23.heap[a]? = some (.cells #[.slice a4 n3 c4, .int .i64 x5, .slice a5 n4 c5, .slice a6 n5 c6, .bool x6] 93) → R (.int .i64 x4) w23)) ∧ PX X'2 X) ∧ ((b0 == 8) = false → ((b0 == 9) = true → w2.heap[a]? = some (.cells #[.slice a0 a0l a0c, .int .i64 (w64 (a1 + 1)), .slice a2 a2l a2c, .slice a3 a3l a3c, .bool a4] 93) → ∃ R4 X'3, CallsX E.P 104 #[.pointer (some ⟨a, 0, none⟩), .agg #[.int .i64 b0, .int .i64 b1, .string b2, .slice b3 b3l b3c], .int .i64 c, .int .i64 d, .int .i64 1, .int .i64 1] w2 R4 X'3 ∧ (∀ v3 w25, R4 v3 w25 → ∃ x7, v3 = .int .i64 x7 ∧ ∃ S3, Upd w2 w25 S3 ∧ Away [id] S3 ∧ ∃ a7 n6, ∃ c7 x8, ∃ a8 n7, ∃ c8 a9, ∃ n8 c9 x9, w25.heap[a]? = some (.cells #[.slice a7 n6 c7, .int .i64 x8, .slice a8 n7 c8, .slice a9 n8 c9, .bool x9] 93) ∧ 5 = 5 ∧ (w25.heap[a]? = some (.cells #[.slice a7 n6 c7, .int .i64 x8, .slice a8 n7 c8, .slice a9 n8 c9, .bool x9] 93) → R (.int .i64 x7) w25)) ∧ PX X'3 X) ∧ ((b0 == 9) = false → ((b0 == 10) = true → w2.heap[a]? = some (.cells #[.slice a0 a0l a0c, .int .i64 (w64 (a1 + 1)), .slice a2 a2l a2c, .slice a3 a3l a3c, .bool a4] 93) → ∃ R5 X'4, CallsX E.P 104 #[.pointer (some ⟨a, 0, none⟩), .agg #[.int .i64 b0, .int .i64 b1, .string b2, .slice b3 b3l b3c], .int .i64 c, .int .i64 d, .int .i64 1, .int .i64 1] w2 R5 X'4 ∧ (∀ v4 w27, R5 v4 w27 → ∃ x10, v4 = .int .i64 x10 ∧ ∃ S4, Upd w2 w27 S4 ∧ Away [id] S4 ∧ ∃ a10 n9, ∃ c10 x11, ∃ a11 n10, ∃ c11 a12, ∃ n11 c12 x12, w27.heap[a]? = some (.cells #[.slice a10 n9 c10, .int .i64 x11, .slice a11 n10 c11, .slice a12 n11 c12, .bool x12] 93) ∧ 5 = 5 ∧ (w27.heap[a]? = some (.cells #[.slice a10 n9 c10, .int .i64 x11, .slice a11 n10 c11, .slice a12 n11 c12, .bool x12] 93) → R (.int .i64 x10) w27)) ∧ PX X'4 X) ∧ ((b0 == 10) = false → ((b0 == 11) = true → w2.heap[a]? = some (.cells #[.slice a0 a0l a0c, .int .i64 (w64 (a1 + 1)), .slice a2 a2l a2c, .slice a3 a3l a3c, .bool a4] 93) → ∃ R6 X'5, CallsX E.P 104 #[.pointer (some ⟨a, 0, none⟩), .agg #[.int .i64 b0, .int .i64 b1, .string b2, .slice b3 b3l b3c], .int .i64 c, .int .i64 d, .int .i64 1, .int .i64 1] w2 R6 X'5 ∧ (∀ v5 w29, R6 v5 w29 → ∃ x13, v5 = .int .i64 x13 ∧ ∃ S5, Upd w2 w29 S5 ∧ Away [id] S5 ∧ ∃ a13 n12, ∃ c13 x14, ∃ a14 n13, ∃ c14 a15, ∃ n14 c15 x15, w29.heap[a]? = some (.cells #[.slice a13 n12 c13, .int .i64 x14, .slice a14 n13 c14, .slice a15 n14 c15, .bool x15] 93) ∧ 5 = 5 ∧ (w29.heap[a]? = some (.cells #[.slice a13 n12 c13, .int .i64 x14, .slice a14 n13 c14, .slice a15 n14 c15, .bool x15] 93) → R (.int .i64 x13) w29)) ∧ PX X'5 X) ∧ ((b0 == 11) = false → ((b0 == 12) = true → w2.heap[a]? = some (.cells #[.slice a0 a0l a0c, .int .i64 (w64 (a1 + 1)), .slice a2 a2l a2c, .slice a3 a3l a3c, .bool a4] 93) → ∃ R7 X'6, CallsX E.P 104 #[.pointer (some ⟨a, 0, none⟩), .agg #[.int .i64 b0, .int .i64 b1, .string b2, .slice b3 b3l b3c], .int .i64 c, .int .i64 d, .int .i64 1, .int .i64 1] w2 R7 X'6 ∧ (∀ v6 w211, R7 v6 w211 → ∃ x16, v6 = .int .i64 x16 ∧ ∃ S6, Upd w2 w211 S6 ∧ Away [id] S6 ∧ ∃ a16 n15, ∃ c16 x17, ∃ a17 n16, ∃ c17 a18, ∃ n17 c18 x18, w211.heap[a]? = some (.cells #[.slice a16 n15 c16, .int .i64 x17, .slice a17 n16 c17, .slice a18 n17 c18, .bool x18] 93) ∧ 5 = 5 ∧ (w211.heap[a]? = some (.cells #[.slice a16 n15 c16, .int .i64 x17, .slice a17 n16 c17, .slice a18 n17 c18, .bool x18] 93) → R (.int .i64 x16) w211)) ∧ PX X'6 X) ∧ ((b0 == 12) = false → ((b0 == 7) = true → w2.heap[a]? = some (.cells #[.slice a0 a0l a0c, .int .i64 (w64 (a1 + 1)), .slice a2 a2l a2c, .slice a3 a3l a3c, .bool a4] 93) → ∃ R8 X'7, CallsX E.P 104 #[.pointer (some ⟨a, 0, none⟩), .agg #[.int .i64 b0, .int .i64 b1, .string b2, .slice b3 b3l b3c], .int .i64 c, .int .i64 d, .int .i64 2, .int .i64 2] w2 R8 X'7 ∧ (∀ v7 w213, R8 v7 w213 → ∃ x19, v7 = .int .i64 x19 ∧ ∃ S7, Upd w2 w213 S7 ∧ Away [id] S7 ∧ ∃ a19 n18, ∃ c19 x20, ∃ a20 n19, ∃ c20 a21, ∃ n20 c21 x21, w213.heap[a]? = some (.cells #[.slice a19 n18 c19, .int .i64 x20, .slice a20 n19 c20, .slice a21 n20 c21, .bool x21] 93) ∧ 5 = 5 ∧ (w213.heap[a]? = some (.cells #[.slice a19 n18 c19, .int .i64 x20, .slice a20 n19 c20, .slice a21 n20 c21, .bool x21] 93) → R (.int .i64 x19) w213)) ∧ PX X'7 X) ∧ ((b0 == 7) = false → ((b0 == 17) = true → w2.heap[a]? = some (.cells #[.slice a0 a0l a0c, .int .i64 (w64 (a1 + 1)), .slice a2 a2l a2c, .slice a3 a3l a3c, .bool a4] 93) → ∃ R9 X'8, CallsX E.P 104 #[.pointer (some ⟨a, 0, none⟩), .agg #[.int .i64 b0, .int .i64 b1, .string b2, .slice b3 b3l b3c], .int .i64 c, .int .i64 d, .int .i64 2, .int .i64 2] w2 R9 X'8 ∧ (∀ v8 w215, R9 v8 w215 → ∃ x22, v8 = .int .i64 x22 ∧ ∃ S8, Upd w2 w215 S8 ∧ Away [id] S8 ∧ ∃ a22 n21, ∃ c22 x23, ∃ a23 n22, ∃ c23 a24, ∃ n23 c24 x24, w215.heap[a]? = some (.cells #[.slice a22 n21 c22, .int .i64 x23, .slice a23 n22 c23, .slice a24 n23 c24, .bool x24] 93) ∧ 5 = 5 ∧ (w215.heap[a]? = some (.cells #[.slice a22 n21 c22, .int .i64 x23, .slice a23 n22 c23, .slice a24 n23 c24, .bool x24] 93) → R (.int .i64 x22) w215)) ∧ PX X'8 X) ∧ ((b0 == 17) = false → ((b0 == 18) = true → w2.heap[a]? = some (.cells #[.slice a0 a0l a0c, .int .i64 (w64 (a1 + 1)), .slice a2 a2l a2c, .slice a3 a3l a3c, .bool a4] 93) → ∃ R10 X'9, CallsX E.P 104 #[.pointer (some ⟨a, 0, none⟩), .agg #[.int .i64 b0, .int .i64 b1, .string b2, .slice b3 b3l b3c], .int .i64 c, .int .i64 d, .int .i64 2, .int .i64 2] w2 R10 X'9 ∧ (∀ v9 w217, R10 v9 w217 → ∃ x25, v9 = .int .i64 x25 ∧ ∃ S9, Upd w2 w217 S9 ∧ Away [id] S9 ∧ ∃ a25 n24, ∃ c25 x26, ∃ a26 n25, ∃ c26 a27, ∃ n26 c27 x27, w217.heap[a]? = some (.cells #[.slice a25 n24 c25, .int .i64 x26, .slice a26 n25 c26, .slice a27 n26 c27, .bool x27] 93) ∧ 5 = 5 ∧ (w217.heap[a]? = some (.cells #[.slice a25 n24 c25, .int .i64 x26, .slice a26 n25 c26, .slice a27 n26 c27, .bool x27] 93) → R (.int .i64 x25) w217)) ∧ PX X'9 X) ∧ ((b0 == 18) = false → ((b0 == 15) = true → w2.heap[a]? = some (.cells #[.slice a0 a0l a0c, .int .i64 (w64 (a1 + 1)), .slice a2 a2l a2c, .slice a3 a3l a3c, .bool a4] 93) → ∃ R11 X'10, CallsX E.P 104 #[.pointer (some ⟨a, 0, none⟩), .agg #[.int .i64 b0, .int .i64 b1, .string b2, .slice b3 b3l b3c], .int .i64 c, .int .i64 d, .int .i64 1, .int .i64 2] w2 R11 X'10 ∧ (∀ v10 w219, R11 v10 w219 → ∃ x28, v10 = .int .i64 x28 ∧ ∃ S10, Upd w2 w219 S10 ∧ Away [id] S10 ∧ ∃ a28 n27, ∃ c28 x29, ∃ a29 n28, ∃ c29 a30, ∃ n29 c30 x30, w219.heap[a]? = some (.cells #[.slice a28 n27 c28, .int .i64 x29, .slice a29 n28 c29, .slice a30 n29 c30, .bool x30] 93) ∧ 5 = 5 ∧ (w219.heap[a]? = some (.cells #[.slice a28 n27 c28, .int .i64 x29, .slice a29 n28 c29, .slice a30 n29 c30, .bool x30] 93) → R (.int .i64 x28) w219)) ∧ PX X'10 X) ∧ ((b0 == 15) = false → ((b0 == 16) = true → w2.heap[a]? = some (.cells #[.slice a0 a0l a0c, .int .i64 (w64 (a1 + 1)), .slice a2 a2l a2c, .slice a3 a3l a3c, .bool a4] 93) → ∃ R12 X'11, CallsX E.P 104 #[.pointer (some ⟨a, 0, none⟩), .agg #[.int .i64 b0, .int .i64 b1, .string b2, .slice b3 b3l b3c], .int .i64 c, .int .i64 d, .int .i64 1, .int .i64 2] w2 R12 X'11 ∧ (∀ v11 w221, R12 v11 w221 → ∃ x31, v11 = .int .i64 x31 ∧ ∃ S11, Upd w2 w221 S11 ∧ Away [id] S11 ∧ ∃ a31 n30, ∃ c31 x32, ∃ a32 n31, ∃ c32 a33, ∃ n32 c33 x33, w221.heap[a]? = some (.cells #[.slice a31 n30 c31, .int .i64 x32, .slice a32 n31 c32, .slice a33 n32 c33, .bool x33] 93) ∧ 5 = 5 ∧ (w221.heap[a]? = some (.cells #[.slice a31 n30 c31, .int .i64 x32, .slice a32 n31 c32, .slice a33 n32 c33, .bool x33] 93) → R (.int .i64 x31) w221)) ∧ PX X'11 X) ∧ ((b0 == 16) = false → ((b0 == 13) = true → ((0 : Int) ≤ 0 ∧ 0 < (↑b3l : Int)) ∧ ∃ ad, b3 = some ad ∧ ∃ x34 x35, ∃ x36 a34, ∃ n33 c34, CellsIn w2 (Addr.add ad 0) [.int .i64 x34, .int .i64 x35, .string x36, .slice a34 n33 c34] ∧ (w2.heap[a]? = some (.cells #[.slice a0 a0l a0c, .int .i64 (w64 (a1 + 1)), .slice a2 a2l a2c, .slice a3 a3l a3c, .bool a4] 93) → ∃ R13 X'12, CallsX E.P 75 #[.pointer (some ⟨a, 0, none⟩), .agg #[.int .i64 x34, .int .i64 x35, .string x36, .slice a34 n33 c34], .int .i64 c, .int .i64 d] w2 R13 X'12 ∧ (∀ v12 w223, R13 v12 w223 → ∃ x37, v12 = .int .i64 x37 ∧ ∃ S12, Upd w2 w223 S12 ∧ Away [id] S12 ∧ ∃ a35 n34, ∃ c35 x38, ∃ a36 n35, ∃ c36 a37, ∃ n36 c37 x39, w223.heap[a]? = some (.cells #[.slice a35 n34 c35, .int .i64 x38, .slice a36 n35 c36, .slice a37 n36 c37, .bool x39] 93) ∧ 5 = 5 ∧ ((0 : Int) ≤ 1 ∧ 1 < (↑b3l : Int)) ∧ ∃ ad1, b3 = some ad1 ∧ ∃ x40 x41, ∃ x42 a38, ∃ n37 c38, CellsIn w223 (Addr.add ad1 4) [.int .i64 x40, .int .i64 x41, .string x42, .slice a38 n37 c38] ∧ (w223.heap[a]? = some (.cells #[.slice a35 n34 c35, .int .i64 x38, .slice a36 n35 c36, .slice a37 n36 c37, .bool x39] 93) → ∃ R14 X'13, CallsX E.P 105 #[.pointer (some ⟨a, 0, none⟩), .agg #[.int .i64 x40, .int .i64 x41, .string x42, .slice a38 n37 c38], .int .i64 c, .int .i64 d, .int .i64 x37] w223 R14 X'13 ∧ (∀ v13 w224, R14 v13 w224 → ∃ (v14 : Value), v13 = v14 ∧ ∃ S13, Upd w223 w224 S13 ∧ Away [id] S13 ∧ ∃ a39 n38, ∃ c39 x43, ∃ a40 n39, ∃ c40 a41, ∃ n40 c41 x44, w224.heap[a]? = some (.cells #[.slice a39 n38 c39, .int .i64 x43, .slice a40 n39 c40, .slice a41 n40 c41, .bool x44] 93) ∧ 5 = 5 ∧ (w224.heap[a]? = some (.cells #[.slice a39 n38 c39, .int .i64 x43, .slice a40 n39 c40, .slice a41 n40 c41, .bool x44] 93) → R (.int .i64 2) w224)) ∧ PX X'13 X)) ∧ PX X'12 X)) ∧ ((b0 == 13) = false → ((b0 == 14) = true → ((0 : Int) ≤ 0 ∧ 0 < (↑b3l : Int)) ∧ ∃ ad2, b3 = some ad2 ∧ ∃ x45 x46, ∃ x47 a42, ∃ n41 c42, CellsIn w2 (Addr.add ad2 0) [.int .i64 x45, .int .i64 x46, .string x47, .slice a42 n41 c42] ∧ (w2.heap[a]? = some (.cells #[.slice a0 a0l a0c, .int .i64 (w64 (a1 + 1)), .slice a2 a2l a2c, .slice a3 a3l a3c, .bool a4] 93) → ∃ R15 X'14, CallsX E.P 75 #[.pointer (some ⟨a, 0, none⟩), .agg #[.int .i64 x45, .int .i64 x46, .string x47, .slice a42 n41 c42], .int .i64 c, .int .i64 d] w2 R15 X'14 ∧ (∀ v15 w227, R15 v15 w227 → ∃ x48, v15 = .int .i64 x48 ∧ ∃ S14, Upd w2 w227 S14 ∧ Away [id] S14 ∧ ∃ a43 n42, ∃ c43 x49, ∃ a44 n43, ∃ c44 a45, ∃ n44 c45 x50, w227.heap[a]? = some (.cells #[.slice a43 n42 c43, .int .i64 x49, .slice a44 n43 c44, .slice a45 n44 c45, .bool x50] 93) ∧ 5 = 5 ∧ ((0 : Int) ≤ 1 ∧ 1 < (↑b3l : Int)) ∧ ∃ ad3, b3 = some ad3 ∧ ∃ x51 x52, ∃ x53 a46, ∃ n45 c46, CellsIn w227 (Addr.add ad3 4) [.int .i64 x51, .int .i64 x52, .string x53, .slice a46 n45 c46] ∧ (w227.heap[a]? = some (.cells #[.slice a43 n42 c43, .int .i64 x49, .slice a44 n43 c44, .slice a45 n44 c45, .bool x50] 93) → ∃ R16 X'15, CallsX E.P 105 #[.pointer (some ⟨a, 0, none⟩), .agg #[.int .i64 x51, .int .i64 x52, .string x53, .slice a46 n45 c46], .int .i64 c, .int .i64 d, .int .i64 x48] w227 R16 X'15 ∧ (∀ v16 w228, R16 v16 w228 → ∃ (v17 : Value), v16 = v17 ∧ ∃ S15, Upd w227 w228 S15 ∧ Away [id] S15 ∧ ∃ a47 n46, ∃ c47 x54, ∃ a48 n47, ∃ c48 a49, ∃ n48 c49 x55, w228.heap[a]? = some (.cells #[.slice a47 n46 c47, .int .i64 x54, .slice a48 n47 c48, .slice a49 n48 c49, .bool x55] 93) ∧ 5 = 5 ∧ (w228.heap[a]? = some (.cells #[.slice a47 n46 c47, .int .i64 x54, .slice a48 n47 c48, .slice a49 n48 c49, .bool x55] 93) → R (.int .i64 2) w228)) ∧ PX X'15 X)) ∧ PX X'14 X)) ∧ ((b0 == 14) = false → ((b0 == 19) = true → ((0 : Int) ≤ 0 ∧ 0 < (↑b3l : Int)) ∧ ∃ ad4, b3 = some ad4 ∧ ∃ x56 x57, ∃ x58 a50, ∃ n49 c50, CellsIn w2 (Addr.add ad4 0) [.int .i64 x56, .int .i64 x57, .string x58, .slice a50 n49 c50] ∧ (w2.heap[a]? = some (.cells #[.slice a0 a0l a0c, .int .i64 (w64 (a1 + 1)), .slice a2 a2l a2c, .slice a3 a3l a3c, .bool a4] 93) → ∃ R17 X'16, CallsX E.P 105 #[.pointer (some ⟨a, 0, none⟩), .agg #[.int .i64 x56, .int .i64 x57, .string x58, .slice a50 n49 c50], .int .i64 c, .int .i64 d, .int .i64 2] w2 R17 X'16 ∧ (∀ v18 w231, R17 v18 w231 → ∃ (v19 : Value), v18 = v19 ∧ ∃ S16, Upd w2 w231 S16 ∧ Away [id] S16 ∧ ∃ a51 n50, ∃ c51 x59, ∃ a52 n51, ∃ c52 a53, ∃ n52 c53 x60, w231.heap[a]? = some (.cells #[.slice a51 n50 c51, .int .i64 x59, .slice a52 n51 c52, .slice a53 n52 c53, .bool x60] 93) ∧ 5 = 5 ∧ ((0 : Int) ≤ 1 ∧ 1 < (↑b3l : Int)) ∧ ∃ ad5, b3 = some ad5 ∧ ∃ x61 x62, ∃ x63 a54, ∃ n53 c54, CellsIn w231 (Addr.add ad5 4) [.int .i64 x61, .int .i64 x62, .string x63, .slice a54 n53 c54] ∧ (w231.heap[a]? = some (.cells #[.slice a51 n50 c51, .int .i64 x59, .slice a52 n51 c52, .slice a53 n52 c53, .bool x60] 93) → ∃ R18 X'17, CallsX E.P 75 #[.pointer (some ⟨a, 0, none⟩), .agg #[.int .i64 x61, .int .i64 x62, .string x63, .slice a54 n53 c54], .int .i64 c, .int .i64 d] w231 R18 X'17 ∧ (∀ v20 w232, R18 v20 w232 → ∃ x64, v20 = .int .i64 x64 ∧ ∃ S17, Upd w231 w232 S17 ∧ Away [id] S17 ∧ ∃ a55 n54, ∃ c55 x65, ∃ a56 n55, ∃ c56 a57, ∃ n56 c57 x66, w232.heap[a]? = some (.cells #[.slice a55 n54 c55, .int .i64 x65, .slice a56 n55 c56, .slice a57 n56 c57, .bool x66] 93) ∧ 5 = 5 ∧ ((0 : Int) ≤ 2 ∧ 2 < (↑b3l : Int)) ∧ ∃ ad6, b3 = some ad6 ∧ ∃ x67 x68, ∃ x69 a58, ∃ n57 c58, CellsIn w232 (Addr.add ad6 8) [.int .i64 x67, .int .i64 x68, .string x69, .slice a58 n57 c58] ∧ (w232.heap[a]? = some (.cells #[.slice a55 n54 c55, .int .i64 x65, .slice a56 n55 c56, .slice a57 n56 c57, .bool x66] 93) → ∃ R19 X'18, CallsX E.P 105 #[.pointer (some ⟨a, 0, none⟩), .agg #[.int .i64 x67, .int .i64 x68, .string x69, .slice a58 n57 c58], .int .i64 c, .int .i64 d, .int .i64 x64] w232 R19 X'18 ∧ (∀ v21 w233, R19 v21 w233 → ∃ (v22 : Value), v21 = v22 ∧ ∃ S18, Upd w232 w233 S18 ∧ Away [id] S18 ∧ ∃ a59 n58, ∃ c59 x70, ∃ a60 n59, ∃ c60 a61, ∃ n60 c61 x71, w233.heap[a]? = some (.cells #[.slice a59 n58 c59, .int .i64 x70, .slice a60 n59 c60, .slice a61 n60 c61, .bool x71] 93) ∧ 5 = 5 ∧ (w233.heap[a]? = some (.cells #[.slice a59 n58 c59, .int .i64 x70, .slice a60 n59 c60, .slice a61 n60 c61, .bool x71] 93) → R (.int .i64 x64) w233)) ∧ PX X'18 X)) ∧ PX X'17 X)) ∧ PX X'16 X)) ∧ ((b0 == 19) = false → ((b0 == 20) = true → ∀ w15, Upd w2 w15 (setOf []) → ∃ R20 X'19, CallsX E.P 95 #[.int .i64 b1] w15 R20 X'19 ∧ (∀ v23 w237, R20 v23 w237 → ∃ x72, v23 = .int .i64 x72 ∧ ∃ S19, Upd w15 w237 S19 ∧ Away [a, id] S19 ∧ (w237.heap[a]? = some (.cells #[.slice a0 a0l a0c, .int .i64 (w64 (a1 + 1)), .slice a2 a2l a2c, .slice a3 a3l a3c, .bool a4] 93) → ∃ R21 X'20, CallsX E.P 104 #[.pointer (some ⟨a, 0, none⟩), .agg #[.int .i64 b0, .int .i64 b1, .string b2, .slice b3 b3l b3c], .int .i64 c, .int .i64 d, .int .i64 3, .int .i64 x72] w237 R21 X'20 ∧ (∀ v24 w238, R21 v24 w238 → ∃ x73, v24 = .int .i64 x73 ∧ ∃ S20, Upd w237 w238 S20 ∧ Away [id] S20 ∧ ∃ a62 n61, ∃ c62 x74, ∃ a63 n62, ∃ c63 a64, ∃ n63 c64 x75, w238.heap[a]? = some (.cells #[.slice a62 n61 c62, .int .i64 x74, .slice a63 n62 c63, .slice a64 n63 c64, .bool x75] 93) ∧ 5 = 5 ∧ (w238.heap[a]? = some (.cells #[.slice a62 n61 c62, .int .i64 x74, .slice a63 n62 c63, .slice a64 n63 c64, .bool x75] 93) → R (.int .i64 x73) w238)) ∧ PX X'20 X)) ∧ PX X'19 X) ∧ ((b0 == 20) = false → ((b0 == 21) = true → w2.heap[a]? = some (.cells #[.slice a0 a0l a0c, .int .i64 (w64 (a1 + 1)), .slice a2 a2l a2c, .slice a3 a3l a3c, .bool a4] 93) → ∃ R22 X'21, CallsX E.P 106 #[.pointer (some ⟨a, 0, none⟩), .agg #[.int .i64 b0, .int .i64 b1, .string b2, .slice b3 b3l b3c], .int .i64 c, .int .i64 d] w2 R22 X'21 ∧ (∀ v25 w241, R22 v25 w241 → ∃ x76, v25 = .int .i64 x76 ∧ ∃ S21, Upd w2 w241 S21 ∧ Away [id] S21 ∧ ∃ a65 n64, ∃ c65 x77, ∃ a66 n65, ∃ c66 a67, ∃ n66 c67 x78, w241.heap[a]? = some (.cells #[.slice a65 n64 c65, .int .i64 x77, .slice a66 n65 c66, .slice a67 n66 c67, .bool x78] 93) ∧ 5 = 5 ∧ (w241.heap[a]? = some (.cells #[.slice a65 n64 c65, .int .i64 x77, .slice a66 n65 c66, .slice a67 n66 c67, .bool x78] 93) → R (.int .i64 x76) w241)) ∧ PX X'21 X) ∧ ((b0 == 21) = false → ((b0 == 26) = true → w2.heap[a]? = some (.cells #[.slice a0 a0l a0c, .int .i64 (w64 (a1 + 1)), .slice a2 a2l a2c, .slice a3 a3l a3c, .bool a4] 93) → ∃ R23 X'22, CallsX E.P 107 #[.pointer (some ⟨a, 0, none⟩), .agg #[.int .i64 b0, .int .i64 b1, .string b2, .slice b3 b3l b3c], .int .i64 c, .int .i64 d] w2 R23 X'22 ∧ (∀ v26 w243, R23 v26 w243 → ∃ x79, v26 = .int .i64 x79 ∧ ∃ S22, Upd w2 w243 S22 ∧ Away [id] S22 ∧ ∃ a68 n67, ∃ c68 x80, ∃ a69 n68, ∃ c69 a70, ∃ n69 c70 x81, w243.heap[a]? = some (.cells #[.slice a68 n67 c68, .int .i64 x80, .slice a69 n68 c69, .slice a70 n69 c70, .bool x81] 93) ∧ 5 = 5 ∧ (w243.heap[a]? = some (.cells #[.slice a68 n67 c68, .int .i64 x80, .slice a69 n68 c69, .slice a70 n69 c70, .bool x81] 93) → R (.int .i64 x79) w243)) ∧ PX X'22 X) ∧ ((b0 == 26) = false → ∀ w16, Upd w2 w16 (setOf [a]) → w16.heap[a]? = some (.cells #[.slice a0 a0l a0c, .int .i64 (w64 (a1 + 1)), .slice a2 a2l a2c, .slice a3 a3l a3c, .bool false] 93) → R (.int .i64 0) w16))))))))))))))))))))))) ∧ PX X' X))
 ) : CallsX E.P 75 #[.pointer (some ⟨a, 0, none⟩), .agg #[.int .i64 b0, .int .i64 b1, .string b2, .slice b3 b3l b3c], .int .i64 c, .int .i64 d] w R X :=
  calls_vc E_ok ⟨[], []⟩ (f := 75) Tryz.func75 rfl [(.pointer (some ⟨a, 0, none⟩), .ptr 0 0), (.agg #[.int .i64 b0, .int .i64 b1, .string b2, .slice b3 b3l b3c], .no), (.int .i64 c, .no), (.int .i64 d, .no)] [⟨a, 93, false, [⟨.slice a0 a0l a0c, .no, 0⟩, ⟨.int .i64 a1, .no, 0⟩, ⟨.slice a2 a2l a2c, .no, 0⟩, ⟨.slice a3 a3l a3c, .no, 0⟩, ⟨.bool a4, .no, 0⟩]⟩] (bls1 ha) nod1 (plain_of rfl) (shs_of ⟨rfl, trivial, trivial, trivial, trivial⟩) h (by kernel_rfl)
theorem vc104 {a : Nat} {a0 : Option Addr} {a0l a0c : Nat} {a1 : Int} {a2 : Option Addr} {a2l a2c : Nat} {a3 : Option Addr} {a3l a3c : Nat} {a4 : Bool} {b0 b1 : Int} {b2 : ByteArray} {b3 : Option Addr} {b3l b3c : Nat} {c d e f : Int} {w : World} {R : Value → World → Prop} {X : ContX} (ha : w.heap[a]? = some (.cells #[.slice a0 a0l a0c, .int .i64 a1, .slice a2 a2l a2c, .slice a3 a3l a3c, .bool a4] 93 (0, 0))) (h : 
 ∀ id, w.heap.size ≤ id → ∀ w1, Upd w w1 (setOf []) → id < w1.heap.size → ∃ (I : Int → Option Addr → Nat → Nat → Int → Option Addr → Nat → Nat → Option Addr → Nat → Nat → Bool → World → Prop), ∃ (m : Int → Option Addr → Nat → Nat → Int → Option Addr → Nat → Nat → Option Addr → Nat → Nat → Bool → Nat), I 0 a0 a0l a0c a1 a2 a2l a2c a3 a3l a3c a4 w1 ∧ ∀ (jk : Nat → Value) (x : Int) (a1 : Option Addr) (n c1 : Nat) (x1 : Int) (a2 : Option Addr) (n1 c2 : Nat) (a3 : Option Addr) (n2 c3 : Nat) (x2 : Bool) (w2 : World), I x a1 n c1 x1 a2 n1 c2 a3 n2 c3 x2 w2 → (decide (x < (↑b3l : Int)) = true → (0 ≤ x ∧ x < (↑b3l : Int)) ∧ ∃ ad, b3 = some ad ∧ ∃ x3 x4, ∃ x5 a4, ∃ n3 c4, CellsIn w2 (Addr.add ad (Int.toNat x * 4)) [.int .i64 x3, .int .i64 x4, .string x5, .slice a4 n3 c4] ∧ (w2.heap[a]? = some (.cells #[.slice a1 n c1, .int .i64 x1, .slice a2 n1 c2, .slice a3 n2 c3, .bool x2] 93) → ∃ R1 X', CallsX E.P 105 #[.pointer (some ⟨a, 0, none⟩), .agg #[.int .i64 x3, .int .i64 x4, .string x5, .slice a4 n3 c4], .int .i64 c, .int .i64 d, .int .i64 e] w2 R1 X' ∧ (∀ v w21, R1 v w21 → ∃ (v1 : Value), v = v1 ∧ ∃ S, Upd w2 w21 S ∧ Away [id] S ∧ ∃ a5 n4, ∃ c5 x6, ∃ a6 n5, ∃ c6 a7, ∃ n6 c7 x7, w21.heap[a]? = some (.cells #[.slice a5 n4 c5, .int .i64 x6, .slice a6 n5 c6, .slice a7 n6 c7, .bool x7] 93) ∧ 5 = 5 ∧ I (w64 (x + 1)) a5 n4 c5 x6 a6 n5 c6 a7 n6 c7 x7 w21 ∧ m (w64 (x + 1)) a5 n4 c5 x6 a6 n5 c6 a7 n6 c7 x7 < m x a1 n c1 x1 a2 n1 c2 a3 n2 c3 x2) ∧ PX X' X)) ∧ (decide (x < (↑b3l : Int)) = false → w2.heap[a]? = some (.cells #[.slice a1 n c1, .int .i64 x1, .slice a2 n1 c2, .slice a3 n2 c3, .bool x2] 93) → R (.int .i64 f) w2)
 ) : CallsX E.P 104 #[.pointer (some ⟨a, 0, none⟩), .agg #[.int .i64 b0, .int .i64 b1, .string b2, .slice b3 b3l b3c], .int .i64 c, .int .i64 d, .int .i64 e, .int .i64 f] w R X :=
  calls_vc E_ok ⟨[(2, ⟨[(13, .int .i64)], [(0, 0, .slc), (0, 1, .int .i64), (0, 2, .slc), (0, 3, .slc), (0, 4, .bool)]⟩)], []⟩ (f := 104) Tryz.func104 rfl [(.pointer (some ⟨a, 0, none⟩), .ptr 0 0), (.agg #[.int .i64 b0, .int .i64 b1, .string b2, .slice b3 b3l b3c], .no), (.int .i64 c, .no), (.int .i64 d, .no), (.int .i64 e, .no), (.int .i64 f, .no)] [⟨a, 93, false, [⟨.slice a0 a0l a0c, .no, 0⟩, ⟨.int .i64 a1, .no, 0⟩, ⟨.slice a2 a2l a2c, .no, 0⟩, ⟨.slice a3 a3l a3c, .no, 0⟩, ⟨.bool a4, .no, 0⟩]⟩] (bls1 ha) nod1 (plain_of rfl) (shs_of ⟨rfl, trivial, trivial, trivial, trivial, trivial, trivial⟩) h (by kernel_rfl)
theorem vc105 {a : Nat} {a0 : Option Addr} {a0l a0c : Nat} {a1 : Int} {a2 : Option Addr} {a2l a2c : Nat} {a3 : Option Addr} {a3l a3c : Nat} {a4 : Bool} {b0 b1 : Int} {b2 : ByteArray} {b3 : Option Addr} {b3l b3c : Nat} {c d e : Int} {w : World} {R : Value → World → Prop} {X : ContX} (ha : w.heap[a]? = some (.cells #[.slice a0 a0l a0c, .int .i64 a1, .slice a2 a2l a2c, .slice a3 a3l a3c, .bool a4] 93 (0, 0))) (h : 
 ∀ id, w.heap.size ≤ id → ∀ w1, Upd w w1 (setOf []) → id < w1.heap.size → w1.heap[a]? = some (.cells #[.slice a0 a0l a0c, .int .i64 a1, .slice a2 a2l a2c, .slice a3 a3l a3c, .bool a4] 93) → ∃ R1 X', CallsX E.P 75 #[.pointer (some ⟨a, 0, none⟩), .agg #[.int .i64 b0, .int .i64 b1, .string b2, .slice b3 b3l b3c], .int .i64 c, .int .i64 d] w1 R1 X' ∧ (∀ v w2, R1 v w2 → ∃ x, v = .int .i64 x ∧ ∃ S, Upd w1 w2 S ∧ Away [id] S ∧ ∃ a1 n, ∃ c1 x1, ∃ a2 n1, ∃ c2 a3, ∃ n2 c3 x2, w2.heap[a]? = some (.cells #[.slice a1 n c1, .int .i64 x1, .slice a2 n1 c2, .slice a3 n2 c3, .bool x2] 93) ∧ 5 = 5 ∧ ((x != e) = true → ∀ w11, Upd w2 w11 (setOf [a]) → w11.heap[a]? = some (.cells #[.slice a1 n c1, .int .i64 x1, .slice a2 n1 c2, .slice a3 n2 c3, .bool false] 93) → R (.tuple #[]) w11) ∧ ((x != e) = false → w2.heap[a]? = some (.cells #[.slice a1 n c1, .int .i64 x1, .slice a2 n1 c2, .slice a3 n2 c3, .bool x2] 93) → R (.tuple #[]) w2)) ∧ PX X' X
 ) : CallsX E.P 105 #[.pointer (some ⟨a, 0, none⟩), .agg #[.int .i64 b0, .int .i64 b1, .string b2, .slice b3 b3l b3c], .int .i64 c, .int .i64 d, .int .i64 e] w R X :=
  calls_vc E_ok ⟨[], []⟩ (f := 105) Tryz.func105 rfl [(.pointer (some ⟨a, 0, none⟩), .ptr 0 0), (.agg #[.int .i64 b0, .int .i64 b1, .string b2, .slice b3 b3l b3c], .no), (.int .i64 c, .no), (.int .i64 d, .no), (.int .i64 e, .no)] [⟨a, 93, false, [⟨.slice a0 a0l a0c, .no, 0⟩, ⟨.int .i64 a1, .no, 0⟩, ⟨.slice a2 a2l a2c, .no, 0⟩, ⟨.slice a3 a3l a3c, .no, 0⟩, ⟨.bool a4, .no, 0⟩]⟩] (bls1 ha) nod1 (plain_of rfl) (shs_of ⟨rfl, trivial, trivial, trivial, trivial, trivial⟩) h (by kernel_rfl)
theorem vc106 {a : Nat} {a0 : Option Addr} {a0l a0c : Nat} {a1 : Int} {a2 : Option Addr} {a2l a2c : Nat} {a3 : Option Addr} {a3l a3c : Nat} {a4 : Bool} {b0 b1 : Int} {b2 : ByteArray} {b3 : Option Addr} {b3l b3c : Nat} {c d : Int} {w : World} {R : Value → World → Prop} {X : ContX} (ha : w.heap[a]? = some (.cells #[.slice a0 a0l a0c, .int .i64 a1, .slice a2 a2l a2c, .slice a3 a3l a3c, .bool a4] 93 (0, 0))) (h : 
 ∀ id, w.heap.size ≤ id → ((d == 4) = true → ∀ w1, Upd w w1 (setOf [a]) → id < w1.heap.size → w1.heap[a]? = some (.cells #[.slice a0 a0l a0c, .int .i64 a1, .slice a2 a2l a2c, .slice a3 a3l a3c, .bool false] 93) → R (.int .i64 0) w1) ∧ ((d == 4) = false → ((0 : Int) ≤ 0 ∧ 0 < (↑b3l : Int)) ∧ ∃ ad, b3 = some ad ∧ ∀ w11, Upd w w11 (setOf []) → id < w11.heap.size → ∃ x x1, ∃ x2 a1_1, ∃ n c1, CellsIn w11 (Addr.add ad 0) [.int .i64 x, .int .i64 x1, .string x2, .slice a1_1 n c1] ∧ (w11.heap[a]? = some (.cells #[.slice a0 a0l a0c, .int .i64 a1, .slice a2 a2l a2c, .slice a3 a3l a3c, .bool a4] 93) → ∃ R1 X', CallsX E.P 125 #[.pointer (some ⟨a, 0, none⟩), .agg #[.int .i64 x, .int .i64 x1, .string x2, .slice a1_1 n c1], .int .i64 c, .int .i64 (w64 (d + 1))] w11 R1 X' ∧ (∀ v w2, R1 v w2 → ∃ (v1 : Value), v = v1 ∧ ∃ S, Upd w11 w2 S ∧ Away [id] S ∧ ∃ a2 n1, ∃ c2 x3, ∃ a3 n2, ∃ c3 a4, ∃ n3 c4 x4, w2.heap[a]? = some (.cells #[.slice a2 n1 c2, .int .i64 x3, .slice a3 n2 c3, .slice a4 n3 c4, .bool x4] 93) ∧ 5 = 5 ∧ ∃ (I : Option Addr → Nat → Nat → Int → Option Addr → Nat → Nat → Option Addr → Nat → Nat → Bool → World → Prop), (((0 : Int) ≤ 1 ∧ 1 < (↑b3l : Int)) ∧ ∃ ad1, b3 = some ad1 ∧ (∀ w12, Upd w2 w12 (setOf []) → ∃ x5 x6, ∃ x7 a5, ∃ n4 c5, CellsIn w12 (Addr.add ad1 4) [.int .i64 x5, .int .i64 x6, .string x7, .slice a5 n4 c5] ∧ ∃ R2 X'1, CallsX E.P 122 #[.int .i64 b1] w12 R2 X'1 ∧ (∀ v2 w21, R2 v2 w21 → ∃ x8, v2 = .int .i64 x8 ∧ ∃ S1, Upd w12 w21 S1 ∧ Away [a, id] S1 ∧ (w21.heap[a]? = some (.cells #[.slice a2 n1 c2, .int .i64 x3, .slice a3 n2 c3, .slice a4 n3 c4, .bool x4] 93) → ∃ R3 X'2, CallsX E.P 105 #[.pointer (some ⟨a, 0, none⟩), .agg #[.int .i64 x5, .int .i64 x6, .string x7, .slice a5 n4 c5], .int .i64 (w64 (c + 1)), .int .i64 (w64 (d + 1)), .int .i64 x8] w21 R3 X'2 ∧ (∀ v3 w22, R3 v3 w22 → ∃ (v4 : Value), v3 = v4 ∧ ∃ S2, Upd w21 w22 S2 ∧ Away [id] S2 ∧ ∃ a6 n5, ∃ c6 x9, ∃ a7 n6, ∃ c7 a8, ∃ n7 c8 x10, w22.heap[a]? = some (.cells #[.slice a6 n5 c6, .int .i64 x9, .slice a7 n6 c7, .slice a8 n7 c8, .bool x10] 93) ∧ 5 = 5 ∧ I a6 n5 c6 x9 a7 n6 c7 a8 n7 c8 x10 w22) ∧ PX X'2 X)) ∧ PX X'1 X) ∧ ∀ w13, Upd w2 w13 (setOf []) → ∃ R4 X'3, CallsX E.P 122 #[.int .i64 b1] w13 R4 X'3 ∧ (∀ v5 w25, R4 v5 w25 → ∃ x11, v5 = .int .i64 x11 ∧ ∃ S3, Upd w13 w25 S3 ∧ Away [a, id] S3 ∧ ∃ x12 x13, ∃ x14 a9, ∃ n8 c9, CellsIn w25 (Addr.add ad1 4) [.int .i64 x12, .int .i64 x13, .string x14, .slice a9 n8 c9] ∧ (w25.heap[a]? = some (.cells #[.slice a2 n1 c2, .int .i64 x3, .slice a3 n2 c3, .slice a4 n3 c4, .bool x4] 93) → ∃ R5 X'4, CallsX E.P 105 #[.pointer (some ⟨a, 0, none⟩), .agg #[.int .i64 x12, .int .i64 x13, .string x14, .slice a9 n8 c9], .int .i64 (w64 (c + 1)), .int .i64 (w64 (d + 1)), .int .i64 x11] w25 R5 X'4 ∧ (∀ v6 w26, R5 v6 w26 → ∃ (v7 : Value), v6 = v7 ∧ ∃ S4, Upd w25 w26 S4 ∧ Away [id] S4 ∧ ∃ a10 n9, ∃ c10 x15, ∃ a11 n10, ∃ c11 a12, ∃ n11 c12 x16, w26.heap[a]? = some (.cells #[.slice a10 n9 c10, .int .i64 x15, .slice a11 n10 c11, .slice a12 n11 c12, .bool x16] 93) ∧ 5 = 5 ∧ I a10 n9 c10 x15 a11 n10 c11 a12 n11 c12 x16 w26) ∧ PX X'4 X)) ∧ PX X'3 X) ∧ ∀ (jk : Nat → Value) (a13 : Option Addr) (n12 c13 : Nat) (x17 : Int) (a14 : Option Addr) (n13 c14 : Nat) (a15 : Option Addr) (n14 c15 : Nat) (x18 : Bool) (w29 : World), I a13 n12 c13 x17 a14 n13 c14 a15 n14 c15 x18 w29 → ∃ R6 X'5, CallsX E.P 123 #[.int .i64 b1] w29 R6 X'5 ∧ (∀ v8 w210, R6 v8 w210 → ∃ x19, v8 = .int .i64 x19 ∧ ∃ S5, Upd w29 w210 S5 ∧ Away [a, id] S5 ∧ (w210.heap[a]? = some (.cells #[.slice a13 n12 c13, .int .i64 x17, .slice a14 n13 c14, .slice a15 n14 c15, .bool x18] 93) → R (.int .i64 x19) w210)) ∧ PX X'5 X) ∧ PX X' X))
 ) : CallsX E.P 106 #[.pointer (some ⟨a, 0, none⟩), .agg #[.int .i64 b0, .int .i64 b1, .string b2, .slice b3 b3l b3c], .int .i64 c, .int .i64 d] w R X :=
  calls_vc E_ok ⟨[], [(6, ⟨[], [(0, 0, .slc), (0, 1, .int .i64), (0, 2, .slc), (0, 3, .slc), (0, 4, .bool)]⟩)]⟩ (f := 106) Tryz.func106 rfl [(.pointer (some ⟨a, 0, none⟩), .ptr 0 0), (.agg #[.int .i64 b0, .int .i64 b1, .string b2, .slice b3 b3l b3c], .no), (.int .i64 c, .no), (.int .i64 d, .no)] [⟨a, 93, false, [⟨.slice a0 a0l a0c, .no, 0⟩, ⟨.int .i64 a1, .no, 0⟩, ⟨.slice a2 a2l a2c, .no, 0⟩, ⟨.slice a3 a3l a3c, .no, 0⟩, ⟨.bool a4, .no, 0⟩]⟩] (bls1 ha) nod1 (plain_of rfl) (shs_of ⟨rfl, trivial, trivial, trivial, trivial⟩) h (by kernel_rfl)
theorem vc107 {a : Nat} {a0 : Option Addr} {a0l a0c : Nat} {a1 : Int} {a2 : Option Addr} {a2l a2c : Nat} {a3 : Option Addr} {a3l a3c : Nat} {a4 : Bool} {b0 b1 : Int} {b2 : ByteArray} {b3 : Option Addr} {b3l b3c : Nat} {c d : Int} {w : World} {R : Value → World → Prop} {X : ContX} (ha : w.heap[a]? = some (.cells #[.slice a0 a0l a0c, .int .i64 a1, .slice a2 a2l a2c, .slice a3 a3l a3c, .bool a4] 93 (0, 0))) (h : 
 ∀ id, w.heap.size ≤ id → (decide (b1 < 0) = true → ∀ w1, Upd w w1 (setOf [a]) → id < w1.heap.size → w1.heap[a]? = some (.cells #[.slice a0 a0l a0c, .int .i64 a1, .slice a2 a2l a2c, .slice a3 a3l a3c, .bool false] 93) → R (.int .i64 0) w1) ∧ (decide (b1 < 0) = false → (decide (b1 ≥ (↑a0l : Int)) = true → ∀ w11, Upd w w11 (setOf [a]) → id < w11.heap.size → w11.heap[a]? = some (.cells #[.slice a0 a0l a0c, .int .i64 a1, .slice a2 a2l a2c, .slice a3 a3l a3c, .bool false] 93) → R (.int .i64 0) w11) ∧ (decide (b1 ≥ (↑a0l : Int)) = false → (0 ≤ b1 ∧ b1 < (↑a0l : Int)) ∧ ∃ ad, a0 = some ad ∧ ∀ w12, Upd w w12 (setOf []) → id < w12.heap.size → ∃ x, CellsIn w12 (Addr.add ad (Int.toNat b1 * 1)) [.int .i64 x] ∧ (decide (x > c) = true → ∀ w13, Upd w12 w13 (setOf [a]) → w13.heap[a]? = some (.cells #[.slice a0 a0l a0c, .int .i64 a1, .slice a2 a2l a2c, .slice a3 a3l a3c, .bool false] 93) → R (.int .i64 0) w13) ∧ (decide (x > c) = false → ((0 : Int) ≤ 0 ∧ 0 < (↑b3l : Int)) ∧ ∃ ad1, b3 = some ad1 ∧ ∃ x1 x2, ∃ x3 a1_1, ∃ n c1, CellsIn w12 (Addr.add ad1 0) [.int .i64 x1, .int .i64 x2, .string x3, .slice a1_1 n c1] ∧ (w12.heap[a]? = some (.cells #[.slice a0 a0l a0c, .int .i64 a1, .slice a2 a2l a2c, .slice a3 a3l a3c, .bool a4] 93) → ∃ R1 X', CallsX E.P 75 #[.pointer (some ⟨a, 0, none⟩), .agg #[.int .i64 x1, .int .i64 x2, .string x3, .slice a1_1 n c1], .int .i64 c, .int .i64 d] w12 R1 X' ∧ (∀ v w2, R1 v w2 → ∃ x4, v = .int .i64 x4 ∧ ∃ S, Upd w12 w2 S ∧ Away [id] S ∧ ∃ a2 n1, ∃ c2 x5, ∃ a3 n2, ∃ c3 a4, ∃ n3 c4 x6, w2.heap[a]? = some (.cells #[.slice a2 n1 c2, .int .i64 x5, .slice a3 n2 c3, .slice a4 n3 c4, .bool x6] 93) ∧ 5 = 5 ∧ ((!x6) = true → w2.heap[a]? = some (.cells #[.slice a2 n1 c2, .int .i64 x5, .slice a3 n2 c3, .slice a4 n3 c4, .bool x6] 93) → R (.int .i64 0) w2) ∧ ((!x6) = false → ∃ (I : Bool → World → Prop), (((0 : Int) ≤ 0 ∧ 0 < (↑b3l : Int)) ∧ ∃ ad2, b3 = some ad2 ∧ (0 ≤ b1 ∧ b1 < (↑n1 : Int)) ∧ ∃ ad3, a2 = some ad3 ∧ (∀ w14, Upd w2 w14 (setOf []) → ∃ x7 x8, ∃ x9 a5, ∃ n4 c5, CellsIn w14 (Addr.add ad2 0) [.int .i64 x7, .int .i64 x8, .string x9, .slice a5 n4 c5] ∧ (∃ R2 X'1, CallsX E.P 42 #[.agg #[.int .i64 x7, .int .i64 x8, .string x9, .slice a5 n4 c5], .int .i64 c] w14 R2 X'1 ∧ (∀ v1 w21, R2 v1 w21 → ∃ x10, v1 = .int .i64 x10 ∧ ∃ S1, Upd w14 w21 S1 ∧ Away [a, id] S1 ∧ ∃ x11, CellsIn w21 (Addr.add ad3 (Int.toNat b1 * 1)) [.int .i64 x11] ∧ I (decide (x10 > x11)) w21) ∧ PX X'1 X) ∧ ∃ x12, CellsIn w14 (Addr.add ad3 (Int.toNat b1 * 1)) [.int .i64 x12] ∧ ∃ R3 X'2, CallsX E.P 42 #[.agg #[.int .i64 x7, .int .i64 x8, .string x9, .slice a5 n4 c5], .int .i64 c] w14 R3 X'2 ∧ (∀ v2 w23, R3 v2 w23 → ∃ x13, v2 = .int .i64 x13 ∧ ∃ S2, Upd w14 w23 S2 ∧ Away [a, id] S2 ∧ I (decide (x13 > x12)) w23) ∧ PX X'2 X) ∧ ∀ w15, Upd w2 w15 (setOf []) → ∃ x14, CellsIn w15 (Addr.add ad3 (Int.toNat b1 * 1)) [.int .i64 x14] ∧ ∃ x15 x16, ∃ x17 a6, ∃ n5 c6, CellsIn w15 (Addr.add ad2 0) [.int .i64 x15, .int .i64 x16, .string x17, .slice a6 n5 c6] ∧ ∃ R4 X'3, CallsX E.P 42 #[.agg #[.int .i64 x15, .int .i64 x16, .string x17, .slice a6 n5 c6], .int .i64 c] w15 R4 X'3 ∧ (∀ v3 w25, R4 v3 w25 → ∃ x18, v3 = .int .i64 x18 ∧ ∃ S3, Upd w15 w25 S3 ∧ Away [a, id] S3 ∧ I (decide (x18 > x14)) w25) ∧ PX X'3 X) ∧ ∀ (jk : Nat → Value) (x19 : Bool) (w27 : World), I x19 w27 → (x19 = true → ∀ w16, Upd w27 w16 (setOf [a]) → w16.heap[a]? = some (.cells #[.slice a2 n1 c2, .int .i64 x5, .slice a3 n2 c3, .slice a4 n3 c4, .bool false] 93) → R (.int .i64 0) w16) ∧ (x19 = false → ∃ (I1 : Bool → World → Prop), ((0 ≤ b1 ∧ b1 < (↑n2 : Int)) ∧ ∃ ad4, a3 = some ad4 ∧ ∀ w17, Upd w27 w17 (setOf []) → ∃ a7 n6 c7, CellsIn w17 (Addr.add ad4 (Int.toNat b1 * 1)) [.slice a7 n6 c7] ∧ (decide ((↑n6 : Int) > 0) = true → (0 ≤ b1 ∧ b1 < (↑n2 : Int)) ∧ ∃ ad5, a3 = some ad5 ∧ ∀ w18, Upd w17 w18 (setOf []) → ∃ a8 n7 c8, CellsIn w18 (Addr.add ad5 (Int.toNat b1 * 1)) [.slice a8 n7 c8] ∧ ((0 : Int) ≤ 0 ∧ 0 < (↑n7 : Int)) ∧ ∃ ad6, a8 = some ad6 ∧ ∃ x20 x21, ∃ x22 a9, ∃ n8 c9, CellsIn w18 (Addr.add ad6 0) [.int .i64 x20, .int .i64 x21, .string x22, .slice a9 n8 c9] ∧ ((0 : Int) ≤ 0 ∧ 0 < (↑b3l : Int)) ∧ ∃ ad7, b3 = some ad7 ∧ ∃ x23 x24, ∃ x25 a10, ∃ n9 c10, CellsIn w18 (Addr.add ad7 0) [.int .i64 x23, .int .i64 x24, .string x25, .slice a10 n9 c10] ∧ ∃ R5 X'4, CallsX E.P 33 #[.agg #[.int .i64 x20, .int .i64 x21, .string x22, .slice a9 n8 c9], .agg #[.int .i64 x23, .int .i64 x24, .string x25, .slice a10 n9 c10]] w18 R5 X'4 ∧ (∀ v4 w28, R5 v4 w28 → ∃ x26, v4 = .bool x26 ∧ ∃ S4, Upd w18 w28 S4 ∧ Away [a, id] S4 ∧ ((0 : Int) ≤ 0 ∧ 0 < (↑b3l : Int)) ∧ ∃ ad8, b3 = some ad8 ∧ ∃ x27 x28, ∃ x29 a11, ∃ n10 c11, CellsIn w28 (Addr.add ad8 0) [.int .i64 x27, .int .i64 x28, .string x29, .slice a11 n10 c11] ∧ ∃ R6 X'5, CallsX E.P 126 #[.agg #[.int .i64 x27, .int .i64 x28, .string x29, .slice a11 n10 c11]] w28 R6 X'5 ∧ (∀ v5 w29, R6 v5 w29 → ∃ x30, v5 = .bool x30 ∧ ∃ S5, Upd w28 w29 S5 ∧ Away [a, id] S5 ∧ ((!x26) = true → ∀ w19, Upd w29 w19 (setOf [a]) → w19.heap[a]? = some (.cells #[.slice a2 n1 c2, .int .i64 x5, .slice a3 n2 c3, .slice a4 n3 c4, .bool false] 93) → R (.int .i64 0) w19) ∧ ((!x26) = false → (x30 = true → (0 ≤ b1 ∧ b1 < (↑n3 : Int)) ∧ ∃ ad9, a4 = some ad9 ∧ ∀ w110, Upd w29 w110 (setOf []) → ∃ x31, CellsIn w110 (Addr.add ad9 (Int.toNat b1 * 1)) [.int .i64 x31] ∧ ((x31 != c) = true → ∀ w111, Upd w110 w111 (setOf [a]) → w111.heap[a]? = some (.cells #[.slice a2 n1 c2, .int .i64 x5, .slice a3 n2 c3, .slice a4 n3 c4, .bool false] 93) → R (.int .i64 0) w111) ∧ ((x31 != c) = false → I1 x6 w110)) ∧ (x30 = false → ∀ w112, Upd w29 w112 (setOf []) → I1 x6 w112))) ∧ PX X'5 X) ∧ PX X'4 X) ∧ (decide ((↑n6 : Int) > 0) = false → I1 x6 w17)) ∧ ∀ (jk1 : Nat → Value) (x32 : Bool) (w212 : World), I1 x32 w212 → ((0 : Int) ≤ 0 ∧ 0 < (↑b3l : Int)) ∧ ∃ ad10, b3 = some ad10 ∧ ∀ w113, Upd w212 w113 (setOf []) → ∃ x33 x34, ∃ x35 a12, ∃ n11 c12, CellsIn w113 (Addr.add ad10 0) [.int .i64 x33, .int .i64 x34, .string x35, .slice a12 n11 c12] ∧ ∀ id1, w113.heap.size ≤ id1 → (0 ≤ b1 ∧ b1 < (↑n2 : Int)) ∧ ∃ ad11, a3 = some ad11 ∧ ∀ w114, Upd w113 w114 (setOf []) → id1 < w114.heap.size → w114.heap[id1]? = some (.cells #[.int .i64 x33, .int .i64 x34, .string x35, .slice a12 n11 c12] 24) → ∃ R7, RunsU E.P (Instr.storeAt 22 (.pointer (some (Addr.add ad11 (Int.toNat b1 * 1)))) (.slice (some ⟨id1, 0, none⟩) 1 1)) w114 R7 ∧ ∀ w213, R7 w213 → ∃ S6, Upd w114 w213 S6 ∧ Away [a, id, id1] S6 ∧ (0 ≤ b1 ∧ b1 < (↑n3 : Int)) ∧ ∃ ad12, a4 = some ad12 ∧ ∀ w115, Upd w213 w115 (setOf []) → w115.heap[id1]? = some (.cells #[.int .i64 x33, .int .i64 x34, .string x35, .slice a12 n11 c12] 24) → ∃ R8, RunsU E.P (Instr.storeAt 3 (.pointer (some (Addr.add ad12 (Int.toNat b1 * 1)))) (.int .i64 c)) w115 R8 ∧ ∀ w214, R8 w214 → ∃ S7, Upd w115 w214 S7 ∧ Away [a, id, id1] S7 ∧ (w214.heap[a]? = some (.cells #[.slice a2 n1 c2, .int .i64 x5, .slice a3 n2 c3, .slice a4 n3 c4, .bool x32] 93) → w214.heap[id1]? = some (.cells #[.int .i64 x33, .int .i64 x34, .string x35, .slice a12 n11 c12] 24) → R (.int .i64 x4) w214)))) ∧ PX X' X))))
 ) : CallsX E.P 107 #[.pointer (some ⟨a, 0, none⟩), .agg #[.int .i64 b0, .int .i64 b1, .string b2, .slice b3 b3l b3c], .int .i64 c, .int .i64 d] w R X :=
  calls_vc E_ok ⟨[], [(8, ⟨[(67, .bool)], []⟩), (16, ⟨[], [(0, 4, .bool)]⟩)]⟩ (f := 107) Tryz.func107 rfl [(.pointer (some ⟨a, 0, none⟩), .ptr 0 0), (.agg #[.int .i64 b0, .int .i64 b1, .string b2, .slice b3 b3l b3c], .no), (.int .i64 c, .no), (.int .i64 d, .no)] [⟨a, 93, false, [⟨.slice a0 a0l a0c, .no, 0⟩, ⟨.int .i64 a1, .no, 0⟩, ⟨.slice a2 a2l a2c, .no, 0⟩, ⟨.slice a3 a3l a3c, .no, 0⟩, ⟨.bool a4, .no, 0⟩]⟩] (bls1 ha) nod1 (plain_of rfl) (shs_of ⟨rfl, trivial, trivial, trivial, trivial⟩) h (by kernel_rfl)
theorem vc125 {a : Nat} {a0 : Option Addr} {a0l a0c : Nat} {a1 : Int} {a2 : Option Addr} {a2l a2c : Nat} {a3 : Option Addr} {a3l a3c : Nat} {a4 : Bool} {b0 b1 : Int} {b2 : ByteArray} {b3 : Option Addr} {b3l b3c : Nat} {c d : Int} {w : World} {R : Value → World → Prop} {X : ContX} (ha : w.heap[a]? = some (.cells #[.slice a0 a0l a0c, .int .i64 a1, .slice a2 a2l a2c, .slice a3 a3l a3c, .bool a4] 93 (0, 0))) (h : 
 ∀ id, w.heap.size ≤ id → (decide (w64 (a1 + 1) > 4096) = true → ∀ w1, Upd w w1 (setOf [a]) → id < w1.heap.size → w1.heap[a]? = some (.cells #[.slice a0 a0l a0c, .int .i64 (w64 (a1 + 1)), .slice a2 a2l a2c, .slice a3 a3l a3c, .bool false] 93) → R (.tuple #[]) w1) ∧ (decide (w64 (a1 + 1) > 4096) = false → (decide (b0 < 22) = true → ∀ w11, Upd w w11 (setOf [a]) → id < w11.heap.size → w11.heap[a]? = some (.cells #[.slice a0 a0l a0c, .int .i64 (w64 (a1 + 1)), .slice a2 a2l a2c, .slice a3 a3l a3c, .bool false] 93) → R (.tuple #[]) w11) ∧ (decide (b0 < 22) = false → (decide (b0 > 25) = true → ∀ w12, Upd w w12 (setOf [a]) → id < w12.heap.size → w12.heap[a]? = some (.cells #[.slice a0 a0l a0c, .int .i64 (w64 (a1 + 1)), .slice a2 a2l a2c, .slice a3 a3l a3c, .bool false] 93) → R (.tuple #[]) w12) ∧ (decide (b0 > 25) = false → ∀ w13, Upd w w13 (setOf [a]) → id < w13.heap.size → ∃ R1 X', CallsX E.P 103 #[.agg #[.int .i64 b0, .int .i64 b1, .string b2, .slice b3 b3l b3c]] w13 R1 X' ∧ (∀ v w2, R1 v w2 → ∃ x, v = .bool x ∧ ∃ S, Upd w13 w2 S ∧ Away [a, id] S ∧ ((!x) = true → ∀ w14, Upd w2 w14 (setOf [a]) → w14.heap[a]? = some (.cells #[.slice a0 a0l a0c, .int .i64 (w64 (a1 + 1)), .slice a2 a2l a2c, .slice a3 a3l a3c, .bool false] 93) → R (.tuple #[]) w14) ∧ ((!x) = false → ∃ (I : Int → Option Addr → Nat → Nat → Int → Option Addr → Nat → Nat → Option Addr → Nat → Nat → Bool → World → Prop), ∃ (m : Int → Option Addr → Nat → Nat → Int → Option Addr → Nat → Nat → Option Addr → Nat → Nat → Bool → Nat), I 0 a0 a0l a0c (w64 (a1 + 1)) a2 a2l a2c a3 a3l a3c a4 w2 ∧ ∀ (jk : Nat → Value) (x1 : Int) (a1 : Option Addr) (n c1 : Nat) (x2 : Int) (a2 : Option Addr) (n1 c2 : Nat) (a3 : Option Addr) (n2 c3 : Nat) (x3 : Bool) (w21 : World), I x1 a1 n c1 x2 a2 n1 c2 a3 n2 c3 x3 w21 → (decide (x1 < (↑b3l : Int)) = true → (x3 = true → (0 ≤ x1 ∧ x1 < (↑b3l : Int)) ∧ ∃ ad, b3 = some ad ∧ ∃ x4 x5, ∃ x6 a4, ∃ n3 c4, CellsIn w21 (Addr.add ad (Int.toNat x1 * 4)) [.int .i64 x4, .int .i64 x5, .string x6, .slice a4 n3 c4] ∧ (w21.heap[a]? = some (.cells #[.slice a1 n c1, .int .i64 x2, .slice a2 n1 c2, .slice a3 n2 c3, .bool x3] 93) → ∃ R2 X'1, CallsX E.P 105 #[.pointer (some ⟨a, 0, none⟩), .agg #[.int .i64 x4, .int .i64 x5, .string x6, .slice a4 n3 c4], .int .i64 c, .int .i64 d, .int .i64 3] w21 R2 X'1 ∧ (∀ v1 w22, R2 v1 w22 → ∃ (v2 : Value), v1 = v2 ∧ ∃ S1, Upd w21 w22 S1 ∧ Away [id] S1 ∧ ∃ a5 n4, ∃ c5 x7, ∃ a6 n5, ∃ c6 a7, ∃ n6 c7 x8, w22.heap[a]? = some (.cells #[.slice a5 n4 c5, .int .i64 x7, .slice a6 n5 c6, .slice a7 n6 c7, .bool x8] 93) ∧ 5 = 5 ∧ I (w64 (x1 + 1)) a5 n4 c5 x7 a6 n5 c6 a7 n6 c7 x8 w22 ∧ m (w64 (x1 + 1)) a5 n4 c5 x7 a6 n5 c6 a7 n6 c7 x8 < m x1 a1 n c1 x2 a2 n1 c2 a3 n2 c3 x3) ∧ PX X'1 X)) ∧ (x3 = false → w21.heap[a]? = some (.cells #[.slice a1 n c1, .int .i64 x2, .slice a2 n1 c2, .slice a3 n2 c3, .bool x3] 93) → R (.tuple #[]) w21)) ∧ (decide (x1 < (↑b3l : Int)) = false → w21.heap[a]? = some (.cells #[.slice a1 n c1, .int .i64 x2, .slice a2 n1 c2, .slice a3 n2 c3, .bool x3] 93) → R (.tuple #[]) w21))) ∧ PX X' X)))
 ) : CallsX E.P 125 #[.pointer (some ⟨a, 0, none⟩), .agg #[.int .i64 b0, .int .i64 b1, .string b2, .slice b3 b3l b3c], .int .i64 c, .int .i64 d] w R X :=
  calls_vc E_ok ⟨[(5, ⟨[(8, .int .i64)], [(0, 0, .slc), (0, 1, .int .i64), (0, 2, .slc), (0, 3, .slc), (0, 4, .bool)]⟩)], []⟩ (f := 125) Tryz.func125 rfl [(.pointer (some ⟨a, 0, none⟩), .ptr 0 0), (.agg #[.int .i64 b0, .int .i64 b1, .string b2, .slice b3 b3l b3c], .no), (.int .i64 c, .no), (.int .i64 d, .no)] [⟨a, 93, false, [⟨.slice a0 a0l a0c, .no, 0⟩, ⟨.int .i64 a1, .no, 0⟩, ⟨.slice a2 a2l a2c, .no, 0⟩, ⟨.slice a3 a3l a3c, .no, 0⟩, ⟨.bool a4, .no, 0⟩]⟩] (bls1 ha) nod1 (plain_of rfl) (shs_of ⟨rfl, trivial, trivial, trivial, trivial⟩) h (by kernel_rfl)
theorem vc47 {a0 a1 : Int} {a2 : ByteArray} {a3 : Option Addr} {a3l a3c : Nat} {a4 : Option Addr} {a4l a4c : Nat} {w : World} {R : Value → World → Prop} {X : ContX}  (h : 
 ∀ id, w.heap.size ≤ id → (decide ((↑a4l : Int) > 256) = true → ∀ w1, Upd w w1 (setOf []) → id < w1.heap.size → R (.int .i64 0) w1) ∧ (decide ((↑a4l : Int) > 256) = false → ∀ w11, Upd w w11 (setOf []) → id < w11.heap.size → ∃ (I : Int → World → Prop), ∃ (m : Int → Nat), I 0 w11 ∧ ∀ (jk : Nat → Value) (x : Int) (w2 : World), I x w2 → (decide (x < (↑a4l : Int)) = true → (0 ≤ x ∧ x < (↑a4l : Int)) ∧ ∃ ad, a4 = some ad ∧ ∃ x1, CellsIn w2 (Addr.add ad (Int.toNat x * 1)) [.int .i64 x1] ∧ (decide (x1 < 0) = true → R (.int .i64 0) w2) ∧ (decide (x1 < 0) = false → (0 ≤ x ∧ x < (↑a4l : Int)) ∧ ∃ ad1, a4 = some ad1 ∧ ∃ x2, CellsIn w2 (Addr.add ad1 (Int.toNat x * 1)) [.int .i64 x2] ∧ (decide (x2 > 4) = true → R (.int .i64 0) w2) ∧ (decide (x2 > 4) = false → I (w64 (x + 1)) w2 ∧ m (w64 (x + 1)) < m x))) ∧ (decide (x < (↑a4l : Int)) = false → (∀ w12, Upd w2 w12 (setOf []) → ∃ R1, RunsTo E.P (Instr.makeSlice 91 (.int .i64 (↑a4l : Int)) (.int .i64 (↑a4l : Int))) w12 R1 ∧ ∀ v w21, R1 v w21 → ∃ a n c, v = .slice a n c ∧ ∃ S, Upd w12 w21 S ∧ Away [id] S ∧ ∃ R2, RunsTo E.P (Instr.makeSlice 25 (.int .i64 (↑a4l : Int)) (.int .i64 (↑a4l : Int))) w21 R2 ∧ ∀ v1 w22, R2 v1 w22 → ∃ a1_1 n1 c1, v1 = .slice a1_1 n1 c1 ∧ ∃ S1, Upd w21 w22 S1 ∧ Away [id] S1 ∧ ∀ id1, w22.heap.size ≤ id1 → ∀ w13, Upd w22 w13 (setOf []) → id1 < w13.heap.size → w13.heap[id1]? = some (.cells #[.slice a4 a4l a4c, .int .i64 0, .slice a n c, .slice a1_1 n1 c1, .bool true] 93) → ∃ R3 X', CallsX E.P 75 #[.pointer (some ⟨id1, 0, none⟩), .agg #[.int .i64 a0, .int .i64 a1, .string a2, .slice a3 a3l a3c], .int .i64 0, .int .i64 0] w13 R3 X' ∧ (∀ v2 w23, R3 v2 w23 → ∃ x3, v2 = .int .i64 x3 ∧ ∃ S2, Upd w13 w23 S2 ∧ Away [id] S2 ∧ ∃ a2 n2, ∃ c2 x4, ∃ a3 n3, ∃ c3 a4, ∃ n4 c4 x5, w23.heap[id1]? = some (.cells #[.slice a2 n2 c2, .int .i64 x4, .slice a3 n3 c3, .slice a4 n4 c4, .bool x5] 93) ∧ 5 = 5 ∧ ((!x5) = true → R (.int .i64 0) w23) ∧ ((!x5) = false → R (.int .i64 x3) w23)) ∧ PX X' X) ∧ ∀ w14, Upd w2 w14 (setOf []) → ∃ R4, RunsTo E.P (Instr.makeSlice 25 (.int .i64 (↑a4l : Int)) (.int .i64 (↑a4l : Int))) w14 R4 ∧ ∀ v3 w25, R4 v3 w25 → ∃ a5 n5 c5, v3 = .slice a5 n5 c5 ∧ ∃ S3, Upd w14 w25 S3 ∧ Away [id] S3 ∧ ∃ R5, RunsTo E.P (Instr.makeSlice 91 (.int .i64 (↑a4l : Int)) (.int .i64 (↑a4l : Int))) w25 R5 ∧ ∀ v4 w26, R5 v4 w26 → ∃ a6 n6 c6, v4 = .slice a6 n6 c6 ∧ ∃ S4, Upd w25 w26 S4 ∧ Away [id] S4 ∧ ∀ id2, w26.heap.size ≤ id2 → ∀ w15, Upd w26 w15 (setOf []) → id2 < w15.heap.size → w15.heap[id2]? = some (.cells #[.slice a4 a4l a4c, .int .i64 0, .slice a6 n6 c6, .slice a5 n5 c5, .bool true] 93) → ∃ R6 X'1, CallsX E.P 75 #[.pointer (some ⟨id2, 0, none⟩), .agg #[.int .i64 a0, .int .i64 a1, .string a2, .slice a3 a3l a3c], .int .i64 0, .int .i64 0] w15 R6 X'1 ∧ (∀ v5 w27, R6 v5 w27 → ∃ x6, v5 = .int .i64 x6 ∧ ∃ S5, Upd w15 w27 S5 ∧ Away [id] S5 ∧ ∃ a7 n7, ∃ c7 x7, ∃ a8 n8, ∃ c8 a9, ∃ n9 c9 x8, w27.heap[id2]? = some (.cells #[.slice a7 n7 c7, .int .i64 x7, .slice a8 n8 c8, .slice a9 n9 c9, .bool x8] 93) ∧ 5 = 5 ∧ ((!x8) = true → R (.int .i64 0) w27) ∧ ((!x8) = false → R (.int .i64 x6) w27)) ∧ PX X'1 X))
 ) : CallsX E.P 47 #[.agg #[.int .i64 a0, .int .i64 a1, .string a2, .slice a3 a3l a3c, .slice a4 a4l a4c]] w R X :=
  calls_vc E_ok ⟨[(4, ⟨[(3, .int .i64)], []⟩)], []⟩ (f := 47) Tryz.func47 rfl [(.agg #[.int .i64 a0, .int .i64 a1, .string a2, .slice a3 a3l a3c, .slice a4 a4l a4c], .no)] [] (bls0) nod0 (plain_of rfl) (shs_of ⟨trivial, trivial⟩) h (by kernel_rfl)
end
section
open Go Go.Vx Go.Proofs
variable {b g h : Nat} {zs : List Int} {C : Option Addr} {cc : Nat}
def KC (b g h : Nat) (zs : List Int) (C : Option Addr) (cc : Nat) (kf : Int → Int → WS → Nd → Int × WS) (n : Nd) : Prop :=
  ∀ {w : World} {A : Option Addr} {l c : Nat} (a q : Int) (st : WS), Wst w b g h zs C cc st → NdsR w (Fw b g h) n.kids A l c →
    CallsX E.P 75 #[.pointer (some ⟨b, 0, none⟩), ndA n A l c, .int .i64 a, .int .i64 q] w (WR b g h zs C cc w (.int .i64 (kf a q st n).1) (kf a q st n).2) never
theorem must_c {kf : Int → Int → WS → Nd → Int × WS} {n : Nd} (hk : KC b g h zs C cc kf n) {w : World} {A : Option Addr} {l c : Nat} (a q k : Int) (st : WS) (hw : Wst w b g h zs C cc st) (hr : NdsR w (Fw b g h) n.kids A l c) :
    CallsX E.P 105 #[.pointer (some ⟨b, 0, none⟩), ndA n A l c, .int .i64 a, .int .i64 q, .int .i64 k] w (WR b g h zs C cc w (.tuple #[]) (mustW (kf a q st n) k)) never := by
  obtain ⟨hb, hg, hh⟩ := hw.lt
  refine vc105 hw.1 ?_
  intro id hid w1 hE hi _
  have hs := hE.size
  refine callW (hk a q st (hw.ext hE) (hr.ext hE)) (away_s3 hb hg hh (by simp; omega)) fun w2 hw2 hU2 => ⟨fun hx w3 hU3 h3 => ?_, fun hx _ => ?_⟩
  · simp only [mustW, hx, if_true]
    exact ⟨rfl, Wst.put (st := (kf a q st n).2) hw2.2 hU3 h3 rfl rfl, ((ext_s3 hE).t3 hU2).t3 (upd_s3 hU3)⟩
  · simp only [mustW, hx, Bool.false_eq_true, if_false]
    exact ⟨rfl, hw2, (ext_s3 hE).t3 hU2⟩
theorem all_c {kf : Int → Int → WS → Nd → Int × WS} {n : Nd} (hk : ∀ j (_ : j < n.kids.length), KC b g h zs C cc kf n.kids[j]) {w : World} {A : Option Addr} {l c : Nat} (a q k r : Int) (st : WS) (hw : Wst w b g h zs C cc st) (hr : NdsR w (Fw b g h) n.kids A l c) :
    CallsX E.P 104 #[.pointer (some ⟨b, 0, none⟩), ndA n A l c, .int .i64 a, .int .i64 q, .int .i64 k, .int .i64 r] w (WR b g h zs C cc w (.int .i64 r) (allW (kf a q) k st n.kids)) never := by
  obtain ⟨hb, hg, hh⟩ := hw.lt
  have hl := hr.len
  have hlt := hr.lt
  refine vc104 hw.1 ?_
  intro id hid w1 hE hi
  refine ⟨fun x a1 n1 c1 x1 a2 n2 c2 a3 n3 c3 x2 w2 => ∃ (j : Nat) (s : WS), x = j ∧ j ≤ n.kids.length ∧ #[Value.slice a1 n1 c1, .int .i64 x1, .slice a2 n2 c2, .slice a3 n3 c3, .bool x2] = bcells zs C cc g h s ∧ allW (kf a q) k s (n.kids.drop j) = allW (kf a q) k st n.kids ∧
    MemW w2 b g h zs C cc s.ks s.ts ∧ Upd w w2 (S3 b g h), fun x _ _ _ _ _ _ _ _ _ _ _ => ((l : Int) - x).toNat, ⟨0, st, rfl, Nat.zero_le _, rfl, by simp, (hw.ext hE).2, ext_s3 hE⟩, ?_⟩
  rintro _ _ a1 n1 c1 x1 a2 n2 c2 a3 n3 c3 x2 w2 ⟨j, s, rfl, hj, hbc, hall, hw2, hU2⟩
  have hs2 := hU2.size
  rw [hbc]
  refine ⟨fun hlt2 => ?_, fun hge hh2 => ?_⟩
  · have hjl : j < n.kids.length := by simp at hlt2; omega
    refine hr.idx hjl fun ad ha => (hr.s3 hU2).cell ha hjl fun A1 l1 c4 q1 hh2 => ?_
    rw [drop_cons hjl, allW] at hall
    refine callU (must_c (hk j hjl) a q k s ⟨hh2, hw2⟩ q1) (away_s3 hb hg hh (by simp; omega)) fun w3 hw3 hU3 => ?_
    rw [w64_succ (by omega)]
    refine ⟨⟨j + 1, _, rfl, hjl, rfl, hall, hw3.2, hU2.t3 hU3⟩, mea_succ (by omega)⟩
  · have hje : j = n.kids.length := by simp at hge; omega
    subst hje
    rw [List.drop_length, allW] at hall
    rw [← hall]
    exact ⟨rfl, ⟨hh2, hw2⟩, hU2⟩
theorem set_c {kf : Int → Int → WS → Nd → Int × WS} {n : Nd} (hk : ∀ j (_ : j < n.kids.length), KC b g h zs C cc kf n.kids[j]) {w : World} {A : Option Addr} {l c : Nat} (a q : Int) (st : WS) (hw : Wst w b g h zs C cc st) (hr : NdsR w (Fw b g h) n.kids A l c) :
    CallsX E.P 125 #[.pointer (some ⟨b, 0, none⟩), ndA n A l c, .int .i64 a, .int .i64 q] w (WR b g h zs C cc w (.tuple #[]) (setW (kf a q) st n)) never := by
  obtain ⟨hb, hg, hh⟩ := hw.lt
  have hf : ∀ {w1 : World}, Upd w w1 (S3 b g h) → CallsX E.P 103 #[ndA n A l c] w1 (IsV (.bool (form n)) w1) never := fun hE => form_c n (hr.s3 hE)
  obtain ⟨k, v, s, kids⟩ := n
  have hfe : form (.mk k v s kids) = formB k v s kids.length := rfl
  rw [hfe] at hf
  dsimp only [ndA, Nd.k, Nd.n, Nd.s, Nd.kids] at *
  obtain rfl := hr.len
  have hlt := hr.lt
  refine vc125 hw.1 ?_
  intro id hid
  rw [setW]
  have bad0 : ∀ {w1 w2 : World}, MemW w1 b g h zs C cc st.ks st.ts → Upd w w1 (S3 b g h) → Upd w1 w2 (setOf [b]) → w2.heap[b]? = some (.cells (bcells zs C cc g h st.inc.bad) 93 (0, 0)) → WR b g h zs C cc w (.tuple #[]) st.inc.bad (.tuple #[]) w2 :=
    fun h1 h2 h3 h4 => ⟨rfl, Wst.put (st := st) h1 h3 h4 rfl rfl, h2.t3 (upd_s3 h3)⟩
  refine ⟨fun h1 w1 hU _ hh1 => ?_, fun h1 => ⟨fun h2 w1 hU _ hh1 => ?_, fun h2 => ⟨fun h3 w1 hU _ hh1 => ?_, fun h3 w1 hU hi => ?_⟩⟩⟩
  · simp only [h1, if_true]; exact bad0 hw.2 (ext_s3 (Upd.refl _ _)) hU hh1
  · simp only [h1, h2, Bool.false_eq_true, if_false, if_true]; exact bad0 hw.2 (ext_s3 (Upd.refl _ _)) hU hh1
  · simp only [h1, h2, h3, Bool.false_eq_true, if_false, if_true]; exact bad0 hw.2 (ext_s3 (Upd.refl _ _)) hU hh1
  have hM1 : MemW w1 b g h zs C cc st.ks st.ts := hw.2.upd hU upd_b
  refine callB (hf (upd_s3 hU)) fun w2 hE2 => ⟨fun h4 w3 hU3 hh3 => ?_, fun h4 => ?_⟩
  · simp only [h1, h2, h3, h4, Bool.false_eq_true, if_false, if_true]
    exact bad0 (hM1.upd hE2 (fun _ h => h.elim)) ((upd_s3 hU).t3 (ext_s3 hE2)) hU3 hh3
  rw [if_neg (by rw [h1]; exact Bool.false_ne_true), if_neg (by rw [h2]; exact Bool.false_ne_true), if_neg (by rw [h3]; exact Bool.false_ne_true), if_neg (by rw [h4]; exact Bool.false_ne_true)]
  have hU02 : Upd w w2 (S3 b g h) := (upd_s3 hU).t3 (ext_s3 hE2)
  refine ⟨fun x a1 n1 c1 x1 a2 n2 c2 a3 n3 c3 x2 w3 => ∃ (j : Nat) (s : WS), x = j ∧ j ≤ kids.length ∧ (a1 = C ∧ n1 = zs.length ∧ c1 = cc ∧ x1 = s.parts ∧ a2 = some ⟨g, 0, none⟩ ∧ n2 = zs.length ∧ c2 = zs.length ∧ a3 = some ⟨h, 0, none⟩ ∧ n3 = zs.length ∧ c3 = zs.length ∧ x2 = s.ok) ∧ setL (kf a q) s (kids.drop j) = setL (kf a q) st.inc kids ∧
    MemW w3 b g h zs C cc s.ks s.ts ∧ Upd w w3 (S3 b g h), fun x _ _ _ _ _ _ _ _ _ _ _ => ((kids.length : Int) - x).toNat, ⟨0, st.inc, rfl, Nat.zero_le _, ⟨rfl, rfl, rfl, rfl, rfl, rfl, rfl, rfl, rfl, rfl, rfl⟩, by simp, hM1.upd hE2 (fun _ h => h.elim), hU02⟩, ?_⟩
  rintro _ _ _ _ _ _ _ _ _ _ _ _ _ w3 ⟨j, s, rfl, hj, ⟨rfl, rfl, rfl, rfl, rfl, rfl, rfl, rfl, rfl, rfl, rfl⟩, hall, hw3, hU3⟩
  have hs3 := hU3.size
  refine ⟨fun hlt2 => ⟨fun hok => ?_, fun hok hh3 => ?_⟩, fun hge hh3 => ?_⟩
  · have hjl : j < kids.length := by simp at hlt2; omega
    refine hr.idx hjl fun ad ha => (hr.s3 hU3).cell ha hjl fun A1 l1 c4 q1 hh3 => ?_
    rw [drop_cons hjl, setL, hok, if_pos rfl] at hall
    refine callU (must_c (hk j hjl) a q 3 s ⟨hh3, hw3⟩ q1) (away_s3 hb hg hh (by simp; omega)) fun w4 hw4 hU4 => ?_
    rw [w64_succ (by omega)]
    exact ⟨⟨j + 1, _, rfl, hjl, ⟨rfl, rfl, rfl, rfl, rfl, rfl, rfl, rfl, rfl, rfl, rfl⟩, hall, hw4.2, hU3.t3 hU4⟩, mea_succ hjl⟩
  · have hjl : j < kids.length := by simp at hlt2; omega
    rw [drop_cons hjl, setL, hok, if_neg Bool.false_ne_true] at hall
    rw [← hall]
    exact ⟨rfl, ⟨hh3, hw3⟩, hU3⟩
  · have hje : j = kids.length := by simp at hge; omega
    subst hje
    rw [List.drop_length, setL] at hall
    rw [← hall]
    exact ⟨rfl, ⟨hh3, hw3⟩, hU3⟩
def SC (b g h : Nat) (zs : List Int) (C : Option Addr) (cc : Nat) (kf : Int → Int → WS → Nd → Int × WS) (n : Nd) : Prop :=
  ∀ {w : World} {A : Option Addr} {l c : Nat} (a q : Int) (st : WS), Wst w b g h zs C cc st → NdsR w (Fw b g h) n.kids A l c →
    CallsX E.P 125 #[.pointer (some ⟨b, 0, none⟩), ndA n A l c, .int .i64 a, .int .i64 q] w (WR b g h zs C cc w (.tuple #[]) (setW (kf a q) st n)) never
theorem quant_c {kf : Int → Int → WS → Nd → Int × WS} {k v : Int} {s : ByteArray} {kids : List Nd} (h2 : 2 ≤ kids.length) (hs0 : SC b g h zs C cc kf (kids.getD 0 nd0)) (hk1 : KC b g h zs C cc kf (kids.getD 1 nd0))
    {w : World} {A : Option Addr} {l c : Nat} (a q : Int) (st : WS) (hw : Wst w b g h zs C cc st) (hr : NdsR w (Fw b g h) kids A l c) :
    CallsX E.P 106 #[.pointer (some ⟨b, 0, none⟩), ndA (.mk k v s kids) A l c, .int .i64 a, .int .i64 q] w (WR b g h zs C cc w (.int .i64 (quantW kf st v (kids.getD 0 nd0) (kids.getD 1 nd0) a q).1) (quantW kf st v (kids.getD 0 nd0) (kids.getD 1 nd0) a q).2) never := by
  obtain ⟨hb, hg, hh⟩ := hw.lt
  dsimp only [ndA, Nd.k, Nd.n, Nd.s, Nd.kids]
  refine vc106 hw.1 ?_
  intro id hid
  unfold quantW
  refine ⟨fun h1 w1 hU _ hh1 => ?_, fun h1 => ?_⟩
  · rw [if_pos h1]
    exact ⟨rfl, Wst.put (st := st) hw.2 hU hh1 rfl rfl, upd_s3 hU⟩
  rw [if_neg (by rw [h1]; exact Bool.false_ne_true)]
  refine hr.idxL 0 rfl (by omega) fun ad ha w1 hE1 hi1 => (hr.ext hE1).cellL ha 0 rfl (by omega) (d := nd0) fun A0 l0 c0 q0 hh1 => ?_
  refine callU (hs0 a (w64 (q + 1)) st ⟨hh1, (hw.ext hE1).2⟩ q0) (away_s3 hb hg hh (by simp; omega)) fun w2 hw2 hU2 => ?_
  generalize setW (kf a (w64 (q + 1))) st (kids.getD 0 nd0) = s1 at hw2 ⊢
  have hU02 : Upd w w2 (S3 b g h) := (ext_s3 hE1).t3 hU2
  have hs2 := hU02.size
  have fin : ∀ {w3 w4 : World} {A1 : Option Addr} {l1 c1 : Nat}, Ext w2 w3 → w3.heap[b]? = some (.cells (bcells zs C cc g h s1) 93 (0, 0)) → NdsR w3 (Fw b g h) (kids.getD 1 nd0).kids A1 l1 c1 →
      CallsX E.P 105 #[.pointer (some ⟨b, 0, none⟩), ndA (kids.getD 1 nd0) A1 l1 c1, .int .i64 (w64 (a + 1)), .int .i64 (w64 (q + 1)), .int .i64 (bodyI v)] w3 (WR b g h zs C cc w3 (.tuple #[]) (mustW (kf (w64 (a + 1)) (w64 (q + 1)) s1 (kids.getD 1 nd0)) (bodyI v))) never :=
    fun hE hh3 q1 => must_c hk1 _ _ _ s1 ⟨hh3, (hw2.ext hE).2⟩ q1
  generalize mustW (kf (w64 (a + 1)) (w64 (q + 1)) s1 (kids.getD 1 nd0)) (bodyI v) = s2 at fin ⊢
  refine ⟨fun a1 n1 c1 x1 a2 n2 c2 a3 n3 c3 x2 w3 => (a1 = C ∧ n1 = zs.length ∧ c1 = cc ∧ x1 = s2.parts ∧ a2 = some ⟨g, 0, none⟩ ∧ n2 = zs.length ∧ c2 = zs.length ∧ a3 = some ⟨h, 0, none⟩ ∧ n3 = zs.length ∧ c3 = zs.length ∧ x2 = s2.ok) ∧
    MemW w3 b g h zs C cc s2.ks s2.ts ∧ Upd w w3 (S3 b g h), hr.idxL 1 rfl (by omega) fun ad1 ha1 => ⟨fun w3 hE3 => ?_, fun w3 hE3 => ?_⟩, ?_⟩
  · refine ((hr.s3 hU02).ext hE3).cellL ha1 1 rfl (by omega) (d := nd0) fun A1 l1 c1 q1 => ?_
    refine callI (body_c v) fun w4 hE4 hh4 => ?_
    refine callU (fin (w4 := w4) (hE3.trans hE4) hh4 (q1.ext hE4)) (away_s3 hb hg hh (by simp; omega)) fun w5 hw5 hU5 => ⟨⟨rfl, rfl, rfl, rfl, rfl, rfl, rfl, rfl, rfl, rfl, rfl⟩, hw5.2, (hU02.t3 (ext_s3 (hE3.trans hE4))).t3 hU5⟩
  · refine callI (body_c v) fun w4 hE4 => ?_
    refine ((hr.s3 hU02).ext (hE3.trans hE4)).cellL ha1 1 rfl (by omega) (d := nd0) fun A1 l1 c1 q1 hh4 => ?_
    refine callU (fin (w4 := w4) (hE3.trans hE4) hh4 q1) (away_s3 hb hg hh (by simp; omega)) fun w5 hw5 hU5 => ⟨⟨rfl, rfl, rfl, rfl, rfl, rfl, rfl, rfl, rfl, rfl, rfl⟩, hw5.2, (hU02.t3 (ext_s3 (hE3.trans hE4))).t3 hU5⟩
  · rintro _ _ _ _ _ _ _ _ _ _ _ _ w3 ⟨⟨rfl, rfl, rfl, rfl, rfl, rfl, rfl, rfl, rfl, rfl, rfl⟩, hM3, hU3⟩
    refine callI (whole_c v) fun w4 hE4 hh4 => ⟨rfl, ⟨hh4, hM3.upd hE4 (fun _ h => h.elim)⟩, hU3.t3 (ext_s3 hE4)⟩
end
section
open Go Go.Vx Go.Proofs
theorem sl91 : SlT E.P 91 22 1 24 := SlT.of (by kernel_rfl) (by omega) (by omega)
variable {b g h : Nat} {zs : List Int} {C : Option Addr} {cc : Nat}
theorem getD_get {α : Type} {l : List α} {j : Nat} {d : α} (hj : j < l.length) : l.getD j d = l[j] := by rw [List.getD_eq_getElem?_getD, List.getElem?_eq_getElem hj]; rfl
theorem cell_c {kf : Int → Int → WS → Nd → Int × WS} {k v : Int} {s : ByteArray} {kids : List Nd} (h2 : 1 ≤ kids.length) (hk0 : KC b g h zs C cc kf (kids.getD 0 nd0))
    {w : World} {A : Option Addr} {l c : Nat} (a q : Int) (st : WS) (hw : Wst w b g h zs C cc st) (hr : NdsR w (Fw b g h) kids A l c) :
    CallsX E.P 107 #[.pointer (some ⟨b, 0, none⟩), ndA (.mk k v s kids) A l c, .int .i64 a, .int .i64 q] w (WR b g h zs C cc w (.int .i64 (cellW zs (kf a q) st v (kids.getD 0 nd0) a).1) (cellW zs (kf a q) st v (kids.getD 0 nd0) a).2) never := by
  obtain ⟨hb, hg, hh⟩ := hw.lt
  dsimp only [ndA, Nd.k, Nd.n, Nd.s, Nd.kids]
  refine vc107 hw.1 ?_
  intro id hid
  unfold cellW
  have bad0 : ∀ {w1 w2 : World} {st1 : WS} {t1 : Int}, MemW w1 b g h zs C cc st1.ks st1.ts → Upd w w1 (S3 b g h) → Upd w1 w2 (setOf [b]) → w2.heap[b]? = some (.cells (bcells zs C cc g h st1.bad) 93 (0, 0)) → WR b g h zs C cc w (.int .i64 0) st1.bad (.int .i64 0) w2 :=
    fun {w1 w2 st1 t1} h1 h2 h3 h4 => ⟨rfl, Wst.put (st := st1) h1 h3 h4 rfl rfl, h2.t3 (upd_s3 h3)⟩
  refine ⟨fun h1 w1 hU _ hh1 => ?_, fun h1 => ⟨fun h3 w1 hU _ hh1 => ?_, fun h3 => ?_⟩⟩
  · rw [if_pos h1]; exact bad0 (t1 := 0) hw.2 (ext_s3 (Upd.refl _ _)) hU hh1
  · rw [if_neg (by rw [h1]; exact Bool.false_ne_true), if_pos h3]; exact bad0 (t1 := 0) hw.2 (ext_s3 (Upd.refl _ _)) hU hh1
  rw [if_neg (by rw [h1]; exact Bool.false_ne_true), if_neg (by rw [h3]; exact Bool.false_ne_true)]
  obtain ⟨j, rfl⟩ : ∃ j : Nat, v = (j : Int) := ⟨v.toNat, by simp at h1; omega⟩
  have hj : j < zs.length := by simp at h3; omega
  have hjt : ((j : Int)).toNat = j := by omega
  have hz : ∀ {w1 : World}, Upd w w1 (S3 b g h) → IntsR w1 (Fw b g h) zs C zs.length cc := fun hU => RowIn.upd hw.2.hc hU (fun _ h => h)
  rw [hjt, getD_get hj]
  refine (hz (ext_s3 (Upd.refl w _))).idx hj fun ad ha w1 hE1 hi1 => (hz (ext_s3 hE1)).cell ha hj ⟨fun h4 w2 hU2 hh2 => ?_, fun h4 => ?_⟩
  · rw [if_pos h4]; exact bad0 (t1 := 0) (hw.2.upd hE1 (fun _ h => h.elim)) (ext_s3 hE1) hU2 hh2
  rw [if_neg (by rw [h4]; exact Bool.false_ne_true)]
  refine hr.idxL 0 rfl (by omega) fun ad1 ha1 => (hr.ext hE1).cellL ha1 0 rfl (by omega) (d := nd0) fun A0 l0 c0 q0 hh1 => ?_
  refine callW (hk0 a q st ⟨hh1, (hw.ext hE1).2⟩ q0) (away_s3 hb hg hh (by simp; omega)) fun w2 hw2 hU2 => ?_
  have hU02 : Upd w w2 (S3 b g h) := (ext_s3 hE1).t3 hU2
  have hs2 := hU02.size
  have hM2 := hw2.2
  generalize hx0 : kids.getD 0 nd0 = x0 at hw2 hM2 ⊢
  generalize kf a q st x0 = r at hw2 hM2 ⊢
  unfold cellTwo
  rw [hjt]
  refine ⟨fun h5 hh2 => ?_, fun h5 => ?_⟩
  · rw [if_pos h5]; exact ⟨rfl, hw2, hU02⟩
  rw [if_neg (by rw [h5]; exact Bool.false_ne_true)]
  have hok : r.2.ok = true := by simpa using h5
  have kz : ∀ {w3 : World} {ad2 : Addr}, Ext w2 w3 → A = some ad2 → ∀ {K : Int → Int → ByteArray → Option Addr → Nat → Nat → Prop}, (∀ A1 l1 c1, NdsR w3 (Fw b g h) x0.kids A1 l1 c1 → K x0.k x0.n x0.s A1 l1 c1) →
      ∃ x2 x3, ∃ x4 a, ∃ n c, CellsIn w3 (ad2.add 0) [.int .i64 x2, .int .i64 x3, .string x4, .slice a n c] ∧ K x2 x3 x4 a n c := fun hE ha2 K hk => by
    have := ((hr.s3 hU02).ext hE).cellL ha2 0 (off := 0) rfl (by omega) (d := nd0) (K := K) (by rw [hx0]; exact hk)
    exact this
  have ki : ∀ {K : Addr → Prop}, (∀ ad, A = some ad → K ad) → ((0 : Int) ≤ 0 ∧ (0 : Int) < (l : Int)) ∧ ∃ ad, A = some ad ∧ K ad := fun hk => hr.idxL 0 rfl (by omega) hk
  have zi : ∀ {K : Addr → Prop}, (∀ ad, C = some ad → K ad) → ((0 : Int) ≤ (j : Int) ∧ (j : Int) < (zs.length : Int)) ∧ ∃ ad, C = some ad ∧ K ad := fun hk => hw.2.hc.idx hj hk
  have zc : ∀ {w3 : World} {ad3 : Addr}, Ext w2 w3 → C = some ad3 → ∀ {K : Int → Prop}, K zs[j] → ∃ x, CellsIn w3 (ad3.add (Int.toNat (j : Int) * 1)) [.int .i64 x] ∧ K x := fun hE ha3 K hk => (hz (hU02.t3 (ext_s3 hE))).cell ha3 hj hk
  refine ⟨fun y w3 => y = decide (hangs a x0 > zs[j]) ∧ Ext w2 w3, ki fun ad2 ha2 => zi fun ad3 ha3 => ⟨fun w3 hE3 => kz hE3 ha2 fun A1 l1 c1 q1 => ⟨?_, zc hE3 ha3 ?_⟩, fun w3 hE3 => zc hE3 ha3 (kz hE3 ha2 fun A1 l1 c1 q1 => ?_)⟩, ?_⟩
  · exact callI (Hangs_c _ x0 (Nat.le_refl _) a q1) fun w4 hE4 => zc (hE3.trans hE4) ha3 ⟨rfl, hE3.trans hE4⟩
  · exact callI (Hangs_c _ x0 (Nat.le_refl _) a q1) fun w4 hE4 => ⟨rfl, hE3.trans hE4⟩
  · exact callI (Hangs_c _ x0 (Nat.le_refl _) a q1) fun w4 hE4 => ⟨rfl, hE3.trans hE4⟩
  rintro _ y w3 ⟨rfl, hE3⟩
  refine ⟨fun h6 w4 hU4 hh4 => ?_, fun h6 => ?_⟩
  · rw [if_pos (by simpa using h6)]
    exact bad0 (t1 := 0) (hM2.upd hE3 (fun _ h => h.elim)) (hU02.t3 (ext_s3 hE3)) hU4 hh4
  rw [if_neg (by intro h; rw [h] at h6; cases h6)]
  generalize hR : cellThr r (j : Int) a x0 (r.2.ks.getD j none) = RES
  have hb2 : ∀ {w4 w5 : World}, Ext w2 w4 → Upd w4 w5 (setOf [b]) → w5.heap[b]? = some (.cells (bcells zs C cc g h r.2.bad) 93 (0, 0)) → RES = (0, r.2.bad) → WR b g h zs C cc w (.int .i64 RES.1) RES.2 (.int .i64 0) w5 := fun hE hU hh4 he => by
    rw [he]; exact bad0 (t1 := 0) (hM2.upd hE (fun _ h => h.elim)) (hU02.t3 (ext_s3 hE)) hU hh4
  refine ⟨fun y w4 => y = r.2.ok ∧ RES = cellOut r (j : Int) a x0 ∧ Ext w2 w4, ⟨by omega, _, rfl, fun w4 hE4 => ?_⟩, ?_⟩
  · have hE24 := hE3.trans hE4
    obtain ⟨v, hcell, he⟩ := (hM2.upd hE24 (fun _ h => h.elim)).ent hj
    cases ho : r.2.ks.getD j none with
    | none =>
      rw [ho] at he hR
      have he : v = .slice none 0 0 := he
      subst he
      exact ⟨none, 0, 0, hcell, fun h => by simp at h, fun _ => ⟨rfl, hR.symm, hE24⟩⟩
    | some x =>
      rw [ho] at he hR
      obtain ⟨A', rfl, hA'⟩ := he
      refine ⟨A', 1, 1, hcell, fun _ => ⟨by omega, _, rfl, fun w5 hE5 => ?_⟩, fun h => by simp at h⟩
      have hE25 := hE24.trans hE5
      obtain ⟨v2, hcell2, he2⟩ := (hM2.upd hE25 (fun _ h => h.elim)).ent hj
      rw [ho] at he2
      obtain ⟨A2, rfl, hA2⟩ := he2
      refine ⟨A2, 1, 1, hcell2, hA2.idxL 0 rfl (by simp) fun ad11 ha11 => hA2.cellL ha11 0 rfl (by simp) (d := x) fun B1 m1 d1 p1 => ki fun ad12 ha12 => kz hE25 ha12 fun A1 l1 c1 q1 => ?_⟩
      refine callB (same_c _ x x0 (Nat.le_refl _) p1 q1) fun w6 hE6 => ki fun ad13 ha13 => kz (hE25.trans hE6) ha13 fun A3 l3 c3 q3 => ?_
      refine callB (Rounds_c _ x0 (Nat.le_refl _) q3) fun w7 hE7 => ⟨fun h7 w8 hU8 hh8 => ?_, fun h7 => ⟨fun h8 => ⟨by omega, _, rfl, fun w8 hE8 => ?_⟩, fun h8 w8 hE8 => ?_⟩⟩
      · exact hb2 ((hE25.trans hE6).trans hE7) hU8 hh8 (by rw [← hR, cellThr]; simp only [h7, if_true])
      · have hE28 := ((hE25.trans hE6).trans hE7).trans hE8
        refine ⟨_, (hM2.upd hE28 (fun _ h => h.elim)).at' hj, fun h9 w9 hU9 hh9 => ?_, fun h9 => ⟨rfl, ?_, hE28⟩⟩
        · exact hb2 hE28 hU9 hh9 (by rw [← hR, cellThr, hjt]; simp only [h7, h8, h9, Bool.false_eq_true, if_false, if_true])
        · rw [← hR, cellThr, hjt]; simp only [h7, h8, h9, Bool.false_eq_true, if_false, if_true]
      · exact ⟨rfl, by rw [← hR, cellThr]; simp only [h7, h8, Bool.false_eq_true, if_false], ((hE25.trans hE6).trans hE7).trans hE8⟩
  rintro _ y w4 ⟨rfl, hres, hE4⟩
  rw [hres]
  refine ki fun ad15 ha15 w5 hE5 => kz (hE4.trans hE5) ha15 fun A1 l1 c1 q1 id1 hid1 => ⟨by omega, _, rfl, fun w6 hE6 hi6 hcell => ?_⟩
  have hE26 := (hE4.trans hE5).trans hE6
  have hs5 := (hE4.trans hE5).size
  have hs6 := hE6.size
  have hM6 := hM2.upd hE26 (fun _ h => h.elim)
  have hn : Int.toNat (j : Int) * 1 = j := by omega
  rw [add_plain, Nat.mul_one, Nat.zero_add]
  have hbox : NdsR w6 (Fw b g h) [x0] (some ⟨id1, 0, none⟩) 1 1 := (nds_one (q1.ext hE6) hcell (fun h => nomatch h)).mono fun x hx => by
    rcases hx with rfl | hx
    · intro hS; rcases hS with e | e | e <;> omega
    · exact hx
  refine ⟨_, hM6.setK sl91 hj hbox, ?_⟩
  rintro w7 ⟨hM7, hU7, hs7⟩
  refine ⟨_, hU7, away_of fun i hi hS => ?_, by omega, _, rfl, fun w8 hE8 hcell8 => ?_⟩
  · simp only [List.mem_cons, List.not_mem_nil, or_false] at hi
    have := hM2.bg
    rcases hi with rfl | rfl | rfl <;> omega
  rw [add_plain, Nat.zero_add]
  have hs8 := hE8.size
  refine ⟨_, (hM7.upd hE8 (fun _ h => h.elim)).setT sl25 hj a, ?_⟩
  rintro w9 ⟨hM9, hU9, hs9⟩
  refine ⟨_, hU9, away_of fun i hi hS => ?_, fun hh9 _ => ?_⟩
  · simp only [List.mem_cons, List.not_mem_nil, or_false] at hi
    have := hM2.bh
    rcases hi with rfl | rfl | rfl <;> omega
  have hU29 : Upd w2 w9 (S3 b g h) := (((ext_s3 hE26).trans' hU7 (fun x hx => .inr (.inl hx))).t3 (ext_s3 hE8)).trans' hU9 (fun x hx => .inr (.inr hx))
  unfold cellOut
  rw [hjt]
  exact ⟨rfl, ⟨hh9, hM9⟩, hU02.t3 hU29⟩
end
section
open Go Go.Vx Go.Proofs
variable {b g h : Nat} {zs : List Int} {C : Option Addr} {cc : Nat}
theorem mustK_c {w : World} {st : WS} {t : Bool} (hw : Lst w b g h zs C cc st) :
    CallsX E.P 109 #[.pointer (some ⟨b, 0, none⟩), .bool t] w (LU b g h zs C cc w (if t then some st else none)) (LX b g h w (if t then some st else none)) := by
  refine vc109 hw.1 ⟨fun ht => ⟨by simp at ht; simp [ht], rfl, Upd.refl _ _⟩, fun ht hh => ⟨st, by simp at ht; simp [ht], rfl, ⟨hh, hw.2⟩, Upd.refl _ _⟩⟩
theorem callM {α : Type} {w0 w : World} {ids : List Nat} {st : WS} {t : Bool} {rc : Option α} (hw : Lst w b g h zs C cc st) (h0 : Upd w0 w (S3 b g h)) (haw : Away ids (S3 b g h)) (hn : t = false → rc = none)
    {K : Option Addr → Nat → Nat → Option Nat → Option Nat → Int → World → Prop}
    (k : ∀ w2, t = true → LMem w2 b g h zs C cc st.ks st.ts → Upd w w2 (S3 b g h) → K C zs.length cc (some g) (some h) st.parts w2) :
    ∃ (R : Value → World → Prop) (X' : ContX), CallsX E.P 109 #[.pointer (some ⟨b, 0, none⟩), .bool t] w R X' ∧ (∀ v w2, R v w2 → ∃ y : Value, v = y ∧ ∃ S, Upd w w2 S ∧ Away ids S ∧ ∃ a1 n c1 r1 r2, ∃ x, w2.heap[b]? = some (Obj.cells #[.slice a1 n c1, .map r1, .map r2, .int .i64 x] 103) ∧ 4 = 4 ∧ K a1 n c1 r1 r2 x w2) ∧ ∀ ch w2, X' ch w2 → LX b g h w0 rc ch w2 := by
  refine callLU (mustK_c hw) h0 haw (fun e => hn ?_) (fun s2 w2 he hw2 hU2 => ?_)
  · cases t with
    | false => rfl
    | true => cases e
  · cases t with
    | false => cases he
    | true => cases he; exact k w2 rfl hw2.2 hU2
def KL (b g h : Nat) (zs : List Int) (C : Option Addr) (cc : Nat) (kf : Int → Int → WS → Nd → Option (Int × WS)) (n : Nd) : Prop :=
  ∀ {w : World} {A : Option Addr} {l c : Nat} (a q : Int) (st : WS), Lst w b g h zs C cc st → NdsR w (Fw b g h) n.kids A l c →
    CallsX E.P 79 #[.pointer (some ⟨b, 0, none⟩), ndA n A l c, .int .i64 a, .int .i64 q] w (LR b g h zs C cc w (kf a q st n)) (LX b g h w (kf a q st n))
theorem ofK_c {kf : Int → Int → WS → Nd → Option (Int × WS)} {n : Nd} (hk : KL b g h zs C cc kf n) {w : World} {A : Option Addr} {l c : Nat} (a q x : Int) (st : WS) (hw : Lst w b g h zs C cc st) (hr : NdsR w (Fw b g h) n.kids A l c) :
    CallsX E.P 137 #[.pointer (some ⟨b, 0, none⟩), ndA n A l c, .int .i64 x, .int .i64 a, .int .i64 q] w (LU b g h zs C cc w (ofL (kf a q st n) x)) (LX b g h w (ofL (kf a q st n) x)) := by
  obtain ⟨hb, hg, hh⟩ := hw.lt
  refine vc137 hw.1 ?_
  intro id hid w1 hE1 hi hh1
  refine callL (hk a q st ⟨hh1, hw.2.ext hE1⟩ (hr.ext hE1)) (ext_s3 hE1) (away_s3 hb hg hh (by simp; omega)) (fun e => by rw [e]; rfl) fun y s1 w2 he hw2 hU2 hh2 => ?_
  have hs2 := hU2.size
  have hs1 := hE1.size
  refine callM (t := y == x) ⟨hh2, hw2.2⟩ ((ext_s3 hE1).t3 hU2) (away_s3 hb hg hh (by simp; omega)) (fun e => by rw [he]; simp only [ofL, e, Bool.false_eq_true, if_false]) fun w3 ht hM3 hU3 hh3 => ?_
  exact ⟨s1, by rw [he]; simp only [ofL, ht, if_true], rfl, ⟨hh3, hM3⟩, ((ext_s3 hE1).t3 hU2).t3 hU3⟩
theorem test_c (t : Nat) (ht : t = 127 ∨ t = 128 ∨ t = 129 ∨ t = 131 ∨ t = 134) (v a : Int) {w : World} : CallsX E.P t #[.int .i64 v] w (IsV (.bool (testB t v a)) w) never := by
  have r := Upd.refl w no
  rcases ht with rfl | rfl | rfl | rfl | rfl
  · exact vc127 ⟨rfl, r⟩
  · refine vc128 ⟨fun h => ⟨by simp only [testB, h, Bool.true_or], r⟩, fun h => ⟨by simp only [testB, h, Bool.false_or], r⟩⟩
  · exact vc129 ⟨rfl, r⟩
  · exact vc131 ⟨rfl, r⟩
  · refine vc134 ⟨fun h => ⟨by simp only [testB, h, Bool.true_and], r⟩, fun h => ⟨by simp only [testB, h, Bool.false_and], r⟩⟩
theorem around_c {w : World} {ab : Nat} (v a : Int) (hh : w.heap[ab]? = some (.cells #[.int .i64 a] 3 (0, 0))) : CallsX E.P 130 #[.int .i64 v, .pointer (some ⟨ab, 0, none⟩)] w (IsV (.bool (testB 130 v a)) w) never := by
  have r := Upd.refl w no
  refine vc130 hh ⟨fun h _ => ⟨by simp only [testB, h, Bool.true_and], r⟩, fun h _ => ⟨by simp only [testB, h, Bool.false_and], r⟩⟩
theorem alikeK_c {kf : Int → Int → WS → Nd → Option (Int × WS)} {k v : Int} {s : ByteArray} {kids : List Nd} (h2 : 2 ≤ kids.length) (hk0 : KL b g h zs C cc kf (kids.getD 0 nd0)) (hk1 : KL b g h zs C cc kf (kids.getD 1 nd0))
    {w : World} {A : Option Addr} {l c : Nat} (a q : Int) (st : WS) (hw : Lst w b g h zs C cc st) (hr : NdsR w (Fw b g h) kids A l c) :
    CallsX E.P 132 #[.pointer (some ⟨b, 0, none⟩), ndA (.mk k v s kids) A l c, .int .i64 a, .int .i64 q] w (LR b g h zs C cc w (alikeL (kf a q) st v kids)) (LX b g h w (alikeL (kf a q) st v kids)) := by
  obtain ⟨hb, hg, hh⟩ := hw.lt
  dsimp only [ndA, Nd.k, Nd.n, Nd.s, Nd.kids]
  refine vc132 hw.1 ?_
  intro id hid w1 hE1 hi hh1
  refine callM (t := v == 0) ⟨hh1, hw.2.ext hE1⟩ (ext_s3 hE1) (away_s3 hb hg hh (by simp; omega)) (fun e => by simp only [alikeL, e, Bool.false_eq_true, if_false]) fun w2 ht hM2 hU2 => ?_
  have hU02 := (ext_s3 hE1).t3 hU2
  have hs2 := hU02.size
  refine hr.idxL 1 rfl (by omega) fun ad ha => hr.idxL 0 rfl (by omega) fun ad1 ha1 => ?_
  have hv : alikeL (kf a q) st v kids = (kf a q st (kids.getD 0 nd0)).bind fun p => (ofL (kf a q p.2 (kids.getD 1 nd0)) p.1).map fun s2 => (2, s2) := by rw [alikeL, if_pos ht]
  have last : ∀ {w3 w4 : World} {A1 : Option Addr} {l1 c1 : Nat} {y : Int} {s1 : WS}, kf a q st (kids.getD 0 nd0) = some (y, s1) → Lst w4 b g h zs C cc s1 → Upd w w3 (S3 b g h) → Upd w3 w4 (S3 b g h) → NdsR w4 (Fw b g h) (kids.getD 1 nd0).kids A1 l1 c1 → w4.heap[b]? = some (.cells (lcells zs C cc g h s1) 103 (0, 0)) →
      ∃ (R : Value → World → Prop) (X' : ContX), CallsX E.P 137 #[.pointer (some ⟨b, 0, none⟩), ndA (kids.getD 1 nd0) A1 l1 c1, .int .i64 y, .int .i64 a, .int .i64 q] w4 R X' ∧ (∀ u w2, R u w2 → ∃ y : Value, u = y ∧ ∃ S, Upd w4 w2 S ∧ Away [id] S ∧ ∃ a1 n c1 r1 r2, ∃ x, w2.heap[b]? = some (Obj.cells #[.slice a1 n c1, .map r1, .map r2, .int .i64 x] 103) ∧ 4 = 4 ∧
        (w2.heap[b]? = some (Obj.cells #[.slice a1 n c1, .map r1, .map r2, .int .i64 x] 103) → LR b g h zs C cc w (alikeL (kf a q) st v kids) (.int .i64 2) w2)) ∧ ∀ ch w2, X' ch w2 → LX b g h w (alikeL (kf a q) st v kids) ch w2 := fun he hw4 h03 h34 q1 hh4 => by
    refine callLU (ofK_c hk1 a q _ _ hw4 q1) (h03.t3 h34) (away_s3 hb hg hh (by simp; omega)) (fun e => by rw [hv, he]; simp only [Option.bind_some, e, Option.map_none]) fun s2 w5 he5 hw5 hU5 hh5 => ?_
    exact ⟨(2, s2), by rw [hv, he]; simp only [Option.bind_some, he5, Option.map_some], rfl, ⟨hh5, hw5.2⟩, (h03.t3 h34).t3 hU5⟩
  have first : ∀ {w3 : World} {A1 : Option Addr} {l1 c1 : Nat}, Ext w2 w3 → NdsR w3 (Fw b g h) (kids.getD 0 nd0).kids A1 l1 c1 → w3.heap[b]? = some (.cells (lcells zs C cc g h st) 103 (0, 0)) →
      CallsX E.P 79 #[.pointer (some ⟨b, 0, none⟩), ndA (kids.getD 0 nd0) A1 l1 c1, .int .i64 a, .int .i64 q] w3 (LR b g h zs C cc w3 (kf a q st (kids.getD 0 nd0))) (LX b g h w3 (kf a q st (kids.getD 0 nd0))) := fun hE q0 hh3 => hk0 a q st ⟨hh3, hM2.ext hE⟩ q0
  have hnone : kf a q st (kids.getD 0 nd0) = none → alikeL (kf a q) st v kids = none := fun e => by rw [hv, e]; rfl
  have aw := away_s3 (b := b) (g := g) (h := h) (ids := [id]) hb hg hh (by simp; omega)
  refine ⟨fun w3 hE3 => ((hr.s3 hU02).ext hE3).cellL ha 1 rfl (by omega) (d := nd0) fun A1 l1 c1 q1 => ((hr.s3 hU02).ext hE3).cellL ha1 0 rfl (by omega) (d := nd0) fun A0 l0 c0 q0 hh3 => ?_, fun w3 hE3 => ((hr.s3 hU02).ext hE3).cellL ha1 0 rfl (by omega) (d := nd0) fun A0 l0 c0 q0 => ⟨((hr.s3 hU02).ext hE3).cellL ha 1 rfl (by omega) (d := nd0) fun A1 l1 c1 q1 hh3 => ?_, fun hh3 => ?_⟩⟩
  · exact callL (first hE3 q0 hh3) (hU02.t3 (ext_s3 hE3)) aw hnone fun y s1 w4 he hw4 hU4 hh4 => last he ⟨hh4, hw4.2⟩ (hU02.t3 (ext_s3 hE3)) hU4 (q1.s3 hU4) hh4
  · exact callL (first hE3 q0 hh3) (hU02.t3 (ext_s3 hE3)) aw hnone fun y s1 w4 he hw4 hU4 hh4 => last he ⟨hh4, hw4.2⟩ (hU02.t3 (ext_s3 hE3)) hU4 (q1.s3 hU4) hh4
  · exact callL (first hE3 q0 hh3) (hU02.t3 (ext_s3 hE3)) aw hnone fun y s1 w4 he hw4 hU4 => (((hr.s3 hU02).ext hE3).s3 hU4).cellL ha 1 rfl (by omega) (d := nd0) fun A1 l1 c1 q1 hh4 => last he ⟨hh4, hw4.2⟩ (hU02.t3 (ext_s3 hE3)) hU4 q1 hh4
theorem choiceK_c {kf : Int → Int → WS → Nd → Option (Int × WS)} {k v : Int} {s : ByteArray} {kids : List Nd} (h3 : 3 ≤ kids.length) (hk0 : KL b g h zs C cc kf (kids.getD 0 nd0)) (hk1 : KL b g h zs C cc kf (kids.getD 1 nd0)) (hk2 : KL b g h zs C cc kf (kids.getD 2 nd0))
    {w : World} {A : Option Addr} {l c : Nat} (a q : Int) (st : WS) (hw : Lst w b g h zs C cc st) (hr : NdsR w (Fw b g h) kids A l c) :
    CallsX E.P 133 #[.pointer (some ⟨b, 0, none⟩), ndA (.mk k v s kids) A l c, .int .i64 a, .int .i64 q] w (LR b g h zs C cc w (choiceL (kf a q) st v kids)) (LX b g h w (choiceL (kf a q) st v kids)) := by
  obtain ⟨hb, hg, hh⟩ := hw.lt
  dsimp only [ndA, Nd.k, Nd.n, Nd.s, Nd.kids]
  refine vc133 hw.1 ?_
  intro id hid w1 hE1 hi hh1
  refine callM (t := v == 0) ⟨hh1, hw.2.ext hE1⟩ (ext_s3 hE1) (away_s3 hb hg hh (by simp; omega)) (fun e => by simp only [choiceL, e, Bool.false_eq_true, if_false]) fun w2 ht hM2 hU2 => ?_
  have hU02 := (ext_s3 hE1).t3 hU2
  have hs2 := hU02.size
  have hv : choiceL (kf a q) st v kids = (ofL (kf a q st (kids.getD 0 nd0)) 2).bind fun s1 => (kf a q s1 (kids.getD 1 nd0)).bind fun p => (ofL (kf a q p.2 (kids.getD 2 nd0)) p.1).map fun s3 => (p.1, s3) := by rw [choiceL, if_pos ht]
  refine hr.idxL 0 rfl (by omega) fun ad ha => (hr.s3 hU02).cellL ha 0 rfl (by omega) (d := nd0) fun A0 l0 c0 q0 hh2 => ?_
  refine callLU (ofK_c hk0 a q 2 st ⟨hh2, hM2⟩ q0) hU02 (away_s3 hb hg hh (by simp; omega)) (fun e => by rw [hv, e]; rfl) fun s1 w3 he3 hw3 hU3 => ?_
  have hU03 := hU02.t3 hU3
  refine hr.idxL 1 rfl (by omega) fun ad1 ha1 => (hr.s3 hU03).cellL ha1 1 rfl (by omega) (d := nd0) fun A1 l1 c1 q1 hh3 => ?_
  refine callL (hk1 a q s1 ⟨hh3, hw3.2⟩ q1) hU03 (away_s3 hb hg hh (by simp; omega)) (fun e => by rw [hv, he3]; simp only [Option.bind_some, e, Option.bind_none]) fun y s2 w4 he4 hw4 hU4 => ?_
  have hU04 := hU03.t3 hU4
  refine hr.idxL 2 rfl (by omega) fun ad2 ha2 => (hr.s3 hU04).cellL ha2 2 rfl (by omega) (d := nd0) fun A2 l2 c2 q2 hh4 => ?_
  refine callLU (ofK_c hk2 a q y s2 ⟨hh4, hw4.2⟩ q2) hU04 (away_s3 hb hg hh (by simp; omega)) (fun e => by rw [hv, he3]; simp only [Option.bind_some, he4, e, Option.map_none]) fun s3 w5 he5 hw5 hU5 hh5 => ?_
  exact ⟨(y, s3), by rw [hv, he3]; simp only [Option.bind_some, he4, he5, Option.map_some], rfl, ⟨hh5, hw5.2⟩, hU04.t3 hU5⟩
end
section
open Go Go.Vx Go.Proofs
variable {b g h : Nat} {zs : List Int} {C : Option Addr} {cc : Nat}
theorem loopK {α : Type} {kf : Int → Int → WS → Nd → Option (Int × WS)} {K a q : Int} {kids : List Nd} {A : Option Addr} {l c : Nat} (ids : List Nat) {w0 w : World} {s0 : WS} {rc : Option α} {v : Value} {R : Value → World → Prop}
    (hk : ∀ j (_ : j < kids.length), KL b g h zs C cc kf kids[j]) (hr : NdsR w0 (Fw b g h) kids A l c) (hl : l < 2 ^ 48) (hlt : b < w0.heap.size ∧ g < w0.heap.size ∧ h < w0.heap.size) (hids : ∀ i ∈ ids, w0.heap.size ≤ i)
    (h0 : Upd w0 w (S3 b g h)) (hM : LMem w b g h zs C cc s0.ks s0.ts) (hn : lookAll (kf a q) K s0 kids = none → rc = none)
    (fin : ∀ (s1 : WS) (w2 : World), lookAll (kf a q) K s0 kids = some s1 → LMem w2 b g h zs C cc s1.ks s1.ts → Upd w0 w2 (S3 b g h) → w2.heap[b]? = some (.cells (lcells zs C cc g h s1) 103 (0, 0)) → R v w2) :
    ∃ (I : Int → Option Addr → Nat → Nat → Option Nat → Option Nat → Int → World → Prop), ∃ (m : Int → Option Addr → Nat → Nat → Option Nat → Option Nat → Int → Nat), I 0 C zs.length cc (some g) (some h) s0.parts w ∧
      ∀ (_ : Nat → Value) (x : Int) (a1 : Option Addr) (n c1 : Nat) (r1 r2 : Option Nat) (p : Int) (w2 : World), I x a1 n c1 r1 r2 p w2 →
        (decide (x < (l : Int)) = true → (0 ≤ x ∧ x < (l : Int)) ∧ ∃ ad, A = some ad ∧ ∃ x4 x5, ∃ x6 a2, ∃ n2 c2, CellsIn w2 (Addr.add ad (Int.toNat x * 4)) [.int .i64 x4, .int .i64 x5, .string x6, .slice a2 n2 c2] ∧ ∀ id1, w2.heap.size ≤ id1 → ∀ w3, Upd w2 w3 (setOf []) → id1 < w3.heap.size →
          w3.heap[b]? = some (Obj.cells (#[.slice a1 n c1, Value.map r1, Value.map r2, .int .i64 p]) 103) → ∃ (R1 : Value → World → Prop), ∃ (X' : ContX), CallsX E.P 137 (#[.pointer (some (Addr.mk b 0 none)), .agg (#[.int .i64 x4, .int .i64 x5, .string x6, .slice a2 n2 c2]), .int .i64 K, .int .i64 a, .int .i64 q]) w3 R1 X' ∧
            (∀ (u : Value) (w4 : World), R1 u w4 → ∃ (u1 : Value), u = u1 ∧ ∃ S, Upd w3 w4 S ∧ Away (ids ++ [id1]) S ∧ ∃ a3 n3, ∃ c3 r3, ∃ r4 p2, w4.heap[b]? = some (Obj.cells (#[.slice a3 n3 c3, Value.map r3, Value.map r4, .int .i64 p2]) 103) ∧ 4 = 4 ∧ I (w64 (x + 1)) a3 n3 c3 r3 r4 p2 w4 ∧ m (w64 (x + 1)) a3 n3 c3 r3 r4 p2 < m x a1 n c1 r1 r2 p) ∧
            ∀ (ch : List PanicEntry) (w5 : World), X' ch w5 → LX b g h w0 rc ch w5) ∧
        (decide (x < (l : Int)) = false → w2.heap[b]? = some (Obj.cells (#[.slice a1 n c1, Value.map r1, Value.map r2, .int .i64 p]) 103) → R v w2) := by
  obtain ⟨hb, hg, hh⟩ := hlt
  obtain rfl := hr.len
  refine ⟨fun x a1 n c1 r1 r2 p w2 => ∃ (j : Nat) (s : WS), x = j ∧ j ≤ kids.length ∧ (C = a1 ∧ n = zs.length ∧ cc = c1 ∧ r1 = some g ∧ r2 = some h ∧ p = s.parts) ∧ LMem w2 b g h zs C cc s.ks s.ts ∧ Upd w0 w2 (S3 b g h) ∧ lookAll (kf a q) K s (kids.drop j) = lookAll (kf a q) K s0 kids,
    fun x _ _ _ _ _ _ => ((kids.length : Int) - x).toNat, ⟨0, s0, rfl, Nat.zero_le _, ⟨rfl, rfl, rfl, rfl, rfl, rfl⟩, hM, h0, rfl⟩, ?_⟩
  rintro _ x a1 n c1 r1 r2 p w2 ⟨j, s, rfl, hj, ⟨rfl, rfl, rfl, rfl, rfl, rfl⟩, hM2, hU2, hL⟩
  refine ⟨fun hlt => ?_, fun hlt hh2 => ?_⟩
  · have hlt : j < kids.length := by simpa using hlt
    refine hr.idx hlt fun ad ha => (hr.s3 hU2).cell ha hlt fun A1 l1 c1 q1 id1 hid1 w3 hE3 hi3 hh3 => ?_
    rw [drop_cons hlt, lookAll] at hL
    have hs2 := hU2.size
    refine callLU (ofK_c (hk j hlt) a q K s ⟨hh3, hM2.ext hE3⟩ (q1.ext hE3)) (hU2.t3 (ext_s3 hE3)) (away_s3 hb hg hh fun i hi => ?_) (fun e => hn (by rw [← hL, e]; rfl)) fun s1 w4 he hw4 hU4 => ⟨⟨j + 1, s1, w64_succ (by omega), hlt, ⟨rfl, rfl, rfl, rfl, rfl, rfl⟩, hw4.2, (hU2.t3 (ext_s3 hE3)).t3 hU4, by rw [← hL, he]; rfl⟩, ?_⟩
    · rcases List.mem_append.1 hi with hi | hi
      · exact hids i hi
      · simp only [List.mem_singleton] at hi; omega
    · have := w64_succ (j := j) (by omega)
      dsimp only
      rw [this]; exact mea_succ hlt
  · have hlt : ¬ j < kids.length := by simpa using hlt
    rw [List.drop_eq_nil_of_le (by omega), lookAll] at hL
    exact fin s w2 hL.symm hM2 hU2 hh2
def SLk (b g h : Nat) (zs : List Int) (C : Option Addr) (cc : Nat) (kf : Int → Int → WS → Nd → Option (Int × WS)) (n : Nd) : Prop :=
  ∀ {w : World} {A : Option Addr} {l c : Nat} (a q : Int) (st : WS), Lst w b g h zs C cc st → NdsR w (Fw b g h) n.kids A l c →
    CallsX E.P 149 #[.pointer (some ⟨b, 0, none⟩), ndA n A l c, .int .i64 a, .int .i64 q] w (LU b g h zs C cc w (setLk (kf a q) st n)) (LX b g h w (setLk (kf a q) st n))
theorem lst_put {b g h : Nat} {zs : List Int} {C : Option Addr} {cc : Nat} {w w' : World} {st st' : WS} (q : LMem w b g h zs C cc st.ks st.ts) (k : Upd w w' (setOf [b])) (hh : w'.heap[b]? = some (.cells (lcells zs C cc g h st') 103 (0, 0))) (h1 : st'.ks = st.ks) (h2 : st'.ts = st.ts) : Lst w' b g h zs C cc st' :=
  ⟨hh, by rw [h1, h2]; exact q.upd k upd_b⟩
theorem setK_c {kf : Int → Int → WS → Nd → Option (Int × WS)} {n : Nd} (hk : ∀ j (_ : j < n.kids.length), KL b g h zs C cc kf n.kids[j]) : SLk b g h zs C cc kf n := by
  intro w A l c a q st hw hr
  obtain ⟨hb, hg, hh⟩ := hw.lt
  obtain ⟨k, v, s, kids⟩ := n
  have hl := hr.lt
  have hlen := hr.len
  dsimp only [ndA, Nd.k, Nd.n, Nd.s, Nd.kids] at *
  have hz : ∀ x : Int, ((l : Int) == x) = ((kids.length : Int) == x) := fun x => by rw [hlen]
  refine vc149 hw.1 ?_
  intro id hid
  have aw : ∀ {S : List Nat}, (∀ i ∈ S, w.heap.size ≤ i) → Away S (S3 b g h) := fun hS => away_s3 hb hg hh hS
  have hi1 : ∀ i ∈ [id], w.heap.size ≤ i := by simp; omega
  refine ⟨fun a1 n1 c1 r1 r2 x w2 => (C = a1 ∧ n1 = zs.length ∧ cc = c1 ∧ r1 = some g ∧ r2 = some h ∧ x = st.inc.parts) ∧ (decide (w64 (st.parts + 1) ≤ 4096) && v == 0) = true ∧ LMem w2 b g h zs C cc st.ks st.ts ∧ Upd w w2 (S3 b g h), ⟨fun hp w1 hU1 _ hh1 => ?_, fun hp w1 hU1 _ hh1 => ?_⟩, ?_⟩
  · refine callM (st := st.inc) (t := v == 0) (lst_put (st := st) hw.2 hU1 hh1 rfl rfl) (upd_s3 hU1) (aw hi1) (fun e => by simp only [setLk, hp, e, Bool.and_false, Bool.not_false, if_true]) fun w2 ht hM2 hU2 => ?_
    exact ⟨⟨rfl, rfl, rfl, rfl, rfl, rfl⟩, by simp only [hp, ht, Bool.and_self], hM2, (upd_s3 hU1).t3 hU2⟩
  · exact callM (st := st.inc) (t := false) (lst_put (st := st) hw.2 hU1 hh1 rfl rfl) (upd_s3 hU1) (aw hi1) (fun e => by simp only [setLk, hp, Bool.false_and, Bool.not_false, if_true]) fun w2 ht _ _ => by cases ht
  rintro _ _ _ _ _ _ _ w2 ⟨⟨rfl, rfl, rfl, rfl, rfl, rfl⟩, hc, hM2, hU2⟩
  have hs2 := hU2.size
  generalize hres : setLk (kf a q) st (.mk k v s kids) = res
  rw [setLk, hc] at hres
  simp only [Bool.not_true, Bool.false_eq_true, if_false] at hres
  refine ⟨fun a1 n1 c1 r1 r2 x w3 => (C = a1 ∧ n1 = zs.length ∧ cc = c1 ∧ r1 = some g ∧ r2 = some h ∧ x = st.inc.parts) ∧ (if strEq s (ByteArray.mk #[]) then lookAll (kf a q) 3 st.inc kids else none) = res ∧ LMem w3 b g h zs C cc st.ks st.ts ∧ Upd w w3 (S3 b g h), ⟨fun e23 => ?_, fun e23 => ?_⟩, ?_⟩
  · simp only [e23, if_true] at hres
    refine callB (lexName_c s) fun w3 hE3 => ⟨fun hx hh3 => ?_, fun hx hh3 => ?_⟩
    · refine callM (st := st.inc) (t := (l : Int) == 0) ⟨hh3, hM2.ext hE3⟩ (hU2.t3 (ext_s3 hE3)) (aw hi1) (fun e => by rw [← hres, hx, ← hz, e]; rfl) fun w4 ht hM4 hU4 hh4 => ?_
      exact ⟨st.inc, by rw [← hres, hx, ← hz, ht]; rfl, rfl, ⟨hh4, hM4⟩, (hU2.t3 (ext_s3 hE3)).t3 hU4⟩
    · exact callM (st := st.inc) (t := false) ⟨hh3, hM2.ext hE3⟩ (hU2.t3 (ext_s3 hE3)) (aw hi1) (fun e => by rw [← hres, hx]; rfl) fun w4 ht _ _ => by cases ht
  · simp only [e23, Bool.false_eq_true, if_false] at hres
    refine ⟨fun e22 hh2 => ?_, fun e22 => ⟨fun e24 hh2 => ?_, fun e24 => ⟨fun e25 => ?_, fun e25 hh2 => ?_⟩⟩⟩
    · simp only [e22, if_true] at hres
      refine callM (st := st.inc) (t := (l : Int) == 0) ⟨hh2, hM2⟩ hU2 (aw hi1) (fun e => by rw [← hres, ← hz, e]; rfl) fun w4 ht hM4 hU4 => ?_
      exact ⟨⟨rfl, rfl, rfl, rfl, rfl, rfl⟩, by rw [← hres, ← hz, ht]; simp only [Bool.true_and], hM4, hU2.t3 hU4⟩
    · simp only [e22, e24, Bool.false_eq_true, if_false, if_true] at hres
      refine callM (st := st.inc) (t := (l : Int) == 1) ⟨hh2, hM2⟩ hU2 (aw hi1) (fun e => by rw [← hres, ← hz, e]; rfl) fun w4 ht hM4 hU4 => ?_
      exact ⟨⟨rfl, rfl, rfl, rfl, rfl, rfl⟩, by rw [← hres, ← hz, ht]; simp only [Bool.true_and], hM4, hU2.t3 hU4⟩
    · simp only [e22, e24, e25, Bool.false_eq_true, if_false, Bool.true_and] at hres
      exact ⟨⟨rfl, rfl, rfl, rfl, rfl, rfl⟩, hres, hM2, hU2⟩
    · simp only [e22, e24, e25, Bool.false_eq_true, if_false, Bool.false_and] at hres
      exact callM (st := st.inc) (t := false) ⟨hh2, hM2⟩ hU2 (aw hi1) (fun e => hres.symm) fun w4 ht _ _ => by cases ht
  rintro _ _ _ _ _ _ _ w3 ⟨⟨rfl, rfl, rfl, rfl, rfl, rfl⟩, hc2, hM3, hU3⟩ hh3
  refine callM (st := st.inc) (t := strEq s (ByteArray.mk #[])) ⟨hh3, hM3⟩ hU3 (aw hi1) (fun e => by rw [← hc2, e]; rfl) fun w4 ht hM4 hU4 => ?_
  rw [ht, if_pos rfl] at hc2
  exact loopK (s0 := st.inc) [id] hk hr hl ⟨hb, hg, hh⟩ hi1 (hU3.t3 hU4) hM4 (fun e => by rw [← hc2, e]) fun s1 w5 he hM5 hU5 hh5 => ⟨s1, by rw [← hc2, he], rfl, ⟨hh5, hM5⟩, hU5⟩
end
section
open Go Go.Vx Go.Proofs
variable {b g h : Nat} {zs : List Int} {C : Option Addr} {cc : Nat}
theorem quantK_c {kf : Int → Int → WS → Nd → Option (Int × WS)} {k v : Int} {s : ByteArray} {kids : List Nd} (h2 : 2 ≤ kids.length) (hs0 : SLk b g h zs C cc kf (kids.getD 0 nd0)) (hk1 : KL b g h zs C cc kf (kids.getD 1 nd0))
    {w : World} {A : Option Addr} {l c : Nat} (a q : Int) (st : WS) (hw : Lst w b g h zs C cc st) (hr : NdsR w (Fw b g h) kids A l c) :
    CallsX E.P 135 #[.pointer (some ⟨b, 0, none⟩), ndA (.mk k v s kids) A l c, .int .i64 a, .int .i64 q] w (LR b g h zs C cc w (quantL kf st v (kids.getD 0 nd0) (kids.getD 1 nd0) a q)) (LX b g h w (quantL kf st v (kids.getD 0 nd0) (kids.getD 1 nd0) a q)) := by
  obtain ⟨hb, hg, hh⟩ := hw.lt
  dsimp only [ndA, Nd.k, Nd.n, Nd.s, Nd.kids]
  refine vc135 hw.1 ?_
  intro id hid
  have aw : Away [id] (S3 b g h) := away_s3 hb hg hh (by simp; omega)
  generalize hres : quantL kf st v (kids.getD 0 nd0) (kids.getD 1 nd0) a q = res
  rw [quantL] at hres
  refine ⟨fun a1 n1 c1 r1 r2 x w2 => (C = a1 ∧ n1 = zs.length ∧ cc = c1 ∧ r1 = some g ∧ r2 = some h ∧ x = st.parts) ∧ (decide (v ≥ 1) && decide (v ≤ 6) && decide (q < 4)) = true ∧ LMem w2 b g h zs C cc st.ks st.ts ∧ Upd w w2 (S3 b g h), ⟨fun h1 => ⟨fun h6 w1 hE1 _ hh1 => ?_, fun h6 w1 hE1 _ hh1 => ?_⟩, fun h1 w1 hE1 _ hh1 => ?_⟩, ?_⟩
  · refine callM (st := st) (t := decide (q < 4)) ⟨hh1, hw.2.ext hE1⟩ (ext_s3 hE1) aw (fun e => by rw [← hres, h1, h6, e]; rfl) fun w2 ht hM2 hU2 => ?_
    exact ⟨⟨rfl, rfl, rfl, rfl, rfl, rfl⟩, by rw [h1, h6, ht]; rfl, hM2, (ext_s3 hE1).t3 hU2⟩
  · exact callM (st := st) (t := false) ⟨hh1, hw.2.ext hE1⟩ (ext_s3 hE1) aw (fun e => by rw [← hres, h1, h6]; rfl) fun w2 ht _ _ => by cases ht
  · exact callM (st := st) (t := false) ⟨hh1, hw.2.ext hE1⟩ (ext_s3 hE1) aw (fun e => by rw [← hres, h1]; rfl) fun w2 ht _ _ => by cases ht
  rintro _ _ _ _ _ _ _ w2 ⟨⟨rfl, rfl, rfl, rfl, rfl, rfl⟩, hc, hM2, hU2⟩
  have hs2 := hU2.size
  rw [hc, if_pos rfl] at hres
  refine hr.idxL 0 rfl (by omega) fun ad ha => (hr.s3 hU2).cellL ha 0 rfl (by omega) (d := nd0) fun A0 l0 c0 q0 hh2 => ?_
  refine callLU (hs0 a (w64 (q + 1)) st ⟨hh2, hM2⟩ q0) hU2 aw (fun e => by rw [← hres, e]; rfl) fun s1 w3 he3 hw3 hU3 => ?_
  have hU03 := hU2.t3 hU3
  rw [he3, Option.bind_some] at hres
  have last : ∀ {w4 : World} {A1 : Option Addr} {l1 c1 : Nat} (bd gv : Int), w4 = w3 → NdsR w4 (Fw b g h) (kids.getD 1 nd0).kids A1 l1 c1 → w4.heap[b]? = some (.cells (lcells zs C cc g h s1) 103 (0, 0)) → (if decide (v ≤ 3) then 2 else 1) = bd → (if decide (v ≤ 2) then 2 else 1) = gv →
      ∃ (R : Value → World → Prop) (X' : ContX), CallsX E.P 137 #[.pointer (some ⟨b, 0, none⟩), ndA (kids.getD 1 nd0) A1 l1 c1, .int .i64 bd, .int .i64 (w64 (a + 1)), .int .i64 (w64 (q + 1))] w4 R X' ∧ (∀ u w2, R u w2 → ∃ y : Value, u = y ∧ ∃ S, Upd w4 w2 S ∧ Away [id] S ∧ ∃ a1 n c1 r1 r2, ∃ x, w2.heap[b]? = some (Obj.cells #[.slice a1 n c1, .map r1, .map r2, .int .i64 x] 103) ∧ 4 = 4 ∧
        (w2.heap[b]? = some (Obj.cells #[.slice a1 n c1, .map r1, .map r2, .int .i64 x] 103) → LR b g h zs C cc w res (.int .i64 gv) w2)) ∧ ∀ ch w2, X' ch w2 → LX b g h w res ch w2 := by
    rintro w4 A1 l1 c1 bd gv rfl q1 hh4 rfl rfl
    refine callLU (ofK_c hk1 (w64 (a + 1)) (w64 (q + 1)) _ s1 ⟨hh4, hw3.2⟩ q1) hU03 aw (fun e => by rw [← hres, e]; rfl) fun s2 w5 he5 hw5 hU5 hh5 => ?_
    exact ⟨(_, s2), by rw [← hres, he5]; rfl, rfl, ⟨hh5, hw5.2⟩, hU03.t3 hU5⟩
  refine ⟨fun e3 => ⟨fun x w4 => w4 = w3 ∧ x = (if decide (v ≤ 2) then 2 else 1), ⟨fun e2 => ⟨rfl, by rw [e2]; rfl⟩, fun e2 => ⟨rfl, by rw [e2]; rfl⟩⟩, ?_⟩, fun e3 => ⟨fun x w4 => w4 = w3 ∧ x = (if decide (v ≤ 2) then 2 else 1), ⟨fun e2 => ⟨rfl, by rw [e2]; rfl⟩, fun e2 => ⟨rfl, by rw [e2]; rfl⟩⟩, ?_⟩⟩
  · rintro _ x w4 ⟨rfl, rfl⟩
    refine hr.idxL 1 rfl (by omega) fun ad1 ha1 => (hr.s3 hU03).cellL ha1 1 rfl (by omega) (d := nd0) fun A1 l1 c1 q1 hh4 => ?_
    exact last 2 _ rfl q1 hh4 (by rw [e3]; rfl) rfl
  · rintro _ x w4 ⟨rfl, rfl⟩
    refine hr.idxL 1 rfl (by omega) fun ad1 ha1 => (hr.s3 hU03).cellL ha1 1 rfl (by omega) (d := nd0) fun A1 l1 c1 q1 hh4 => ?_
    exact last 1 _ rfl q1 hh4 (by rw [e3]; rfl) rfl
end
section
open Go Go.Vx Go.Proofs
theorem mapK : MapT E.P 100 3 24 (.agg #[.int .i64 0, .int .i64 0, .string (ByteArray.mk #[]), .slice none 0 0]) := ⟨by kernel_rfl, by kernel_rfl, fun w => Tryz.zeroValue24 w⟩
theorem mapD : MapT E.P 101 3 3 (.int .i64 0) := ⟨by kernel_rfl, by kernel_rfl, fun w => Tryz.zeroValue3 w⟩
theorem callIX {P : Program} {f : Nat} {args : Array Value} {w : World} {X : ContX} {x : Int} (hc : CallsX P f args w (IsV (.int .i64 x) w) never) {K : Int → World → Prop} (k : ∀ w2, Ext w w2 → K x w2) :
    ∃ (R : Value → World → Prop) (X' : ContX), CallsX P f args w R X' ∧ (∀ v w2, R v w2 → ∃ y, v = .int .i64 y ∧ Upd w w2 no ∧ K y w2) ∧ ∀ ch w2, X' ch w2 → X ch w2 :=
  ⟨_, _, hc, fun _ w2 ⟨hv, hE⟩ => ⟨x, hv, hE, k w2 hE⟩, never_any⟩
theorem callBX {P : Program} {f : Nat} {args : Array Value} {w : World} {X : ContX} {x : Bool} (hc : CallsX P f args w (IsV (.bool x) w) never) {K : Bool → World → Prop} (k : ∀ w2, Ext w w2 → K x w2) :
    ∃ (R : Value → World → Prop) (X' : ContX), CallsX P f args w R X' ∧ (∀ v w2, R v w2 → ∃ y, v = .bool y ∧ Upd w w2 no ∧ K y w2) ∧ ∀ ch w2, X' ch w2 → X ch w2 :=
  ⟨_, _, hc, fun _ w2 ⟨hv, hE⟩ => ⟨x, hv, hE, k w2 hE⟩, never_any⟩
variable {b g h : Nat} {zs : List Int} {C : Option Addr} {cc : Nat}
theorem lookE {w : World} {ks : List (Option Nd)} {ts : List Int} (m : LMem w b g h zs C cc ks ts) {w' : World} (hE : Ext w w') {j : Nat} (hj : j < zs.length) :
    ∃ xk xn xs xa xl xc xi, Sem.run E.P (Instr.lookup 100 (.map (some g)) (.int .i64 (j : Int)) true) w' = .ok (.tuple #[.agg #[.int .i64 xk, .int .i64 xn, .string xs, .slice xa xl xc], .bool xi]) w' ∧
      ((ks.getD j none = none ∧ xi = false) ∨ ∃ y, ks.getD j none = some y ∧ xi = true ∧ xk = y.k ∧ xn = y.n ∧ xs = y.s ∧ NdsR w (Fw b g h) y.kids xa xl xc) := by
  obtain ⟨f, hG, hf⟩ := m.hk
  have hjk : j < ks.length := by have := m.kl; omega
  have h1 := hf j ks[j] (List.getElem?_eq_getElem hjk)
  have hd : ks.getD j none = ks[j] := by rw [List.getD_eq_getElem?_getD, List.getElem?_eq_getElem hjk]; rfl
  have hl := (hG.upd hE (fun h => h)).toF.look mapK (j : Int)
  rw [hd]
  cases hx : ks[j] with
  | none =>
    rw [hx] at h1
    have h1 : f j = none := h1
    rw [h1] at hl
    exact ⟨_, _, _, _, _, _, _, hl, .inl ⟨rfl, rfl⟩⟩
  | some y =>
    rw [hx] at h1
    obtain ⟨A, l, c, e, hA⟩ := h1
    rw [e] at hl
    exact ⟨_, _, _, _, _, _, _, hl, .inr ⟨y, rfl, rfl, rfl, rfl, rfl, hA⟩⟩
theorem lookD {w : World} {ks : List (Option Nd)} {ts : List Int} (m : LMem w b g h zs C cc ks ts) {j : Nat} (hj : j < zs.length) {y : Nd} (hy : ks.getD j none = some y) :
    Sem.run E.P (Instr.lookup 101 (.map (some h)) (.int .i64 (j : Int)) false) w = .ok (.int .i64 (ts.getD j 0)) w := by
  obtain ⟨f, hG, hf⟩ := m.ht
  have hjk : j < ks.length := by have := m.kl; omega
  have hd : ks.getD j none = ks[j] := by rw [List.getD_eq_getElem?_getD, List.getElem?_eq_getElem hjk]; rfl
  have h1 := hf j y (by rw [List.getElem?_eq_getElem hjk, ← hd, hy])
  have hl := hG.toF.lookV mapD (j : Int)
  rw [h1] at hl
  exact hl
theorem upd_g {w w' : World} (k : Upd w w' (fun x => x = g)) : Upd w w' (S3 b g h) := ⟨k.os, k.tape, k.output, k.size, fun x hx hS => k.keep x hx fun e => hS (.inr (.inl e))⟩
theorem upd_h {w w' : World} (k : Upd w w' (fun x => x = h)) : Upd w w' (S3 b g h) := ⟨k.os, k.tape, k.output, k.size, fun x hx hS => k.keep x hx fun e => hS (.inr (.inr e))⟩
theorem LMem.stored {w0 w1 w3 : World} {ks : List (Option Nd)} {ts : List Int} {j : Nat} {fk fd : Int → Option Value} {x : Nd} {A : Option Addr} {l c : Nat} {a : Int} (m : LMem w0 b g h zs C cc ks ts) (hj : j < zs.length)
    (hfk : ∀ (i : Nat) (y : Option Nd), ks[i]? = some y → KidV w0 (Fw b g h) y (fk i)) (hfd : ∀ (i : Nat) (y : Nd), ks[i]? = some (some y) → fd i = some (.int .i64 (ts.getD i 0)))
    (h1 : MapG w1 g (fun k' => if k' = (j : Int) then some (ndA x A l c) else fk k')) (hx : NdsR w1 (Fw b g h) x.kids A l c) (k01 : Upd w0 w1 (fun x => x = g))
    (h3 : MapG w3 h (fun k' => if k' = (j : Int) then some (.int .i64 a) else fd k')) (k13 : Upd w1 w3 (fun x => x = h)) :
    LMem w3 b g h zs C cc (ks.set j (some x)) (ts.set j a) := by
  have hF : ∀ y, Fw b g h y → ¬ (y = g) := fun y hy e => hy (.inr (.inl e))
  have hF2 : ∀ y, Fw b g h y → ¬ (y = h) := fun y hy e => hy (.inr (.inr e))
  have kt := m.kl
  have tt := m.tl
  refine ⟨RowIn.upd (RowIn.upd m.hc k01 hF) k13 hF2, ⟨_, h1.upd k13 m.gh, fun i y hy => ?_⟩, ⟨_, h3, fun i y hy => ?_⟩, by simpa using kt, by simpa using tt, m.bg, m.bh, m.gh⟩
  · have hil := (List.getElem?_eq_some_iff.1 hy).1
    simp only [List.length_set] at hil
    by_cases hij : j = i
    · subst hij
      rw [List.getElem?_set_self (by omega)] at hy
      cases hy
      exact ⟨A, l, c, by simp, hx.upd k13 hF2⟩
    · rw [List.getElem?_set_ne hij] at hy
      have hne : ¬ ((i : Int) = (j : Int)) := by omega
      simp only [hne, if_false]
      exact ((hfk i y hy).upd k01 (fun z hz _ => hF z hz)).upd k13 (fun z hz _ => hF2 z hz)
  · have hil := (List.getElem?_eq_some_iff.1 hy).1
    simp only [List.length_set] at hil
    by_cases hij : j = i
    · subst hij
      simp only [if_true]
      rw [List.getD_eq_getElem?_getD, List.getElem?_set_self (by omega)]; rfl
    · rw [List.getElem?_set_ne hij] at hy
      have hne : ¬ ((i : Int) = (j : Int)) := by omega
      simp only [hne, if_false]
      rw [hfd i y hy, List.getD_eq_getElem?_getD, List.getD_eq_getElem?_getD, List.getElem?_set_ne hij]
theorem cellK_c {kf : Int → Int → WS → Nd → Option (Int × WS)} {k v : Int} {s : ByteArray} {kids : List Nd} (h1 : 1 ≤ kids.length) (hk0 : KL b g h zs C cc kf (kids.getD 0 nd0))
    {w : World} {A : Option Addr} {l c : Nat} (a q : Int) (st : WS) (hw : Lst w b g h zs C cc st) (hr : NdsR w (Fw b g h) kids A l c) :
    CallsX E.P 136 #[.pointer (some ⟨b, 0, none⟩), ndA (.mk k v s kids) A l c, .int .i64 a, .int .i64 q] w (LR b g h zs C cc w (cellL zs (kf a q) st v (kids.getD 0 nd0) a)) (LX b g h w (cellL zs (kf a q) st v (kids.getD 0 nd0) a)) := by
  obtain ⟨hb, hg, hh⟩ := hw.lt
  dsimp only [ndA, Nd.k, Nd.n, Nd.s, Nd.kids]
  refine vc136 hw.1 ?_
  intro id hid
  have aw : Away [id] (S3 b g h) := away_s3 hb hg hh (by simp; omega)
  generalize hres : cellL zs (kf a q) st v (kids.getD 0 nd0) a = res
  rw [cellL] at hres
  refine ⟨fun a1 n1 c1 r1 r2 x w2 => (C = a1 ∧ n1 = zs.length ∧ cc = c1 ∧ r1 = some g ∧ r2 = some h ∧ x = st.parts) ∧ (decide (v ≥ 0) && decide (v < (zs.length : Int)) && decide (zs.getD v.toNat 0 ≤ a)) = true ∧ LMem w2 b g h zs C cc st.ks st.ts ∧ Upd w w2 (S3 b g h), ⟨fun e0 => ⟨fun e1 => ?_, fun e1 w1 hE1 _ hh1 => ?_⟩, fun e0 w1 hE1 _ hh1 => ?_⟩, ?_⟩
  · have e0' : 0 ≤ v := by simpa using e0
    obtain ⟨j, rfl⟩ : ∃ j : Nat, v = j := ⟨v.toNat, by omega⟩
    have hj : j < zs.length := by simpa using e1
    have hjt : Int.toNat (j : Int) = j := by omega
    have hz : zs.getD (Int.toNat (j : Int)) 0 = zs[j] := by rw [hjt, List.getD_eq_getElem?_getD, List.getElem?_eq_getElem hj]; rfl
    refine hw.2.hc.idx hj fun ad ha w1 hE1 _ => (hw.2.hc.ext hE1).cell ha hj fun hh1 => ?_
    refine callM (st := st) (t := decide (zs[j] ≤ a)) ⟨hh1, hw.2.ext hE1⟩ (ext_s3 hE1) aw (fun e => by rw [← hres, e0, e1, hz, e]; rfl) fun w2 ht hM2 hU2 => ?_
    exact ⟨⟨rfl, rfl, rfl, rfl, rfl, rfl⟩, by rw [e0, e1, hz, ht]; rfl, hM2, (ext_s3 hE1).t3 hU2⟩
  · exact callM (st := st) (t := false) ⟨hh1, hw.2.ext hE1⟩ (ext_s3 hE1) aw (fun e => by rw [← hres, e0, e1]; rfl) fun w2 ht _ _ => by cases ht
  · exact callM (st := st) (t := false) ⟨hh1, hw.2.ext hE1⟩ (ext_s3 hE1) aw (fun e => by rw [← hres, e0]; rfl) fun w2 ht _ _ => by cases ht
  rintro _ _ _ _ _ _ _ w2 ⟨⟨rfl, rfl, rfl, rfl, rfl, rfl⟩, hc, hM2, hU2⟩
  rw [if_pos hc] at hres
  simp only [Bool.and_eq_true] at hc
  have e0' : 0 ≤ v := by simpa using hc.1.1
  obtain ⟨j, rfl⟩ : ∃ j : Nat, v = j := ⟨v.toNat, by omega⟩
  have hj : j < zs.length := by simpa using hc.1.2
  have hjt : Int.toNat (j : Int) = j := by omega
  have hz : zs.getD (Int.toNat (j : Int)) 0 = zs[j] := by rw [hjt, List.getD_eq_getElem?_getD, List.getElem?_eq_getElem hj]; rfl
  refine ⟨fun y a1 n1 c1 r1 r2 x w3 => ∃ s1, (C = a1 ∧ n1 = zs.length ∧ cc = c1 ∧ r1 = some g ∧ r2 = some h ∧ x = s1.parts) ∧ kf a q st (kids.getD 0 nd0) = some (y, s1) ∧ LMem w3 b g h zs C cc s1.ks s1.ts ∧ Upd w w3 (S3 b g h), ?_, ?_⟩
  · refine hr.idxL 0 rfl (by omega) fun ad ha => (hr.s3 hU2).cellL ha 0 rfl (by omega) (d := nd0) fun A0 l0 c0 q0 hh2 => ?_
    exact callL (hk0 a q st ⟨hh2, hM2⟩ q0) hU2 aw (fun e => by rw [← hres, e]; rfl) fun y s1 w3 he hw3 hU3 => ⟨s1, ⟨rfl, rfl, rfl, rfl, rfl, rfl⟩, he, hw3.2, hU2.t3 hU3⟩
  rintro _ y _ _ _ _ _ _ w3 ⟨s1, ⟨rfl, rfl, rfl, rfl, rfl, rfl⟩, he, hM3, hU3⟩
  rw [he, Option.bind_some, hz] at hres
  have hs3 := hU3.size
  have hlt3 := hM3.lt
  have hb3 : b < w3.heap.size := by omega
  dsimp only at hres
  generalize hx0 : kids.getD 0 nd0 = x0 at hres he hk0
  have kz : ∀ {w4 : World} {ad : Addr}, Upd w w4 (S3 b g h) → A = some ad → ∀ {K : Int → Int → ByteArray → Option Addr → Nat → Nat → Prop}, (∀ A1 l1 c1, NdsR w4 (Fw b g h) x0.kids A1 l1 c1 → K x0.k x0.n x0.s A1 l1 c1) →
      ∃ x2 x3, ∃ x4 a, ∃ n c, CellsIn w4 (ad.add 0) [.int .i64 x2, .int .i64 x3, .string x4, .slice a n c] ∧ K x2 x3 x4 a n c := fun hU ha2 K hk => by
    exact (hr.s3 hU).cellL ha2 0 (off := 0) rfl (by omega) (d := nd0) (K := K) (by rw [hx0]; exact hk)
  have ki : ∀ {K : Addr → Prop}, (∀ ad, A = some ad → K ad) → ((0 : Int) ≤ 0 ∧ (0 : Int) < (l : Int)) ∧ ∃ ad, A = some ad ∧ K ad := fun hk => hr.idxL 0 rfl (by omega) hk
  refine ⟨fun w4 hE4 => ?_, fun id2 hid2 w4 hE4 hi4 => ?_⟩
  · obtain ⟨xk, xn, xs, xa, xl, xc, xi, hlook, hent⟩ := lookE hM3 hE4 hj
    have hs4 := hE4.size
    refine ⟨xk, xn, xs, xa, xl, xc, xi, hlook, fun id1 hid1 => ?_⟩
    have aw2 : Away [id, id1] (S3 b g h) := away_s3 hb hg hh (by simp; omega)
    have awG : Away [b, id, id1] (fun x => x = g) := away_of fun i hi hS => by
      simp only [List.mem_cons, List.not_mem_nil, or_false] at hi
      have := hM3.bg
      rcases hi with rfl | rfl | rfl <;> omega
    have awH : Away [b, id, id1] (fun x => x = h) := away_of fun i hi hS => by
      simp only [List.mem_cons, List.not_mem_nil, or_false] at hi
      have := hM3.bh
      rcases hi with rfl | rfl | rfl <;> omega
    refine ⟨fun a1 n1 c1 r1 r2 x w5 => (C = a1 ∧ n1 = zs.length ∧ cc = c1 ∧ r1 = some g ∧ r2 = some h ∧ x = s1.parts) ∧ (decide (hangs a x0 ≤ zs[j]) && fitsB s1 j a x0) = true ∧ LMem w5 b g h zs C cc s1.ks s1.ts ∧ Upd w w5 (S3 b g h), ki fun ad2 ha2 w14 hU14 hi14 => ?_, ?_⟩
    · have hE14 : Ext w3 w14 := hE4.trans hU14
      have hU014 := hU3.t3 (ext_s3 hE14)
      refine kz hU014 ha2 fun A1 l1 c1 q1 => (hM3.ext hE14).hc.idx hj fun ad3 ha3 => (hM3.ext hE14).hc.cell ha3 hj ?_
      refine callIX (phangs_c _ x0 (Nat.le_refl _) a q1) fun w5 hE5 => ⟨fun eh => ⟨fun ei hh5 => ?_, fun ei => ki fun ad4 ha4 => kz (hU014.t3 (ext_s3 hE5)) ha4 fun A2 l2 c2 q2 => ?_⟩, fun eh hh5 => ?_⟩
      · refine callM (st := s1) (t := true) ⟨hh5, hM3.ext (hE14.trans hE5)⟩ (hU014.t3 (ext_s3 hE5)) aw2 (fun e => by cases e) fun w6 ht hM6 hU6 => ⟨⟨rfl, rfl, rfl, rfl, rfl, rfl⟩, ?_, hM6, (hU014.t3 (ext_s3 hE5)).t3 hU6⟩
        rcases hent with ⟨hent, rfl⟩ | ⟨y0, hent, rfl, _⟩
        · rw [eh]; simp only [fitsB, hjt, hent, Bool.and_self]
        · cases ei
      · rcases hent with ⟨_, rfl⟩ | ⟨y0, hent, rfl, rfl, rfl, rfl, hy0⟩
        · cases ei
        have hy14 : NdsR w14 (Fw b g h) y0.kids xa xl xc := hy0.ext hE14
        refine callBX (psame_c _ y0 x0 (Nat.le_refl _) (hy14.ext hE5) q2) fun w6 hE6 => ⟨fun es => ⟨_, lookD (hM3.ext ((hE14.trans hE5).trans hE6)) hj hent, fun ed hh6 => ?_, fun ed => ?_⟩, fun es hh6 => ?_⟩
        · refine callM (st := s1) (t := true) ⟨hh6, hM3.ext ((hE14.trans hE5).trans hE6)⟩ (hU014.t3 (ext_s3 (hE5.trans hE6))) aw2 (fun e => by cases e) fun w7 ht hM7 hU7 => ⟨⟨rfl, rfl, rfl, rfl, rfl, rfl⟩, ?_, hM7, (hU014.t3 (ext_s3 (hE5.trans hE6))).t3 hU7⟩
          rw [eh]; simp only [fitsB, hjt, hent, es, ed, Bool.true_or, Bool.and_self]
        · refine callBX (rounds_c _ y0 (Nat.le_refl _) ((hy14.ext hE5).ext hE6)) fun w7 hE7 hh7 => ?_
          refine callM (st := s1) (t := !roundsN y0) ⟨hh7, hM3.ext (((hE14.trans hE5).trans hE6).trans hE7)⟩ (hU014.t3 (ext_s3 ((hE5.trans hE6).trans hE7))) aw2 (fun e => ?_) fun w8 ht hM8 hU8 => ⟨⟨rfl, rfl, rfl, rfl, rfl, rfl⟩, ?_, hM8, (hU014.t3 (ext_s3 ((hE5.trans hE6).trans hE7))).t3 hU8⟩
          · rw [← hres, eh]; simp only [fitsB, hjt, hent, es, ed, e, Bool.or_self, Bool.and_false, Bool.false_eq_true, if_false]
          · rw [eh]; simp only [fitsB, hjt, hent, es, ed, ht, Bool.or_true, Bool.and_self]
        · refine callM (st := s1) (t := false) ⟨hh6, hM3.ext ((hE14.trans hE5).trans hE6)⟩ (hU014.t3 (ext_s3 (hE5.trans hE6))) aw2 (fun e => ?_) fun w7 ht _ _ => by cases ht
          rw [← hres, eh]; simp only [fitsB, hjt, hent, es, Bool.false_and, Bool.and_false, Bool.false_eq_true, if_false]
      · refine callM (st := s1) (t := false) ⟨hh5, hM3.ext (hE14.trans hE5)⟩ (hU014.t3 (ext_s3 hE5)) aw2 (fun e => ?_) fun w7 ht _ _ => by cases ht
        rw [← hres, eh]; simp only [Bool.false_and, Bool.false_eq_true, if_false]
    · rintro _ _ _ _ _ _ _ w5 ⟨⟨rfl, rfl, rfl, rfl, rfl, rfl⟩, hfit, hM5, hU5⟩
      rw [if_pos hfit] at hres
      have hs5 := hU5.size
      have fin : ∀ {w6 w7 w8 w9 w10 : World} {fk fd : Int → Option Value} {A1 : Option Addr} {l1 c1 : Nat}, Ext w5 w6 → (∀ (i : Nat) (y : Option Nd), s1.ks[i]? = some y → KidV w6 (Fw b g h) y (fk i)) → (∀ (i : Nat) (y : Nd), s1.ks[i]? = some (some y) → fd i = some (.int .i64 (s1.ts.getD i 0))) →
          Upd w6 w7 (fun x => x = g) → MapG w8 g (fun k' => if k' = (j : Int) then some (ndA x0 A1 l1 c1) else fk k') → NdsR w8 (Fw b g h) x0.kids A1 l1 c1 → Upd w7 w8 (fun x => x = g) → Upd w8 w9 (fun x => x = h) → MapG w10 h (fun k' => if k' = (j : Int) then some (.int .i64 a) else fd k') → Upd w9 w10 (fun x => x = h) →
          w10.heap[b]? = some (.cells (lcells zs C cc g h s1) 103 (0, 0)) → LR b g h zs C cc w res (.int .i64 y) w10 := fun hE6 hfk hfd u67 hG8 q8 u78 u89 hG10 u910 hh10 => by
        refine ⟨(y, (cellOut (y, s1) j a x0).2), by rw [← hres]; rfl, rfl, ⟨hh10, ?_⟩, ((((hU5.t3 (ext_s3 hE6)).t3 (upd_g u67)).t3 (upd_g u78)).t3 (upd_h u89)).t3 (upd_h u910)⟩
        have := LMem.stored (m := hM5.ext hE6) hj hfk hfd hG8 q8 (u67.trans u78) hG10 (u89.trans u910)
        simp only [cellOut, hjt]
        exact this
      refine ki fun ad5 ha5 => ⟨fun w6 hE6 => kz (hU5.t3 (ext_s3 hE6)) ha5 fun A1 l1 c1 q1 => ?_, fun w6 hE6 => ?_⟩
      all_goals
        have hM6 := hM5.ext hE6
        obtain ⟨fk, hGk, hfk⟩ := hM6.hk
        obtain ⟨fd, hGd, hfd⟩ := hM6.ht
        have hgh := hM6.gh
        have hs6 := hE6.size
        refine ⟨_, hGk.entry mapK (j : Int), ?_⟩
        rintro _ w7 ⟨u, st7, rfl, hE7, u67, z7⟩
        refine ⟨u, _, rfl, _, u67, awG, ?_⟩
      · refine ⟨_, hE7.store (ndA x0 A1 l1 c1), ?_⟩
        rintro w8 ⟨hG8, u78, z8⟩
        refine ⟨_, u78, awG, _, ((hGd.upd u67 (fun e => hgh e.symm)).upd u78 (fun e => hgh e.symm)).entry mapD (j : Int), ?_⟩
        rintro _ w9 ⟨u9, st9, rfl, hE9, u89, z9⟩
        refine ⟨u9, _, rfl, _, u89, awH, _, hE9.store (.int .i64 a), ?_⟩
        rintro w10 ⟨hG10, u910, z10⟩
        have hF : ∀ y, Fw b g h y → ¬ (y = g) := fun y hy e => hy (.inr (.inl e))
        exact ⟨_, u910, awH, fun hh10 => fin hE6 hfk hfd u67 hG8 ((q1.upd u67 hF).upd u78 hF) u78 u89 hG10 u910 hh10⟩
      · refine kz ((hU5.t3 (ext_s3 hE6)).t3 (upd_g u67)) ha5 fun A1 l1 c1 q1 => ⟨_, hE7.store (ndA x0 A1 l1 c1), ?_⟩
        rintro w8 ⟨hG8, u78, z8⟩
        refine ⟨_, u78, awG, _, ((hGd.upd u67 (fun e => hgh e.symm)).upd u78 (fun e => hgh e.symm)).entry mapD (j : Int), ?_⟩
        rintro _ w9 ⟨u9, st9, rfl, hE9, u89, z9⟩
        refine ⟨u9, _, rfl, _, u89, awH, _, hE9.store (.int .i64 a), ?_⟩
        rintro w10 ⟨hG10, u910, z10⟩
        have hF : ∀ y, Fw b g h y → ¬ (y = g) := fun y hy e => hy (.inr (.inl e))
        exact ⟨_, u910, awH, fun hh10 => fin hE6 hfk hfd u67 hG8 (q1.upd u78 hF) u78 u89 hG10 u910 hh10⟩
  · obtain ⟨xk, xn, xs, xa, xl, xc, xi, hlook, hent⟩ := lookE hM3 hE4 hj
    have hs4 := hE4.size
    refine ⟨xk, xn, xs, xa, xl, xc, xi, hlook, ?_⟩
    have aw2 : Away [id, id2] (S3 b g h) := away_s3 hb hg hh (by simp; omega)
    have awG : Away [b, id, id2] (fun x => x = g) := away_of fun i hi hS => by
      simp only [List.mem_cons, List.not_mem_nil, or_false] at hi
      have := hM3.bg
      rcases hi with rfl | rfl | rfl <;> omega
    have awH : Away [b, id, id2] (fun x => x = h) := away_of fun i hi hS => by
      simp only [List.mem_cons, List.not_mem_nil, or_false] at hi
      have := hM3.bh
      rcases hi with rfl | rfl | rfl <;> omega
    refine ⟨fun a1 n1 c1 r1 r2 x w5 => (C = a1 ∧ n1 = zs.length ∧ cc = c1 ∧ r1 = some g ∧ r2 = some h ∧ x = s1.parts) ∧ (decide (hangs a x0 ≤ zs[j]) && fitsB s1 j a x0) = true ∧ LMem w5 b g h zs C cc s1.ks s1.ts ∧ Upd w w5 (S3 b g h), ki fun ad2 ha2 w14 hU14 => ?_, ?_⟩
    · have hE14 : Ext w3 w14 := hE4.step hU14 (fun x hx => by simp only [setOf, no, or_false] at hx; omega)
      have hU014 := hU3.t3 (ext_s3 hE14)
      refine kz hU014 ha2 fun A1 l1 c1 q1 => (hM3.ext hE14).hc.idx hj fun ad3 ha3 => (hM3.ext hE14).hc.cell ha3 hj ?_
      refine callIX (phangs_c _ x0 (Nat.le_refl _) a q1) fun w5 hE5 => ⟨fun eh => ⟨fun ei hh5 => ?_, fun ei => ki fun ad4 ha4 => kz (hU014.t3 (ext_s3 hE5)) ha4 fun A2 l2 c2 q2 => ?_⟩, fun eh hh5 => ?_⟩
      · refine callM (st := s1) (t := true) ⟨hh5, hM3.ext (hE14.trans hE5)⟩ (hU014.t3 (ext_s3 hE5)) aw2 (fun e => by cases e) fun w6 ht hM6 hU6 => ⟨⟨rfl, rfl, rfl, rfl, rfl, rfl⟩, ?_, hM6, (hU014.t3 (ext_s3 hE5)).t3 hU6⟩
        rcases hent with ⟨hent, rfl⟩ | ⟨y0, hent, rfl, _⟩
        · rw [eh]; simp only [fitsB, hjt, hent, Bool.and_self]
        · cases ei
      · rcases hent with ⟨_, rfl⟩ | ⟨y0, hent, rfl, rfl, rfl, rfl, hy0⟩
        · cases ei
        have hy14 : NdsR w14 (Fw b g h) y0.kids xa xl xc := hy0.ext hE14
        refine callBX (psame_c _ y0 x0 (Nat.le_refl _) (hy14.ext hE5) q2) fun w6 hE6 => ⟨fun es => ⟨_, lookD (hM3.ext ((hE14.trans hE5).trans hE6)) hj hent, fun ed hh6 => ?_, fun ed => ?_⟩, fun es hh6 => ?_⟩
        · refine callM (st := s1) (t := true) ⟨hh6, hM3.ext ((hE14.trans hE5).trans hE6)⟩ (hU014.t3 (ext_s3 (hE5.trans hE6))) aw2 (fun e => by cases e) fun w7 ht hM7 hU7 => ⟨⟨rfl, rfl, rfl, rfl, rfl, rfl⟩, ?_, hM7, (hU014.t3 (ext_s3 (hE5.trans hE6))).t3 hU7⟩
          rw [eh]; simp only [fitsB, hjt, hent, es, ed, Bool.true_or, Bool.and_self]
        · refine callBX (rounds_c _ y0 (Nat.le_refl _) ((hy14.ext hE5).ext hE6)) fun w7 hE7 hh7 => ?_
          refine callM (st := s1) (t := !roundsN y0) ⟨hh7, hM3.ext (((hE14.trans hE5).trans hE6).trans hE7)⟩ (hU014.t3 (ext_s3 ((hE5.trans hE6).trans hE7))) aw2 (fun e => ?_) fun w8 ht hM8 hU8 => ⟨⟨rfl, rfl, rfl, rfl, rfl, rfl⟩, ?_, hM8, (hU014.t3 (ext_s3 ((hE5.trans hE6).trans hE7))).t3 hU8⟩
          · rw [← hres, eh]; simp only [fitsB, hjt, hent, es, ed, e, Bool.or_self, Bool.and_false, Bool.false_eq_true, if_false]
          · rw [eh]; simp only [fitsB, hjt, hent, es, ed, ht, Bool.or_true, Bool.and_self]
        · refine callM (st := s1) (t := false) ⟨hh6, hM3.ext ((hE14.trans hE5).trans hE6)⟩ (hU014.t3 (ext_s3 (hE5.trans hE6))) aw2 (fun e => ?_) fun w7 ht _ _ => by cases ht
          rw [← hres, eh]; simp only [fitsB, hjt, hent, es, Bool.false_and, Bool.and_false, Bool.false_eq_true, if_false]
      · refine callM (st := s1) (t := false) ⟨hh5, hM3.ext (hE14.trans hE5)⟩ (hU014.t3 (ext_s3 hE5)) aw2 (fun e => ?_) fun w7 ht _ _ => by cases ht
        rw [← hres, eh]; simp only [Bool.false_and, Bool.false_eq_true, if_false]
    · rintro _ _ _ _ _ _ _ w5 ⟨⟨rfl, rfl, rfl, rfl, rfl, rfl⟩, hfit, hM5, hU5⟩
      rw [if_pos hfit] at hres
      have hs5 := hU5.size
      have fin : ∀ {w6 w7 w8 w9 w10 : World} {fk fd : Int → Option Value} {A1 : Option Addr} {l1 c1 : Nat}, Ext w5 w6 → (∀ (i : Nat) (y : Option Nd), s1.ks[i]? = some y → KidV w6 (Fw b g h) y (fk i)) → (∀ (i : Nat) (y : Nd), s1.ks[i]? = some (some y) → fd i = some (.int .i64 (s1.ts.getD i 0))) →
          Upd w6 w7 (fun x => x = g) → MapG w8 g (fun k' => if k' = (j : Int) then some (ndA x0 A1 l1 c1) else fk k') → NdsR w8 (Fw b g h) x0.kids A1 l1 c1 → Upd w7 w8 (fun x => x = g) → Upd w8 w9 (fun x => x = h) → MapG w10 h (fun k' => if k' = (j : Int) then some (.int .i64 a) else fd k') → Upd w9 w10 (fun x => x = h) →
          w10.heap[b]? = some (.cells (lcells zs C cc g h s1) 103 (0, 0)) → LR b g h zs C cc w res (.int .i64 y) w10 := fun hE6 hfk hfd u67 hG8 q8 u78 u89 hG10 u910 hh10 => by
        refine ⟨(y, (cellOut (y, s1) j a x0).2), by rw [← hres]; rfl, rfl, ⟨hh10, ?_⟩, ((((hU5.t3 (ext_s3 hE6)).t3 (upd_g u67)).t3 (upd_g u78)).t3 (upd_h u89)).t3 (upd_h u910)⟩
        have := LMem.stored (m := hM5.ext hE6) hj hfk hfd hG8 q8 (u67.trans u78) hG10 (u89.trans u910)
        simp only [cellOut, hjt]
        exact this
      refine ki fun ad5 ha5 => ⟨fun w6 hE6 => kz (hU5.t3 (ext_s3 hE6)) ha5 fun A1 l1 c1 q1 => ?_, fun w6 hE6 => ?_⟩
      all_goals
        have hM6 := hM5.ext hE6
        obtain ⟨fk, hGk, hfk⟩ := hM6.hk
        obtain ⟨fd, hGd, hfd⟩ := hM6.ht
        have hgh := hM6.gh
        have hs6 := hE6.size
        refine ⟨_, hGk.entry mapK (j : Int), ?_⟩
        rintro _ w7 ⟨u, st7, rfl, hE7, u67, z7⟩
        refine ⟨u, _, rfl, _, u67, awG, ?_⟩
      · refine ⟨_, hE7.store (ndA x0 A1 l1 c1), ?_⟩
        rintro w8 ⟨hG8, u78, z8⟩
        refine ⟨_, u78, awG, _, ((hGd.upd u67 (fun e => hgh e.symm)).upd u78 (fun e => hgh e.symm)).entry mapD (j : Int), ?_⟩
        rintro _ w9 ⟨u9, st9, rfl, hE9, u89, z9⟩
        refine ⟨u9, _, rfl, _, u89, awH, _, hE9.store (.int .i64 a), ?_⟩
        rintro w10 ⟨hG10, u910, z10⟩
        have hF : ∀ y, Fw b g h y → ¬ (y = g) := fun y hy e => hy (.inr (.inl e))
        exact ⟨_, u910, awH, fun hh10 => fin hE6 hfk hfd u67 hG8 ((q1.upd u67 hF).upd u78 hF) u78 u89 hG10 u910 hh10⟩
      · refine kz ((hU5.t3 (ext_s3 hE6)).t3 (upd_g u67)) ha5 fun A1 l1 c1 q1 => ⟨_, hE7.store (ndA x0 A1 l1 c1), ?_⟩
        rintro w8 ⟨hG8, u78, z8⟩
        refine ⟨_, u78, awG, _, ((hGd.upd u67 (fun e => hgh e.symm)).upd u78 (fun e => hgh e.symm)).entry mapD (j : Int), ?_⟩
        rintro _ w9 ⟨u9, st9, rfl, hE9, u89, z9⟩
        refine ⟨u9, _, rfl, _, u89, awH, _, hE9.store (.int .i64 a), ?_⟩
        rintro w10 ⟨hG10, u910, z10⟩
        have hF : ∀ y, Fw b g h y → ¬ (y = g) := fun y hy e => hy (.inr (.inl e))
        exact ⟨_, u910, awH, fun hh10 => fin hE6 hfk hfd u67 hG8 (q1.upd u78 hF) u78 u89 hG10 u910 hh10⟩
end
section
open Go Go.Vx Go.Proofs
variable {b g h : Nat} {zs : List Int} {C : Option Addr} {cc : Nat}
theorem plain127_c {kf : Int → Int → WS → Nd → Option (Int × WS)} {k v : Int} {s : ByteArray} {kids : List Nd} (hk : ∀ j (_ : j < kids.length), KL b g h zs C cc kf kids[j])
    {w : World} {A : Option Addr} {l c : Nat} (kn of gives a q : Int) (st : WS) (hw : Lst w b g h zs C cc st) (hr : NdsR w (Fw b g h) kids A l c) :
    CallsX E.P 111 #[.agg #[.int .i64 kn, .int .i64 of, .int .i64 gives, .func (.func 127) #[] #[]], .pointer (some ⟨b, 0, none⟩), ndA (.mk k v s kids) A l c, .int .i64 a, .int .i64 q] w
      (LR b g h zs C cc w (plainL (kf a q) kn of gives (testB 127 v a) st s kids)) (LX b g h w (plainL (kf a q) kn of gives (testB 127 v a) st s kids)) := by
  obtain ⟨hb, hg, hh⟩ := hw.lt
  have hl := hr.lt
  have hlen := hr.len
  dsimp only [ndA, Nd.k, Nd.n, Nd.s, Nd.kids]
  refine vc111_127 hw.1 ?_
  intro id hid id1 hid1
  have hi1 : ∀ i ∈ [id, id1], w.heap.size ≤ i := by simp; omega
  have aw : Away [id, id1] (S3 b g h) := away_s3 hb hg hh hi1
  have hz : ((l : Int) == kn) = ((kids.length : Int) == kn) := by rw [hlen]
  generalize hres : plainL (kf a q) kn of gives (testB 127 v a) st s kids = res
  rw [plainL, ← hz] at hres
  refine ⟨fun a1 n1 c1 r1 r2 x w2 => (C = a1 ∧ n1 = zs.length ∧ cc = c1 ∧ r1 = some g ∧ r2 = some h ∧ x = st.parts) ∧ ((l : Int) == kn && strEq s (ByteArray.mk #[]) && testB 127 v a) = true ∧ LMem w2 b g h zs C cc st.ks st.ts ∧ Upd w w2 (S3 b g h), ⟨fun e1 => ⟨fun e2 w1 hE1 _ _ => ?_, fun e2 w1 hE1 _ _ hh1 => ?_⟩, fun e1 w1 hE1 _ _ hh1 => ?_⟩, ?_⟩
  · refine callB (test_c 127 (by decide) v a) fun w2 hE2 hh2 => ?_
    have hE02 : Ext w w2 := Ext.trans hE1 hE2
    refine callM (st := st) (t := testB 127 v a) ⟨hh2, hw.2.ext hE02⟩ (ext_s3 hE02) aw (fun e => by rw [← hres, e1, e2, e]; rfl) fun w3 ht hM3 hU3 => ⟨⟨rfl, rfl, rfl, rfl, rfl, rfl⟩, by rw [e1, e2, ht]; rfl, hM3, (ext_s3 hE02).t3 hU3⟩
  · exact callM (st := st) (t := false) ⟨hh1, hw.2.ext hE1⟩ (ext_s3 hE1) aw (fun e => by rw [← hres, e1, e2]; rfl) fun w2 ht _ _ => by cases ht
  · exact callM (st := st) (t := false) ⟨hh1, hw.2.ext hE1⟩ (ext_s3 hE1) aw (fun e => by rw [← hres, e1]; rfl) fun w2 ht _ _ => by cases ht
  rintro _ _ _ _ _ _ _ w2 ⟨⟨rfl, rfl, rfl, rfl, rfl, rfl⟩, hc, hM2, hU2⟩
  rw [if_pos hc] at hres
  exact loopK (s0 := st) [id, id1] hk hr hl ⟨hb, hg, hh⟩ hi1 hU2 hM2 (fun e => by rw [← hres, e]; rfl) fun s1 w5 he hM5 hU5 hh5 => ⟨(gives, s1), by rw [← hres, he]; rfl, rfl, ⟨hh5, hM5⟩, hU5⟩
theorem plain128_c {kf : Int → Int → WS → Nd → Option (Int × WS)} {k v : Int} {s : ByteArray} {kids : List Nd} (hk : ∀ j (_ : j < kids.length), KL b g h zs C cc kf kids[j])
    {w : World} {A : Option Addr} {l c : Nat} (kn of gives a q : Int) (st : WS) (hw : Lst w b g h zs C cc st) (hr : NdsR w (Fw b g h) kids A l c) :
    CallsX E.P 111 #[.agg #[.int .i64 kn, .int .i64 of, .int .i64 gives, .func (.func 128) #[] #[]], .pointer (some ⟨b, 0, none⟩), ndA (.mk k v s kids) A l c, .int .i64 a, .int .i64 q] w
      (LR b g h zs C cc w (plainL (kf a q) kn of gives (testB 128 v a) st s kids)) (LX b g h w (plainL (kf a q) kn of gives (testB 128 v a) st s kids)) := by
  obtain ⟨hb, hg, hh⟩ := hw.lt
  have hl := hr.lt
  have hlen := hr.len
  dsimp only [ndA, Nd.k, Nd.n, Nd.s, Nd.kids]
  refine vc111_128 hw.1 ?_
  intro id hid id1 hid1
  have hi1 : ∀ i ∈ [id, id1], w.heap.size ≤ i := by simp; omega
  have aw : Away [id, id1] (S3 b g h) := away_s3 hb hg hh hi1
  have hz : ((l : Int) == kn) = ((kids.length : Int) == kn) := by rw [hlen]
  generalize hres : plainL (kf a q) kn of gives (testB 128 v a) st s kids = res
  rw [plainL, ← hz] at hres
  refine ⟨fun a1 n1 c1 r1 r2 x w2 => (C = a1 ∧ n1 = zs.length ∧ cc = c1 ∧ r1 = some g ∧ r2 = some h ∧ x = st.parts) ∧ ((l : Int) == kn && strEq s (ByteArray.mk #[]) && testB 128 v a) = true ∧ LMem w2 b g h zs C cc st.ks st.ts ∧ Upd w w2 (S3 b g h), ⟨fun e1 => ⟨fun e2 w1 hE1 _ _ => ?_, fun e2 w1 hE1 _ _ hh1 => ?_⟩, fun e1 w1 hE1 _ _ hh1 => ?_⟩, ?_⟩
  · refine callB (test_c 128 (by decide) v a) fun w2 hE2 hh2 => ?_
    have hE02 : Ext w w2 := Ext.trans hE1 hE2
    refine callM (st := st) (t := testB 128 v a) ⟨hh2, hw.2.ext hE02⟩ (ext_s3 hE02) aw (fun e => by rw [← hres, e1, e2, e]; rfl) fun w3 ht hM3 hU3 => ⟨⟨rfl, rfl, rfl, rfl, rfl, rfl⟩, by rw [e1, e2, ht]; rfl, hM3, (ext_s3 hE02).t3 hU3⟩
  · exact callM (st := st) (t := false) ⟨hh1, hw.2.ext hE1⟩ (ext_s3 hE1) aw (fun e => by rw [← hres, e1, e2]; rfl) fun w2 ht _ _ => by cases ht
  · exact callM (st := st) (t := false) ⟨hh1, hw.2.ext hE1⟩ (ext_s3 hE1) aw (fun e => by rw [← hres, e1]; rfl) fun w2 ht _ _ => by cases ht
  rintro _ _ _ _ _ _ _ w2 ⟨⟨rfl, rfl, rfl, rfl, rfl, rfl⟩, hc, hM2, hU2⟩
  rw [if_pos hc] at hres
  exact loopK (s0 := st) [id, id1] hk hr hl ⟨hb, hg, hh⟩ hi1 hU2 hM2 (fun e => by rw [← hres, e]; rfl) fun s1 w5 he hM5 hU5 hh5 => ⟨(gives, s1), by rw [← hres, he]; rfl, rfl, ⟨hh5, hM5⟩, hU5⟩
theorem plain129_c {kf : Int → Int → WS → Nd → Option (Int × WS)} {k v : Int} {s : ByteArray} {kids : List Nd} (hk : ∀ j (_ : j < kids.length), KL b g h zs C cc kf kids[j])
    {w : World} {A : Option Addr} {l c : Nat} (kn of gives a q : Int) (st : WS) (hw : Lst w b g h zs C cc st) (hr : NdsR w (Fw b g h) kids A l c) :
    CallsX E.P 111 #[.agg #[.int .i64 kn, .int .i64 of, .int .i64 gives, .func (.func 129) #[] #[]], .pointer (some ⟨b, 0, none⟩), ndA (.mk k v s kids) A l c, .int .i64 a, .int .i64 q] w
      (LR b g h zs C cc w (plainL (kf a q) kn of gives (testB 129 v a) st s kids)) (LX b g h w (plainL (kf a q) kn of gives (testB 129 v a) st s kids)) := by
  obtain ⟨hb, hg, hh⟩ := hw.lt
  have hl := hr.lt
  have hlen := hr.len
  dsimp only [ndA, Nd.k, Nd.n, Nd.s, Nd.kids]
  refine vc111_129 hw.1 ?_
  intro id hid id1 hid1
  have hi1 : ∀ i ∈ [id, id1], w.heap.size ≤ i := by simp; omega
  have aw : Away [id, id1] (S3 b g h) := away_s3 hb hg hh hi1
  have hz : ((l : Int) == kn) = ((kids.length : Int) == kn) := by rw [hlen]
  generalize hres : plainL (kf a q) kn of gives (testB 129 v a) st s kids = res
  rw [plainL, ← hz] at hres
  refine ⟨fun a1 n1 c1 r1 r2 x w2 => (C = a1 ∧ n1 = zs.length ∧ cc = c1 ∧ r1 = some g ∧ r2 = some h ∧ x = st.parts) ∧ ((l : Int) == kn && strEq s (ByteArray.mk #[]) && testB 129 v a) = true ∧ LMem w2 b g h zs C cc st.ks st.ts ∧ Upd w w2 (S3 b g h), ⟨fun e1 => ⟨fun e2 w1 hE1 _ _ => ?_, fun e2 w1 hE1 _ _ hh1 => ?_⟩, fun e1 w1 hE1 _ _ hh1 => ?_⟩, ?_⟩
  · refine callB (test_c 129 (by decide) v a) fun w2 hE2 hh2 => ?_
    have hE02 : Ext w w2 := Ext.trans hE1 hE2
    refine callM (st := st) (t := testB 129 v a) ⟨hh2, hw.2.ext hE02⟩ (ext_s3 hE02) aw (fun e => by rw [← hres, e1, e2, e]; rfl) fun w3 ht hM3 hU3 => ⟨⟨rfl, rfl, rfl, rfl, rfl, rfl⟩, by rw [e1, e2, ht]; rfl, hM3, (ext_s3 hE02).t3 hU3⟩
  · exact callM (st := st) (t := false) ⟨hh1, hw.2.ext hE1⟩ (ext_s3 hE1) aw (fun e => by rw [← hres, e1, e2]; rfl) fun w2 ht _ _ => by cases ht
  · exact callM (st := st) (t := false) ⟨hh1, hw.2.ext hE1⟩ (ext_s3 hE1) aw (fun e => by rw [← hres, e1]; rfl) fun w2 ht _ _ => by cases ht
  rintro _ _ _ _ _ _ _ w2 ⟨⟨rfl, rfl, rfl, rfl, rfl, rfl⟩, hc, hM2, hU2⟩
  rw [if_pos hc] at hres
  exact loopK (s0 := st) [id, id1] hk hr hl ⟨hb, hg, hh⟩ hi1 hU2 hM2 (fun e => by rw [← hres, e]; rfl) fun s1 w5 he hM5 hU5 hh5 => ⟨(gives, s1), by rw [← hres, he]; rfl, rfl, ⟨hh5, hM5⟩, hU5⟩
theorem plain130_c {kf : Int → Int → WS → Nd → Option (Int × WS)} {k v : Int} {s : ByteArray} {kids : List Nd} (hk : ∀ j (_ : j < kids.length), KL b g h zs C cc kf kids[j])
    {w : World} {A : Option Addr} {l c : Nat} (kn of gives a q : Int) (st : WS) (hw : Lst w b g h zs C cc st) (hr : NdsR w (Fw b g h) kids A l c) {ab : Nat} (hab : w.heap[ab]? = some (.cells #[.int .i64 a] 3 (0, 0))) :
    CallsX E.P 111 #[.agg #[.int .i64 kn, .int .i64 of, .int .i64 gives, .func (.func 130) #[] #[.pointer (some ⟨ab, 0, none⟩)]], .pointer (some ⟨b, 0, none⟩), ndA (.mk k v s kids) A l c, .int .i64 a, .int .i64 q] w
      (LR b g h zs C cc w (plainL (kf a q) kn of gives (testB 130 v a) st s kids)) (LX b g h w (plainL (kf a q) kn of gives (testB 130 v a) st s kids)) := by
  obtain ⟨hb, hg, hh⟩ := hw.lt
  have hl := hr.lt
  have hlen := hr.len
  dsimp only [ndA, Nd.k, Nd.n, Nd.s, Nd.kids]
  refine vc111_130 hw.1 ?_
  intro id hid id1 hid1
  have hi1 : ∀ i ∈ [id, id1], w.heap.size ≤ i := by simp; omega
  have aw : Away [id, id1] (S3 b g h) := away_s3 hb hg hh hi1
  have hz : ((l : Int) == kn) = ((kids.length : Int) == kn) := by rw [hlen]
  generalize hres : plainL (kf a q) kn of gives (testB 130 v a) st s kids = res
  rw [plainL, ← hz] at hres
  refine ⟨fun a1 n1 c1 r1 r2 x w2 => (C = a1 ∧ n1 = zs.length ∧ cc = c1 ∧ r1 = some g ∧ r2 = some h ∧ x = st.parts) ∧ ((l : Int) == kn && strEq s (ByteArray.mk #[]) && testB 130 v a) = true ∧ LMem w2 b g h zs C cc st.ks st.ts ∧ Upd w w2 (S3 b g h), ⟨fun e1 => ⟨fun e2 w1 hE1 _ _ => ?_, fun e2 w1 hE1 _ _ hh1 => ?_⟩, fun e1 w1 hE1 _ _ hh1 => ?_⟩, ?_⟩
  · refine callB (around_c v a (by rw [Upd.keep hE1 ab (lt_of_get hab) (fun h => h)]; exact hab)) fun w2 hE2 hh2 => ?_
    have hE02 : Ext w w2 := Ext.trans hE1 hE2
    refine callM (st := st) (t := testB 130 v a) ⟨hh2, hw.2.ext hE02⟩ (ext_s3 hE02) aw (fun e => by rw [← hres, e1, e2, e]; rfl) fun w3 ht hM3 hU3 => ⟨⟨rfl, rfl, rfl, rfl, rfl, rfl⟩, by rw [e1, e2, ht]; rfl, hM3, (ext_s3 hE02).t3 hU3⟩
  · exact callM (st := st) (t := false) ⟨hh1, hw.2.ext hE1⟩ (ext_s3 hE1) aw (fun e => by rw [← hres, e1, e2]; rfl) fun w2 ht _ _ => by cases ht
  · exact callM (st := st) (t := false) ⟨hh1, hw.2.ext hE1⟩ (ext_s3 hE1) aw (fun e => by rw [← hres, e1]; rfl) fun w2 ht _ _ => by cases ht
  rintro _ _ _ _ _ _ _ w2 ⟨⟨rfl, rfl, rfl, rfl, rfl, rfl⟩, hc, hM2, hU2⟩
  rw [if_pos hc] at hres
  exact loopK (s0 := st) [id, id1] hk hr hl ⟨hb, hg, hh⟩ hi1 hU2 hM2 (fun e => by rw [← hres, e]; rfl) fun s1 w5 he hM5 hU5 hh5 => ⟨(gives, s1), by rw [← hres, he]; rfl, rfl, ⟨hh5, hM5⟩, hU5⟩
theorem plain131_c {kf : Int → Int → WS → Nd → Option (Int × WS)} {k v : Int} {s : ByteArray} {kids : List Nd} (hk : ∀ j (_ : j < kids.length), KL b g h zs C cc kf kids[j])
    {w : World} {A : Option Addr} {l c : Nat} (kn of gives a q : Int) (st : WS) (hw : Lst w b g h zs C cc st) (hr : NdsR w (Fw b g h) kids A l c) :
    CallsX E.P 111 #[.agg #[.int .i64 kn, .int .i64 of, .int .i64 gives, .func (.func 131) #[] #[]], .pointer (some ⟨b, 0, none⟩), ndA (.mk k v s kids) A l c, .int .i64 a, .int .i64 q] w
      (LR b g h zs C cc w (plainL (kf a q) kn of gives (testB 131 v a) st s kids)) (LX b g h w (plainL (kf a q) kn of gives (testB 131 v a) st s kids)) := by
  obtain ⟨hb, hg, hh⟩ := hw.lt
  have hl := hr.lt
  have hlen := hr.len
  dsimp only [ndA, Nd.k, Nd.n, Nd.s, Nd.kids]
  refine vc111_131 hw.1 ?_
  intro id hid id1 hid1
  have hi1 : ∀ i ∈ [id, id1], w.heap.size ≤ i := by simp; omega
  have aw : Away [id, id1] (S3 b g h) := away_s3 hb hg hh hi1
  have hz : ((l : Int) == kn) = ((kids.length : Int) == kn) := by rw [hlen]
  generalize hres : plainL (kf a q) kn of gives (testB 131 v a) st s kids = res
  rw [plainL, ← hz] at hres
  refine ⟨fun a1 n1 c1 r1 r2 x w2 => (C = a1 ∧ n1 = zs.length ∧ cc = c1 ∧ r1 = some g ∧ r2 = some h ∧ x = st.parts) ∧ ((l : Int) == kn && strEq s (ByteArray.mk #[]) && testB 131 v a) = true ∧ LMem w2 b g h zs C cc st.ks st.ts ∧ Upd w w2 (S3 b g h), ⟨fun e1 => ⟨fun e2 w1 hE1 _ _ => ?_, fun e2 w1 hE1 _ _ hh1 => ?_⟩, fun e1 w1 hE1 _ _ hh1 => ?_⟩, ?_⟩
  · refine callB (test_c 131 (by decide) v a) fun w2 hE2 hh2 => ?_
    have hE02 : Ext w w2 := Ext.trans hE1 hE2
    refine callM (st := st) (t := testB 131 v a) ⟨hh2, hw.2.ext hE02⟩ (ext_s3 hE02) aw (fun e => by rw [← hres, e1, e2, e]; rfl) fun w3 ht hM3 hU3 => ⟨⟨rfl, rfl, rfl, rfl, rfl, rfl⟩, by rw [e1, e2, ht]; rfl, hM3, (ext_s3 hE02).t3 hU3⟩
  · exact callM (st := st) (t := false) ⟨hh1, hw.2.ext hE1⟩ (ext_s3 hE1) aw (fun e => by rw [← hres, e1, e2]; rfl) fun w2 ht _ _ => by cases ht
  · exact callM (st := st) (t := false) ⟨hh1, hw.2.ext hE1⟩ (ext_s3 hE1) aw (fun e => by rw [← hres, e1]; rfl) fun w2 ht _ _ => by cases ht
  rintro _ _ _ _ _ _ _ w2 ⟨⟨rfl, rfl, rfl, rfl, rfl, rfl⟩, hc, hM2, hU2⟩
  rw [if_pos hc] at hres
  exact loopK (s0 := st) [id, id1] hk hr hl ⟨hb, hg, hh⟩ hi1 hU2 hM2 (fun e => by rw [← hres, e]; rfl) fun s1 w5 he hM5 hU5 hh5 => ⟨(gives, s1), by rw [← hres, he]; rfl, rfl, ⟨hh5, hM5⟩, hU5⟩
theorem plain134_c {kf : Int → Int → WS → Nd → Option (Int × WS)} {k v : Int} {s : ByteArray} {kids : List Nd} (hk : ∀ j (_ : j < kids.length), KL b g h zs C cc kf kids[j])
    {w : World} {A : Option Addr} {l c : Nat} (kn of gives a q : Int) (st : WS) (hw : Lst w b g h zs C cc st) (hr : NdsR w (Fw b g h) kids A l c) :
    CallsX E.P 111 #[.agg #[.int .i64 kn, .int .i64 of, .int .i64 gives, .func (.func 134) #[] #[]], .pointer (some ⟨b, 0, none⟩), ndA (.mk k v s kids) A l c, .int .i64 a, .int .i64 q] w
      (LR b g h zs C cc w (plainL (kf a q) kn of gives (testB 134 v a) st s kids)) (LX b g h w (plainL (kf a q) kn of gives (testB 134 v a) st s kids)) := by
  obtain ⟨hb, hg, hh⟩ := hw.lt
  have hl := hr.lt
  have hlen := hr.len
  dsimp only [ndA, Nd.k, Nd.n, Nd.s, Nd.kids]
  refine vc111_134 hw.1 ?_
  intro id hid id1 hid1
  have hi1 : ∀ i ∈ [id, id1], w.heap.size ≤ i := by simp; omega
  have aw : Away [id, id1] (S3 b g h) := away_s3 hb hg hh hi1
  have hz : ((l : Int) == kn) = ((kids.length : Int) == kn) := by rw [hlen]
  generalize hres : plainL (kf a q) kn of gives (testB 134 v a) st s kids = res
  rw [plainL, ← hz] at hres
  refine ⟨fun a1 n1 c1 r1 r2 x w2 => (C = a1 ∧ n1 = zs.length ∧ cc = c1 ∧ r1 = some g ∧ r2 = some h ∧ x = st.parts) ∧ ((l : Int) == kn && strEq s (ByteArray.mk #[]) && testB 134 v a) = true ∧ LMem w2 b g h zs C cc st.ks st.ts ∧ Upd w w2 (S3 b g h), ⟨fun e1 => ⟨fun e2 w1 hE1 _ _ => ?_, fun e2 w1 hE1 _ _ hh1 => ?_⟩, fun e1 w1 hE1 _ _ hh1 => ?_⟩, ?_⟩
  · refine callB (test_c 134 (by decide) v a) fun w2 hE2 hh2 => ?_
    have hE02 : Ext w w2 := Ext.trans hE1 hE2
    refine callM (st := st) (t := testB 134 v a) ⟨hh2, hw.2.ext hE02⟩ (ext_s3 hE02) aw (fun e => by rw [← hres, e1, e2, e]; rfl) fun w3 ht hM3 hU3 => ⟨⟨rfl, rfl, rfl, rfl, rfl, rfl⟩, by rw [e1, e2, ht]; rfl, hM3, (ext_s3 hE02).t3 hU3⟩
  · exact callM (st := st) (t := false) ⟨hh1, hw.2.ext hE1⟩ (ext_s3 hE1) aw (fun e => by rw [← hres, e1, e2]; rfl) fun w2 ht _ _ => by cases ht
  · exact callM (st := st) (t := false) ⟨hh1, hw.2.ext hE1⟩ (ext_s3 hE1) aw (fun e => by rw [← hres, e1]; rfl) fun w2 ht _ _ => by cases ht
  rintro _ _ _ _ _ _ _ w2 ⟨⟨rfl, rfl, rfl, rfl, rfl, rfl⟩, hc, hM2, hU2⟩
  rw [if_pos hc] at hres
  exact loopK (s0 := st) [id, id1] hk hr hl ⟨hb, hg, hh⟩ hi1 hU2 hM2 (fun e => by rw [← hres, e]; rfl) fun s1 w5 he hM5 hU5 hh5 => ⟨(gives, s1), by rw [← hres, he]; rfl, rfl, ⟨hh5, hM5⟩, hU5⟩
theorem other132_c {k v : Int} {s : ByteArray} {kids : List Nd} {r : Option (Int × WS)} {w : World} {A : Option Addr} {l c : Nat} (kn a q : Int) (st : WS) (hw : Lst w b g h zs C cc st) (hr : NdsR w (Fw b g h) kids A l c)
    (hin : ((kids.length : Int) == kn) = true → ∀ w2, Lst w2 b g h zs C cc st → NdsR w2 (Fw b g h) kids A l c →
      CallsX E.P 132 #[.pointer (some ⟨b, 0, none⟩), ndA (.mk k v s kids) A l c, .int .i64 a, .int .i64 q] w2 (LR b g h zs C cc w2 r) (LX b g h w2 r)) :
    CallsX E.P 112 #[.agg #[.int .i64 kn, .func (.func 132) #[] #[]], .pointer (some ⟨b, 0, none⟩), ndA (.mk k v s kids) A l c, .int .i64 a, .int .i64 q] w
      (LR b g h zs C cc w (if (kids.length : Int) == kn && strEq s (ByteArray.mk #[]) then r else none)) (LX b g h w (if (kids.length : Int) == kn && strEq s (ByteArray.mk #[]) then r else none)) := by
  obtain ⟨hb, hg, hh⟩ := hw.lt
  have hlen := hr.len
  dsimp only [ndA, Nd.k, Nd.n, Nd.s, Nd.kids] at *
  refine vc112_132 hw.1 ?_
  intro id hid id1 hid1
  have aw : Away [id, id1] (S3 b g h) := away_s3 hb hg hh (by simp; omega)
  have hz : ((l : Int) == kn) = ((kids.length : Int) == kn) := by rw [hlen]
  generalize hres : (if (kids.length : Int) == kn && strEq s (ByteArray.mk #[]) then r else none) = res
  rw [← hz] at hres
  refine ⟨fun a1 n1 c1 r1 r2 x w2 => (C = a1 ∧ n1 = zs.length ∧ cc = c1 ∧ r1 = some g ∧ r2 = some h ∧ x = st.parts) ∧ ((l : Int) == kn && strEq s (ByteArray.mk #[])) = true ∧ LMem w2 b g h zs C cc st.ks st.ts ∧ Upd w w2 (S3 b g h), ⟨fun e1 w1 hE1 _ _ hh1 => ?_, fun e1 w1 hE1 _ _ hh1 => ?_⟩, ?_⟩
  · refine callM (st := st) (t := strEq s (ByteArray.mk #[])) ⟨hh1, hw.2.ext hE1⟩ (ext_s3 hE1) aw (fun e => by rw [← hres, e1, e]; rfl) fun w3 ht hM3 hU3 => ⟨⟨rfl, rfl, rfl, rfl, rfl, rfl⟩, by rw [e1, ht]; rfl, hM3, (ext_s3 hE1).t3 hU3⟩
  · exact callM (st := st) (t := false) ⟨hh1, hw.2.ext hE1⟩ (ext_s3 hE1) aw (fun e => by rw [← hres, e1]; rfl) fun w2 ht _ _ => by cases ht
  rintro _ _ _ _ _ _ _ w2 ⟨⟨rfl, rfl, rfl, rfl, rfl, rfl⟩, hc, hM2, hU2⟩ hh2
  rw [if_pos hc] at hres
  subst hres
  simp only [Bool.and_eq_true] at hc
  exact callL (hin (by rw [← hz]; exact hc.1) w2 ⟨hh2, hM2⟩ (hr.s3 hU2)) hU2 aw (fun e => e) fun y s1 w4 he hw4 hU4 hh4 => ⟨(y, s1), he, rfl, ⟨hh4, hw4.2⟩, hU2.t3 hU4⟩
theorem other133_c {k v : Int} {s : ByteArray} {kids : List Nd} {r : Option (Int × WS)} {w : World} {A : Option Addr} {l c : Nat} (kn a q : Int) (st : WS) (hw : Lst w b g h zs C cc st) (hr : NdsR w (Fw b g h) kids A l c)
    (hin : ((kids.length : Int) == kn) = true → ∀ w2, Lst w2 b g h zs C cc st → NdsR w2 (Fw b g h) kids A l c →
      CallsX E.P 133 #[.pointer (some ⟨b, 0, none⟩), ndA (.mk k v s kids) A l c, .int .i64 a, .int .i64 q] w2 (LR b g h zs C cc w2 r) (LX b g h w2 r)) :
    CallsX E.P 112 #[.agg #[.int .i64 kn, .func (.func 133) #[] #[]], .pointer (some ⟨b, 0, none⟩), ndA (.mk k v s kids) A l c, .int .i64 a, .int .i64 q] w
      (LR b g h zs C cc w (if (kids.length : Int) == kn && strEq s (ByteArray.mk #[]) then r else none)) (LX b g h w (if (kids.length : Int) == kn && strEq s (ByteArray.mk #[]) then r else none)) := by
  obtain ⟨hb, hg, hh⟩ := hw.lt
  have hlen := hr.len
  dsimp only [ndA, Nd.k, Nd.n, Nd.s, Nd.kids] at *
  refine vc112_133 hw.1 ?_
  intro id hid id1 hid1
  have aw : Away [id, id1] (S3 b g h) := away_s3 hb hg hh (by simp; omega)
  have hz : ((l : Int) == kn) = ((kids.length : Int) == kn) := by rw [hlen]
  generalize hres : (if (kids.length : Int) == kn && strEq s (ByteArray.mk #[]) then r else none) = res
  rw [← hz] at hres
  refine ⟨fun a1 n1 c1 r1 r2 x w2 => (C = a1 ∧ n1 = zs.length ∧ cc = c1 ∧ r1 = some g ∧ r2 = some h ∧ x = st.parts) ∧ ((l : Int) == kn && strEq s (ByteArray.mk #[])) = true ∧ LMem w2 b g h zs C cc st.ks st.ts ∧ Upd w w2 (S3 b g h), ⟨fun e1 w1 hE1 _ _ hh1 => ?_, fun e1 w1 hE1 _ _ hh1 => ?_⟩, ?_⟩
  · refine callM (st := st) (t := strEq s (ByteArray.mk #[])) ⟨hh1, hw.2.ext hE1⟩ (ext_s3 hE1) aw (fun e => by rw [← hres, e1, e]; rfl) fun w3 ht hM3 hU3 => ⟨⟨rfl, rfl, rfl, rfl, rfl, rfl⟩, by rw [e1, ht]; rfl, hM3, (ext_s3 hE1).t3 hU3⟩
  · exact callM (st := st) (t := false) ⟨hh1, hw.2.ext hE1⟩ (ext_s3 hE1) aw (fun e => by rw [← hres, e1]; rfl) fun w2 ht _ _ => by cases ht
  rintro _ _ _ _ _ _ _ w2 ⟨⟨rfl, rfl, rfl, rfl, rfl, rfl⟩, hc, hM2, hU2⟩ hh2
  rw [if_pos hc] at hres
  subst hres
  simp only [Bool.and_eq_true] at hc
  exact callL (hin (by rw [← hz]; exact hc.1) w2 ⟨hh2, hM2⟩ (hr.s3 hU2)) hU2 aw (fun e => e) fun y s1 w4 he hw4 hU4 hh4 => ⟨(y, s1), he, rfl, ⟨hh4, hw4.2⟩, hU2.t3 hU4⟩
theorem other135_c {k v : Int} {s : ByteArray} {kids : List Nd} {r : Option (Int × WS)} {w : World} {A : Option Addr} {l c : Nat} (kn a q : Int) (st : WS) (hw : Lst w b g h zs C cc st) (hr : NdsR w (Fw b g h) kids A l c)
    (hin : ((kids.length : Int) == kn) = true → ∀ w2, Lst w2 b g h zs C cc st → NdsR w2 (Fw b g h) kids A l c →
      CallsX E.P 135 #[.pointer (some ⟨b, 0, none⟩), ndA (.mk k v s kids) A l c, .int .i64 a, .int .i64 q] w2 (LR b g h zs C cc w2 r) (LX b g h w2 r)) :
    CallsX E.P 112 #[.agg #[.int .i64 kn, .func (.func 135) #[] #[]], .pointer (some ⟨b, 0, none⟩), ndA (.mk k v s kids) A l c, .int .i64 a, .int .i64 q] w
      (LR b g h zs C cc w (if (kids.length : Int) == kn && strEq s (ByteArray.mk #[]) then r else none)) (LX b g h w (if (kids.length : Int) == kn && strEq s (ByteArray.mk #[]) then r else none)) := by
  obtain ⟨hb, hg, hh⟩ := hw.lt
  have hlen := hr.len
  dsimp only [ndA, Nd.k, Nd.n, Nd.s, Nd.kids] at *
  refine vc112_135 hw.1 ?_
  intro id hid id1 hid1
  have aw : Away [id, id1] (S3 b g h) := away_s3 hb hg hh (by simp; omega)
  have hz : ((l : Int) == kn) = ((kids.length : Int) == kn) := by rw [hlen]
  generalize hres : (if (kids.length : Int) == kn && strEq s (ByteArray.mk #[]) then r else none) = res
  rw [← hz] at hres
  refine ⟨fun a1 n1 c1 r1 r2 x w2 => (C = a1 ∧ n1 = zs.length ∧ cc = c1 ∧ r1 = some g ∧ r2 = some h ∧ x = st.parts) ∧ ((l : Int) == kn && strEq s (ByteArray.mk #[])) = true ∧ LMem w2 b g h zs C cc st.ks st.ts ∧ Upd w w2 (S3 b g h), ⟨fun e1 w1 hE1 _ _ hh1 => ?_, fun e1 w1 hE1 _ _ hh1 => ?_⟩, ?_⟩
  · refine callM (st := st) (t := strEq s (ByteArray.mk #[])) ⟨hh1, hw.2.ext hE1⟩ (ext_s3 hE1) aw (fun e => by rw [← hres, e1, e]; rfl) fun w3 ht hM3 hU3 => ⟨⟨rfl, rfl, rfl, rfl, rfl, rfl⟩, by rw [e1, ht]; rfl, hM3, (ext_s3 hE1).t3 hU3⟩
  · exact callM (st := st) (t := false) ⟨hh1, hw.2.ext hE1⟩ (ext_s3 hE1) aw (fun e => by rw [← hres, e1]; rfl) fun w2 ht _ _ => by cases ht
  rintro _ _ _ _ _ _ _ w2 ⟨⟨rfl, rfl, rfl, rfl, rfl, rfl⟩, hc, hM2, hU2⟩ hh2
  rw [if_pos hc] at hres
  subst hres
  simp only [Bool.and_eq_true] at hc
  exact callL (hin (by rw [← hz]; exact hc.1) w2 ⟨hh2, hM2⟩ (hr.s3 hU2)) hU2 aw (fun e => e) fun y s1 w4 he hw4 hU4 hh4 => ⟨(y, s1), he, rfl, ⟨hh4, hw4.2⟩, hU2.t3 hU4⟩
theorem other136_c {k v : Int} {s : ByteArray} {kids : List Nd} {r : Option (Int × WS)} {w : World} {A : Option Addr} {l c : Nat} (kn a q : Int) (st : WS) (hw : Lst w b g h zs C cc st) (hr : NdsR w (Fw b g h) kids A l c)
    (hin : ((kids.length : Int) == kn) = true → ∀ w2, Lst w2 b g h zs C cc st → NdsR w2 (Fw b g h) kids A l c →
      CallsX E.P 136 #[.pointer (some ⟨b, 0, none⟩), ndA (.mk k v s kids) A l c, .int .i64 a, .int .i64 q] w2 (LR b g h zs C cc w2 r) (LX b g h w2 r)) :
    CallsX E.P 112 #[.agg #[.int .i64 kn, .func (.func 136) #[] #[]], .pointer (some ⟨b, 0, none⟩), ndA (.mk k v s kids) A l c, .int .i64 a, .int .i64 q] w
      (LR b g h zs C cc w (if (kids.length : Int) == kn && strEq s (ByteArray.mk #[]) then r else none)) (LX b g h w (if (kids.length : Int) == kn && strEq s (ByteArray.mk #[]) then r else none)) := by
  obtain ⟨hb, hg, hh⟩ := hw.lt
  have hlen := hr.len
  dsimp only [ndA, Nd.k, Nd.n, Nd.s, Nd.kids] at *
  refine vc112_136 hw.1 ?_
  intro id hid id1 hid1
  have aw : Away [id, id1] (S3 b g h) := away_s3 hb hg hh (by simp; omega)
  have hz : ((l : Int) == kn) = ((kids.length : Int) == kn) := by rw [hlen]
  generalize hres : (if (kids.length : Int) == kn && strEq s (ByteArray.mk #[]) then r else none) = res
  rw [← hz] at hres
  refine ⟨fun a1 n1 c1 r1 r2 x w2 => (C = a1 ∧ n1 = zs.length ∧ cc = c1 ∧ r1 = some g ∧ r2 = some h ∧ x = st.parts) ∧ ((l : Int) == kn && strEq s (ByteArray.mk #[])) = true ∧ LMem w2 b g h zs C cc st.ks st.ts ∧ Upd w w2 (S3 b g h), ⟨fun e1 w1 hE1 _ _ hh1 => ?_, fun e1 w1 hE1 _ _ hh1 => ?_⟩, ?_⟩
  · refine callM (st := st) (t := strEq s (ByteArray.mk #[])) ⟨hh1, hw.2.ext hE1⟩ (ext_s3 hE1) aw (fun e => by rw [← hres, e1, e]; rfl) fun w3 ht hM3 hU3 => ⟨⟨rfl, rfl, rfl, rfl, rfl, rfl⟩, by rw [e1, ht]; rfl, hM3, (ext_s3 hE1).t3 hU3⟩
  · exact callM (st := st) (t := false) ⟨hh1, hw.2.ext hE1⟩ (ext_s3 hE1) aw (fun e => by rw [← hres, e1]; rfl) fun w2 ht _ _ => by cases ht
  rintro _ _ _ _ _ _ _ w2 ⟨⟨rfl, rfl, rfl, rfl, rfl, rfl⟩, hc, hM2, hU2⟩ hh2
  rw [if_pos hc] at hres
  subst hres
  simp only [Bool.and_eq_true] at hc
  exact callL (hin (by rw [← hz]; exact hc.1) w2 ⟨hh2, hM2⟩ (hr.s3 hU2)) hU2 aw (fun e => e) fun y s1 w4 he hw4 hU4 hh4 => ⟨(y, s1), he, rfl, ⟨hh4, hw4.2⟩, hU2.t3 hU4⟩
def ShpV (w : World) (a : Int) : Shp → Value → Prop
  | .plain kids of gives t, v => ∃ cap, v = .iface 125 (.agg #[.int .i64 kids, .int .i64 of, .int .i64 gives, .func (.func t) #[] cap]) ∧
      ((t ≠ 130 ∧ cap = #[]) ∨ (t = 130 ∧ ∃ ab, cap = #[.pointer (some ⟨ab, 0, none⟩)] ∧ w.heap[ab]? = some (.cells #[.int .i64 a] 3 (0, 0))))
  | .other kids t, v => v = .iface 128 (.agg #[.int .i64 kids, .func (.func t) #[] #[]])
  | .none, v => v = .nilIface
theorem shape_c (k v : Int) (s : ByteArray) (A : Option Addr) (l c : Nat) (a : Int) {w : World} :
    CallsX E.P 110 #[.agg #[.int .i64 k, .int .i64 v, .string s, .slice A l c], .int .i64 a] w (fun x w' => ShpV w' a (shapeF k v) x ∧ Ext w w') never := by
  refine vc110 ?_
  intro id hid id1 hid1
  refine ⟨fun e w1 hE _ _ _ => by obtain rfl : k = 1 := eq_of_beq e; exact ⟨⟨_, rfl, .inl ⟨by decide, rfl⟩⟩, hE⟩, fun c1 => ?_⟩
  refine ⟨fun e w1 hE _ _ _ => by obtain rfl : k = 2 := eq_of_beq e; exact ⟨⟨_, rfl, .inl ⟨by decide, rfl⟩⟩, hE⟩, fun c2 => ?_⟩
  refine ⟨fun e w1 hE _ _ _ => by obtain rfl : k = 3 := eq_of_beq e; exact ⟨⟨_, rfl, .inl ⟨by decide, rfl⟩⟩, hE⟩, fun c3 => ?_⟩
  refine ⟨fun e w1 hE _ _ hh => by obtain rfl : k = 5 := eq_of_beq e; exact ⟨⟨_, rfl, .inr ⟨rfl, id1, rfl, hh⟩⟩, hE⟩, fun c5 => ?_⟩
  refine ⟨fun e w1 hE _ _ _ => by obtain rfl : k = 6 := eq_of_beq e; exact ⟨⟨_, rfl, .inl ⟨by decide, rfl⟩⟩, hE⟩, fun c6 => ?_⟩
  refine ⟨fun e w1 hE _ _ _ => by obtain rfl : k = 7 := eq_of_beq e; exact ⟨⟨_, rfl, .inl ⟨by decide, rfl⟩⟩, hE⟩, fun c7 => ?_⟩
  refine ⟨fun e w1 hE _ _ _ => by obtain rfl : k = 8 := eq_of_beq e; exact ⟨⟨_, rfl, .inl ⟨by decide, rfl⟩⟩, hE⟩, fun c8 => ?_⟩
  refine ⟨fun e w1 hE _ _ _ => by obtain rfl : k = 9 := eq_of_beq e; exact ⟨⟨_, rfl, .inl ⟨by decide, rfl⟩⟩, hE⟩, fun c9 => ?_⟩
  refine ⟨fun e w1 hE _ _ _ => by obtain rfl : k = 10 := eq_of_beq e; exact ⟨⟨_, rfl, .inl ⟨by decide, rfl⟩⟩, hE⟩, fun c10 => ?_⟩
  refine ⟨fun e w1 hE _ _ _ => by obtain rfl : k = 11 := eq_of_beq e; exact ⟨⟨_, rfl, .inl ⟨by decide, rfl⟩⟩, hE⟩, fun c11 => ?_⟩
  refine ⟨fun e w1 hE _ _ _ => by obtain rfl : k = 12 := eq_of_beq e; exact ⟨⟨_, rfl, .inl ⟨by decide, rfl⟩⟩, hE⟩, fun c12 => ?_⟩
  refine ⟨fun e w1 hE _ _ _ => by obtain rfl : k = 15 := eq_of_beq e; exact ⟨⟨_, rfl, .inl ⟨by decide, rfl⟩⟩, hE⟩, fun c15 => ?_⟩
  refine ⟨fun e w1 hE _ _ _ => by obtain rfl : k = 16 := eq_of_beq e; exact ⟨⟨_, rfl, .inl ⟨by decide, rfl⟩⟩, hE⟩, fun c16 => ?_⟩
  refine ⟨fun e w1 hE _ _ _ => by obtain rfl : k = 17 := eq_of_beq e; exact ⟨⟨_, rfl, .inl ⟨by decide, rfl⟩⟩, hE⟩, fun c17 => ?_⟩
  refine ⟨fun e w1 hE _ _ _ => by obtain rfl : k = 18 := eq_of_beq e; exact ⟨⟨_, rfl, .inl ⟨by decide, rfl⟩⟩, hE⟩, fun c18 => ?_⟩
  refine ⟨fun e w1 hE _ _ _ => by obtain rfl : k = 13 := eq_of_beq e; exact ⟨rfl, hE⟩, fun c13 => ?_⟩
  refine ⟨fun e w1 hE _ _ _ => by obtain rfl : k = 14 := eq_of_beq e; exact ⟨rfl, hE⟩, fun c14 => ?_⟩
  refine ⟨fun e w1 hE _ _ _ => by obtain rfl : k = 19 := eq_of_beq e; exact ⟨rfl, hE⟩, fun c19 => ?_⟩
  refine ⟨fun e => by
    obtain rfl : k = 20 := eq_of_beq e
    exact ⟨fun e w1 hE _ _ _ => by obtain rfl : v = 1 := eq_of_beq e; exact ⟨⟨_, rfl, .inl ⟨by decide, rfl⟩⟩, hE⟩, fun d1 => ⟨fun e w1 hE _ _ _ => by obtain rfl : v = 2 := eq_of_beq e; exact ⟨⟨_, rfl, .inl ⟨by decide, rfl⟩⟩, hE⟩, fun d2 => ⟨fun e w1 hE _ _ _ => by obtain rfl : v = 3 := eq_of_beq e; exact ⟨⟨_, rfl, .inl ⟨by decide, rfl⟩⟩, hE⟩, fun d3 => ⟨fun e w1 hE _ _ _ => by obtain rfl : v = 10 := eq_of_beq e; exact ⟨⟨_, rfl, .inl ⟨by decide, rfl⟩⟩, hE⟩, fun d10 => fun w1 hE _ _ _ => ⟨by rw [show shapeF 20 v = .plain 1 3 1 134 by show (if (v == 1) = true then _ else _) = _; rw [iff0 d1, iff0 d2, iff0 d3, iff0 d10]]; exact ⟨_, rfl, .inl ⟨by decide, rfl⟩⟩, hE⟩⟩⟩⟩⟩, fun c20 => ?_⟩
  refine ⟨fun e w1 hE _ _ _ => by obtain rfl : k = 21 := eq_of_beq e; exact ⟨rfl, hE⟩, fun c21 => ?_⟩
  refine ⟨fun e w1 hE _ _ _ => by obtain rfl : k = 26 := eq_of_beq e; exact ⟨rfl, hE⟩, fun c26 => ?_⟩
  exact fun w1 hE _ _ _ => ⟨by rw [show shapeF k v = .none by unfold shapeF; rw [iff0 c1, iff0 c2, iff0 c3, iff0 c5, iff0 c6, iff0 c7, iff0 c8, iff0 c9, iff0 c10, iff0 c11, iff0 c12, iff0 c15, iff0 c16, iff0 c17, iff0 c18, iff0 c13, iff0 c14, iff0 c19, iff0 c20, iff0 c21, iff0 c26]]; exact rfl, hE⟩
end
section
open Go Go.Vx Go.Proofs
theorem zero125 (w : World) : Sem.run E.P (zeroValue 125) w = .ok (.agg #[.int .i64 0, .int .i64 0, .int .i64 0, .nilFunc]) w := Tryz.zeroValue125 w
theorem zero128 (w : World) : Sem.run E.P (zeroValue 128) w = .ok (.agg #[.int .i64 0, .nilFunc]) w := Tryz.zeroValue128 w
theorem ta125_hit (v : Value) (w : World) : Sem.run E.P (Instr.typeAssert (.iface 125 v) 122 125 true) w = .ok (.tuple #[v, .bool true]) w := by
  simp only [Instr.typeAssert, Sem.run_bind, run_underlying (P := E.P) (Tryz.underlying125) w, Result.andThen_ok, if_pos, Sem.run_pure]
theorem ta125_other (v : Value) (w : World) : Sem.run E.P (Instr.typeAssert (.iface 128 v) 122 125 true) w = .ok (.tuple #[.agg #[.int .i64 0, .int .i64 0, .int .i64 0, .nilFunc], .bool false]) w := by
  simp only [Instr.typeAssert, Sem.run_bind, run_underlying (P := E.P) (Tryz.underlying125) w, Result.andThen_ok, if_neg (show ¬ (128 : Nat) = 125 by decide), if_true, zero125 w, Sem.run_pure]
theorem ta125_nil (w : World) : Sem.run E.P (Instr.typeAssert .nilIface 122 125 true) w = .ok (.tuple #[.agg #[.int .i64 0, .int .i64 0, .int .i64 0, .nilFunc], .bool false]) w := by
  simp only [Instr.typeAssert, Sem.run_bind, run_underlying (P := E.P) (Tryz.underlying125) w, Result.andThen_ok, if_true, zero125 w, Sem.run_pure]
theorem ta128_hit (v : Value) (w : World) : Sem.run E.P (Instr.typeAssert (.iface 128 v) 122 128 true) w = .ok (.tuple #[v, .bool true]) w := by
  simp only [Instr.typeAssert, Sem.run_bind, run_underlying (P := E.P) (Tryz.underlying128) w, Result.andThen_ok, if_pos, Sem.run_pure]
theorem ta128_nil (w : World) : Sem.run E.P (Instr.typeAssert .nilIface 122 128 true) w = .ok (.tuple #[.agg #[.int .i64 0, .nilFunc], .bool false]) w := by
  simp only [Instr.typeAssert, Sem.run_bind, run_underlying (P := E.P) (Tryz.underlying128) w, Result.andThen_ok, if_true, zero128 w, Sem.run_pure]
def goodShp : Shp → Prop
  | .plain _ _ _ t => t = 127 ∨ t = 128 ∨ t = 129 ∨ t = 130 ∨ t = 131 ∨ t = 134
  | .other kn t => (kn = 2 ∧ t = 132) ∨ (kn = 3 ∧ t = 133) ∨ (kn = 2 ∧ t = 135) ∨ (kn = 1 ∧ t = 136)
  | .none => True
theorem good_if {c : Prop} [Decidable c] {x y : Shp} (hx : goodShp x) (hy : goodShp y) : goodShp (if c then x else y) := by split <;> assumption
theorem shape_good (k v : Int) : goodShp (shapeF k v) := by
  unfold shapeF
  repeat' apply good_if
  all_goals simp [goodShp]
variable {b g h : Nat} {zs : List Int} {C : Option Addr} {cc : Nat}
theorem kindK_c : ∀ (f : Nat) (n : Nd), n.size ≤ f → KL b g h zs C cc (lookK zs f) n := by
  intro f
  induction f with
  | zero => intro n hn; cases n with | mk k v s l => simp only [Nd.size] at hn; omega
  | succ f ih =>
    intro n hn w A l c a q st hw hr
    obtain ⟨hb, hg, hh⟩ := hw.lt
    obtain ⟨k, v, s, kids⟩ := n
    have hsz : Nd.sizes kids ≤ f := by simp only [Nd.size] at hn; omega
    have hk : ∀ j (_ : j < kids.length), KL b g h zs C cc (lookK zs f) kids[j] := fun j hj => ih _ (Nat.le_trans (Nd.size_lt (List.getElem_mem hj)) hsz)
    have hd : ∀ j, j < kids.length → KL b g h zs C cc (lookK zs f) (kids.getD j nd0) := fun j hj => by
      rw [List.getD_eq_getElem?_getD, List.getElem?_eq_getElem hj]; exact hk j hj
    dsimp only [ndA, Nd.k, Nd.n, Nd.s, Nd.kids] at *
    refine vc79 hw.1 ?_
    intro id hid w1 hU1 hi1 hh1
    have aw : Away [id] (S3 b g h) := away_s3 hb hg hh (by simp; omega)
    refine callM (st := st.inc) (t := decide (w64 (st.parts + 1) ≤ 4096)) (lst_put (st := st) hw.2 hU1 hh1 rfl rfl) (upd_s3 hU1) aw (fun e => by rw [lookK, e]; rfl) fun w2 ht hM2 hU2 => ?_
    have hU02 := (upd_s3 (g := g) (h := h) hU1).t3 hU2
    have hs2 := hU02.size
    generalize hres : lookK zs (f + 1) a q st (.mk k v s kids) = res
    rw [lookK, ht] at hres
    simp only [Bool.not_true, Bool.false_eq_true, if_false] at hres
    refine ⟨_, _, shape_c k v s A l c a, ?_, never_any⟩
    rintro v2 w3 ⟨hS, hE3⟩
    refine ⟨v2, rfl, no, hE3, Away.no _, ?_⟩
    have hU03 := hU02.t3 (ext_s3 hE3)
    have hs3 := hE3.size
    have hgood := shape_good k v
    generalize shapeF k v = sh at hS hres hgood
    cases sh with
    | none =>
      obtain rfl : v2 = .nilIface := hS
      exact ⟨false, _, _, _, _, ta125_nil _, (fun e => nomatch e), fun _ => ⟨false, _, _, ta128_nil _, (fun e => nomatch e), fun _ => ⟨hres.symm, rfl, hU03⟩⟩⟩
    | plain kn of gives t =>
      obtain ⟨cap, rfl, hcap⟩ := hS
      refine ⟨true, _, _, _, _, ta125_hit _ _, fun _ id1 hid1 => ⟨rfl, fun w4 hE4 hi4 hh4 => ?_⟩, fun e => nomatch e⟩
      have hU04 := hU03.t3 (ext_s3 hE4)
      have aw2 : Away [id, id1] (S3 b g h) := away_s3 hb hg hh (by simp; omega)
      have fin : ∀ {r : Option (Int × WS)} {fv : Value} (_ : r = res) (_ : CallsX E.P 111 #[.agg #[.int .i64 kn, .int .i64 of, .int .i64 gives, fv], .pointer (some ⟨b, 0, none⟩), .agg #[.int .i64 k, .int .i64 v, .string s, .slice A l c], .int .i64 a, .int .i64 q] w4 (LR b g h zs C cc w4 r) (LX b g h w4 r)), _ := fun {r fv} e hc =>
        callL (K := fun x4 a2 n1 c2 r2 r3 x5 w22 => w22.heap[b]? = some (Obj.cells (#[.slice a2 n1 c2, Value.map r2, Value.map r3, .int .i64 x5]) 103) → LR b g h zs C cc w res (.int .i64 x4) w22) (rc := res) hc hU04 aw2 (fun e2 => by rw [← e, e2]) fun y s1 w5 he hw5 hU5 hh5 => ⟨(y, s1), by rw [← e, he], rfl, ⟨hh5, hw5.2⟩, hU04.t3 hU5⟩
      have hL4 : Lst w4 b g h zs C cc st.inc := ⟨hh4, (LMem.ext (ks := st.inc.ks) (ts := st.inc.ts) hM2 hE3).ext hE4⟩
      have hr4 := hr.s3 hU04
      rcases hcap with ⟨hne, rfl⟩ | ⟨rfl, ab, rfl, hab⟩
      · rcases hgood with rfl | rfl | rfl | rfl | rfl | rfl
        · exact fin hres (plain127_c hk kn of gives a q st.inc hL4 hr4)
        · exact fin hres (plain128_c hk kn of gives a q st.inc hL4 hr4)
        · exact fin hres (plain129_c hk kn of gives a q st.inc hL4 hr4)
        · exact absurd rfl hne
        · exact fin hres (plain131_c hk kn of gives a q st.inc hL4 hr4)
        · exact fin hres (plain134_c hk kn of gives a q st.inc hL4 hr4)
      · exact fin hres (plain130_c hk kn of gives a q st.inc hL4 hr4 (by rw [Upd.keep hE4 ab (lt_of_get hab) (fun h => h)]; exact hab))
    | other kn t =>
      obtain rfl : v2 = _ := hS
      refine ⟨false, _, _, _, _, ta125_other _ _, (fun e => nomatch e), fun _ => ⟨true, _, _, ta128_hit _ _, fun _ id1 hid1 => ⟨rfl, fun w4 hE4 hi4 hh4 => ?_⟩, fun e => nomatch e⟩⟩
      have hU04 := hU03.t3 (ext_s3 hE4)
      have aw2 : Away [id, id1] (S3 b g h) := away_s3 hb hg hh (by simp; omega)
      have fin : ∀ {r : Option (Int × WS)} {fv : Value} (_ : r = res) (_ : CallsX E.P 112 #[.agg #[.int .i64 kn, fv], .pointer (some ⟨b, 0, none⟩), .agg #[.int .i64 k, .int .i64 v, .string s, .slice A l c], .int .i64 a, .int .i64 q] w4 (LR b g h zs C cc w4 r) (LX b g h w4 r)), _ := fun {r fv} e hc =>
        callL (K := fun x4 a2 n1 c2 r2 r3 x5 w22 => w22.heap[b]? = some (Obj.cells (#[.slice a2 n1 c2, Value.map r2, Value.map r3, .int .i64 x5]) 103) → LR b g h zs C cc w res (.int .i64 x4) w22) (rc := res) hc hU04 aw2 (fun e2 => by rw [← e, e2]) fun y s1 w5 he hw5 hU5 hh5 => ⟨(y, s1), by rw [← e, he], rfl, ⟨hh5, hw5.2⟩, hU04.t3 hU5⟩
      have hL4 : Lst w4 b g h zs C cc st.inc := ⟨hh4, (LMem.ext (ks := st.inc.ks) (ts := st.inc.ts) hM2 hE3).ext hE4⟩
      have hr4 := hr.s3 hU04
      have hlen : ∀ {m : Int}, ((kids.length : Int) == m) = true → (kids.length : Int) = m := fun e => eq_of_beq e
      rcases hgood with ⟨rfl, rfl⟩ | ⟨rfl, rfl⟩ | ⟨rfl, rfl⟩ | ⟨rfl, rfl⟩
      · exact fin hres (other132_c 2 a q st.inc hL4 hr4 fun e w5 hw5 hr5 => by
          have := hlen e; exact alikeK_c (by omega) (hd 0 (by omega)) (hd 1 (by omega)) a q st.inc hw5 hr5)
      · exact fin hres (other133_c 3 a q st.inc hL4 hr4 fun e w5 hw5 hr5 => by
          have := hlen e; exact choiceK_c (by omega) (hd 0 (by omega)) (hd 1 (by omega)) (hd 2 (by omega)) a q st.inc hw5 hr5)
      · exact fin hres (other135_c 2 a q st.inc hL4 hr4 fun e w5 hw5 hr5 => by
          have := hlen e
          refine quantK_c (by omega) (setK_c fun j hj => ih _ ?_) (hd 1 (by omega)) a q st.inc hw5 hr5
          have h1 := kid_lt hj
          have h2 : (kids.getD 0 nd0).size ≤ f := by
            rw [List.getD_eq_getElem?_getD, List.getElem?_eq_getElem (show 0 < kids.length by omega)]
            exact Nat.le_trans (Nd.size_lt (List.getElem_mem _)) hsz
          omega)
      · exact fin hres (other136_c 1 a q st.inc hL4 hr4 fun e w5 hw5 hr5 => by
          have := hlen e; exact cellK_c (by omega) (hd 0 (by omega)) a q st.inc hw5 hr5)
end
section
open Go Go.Vx Go.Proofs
variable {b g h : Nat} {zs : List Int} {C : Option Addr} {cc : Nat}
theorem kids_form {k v : Int} {s : ByteArray} {n : Nat} (hf : formB k v s n = true) : ((k == 13) = true ∨ (k == 14) = true ∨ (k == 21) = true → 2 ≤ n) ∧ ((k == 19) = true → 3 ≤ n) ∧ ((k == 26) = true → 1 ≤ n) := by
  have e : ∀ c : Int, (k == c) = true → k = c := fun c h => by simpa using h
  refine ⟨fun h => ?_, fun h => ?_, fun h => ?_⟩
  · rcases h with h | h | h <;> (cases e _ h; simp [formB] at hf; omega)
  · cases e _ h; simp [formB] at hf; omega
  · cases e _ h; simp [formB] at hf; omega
theorem kind_c (f : Nat) : ∀ n : Nd, n.size ≤ f → KC b g h zs C cc (kindW zs f) n := by
  induction f with
  | zero => intro n hn; cases n; simp [Nd.size] at hn
  | succ f ih =>
    intro n hn w A l c a q st hw hr
    obtain ⟨k, v, s, kids⟩ := n
    obtain ⟨hb, hg, hh⟩ := hw.lt
    have ihk : ∀ j (_ : j < kids.length), KC b g h zs C cc (kindW zs f) kids[j] := fun j hj => ih _ (by have := kid_size hj; simp only [Nd.size] at hn; omega)
    have ihd : ∀ j, j < kids.length → KC b g h zs C cc (kindW zs f) (kids.getD j nd0) := fun j hj => by rw [getD_get hj]; exact ihk j hj
    have hfc : ∀ {w1 : World}, Upd w w1 (S3 b g h) → CallsX E.P 103 #[ndA (.mk k v s kids) A l c] w1 (IsV (.bool (formB k v s kids.length)) w1) never := fun hE => form_c (.mk k v s kids) (hr.s3 hE)
    have hall : ∀ {w1 : World} (x r : Int) (s1 : WS), Wst w1 b g h zs C cc s1 → Upd w w1 (S3 b g h) → CallsX E.P 104 #[.pointer (some ⟨b, 0, none⟩), ndA (.mk k v s kids) A l c, .int .i64 a, .int .i64 q, .int .i64 x, .int .i64 r] w1 (WR b g h zs C cc w1 (.int .i64 r) (allW (kindW zs f a q) x s1 kids)) never :=
      fun x r s1 h1 h2 => all_c (n := .mk k v s kids) ihk a q x r s1 h1 (hr.s3 h2)
    dsimp only [ndA, Nd.k, Nd.n, Nd.s, Nd.kids] at *
    obtain rfl := hr.len
    refine vc75 hw.1 ?_
    intro id hid
    have bad0 : ∀ {w1 w2 : World}, MemW w1 b g h zs C cc st.ks st.ts → Upd w w1 (S3 b g h) → Upd w1 w2 (setOf [b]) → w2.heap[b]? = some (.cells (bcells zs C cc g h st.inc.bad) 93 (0, 0)) → kindW zs (f + 1) a q st (.mk k v s kids) = (0, st.inc.bad) → WR b g h zs C cc w (.int .i64 (kindW zs (f + 1) a q st (.mk k v s kids)).1) (kindW zs (f + 1) a q st (.mk k v s kids)).2 (.int .i64 0) w2 :=
      fun h1 h2 h3 h4 he => by rw [he]; exact ⟨rfl, Wst.put (st := st) h1 h3 h4 rfl rfl, h2.t3 (upd_s3 h3)⟩
    refine ⟨fun hok w1 hU _ hh1 => ?_, fun hok => ⟨fun hp w1 hU _ hh1 => ?_, fun hp w1 hU hi => ?_⟩⟩
    · exact bad0 hw.2 (ext_s3 (Upd.refl _ _)) hU hh1 (by rw [kindW]; simp only [hok, if_true])
    · exact bad0 hw.2 (ext_s3 (Upd.refl _ _)) hU hh1 (by rw [kindW]; simp only [hok, hp, Bool.false_eq_true, if_false, if_true])
    have hM1 : MemW w1 b g h zs C cc st.ks st.ts := hw.2.upd hU upd_b
    refine callB (hfc (upd_s3 hU)) fun w2 hE2 => ⟨fun hf w3 hU3 hh3 => ?_, fun hf => ?_⟩
    · exact bad0 (hM1.upd hE2 (fun _ h => h.elim)) ((upd_s3 hU).t3 (ext_s3 hE2)) hU3 hh3 (by rw [kindW]; simp only [hok, hp, hf, Bool.false_eq_true, if_false, if_true])
    have hM2 : MemW w2 b g h zs C cc st.ks st.ts := hM1.upd hE2 (fun _ h => h.elim)
    have hU02 : Upd w w2 (S3 b g h) := (upd_s3 hU).t3 (ext_s3 hE2)
    have hs2 := hU02.size
    have hfb : formB k v s kids.length = true := by simpa using hf
    have leafR : ∀ {w3 : World} (x : Int), MemW w3 b g h zs C cc st.ks st.ts → Upd w w3 (S3 b g h) → w3.heap[b]? = some (.cells (bcells zs C cc g h st.inc) 93 (0, 0)) → kindW zs (f + 1) a q st (.mk k v s kids) = (x, st.inc) → WR b g h zs C cc w (.int .i64 (kindW zs (f + 1) a q st (.mk k v s kids)).1) (kindW zs (f + 1) a q st (.mk k v s kids)).2 (.int .i64 x) w3 :=
      fun x h1 h2 h3 he => by rw [he]; exact ⟨rfl, ⟨h3, h1⟩, h2⟩
    have fin : ∀ {w3 w4 : World} {x : Int} {s1 : WS}, Upd w w3 (S3 b g h) → Upd w3 w4 (S3 b g h) → Wst w4 b g h zs C cc s1 → kindW zs (f + 1) a q st (.mk k v s kids) = (x, s1) → WR b g h zs C cc w (.int .i64 (kindW zs (f + 1) a q st (.mk k v s kids)).1) (kindW zs (f + 1) a q st (.mk k v s kids)).2 (.int .i64 x) w4 :=
      fun h1 h2 h3 he => by rw [he]; exact ⟨rfl, h3, h1.t3 h2⟩
    have kf := kids_form hfb
    have hst : w2.heap[b]? = some (.cells (bcells zs C cc g h st.inc) 93 (0, 0)) → Wst w2 b g h zs C cc st.inc := fun h => ⟨h, hM2⟩
    refine ⟨fun e1 => ?_, fun n1 => ⟨fun e2 => ?_, fun n2 => ⟨fun e3 => ?_, fun n3 => ⟨fun e5 => ?_, fun n5 => ⟨fun e6 => ?_, fun n6 => ⟨fun e8 => ?_, fun n8 => ⟨fun e9 => ?_, fun n9 => ⟨fun e10 => ?_, fun n10 => ⟨fun e11 => ?_, fun n11 => ⟨fun e12 => ?_, fun n12 => ⟨fun e7 => ?_, fun n7 => ⟨fun e17 => ?_, fun n17 => ⟨fun e18 => ?_, fun n18 => ⟨fun e15 => ?_, fun n15 => ⟨fun e16 => ?_, fun n16 => ⟨fun e13 => ?_, fun n13 => ⟨fun e14 => ?_, fun n14 => ⟨fun e19 => ?_, fun n19 => ⟨fun e20 => ?_, fun n20 => ⟨fun e21 => ?_, fun n21 => ⟨fun e26 => ?_, fun n26 => ?_⟩⟩⟩⟩⟩⟩⟩⟩⟩⟩⟩⟩⟩⟩⟩⟩⟩⟩⟩⟩⟩
    · exact fun hh2 => leafR 1 hM2 hU02 hh2 (by rw [kindW]; simp only [e1, hok, hp, hf, Bool.not_true, Bool.not_false, Bool.false_eq_true, if_false, if_true, Bool.or_false, Bool.false_or, Bool.or_true, Bool.true_or, Bool.or_self])
    · exact fun hh2 => leafR 2 hM2 hU02 hh2 (by rw [kindW]; simp only [e2, n1, hok, hp, hf, Bool.not_true, Bool.not_false, Bool.false_eq_true, if_false, if_true, Bool.or_false, Bool.false_or, Bool.or_true, Bool.true_or, Bool.or_self])
    · exact fun hh2 => leafR 3 hM2 hU02 hh2 (by rw [kindW]; simp only [e3, n1, n2, hok, hp, hf, Bool.not_true, Bool.not_false, Bool.false_eq_true, if_false, if_true, Bool.or_false, Bool.false_or, Bool.or_true, Bool.true_or, Bool.or_self])
    · refine ⟨fun hv w3 hU3 hh3 => ?_, fun hv hh2 => leafR 3 hM2 hU02 hh2 (by rw [kindW]; simp only [hv, e5, n1, n2, n3, hok, hp, hf, Bool.not_true, Bool.not_false, Bool.false_eq_true, if_false, if_true, Bool.or_false, Bool.false_or, Bool.or_true, Bool.true_or, Bool.or_self])⟩
      have he : kindW zs (f + 1) a q st (.mk k v s kids) = (3, st.inc.bad) := (by rw [kindW]; simp only [hv, e5, n1, n2, n3, hok, hp, hf, Bool.not_true, Bool.not_false, Bool.false_eq_true, if_false, if_true, Bool.or_false, Bool.false_or, Bool.or_true, Bool.true_or, Bool.or_self])
      rw [he]; exact ⟨rfl, Wst.put (st := st) hM2 hU3 hh3 rfl rfl, hU02.t3 (upd_s3 hU3)⟩
    · exact fun hh2 => callW (hall 1 1 st.inc (hst hh2) hU02) (away_s3 hb hg hh (by simp; omega)) fun w3 hw3 hU3 _ => fin hU02 hU3 hw3 (by rw [kindW]; simp only [e6, n1, n2, n3, n5, hok, hp, hf, Bool.not_true, Bool.not_false, Bool.false_eq_true, if_false, if_true, Bool.or_false, Bool.false_or, Bool.or_true, Bool.true_or, Bool.or_self])
    · exact fun hh2 => callW (hall 1 1 st.inc (hst hh2) hU02) (away_s3 hb hg hh (by simp; omega)) fun w3 hw3 hU3 _ => fin hU02 hU3 hw3 (by rw [kindW]; simp only [e8, n1, n2, n3, n5, n6, hok, hp, hf, Bool.not_true, Bool.not_false, Bool.false_eq_true, if_false, if_true, Bool.or_false, Bool.false_or, Bool.or_true, Bool.true_or, Bool.or_self])
    · exact fun hh2 => callW (hall 1 1 st.inc (hst hh2) hU02) (away_s3 hb hg hh (by simp; omega)) fun w3 hw3 hU3 _ => fin hU02 hU3 hw3 (by rw [kindW]; simp only [e9, n1, n2, n3, n5, n6, n8, hok, hp, hf, Bool.not_true, Bool.not_false, Bool.false_eq_true, if_false, if_true, Bool.or_false, Bool.false_or, Bool.or_true, Bool.true_or, Bool.or_self])
    · exact fun hh2 => callW (hall 1 1 st.inc (hst hh2) hU02) (away_s3 hb hg hh (by simp; omega)) fun w3 hw3 hU3 _ => fin hU02 hU3 hw3 (by rw [kindW]; simp only [e10, n1, n2, n3, n5, n6, n8, n9, hok, hp, hf, Bool.not_true, Bool.not_false, Bool.false_eq_true, if_false, if_true, Bool.or_false, Bool.false_or, Bool.or_true, Bool.true_or, Bool.or_self])
    · exact fun hh2 => callW (hall 1 1 st.inc (hst hh2) hU02) (away_s3 hb hg hh (by simp; omega)) fun w3 hw3 hU3 _ => fin hU02 hU3 hw3 (by rw [kindW]; simp only [e11, n1, n2, n3, n5, n6, n8, n9, n10, hok, hp, hf, Bool.not_true, Bool.not_false, Bool.false_eq_true, if_false, if_true, Bool.or_false, Bool.false_or, Bool.or_true, Bool.true_or, Bool.or_self])
    · exact fun hh2 => callW (hall 1 1 st.inc (hst hh2) hU02) (away_s3 hb hg hh (by simp; omega)) fun w3 hw3 hU3 _ => fin hU02 hU3 hw3 (by rw [kindW]; simp only [e12, n1, n2, n3, n5, n6, n8, n9, n10, n11, hok, hp, hf, Bool.not_true, Bool.not_false, Bool.false_eq_true, if_false, if_true, Bool.or_false, Bool.false_or, Bool.or_true, Bool.true_or, Bool.or_self])
    · exact fun hh2 => callW (hall 2 2 st.inc (hst hh2) hU02) (away_s3 hb hg hh (by simp; omega)) fun w3 hw3 hU3 _ => fin hU02 hU3 hw3 (by rw [kindW]; simp only [e7, n1, n2, n3, n5, n6, n8, n9, n10, n11, n12, hok, hp, hf, Bool.not_true, Bool.not_false, Bool.false_eq_true, if_false, if_true, Bool.or_false, Bool.false_or, Bool.or_true, Bool.true_or, Bool.or_self])
    · exact fun hh2 => callW (hall 2 2 st.inc (hst hh2) hU02) (away_s3 hb hg hh (by simp; omega)) fun w3 hw3 hU3 _ => fin hU02 hU3 hw3 (by rw [kindW]; simp only [e17, n1, n2, n3, n5, n6, n8, n9, n10, n11, n12, n7, hok, hp, hf, Bool.not_true, Bool.not_false, Bool.false_eq_true, if_false, if_true, Bool.or_false, Bool.false_or, Bool.or_true, Bool.true_or, Bool.or_self])
    · exact fun hh2 => callW (hall 2 2 st.inc (hst hh2) hU02) (away_s3 hb hg hh (by simp; omega)) fun w3 hw3 hU3 _ => fin hU02 hU3 hw3 (by rw [kindW]; simp only [e18, n1, n2, n3, n5, n6, n8, n9, n10, n11, n12, n7, n17, hok, hp, hf, Bool.not_true, Bool.not_false, Bool.false_eq_true, if_false, if_true, Bool.or_false, Bool.false_or, Bool.or_true, Bool.true_or, Bool.or_self])
    · exact fun hh2 => callW (hall 1 2 st.inc (hst hh2) hU02) (away_s3 hb hg hh (by simp; omega)) fun w3 hw3 hU3 _ => fin hU02 hU3 hw3 (by rw [kindW]; simp only [e15, n1, n2, n3, n5, n6, n8, n9, n10, n11, n12, n7, n17, n18, hok, hp, hf, Bool.not_true, Bool.not_false, Bool.false_eq_true, if_false, if_true, Bool.or_false, Bool.false_or, Bool.or_true, Bool.true_or, Bool.or_self])
    · exact fun hh2 => callW (hall 1 2 st.inc (hst hh2) hU02) (away_s3 hb hg hh (by simp; omega)) fun w3 hw3 hU3 _ => fin hU02 hU3 hw3 (by rw [kindW]; simp only [e16, n1, n2, n3, n5, n6, n8, n9, n10, n11, n12, n7, n17, n18, n15, hok, hp, hf, Bool.not_true, Bool.not_false, Bool.false_eq_true, if_false, if_true, Bool.or_false, Bool.false_or, Bool.or_true, Bool.true_or, Bool.or_self])
    · have h2 : 2 ≤ kids.length := kf.1 (by simp [e13])
      refine hr.idxL 0 rfl (by omega) fun ad ha => (hr.s3 hU02).cellL ha 0 rfl (by omega) (d := nd0) fun A1 l1 c1 q1 hh2 => ?_
      refine callW (ihd 0 (by omega) a q st.inc (hst hh2) q1) (away_s3 hb hg hh (by simp; omega)) fun w3 hw3 hU3 => ?_
      have hs3 := hU3.size
      refine hr.idxL 1 rfl (by omega) fun ad1 ha1 => (hr.s3 (hU02.t3 hU3)).cellL ha1 1 rfl (by omega) (d := nd0) fun A2 l2 c2 q2 hh3 => ?_
      exact callU (must_c (ihd 1 (by omega)) a q _ _ ⟨hh3, hw3.2⟩ q2) (away_s3 hb hg hh (by simp; omega)) fun w4 hw4 hU4 _ => fin (hU02.t3 hU3) hU4 hw4 (by rw [kindW]; simp only [e13, n1, n2, n3, n5, n6, n8, n9, n10, n11, n12, n7, n17, n18, n15, n16, hok, hp, hf, Bool.not_true, Bool.not_false, Bool.false_eq_true, if_false, if_true, Bool.or_false, Bool.false_or, Bool.or_true, Bool.true_or, Bool.or_self])
    · have h2 : 2 ≤ kids.length := kf.1 (by simp [e14])
      refine hr.idxL 0 rfl (by omega) fun ad ha => (hr.s3 hU02).cellL ha 0 rfl (by omega) (d := nd0) fun A1 l1 c1 q1 hh2 => ?_
      refine callW (ihd 0 (by omega) a q st.inc (hst hh2) q1) (away_s3 hb hg hh (by simp; omega)) fun w3 hw3 hU3 => ?_
      have hs3 := hU3.size
      refine hr.idxL 1 rfl (by omega) fun ad1 ha1 => (hr.s3 (hU02.t3 hU3)).cellL ha1 1 rfl (by omega) (d := nd0) fun A2 l2 c2 q2 hh3 => ?_
      exact callU (must_c (ihd 1 (by omega)) a q _ _ ⟨hh3, hw3.2⟩ q2) (away_s3 hb hg hh (by simp; omega)) fun w4 hw4 hU4 _ => fin (hU02.t3 hU3) hU4 hw4 (by rw [kindW]; simp only [e14, n1, n2, n3, n5, n6, n8, n9, n10, n11, n12, n7, n17, n18, n15, n16, n13, hok, hp, hf, Bool.not_true, Bool.not_false, Bool.false_eq_true, if_false, if_true, Bool.or_false, Bool.false_or, Bool.or_true, Bool.true_or, Bool.or_self])
    · have h3 : 3 ≤ kids.length := kf.2.1 e19
      refine hr.idxL 0 rfl (by omega) fun ad ha => (hr.s3 hU02).cellL ha 0 rfl (by omega) (d := nd0) fun A1 l1 c1 q1 hh2 => ?_
      refine callU (must_c (ihd 0 (by omega)) a q 2 st.inc (hst hh2) q1) (away_s3 hb hg hh (by simp; omega)) fun w3 hw3 hU3 => ?_
      have hs3 := hU3.size
      refine hr.idxL 1 rfl (by omega) fun ad1 ha1 => (hr.s3 (hU02.t3 hU3)).cellL ha1 1 rfl (by omega) (d := nd0) fun A2 l2 c2 q2 hh3 => ?_
      refine callW (ihd 1 (by omega) a q _ ⟨hh3, hw3.2⟩ q2) (away_s3 hb hg hh (by simp; omega)) fun w4 hw4 hU4 => ?_
      have hs4 := hU4.size
      refine hr.idxL 2 rfl (by omega) fun ad2 ha2 => (hr.s3 ((hU02.t3 hU3).t3 hU4)).cellL ha2 2 rfl (by omega) (d := nd0) fun A3 l3 c3 q3 hh4 => ?_
      exact callU (must_c (ihd 2 (by omega)) a q _ _ ⟨hh4, hw4.2⟩ q3) (away_s3 hb hg hh (by simp; omega)) fun w5 hw5 hU5 _ => fin ((hU02.t3 hU3).t3 hU4) hU5 hw5 (by rw [kindW]; simp only [e19, n1, n2, n3, n5, n6, n8, n9, n10, n11, n12, n7, n17, n18, n15, n16, n13, n14, hok, hp, hf, Bool.not_true, Bool.not_false, Bool.false_eq_true, if_false, if_true, Bool.or_false, Bool.false_or, Bool.or_true, Bool.true_or, Bool.or_self])
    · intro w3 hU3
      have hs3 := hU3.size
      refine callI (gives_c v) fun w4 hE4 hh4 => ?_
      have hs4 := hE4.size
      exact callW (hall 3 (givesI v) st.inc ⟨hh4, hM2.upd (Ext.trans hU3 hE4) (fun _ h => h.elim)⟩ (hU02.t3 (ext_s3 (Ext.trans hU3 hE4)))) (away_s3 hb hg hh (by simp; omega)) fun w5 hw5 hU5 _ => fin (hU02.t3 (ext_s3 (Ext.trans hU3 hE4))) hU5 hw5 (by rw [kindW]; simp only [e20, n1, n2, n3, n5, n6, n8, n9, n10, n11, n12, n7, n17, n18, n15, n16, n13, n14, n19, hok, hp, hf, Bool.not_true, Bool.not_false, Bool.false_eq_true, if_false, if_true, Bool.or_false, Bool.false_or, Bool.or_true, Bool.true_or, Bool.or_self])
    · have h2 : 2 ≤ kids.length := kf.1 (by simp [e21])
      have hset : SC b g h zs C cc (kindW zs f) (kids.getD 0 nd0) := fun a' q' st' hw' hr' => set_c (fun j hj => ih _ (by have := kid_lt (n := kids.getD 0 nd0) hj; have h0 : (kids.getD 0 nd0).size ≤ Nd.sizes kids := Nat.le_trans (Nat.le_of_eq (congrArg Nd.size (getD_get (by omega : 0 < kids.length)))) (kid_size (by omega : 0 < kids.length)); simp only [Nd.size] at hn; omega)) a' q' st' hw' hr'
      exact fun hh2 => callW (quant_c (k := k) (v := v) (s := s) h2 hset (ihd 1 (by omega)) a q st.inc (hst hh2) (hr.s3 hU02)) (away_s3 hb hg hh (by simp; omega)) fun w3 hw3 hU3 _ => fin hU02 hU3 hw3 (by rw [kindW]; simp only [e21, n1, n2, n3, n5, n6, n8, n9, n10, n11, n12, n7, n17, n18, n15, n16, n13, n14, n19, n20, hok, hp, hf, Bool.not_true, Bool.not_false, Bool.false_eq_true, if_false, if_true, Bool.or_false, Bool.false_or, Bool.or_true, Bool.true_or, Bool.or_self])
    · have h1 : 1 ≤ kids.length := kf.2.2 e26
      exact fun hh2 => callW (cell_c (k := k) (v := v) (s := s) h1 (ihd 0 (by omega)) a q st.inc (hst hh2) (hr.s3 hU02)) (away_s3 hb hg hh (by simp; omega)) fun w3 hw3 hU3 _ => fin hU02 hU3 hw3 (by rw [kindW]; simp only [e26, n1, n2, n3, n5, n6, n8, n9, n10, n11, n12, n7, n17, n18, n15, n16, n13, n14, n19, n20, n21, hok, hp, hf, Bool.not_true, Bool.not_false, Bool.false_eq_true, if_false, if_true, Bool.or_false, Bool.false_or, Bool.or_true, Bool.true_or, Bool.or_self])
    · intro w3 hU3 hh3
      have he : kindW zs (f + 1) a q st (.mk k v s kids) = (0, st.inc.bad) := by rw [kindW]; simp only [n1, n2, n3, n5, n6, n8, n9, n10, n11, n12, n7, n17, n18, n15, n16, n13, n14, n19, n20, n21, n26, hok, hp, hf, Bool.not_true, Bool.not_false, Bool.false_eq_true, if_false, if_true, Bool.or_false, Bool.false_or, Bool.or_true, Bool.true_or, Bool.or_self]
      rw [he]; exact ⟨rfl, Wst.put (st := st) hM2 hU3 hh3 rfl rfl, hU02.t3 (upd_s3 hU3)⟩
end
end Go.Vx.Tryz
namespace Go.Vx
open Go
section
theorem make_row {P : Program} {t e sz : Nat} (T : SlT P t e 1 sz) {w : World} {zv v0 : Value} (hz0 : (P.info? e).bind (·.zero) = some zv) (hc : zv.cells = #[v0]) {n : Nat} (hn : n ≤ 2 ^ 20) :
    RunsTo P (Instr.makeSlice t (.int .i64 (n : Int)) (.int .i64 (n : Int))) w (fun v w' => v = .slice (some ⟨w.heap.size, 0, none⟩) n n ∧ w'.heap[w.heap.size]? = some (.cells (List.replicate n v0).toArray e (0, 0)) ∧ w'.heap.size = w.heap.size + 1 ∧ Ext w w') := by
  obtain ⟨ht, ⟨i, zv', hi, hz, hsz, hby, hzs⟩, _, hsm⟩ := T
  rw [hi] at hz0
  have : zv' = zv := by have h : i.zero = some zv := hz0; rw [hz] at h; exact Option.some.inj h
  subst this
  have hb : (i.bytes : Int) * n ≤ 281474976710656 := by
    have h1 : i.bytes * n ≤ 4096 * 2 ^ 20 := Nat.mul_le_mul (by omega) hn
    have h2 : ((i.bytes * n : Nat) : Int) ≤ 281474976710656 := by omega
    rwa [Int.natCast_mul] at h2
  have hr := run_makeSlice (P := P) w t e i zv' ht hi hz .i64 .i64 n n (by omega) (Int.le_refl _) (by rw [hsz]; omega) hb (by omega)
  refine ⟨_, _, hr, by simp, ?_, Array.size_push _, ⟨rfl, rfl, rfl, Nat.le_trans (Nat.le_succ _) (Nat.le_of_eq (Array.size_push _).symm), fun k hk _ => heap_alloc_old w _ hk⟩⟩
  rw [heap_alloc_new]
  congr 2
  apply Array.ext'
  rw [hsz, hc]
  apply List.ext_getElem
  · simp [madeCells]
  · intro j h1 h2
    simp [madeCells, Nat.mod_one]
end
end Go.Vx
namespace Go.Vx.Tryz
open Go Go.Vx Go.Proofs
section
theorem refKind_c (p : Pl) {w : World} {F G : Nat → Prop} {A : Option Addr} {l c : Nat} {B : Option Addr} {bl bc : Nat} (h : NdsR w F p.root.kids A l c) (h2 : IntsR w G p.cells B bl bc) (hF : ∀ x, F x ∨ G x → x < w.heap.size) :
    CallsX E.P 47 #[plA p A l c B bl bc] w (IsV (.int .i64 (refKind p)) w) never := by
  obtain rfl := h2.len
  refine vc47 ?_
  intro id hid
  unfold refKind
  refine ⟨fun h1 w1 hE _ => ⟨by rw [if_pos h1], hE⟩, fun h1 w1 hE hi => ?_⟩
  rw [if_neg (by rw [h1]; exact Bool.false_ne_true)]
  have hle : p.cells.length ≤ 256 := by simp at h1; omega
  refine loop0 (kids := p.cells) rfl (by omega) (Upd.refl w1 _) (fun _ => cellsBad) (fun I m j w2 hj hg hE2 k => ?_) (fun w2 hg hE2 => ?_)
  · rw [cellsBad] at hg
    refine h2.idx hj fun ad ha => (h2.ext (hE.trans hE2)).cell ha hj ⟨fun h3 => ?_, fun h3 => ?_⟩
    · rw [if_pos h3] at hg
      exact ⟨by rw [if_pos hg.symm], hE.trans hE2⟩
    · rw [if_neg (by rw [h3]; exact Bool.false_ne_true)] at hg
      refine h2.idx hj fun ad ha => (h2.ext (hE.trans hE2)).cell ha hj ⟨fun h4 => ?_, fun h4 => ?_⟩
      · rw [if_pos h4] at hg
        exact ⟨by rw [if_pos hg.symm], hE.trans hE2⟩
      · rw [if_neg (by rw [h4]; exact Bool.false_ne_true)] at hg
        exact k _ hg hE2
  · rw [cellsBad] at hg
    rw [if_neg (by rw [← hg]; exact Bool.false_ne_true)]
    have hs1 := hE.size
    have hs2 := hE2.size
    have h91 : ((E.P.info? 22).bind (·.zero)) = some (.slice none 0 0) := by kernel_rfl
    have h25 : ((E.P.info? 3).bind (·.zero)) = some (.int .i64 0) := by kernel_rfl
    -- behind both
    have fin : ∀ {w5 w6 : World} {gk gt id1 : Nat}, Ext w1 w5 → w1.heap.size ≤ gk → w1.heap.size ≤ gt → gk ≠ gt → w5.heap[gk]? = some (.cells (List.replicate p.cells.length (.slice none 0 0)).toArray 22 (0, 0)) → w5.heap[gt]? = some (.cells (List.replicate p.cells.length (.int .i64 0)).toArray 3 (0, 0)) →
        w5.heap.size ≤ id1 → Ext w5 w6 → w6.heap[id1]? = some (Obj.cells #[.slice B p.cells.length bc, .int .i64 0, .slice (some ⟨gk, 0, none⟩) p.cells.length p.cells.length, .slice (some ⟨gt, 0, none⟩) p.cells.length p.cells.length, .bool true] 93) →
        id < w6.heap.size → ∀ {X : ContX}, ∃ (R : Value → World → Prop) (X' : ContX), CallsX E.P 75 #[.pointer (some ⟨id1, 0, none⟩), .agg #[.int .i64 p.root.k, .int .i64 p.root.n, .string p.root.s, .slice A l c], .int .i64 0, .int .i64 0] w6 R X' ∧
          (∀ v2 w23, R v2 w23 → ∃ x3, v2 = .int .i64 x3 ∧ ∃ S, Upd w6 w23 S ∧ Away [id] S ∧ ∃ a2 n2 c2, ∃ x4 a3, ∃ n3 c3 a4 n4 c4, ∃ x5, w23.heap[id1]? = some (Obj.cells #[.slice a2 n2 c2, .int .i64 x4, .slice a3 n3 c3, .slice a4 n4 c4, .bool x5] 93) ∧ 5 = 5 ∧
            ((!x5) = true → IsV (.int .i64 (if (!(kindW p.cells p.root.size 0 0 ⟨0, List.replicate p.cells.length none, List.replicate p.cells.length 0, true⟩ p.root).2.ok) = true then 0 else (kindW p.cells p.root.size 0 0 ⟨0, List.replicate p.cells.length none, List.replicate p.cells.length 0, true⟩ p.root).1)) w (.int .i64 0) w23) ∧
            ((!x5) = false → IsV (.int .i64 (if (!(kindW p.cells p.root.size 0 0 ⟨0, List.replicate p.cells.length none, List.replicate p.cells.length 0, true⟩ p.root).2.ok) = true then 0 else (kindW p.cells p.root.size 0 0 ⟨0, List.replicate p.cells.length none, List.replicate p.cells.length 0, true⟩ p.root).1)) w (.int .i64 x3) w23)) ∧ ∀ ch w2, X' ch w2 → X ch w2 := by
      intro w5 w6 gk gt id1 hE15 hgk hgt hne hk ht hid1 hE6 hb hi6 X
      have hE5 := hE.trans hE15
      have hgk5 := lt_of_get hk
      have hgt5 := lt_of_get ht
      have hs5 := hE5.size
      have hs6 := hE6.size
      have hFw : ∀ x, F x ∨ G x → Fw id1 gk gt x := fun x hx hS => by
        have := hF x hx
        rcases hS with e | e | e <;> omega
      have hM : MemW w6 id1 gk gt p.cells B bc (List.replicate p.cells.length none) (List.replicate p.cells.length 0) := by
        refine ⟨RowIn.mono (RowIn.upd h2 (hE5.trans hE6) (no_no _)) (fun x hx => hFw x (.inr hx)), ⟨_, by rw [hE6.keep gk hgk5 (fun h => h)]; exact hk, by simp, fun i x hx => ?_⟩, ?_, by simp, by simp, by omega, by omega, hne⟩
        · have hi := (List.getElem?_eq_some_iff.1 hx).1
          simp only [List.length_replicate] at hi
          rw [List.getElem?_replicate, if_pos hi] at hx
          cases hx
          refine ⟨.slice none 0 0, ?_, rfl⟩
          rw [List.getElem?_toArray, List.getElem?_replicate, if_pos hi]
        · rw [hE6.keep gt hgt5 (fun h => h), ht, List.map_replicate]
      have hr6 : NdsR w6 (Fw id1 gk gt) p.root.kids A l c := (h.ext (hE5.trans hE6)).mono fun x hx => hFw x (.inl hx)
      refine callW (kind_c _ p.root (Nat.le_refl _) 0 0 ⟨0, List.replicate p.cells.length none, List.replicate p.cells.length 0, true⟩ ⟨hb, hM⟩ hr6) (away_of fun i hi' hS => ?_) fun w7 hw7 hU7 => ?_
      · simp only [List.mem_cons, List.not_mem_nil, or_false] at hi'
        subst hi'
        have := hE15.size
        rcases hS with e | e | e <;> omega
      · have hE7 : Ext w w7 := Upd.step (hE5.trans hE6) hU7 fun x hx => by rcases hx with e | e | e <;> omega
        exact ⟨fun hx => ⟨by rw [if_pos hx], hE7⟩, fun hx => ⟨by rw [if_neg (by rw [hx]; exact Bool.false_ne_true)], hE7⟩⟩
    have goal : ∀ {a b2 c2 d2 : World}, Ext a b2 → Ext b2 c2 → Ext c2 d2 → Ext a d2 := fun x y z => (x.trans y).trans z
    refine ⟨fun w3 hE3 => ?_, fun w3 hE3 => ?_⟩
    · have hs3 := hE3.size
      refine ⟨_, make_row sl91 h91 rfl (by omega), ?_⟩
      rintro v w4 ⟨rfl, hk, hk2, hE4⟩
      refine ⟨_, _, _, rfl, no, hE4, Away.no _, _, make_row sl25 h25 rfl (by omega), ?_⟩
      rintro v w5 ⟨rfl, ht, ht2, hE5⟩
      refine ⟨_, _, _, rfl, no, hE5, Away.no _, fun id1 hid1 w6 hE6 hi6 hcell => ?_⟩
      have hs6 := hE6.size
      refine fin (gk := w3.heap.size) (gt := w4.heap.size) (w5 := w5) (w6 := w6) (goal (hE2.trans hE3) hE4 hE5) (by omega) (by omega) (by omega) (by rw [hE5.keep _ (by omega) (fun h => h)]; exact hk) ht hid1 hE6 hcell (by omega)
    · have hs3 := hE3.size
      refine ⟨_, make_row sl25 h25 rfl (by omega), ?_⟩
      rintro v w4 ⟨rfl, ht, ht2, hE4⟩
      refine ⟨_, _, _, rfl, no, hE4, Away.no _, _, make_row sl91 h91 rfl (by omega), ?_⟩
      rintro v w5 ⟨rfl, hk, hk2, hE5⟩
      refine ⟨_, _, _, rfl, no, hE5, Away.no _, fun id1 hid1 w6 hE6 hi6 hcell => ?_⟩
      have hs6 := hE6.size
      refine fin (gk := w4.heap.size) (gt := w3.heap.size) (w5 := w5) (w6 := w6) (goal (hE2.trans hE3) hE4 hE5) (by omega) (by omega) (by omega) hk (by rw [hE5.keep _ (by omega) (fun h => h)]; exact ht) hid1 hE6 hcell (by omega)
theorem refRight_c (p : Pl) {w : World} {F G : Nat → Prop} {A : Option Addr} {l c : Nat} {B : Option Addr} {bl bc : Nat} (h : NdsR w F p.root.kids A l c) (h2 : IntsR w G p.cells B bl bc) (hF : ∀ x, F x ∨ G x → x < w.heap.size) :
    CallsX E.P 25 #[plA p A l c B bl bc] w (IsV (.bool (refKind p != 0)) w) never := by
  refine vc25 ?_
  intro id hid w1 hE hi
  exact callI (refKind_c p (h.ext hE) (h2.ext hE) (fun x hx => by have := hF x hx; have := hE.size; omega)) fun w2 hE2 => ⟨rfl, hE.trans hE2⟩
end
section
open Go Go.Vx Go.Proofs
theorem test77 (x : Int) {w : World} : CallsX E.P 77 #[.int .i64 x] w (IsV (.bool (decide (x < 0) || decide (x > 4))) w) never := by
  have r := Upd.refl w no
  refine vc77 ⟨fun h => ⟨by rw [h]; rfl, r⟩, fun h => ⟨by rw [h]; rfl, r⟩⟩
theorem cellsBad_cons (x : Int) (l : List Int) : cellsBad (x :: l) = ((decide (x < 0) || decide (x > 4)) || cellsBad l) := by
  rw [cellsBad]; cases decide (x < 0) <;> cases decide (x > 4) <;> rfl
theorem bad_c (zs : List Int) {w : World} {G : Nat → Prop} {B : Option Addr} {bl bc : Nat} (h2 : IntsR w G zs B bl bc) : CallsX E.P 76 #[.slice B bl bc, .func (.func 77) #[] #[]] w (IsV (.bool (cellsBad zs)) w) never := by
  obtain rfl := h2.len
  have hl := h2.lt
  refine vc76 ?_
  refine ⟨fun v w2 => (∃ x : Int, v = .int .i64 x ∧ decide (x ≥ 0) = cellsBad zs) ∧ Ext w w2, never, vc108 ?_, ?_, never_any⟩
  · refine loop0 (kids := zs) rfl (by omega) (Upd.refl w _) (fun _ => cellsBad) (fun I m j w2 hj hg hE2 k => ?_) (fun w2 hg hE2 => ?_)
    · rw [cellsBad_cons] at hg
      refine h2.idx hj fun ad ha => (h2.ext hE2).cell ha hj ?_
      refine callB (test77 _) fun w3 hE3 => ⟨fun ht => ?_, fun ht => ?_⟩
      · exact ⟨⟨_, rfl, by rw [← hg, ht]; simp⟩, hE2.trans hE3⟩
      · rw [ht, Bool.false_or] at hg
        exact k _ hg (hE2.trans hE3)
    · exact ⟨⟨_, rfl, by rw [← hg]; rfl⟩, hE2⟩
  · rintro v w2 ⟨⟨x, rfl, hx⟩, hE⟩
    exact ⟨x, rfl, no, hE, Away.no _, by rw [hx], hE⟩
set_option maxRecDepth 20000
set_option maxHeartbeats 1000000
theorem catch_idle (p : Addr) (w : World) :
    CallsD Tryz.prog 78 #[.pointer (some p)] .returning w fun e u' w' => e = .returned (.tuple #[]) ∧ u' = .returning ∧ w' = w := by
  refine callsD_of_wpS Tryz.func78 rfl fun c₀ cs hu => ?_
  apply wpS_seq
  apply wpS_region
  simp [wpOpsS, go_sem, recoverD, hu, Tryz.ntmps78, Exit.thenS]
  refine wpS_of_wp ?_
  have ht : (#[Value.pointer (some p)] ++ (Array.replicate 9 undef).setIfInBounds 3 Value.nilIface) = #[Value.pointer (some p), undef, undef, undef, Value.nilIface, undef, undef, undef, undef, undef] := rfl
  rw [ht]
  go_wp2
  cases c₀
  simp_all [bodyPostS, results, Tryz.results78]
theorem one_cell {w : World} {b : Nat} {x : Value} {t : Nat} (h : w.heap[b]? = some (.cells #[x] t (0, 0))) : w.cell? ⟨b, 0, none⟩ = some x ∧ w.frozen? ⟨b, 0, none⟩ = false := by
  constructor
  · simp only [World.cell?, h]; rfl
  · simp only [World.frozen?, h]; rfl
theorem alloc_keep {w : World} {b : Nat} {o o2 : Obj} (h : w.heap[b]? = some o) : (w.alloc o2).heap[b]? = some o := by
  have := lt_of_get h
  simp only [World.alloc, Array.getElem?_push]
  rw [if_neg (by omega)]; exact h
theorem alloc_new {w : World} {o : Obj} : (w.alloc o).heap[w.heap.size]? = some o := by show (w.heap.push o)[w.heap.size]? = some o; exact Array.getElem?_push_size
theorem catch_unfit (b : Nat) (older : List PanicEntry) (x : Int) (w : World) (h : w.heap[b]? = some (.cells #[.int .i64 x] 3 (0, 0))) :
    CallsD Tryz.prog 78 #[.pointer (some ⟨b, 0, none⟩)] (.panicking ({ v := .iface 98 (.agg #[]), recovered := false } :: older)) w fun e u' w' =>
      e = .returned (.tuple #[]) ∧ u' = .panicking ({ v := .iface 98 (.agg #[]), recovered := true } :: older) ∧ w' = (w.alloc (.cells #[] 98)).setCell ⟨b, 0, none⟩ (.int .i64 0) := by
  refine callsD_of_wpS Tryz.func78 rfl fun c₀ cs hu => ?_
  apply wpS_seq
  apply wpS_region
  simp [wpOpsS, go_sem, recoverD, hu, Tryz.ntmps78, Exit.thenS]
  refine wpS_of_wp ?_
  have ht : (#[Value.pointer (some ⟨b, 0, none⟩)] ++ (Array.replicate 9 undef).setIfInBounds 3 (.iface 98 (.agg #[]))) = #[Value.pointer (some ⟨b, 0, none⟩), undef, undef, undef, .iface 98 (.agg #[]), undef, undef, undef, undef, undef] := rfl
  rw [ht]
  have hta : ∀ w : World, Sem.run Tryz.prog (Instr.typeAssert (.iface 98 (.agg #[])) 20 98 true) w = .ok (.tuple #[.agg #[], .bool true]) w := fun w => by simp only [Instr.typeAssert, Sem.run_bind, run_underlying (Tryz.underlying98) w, Result.andThen_ok, if_pos, Sem.run_pure]
  obtain ⟨hc, hz⟩ := one_cell (alloc_keep (o2 := .cells #[] 98) h)
  go_wp2
  refine ⟨rfl, _, rfl, _, results_none rfl _ _ _, rfl, rfl, rfl⟩
theorem alloc_ext (w : World) (o : Obj) : Ext w (w.alloc o) :=
  ⟨rfl, rfl, rfl, by simp only [World.size_alloc]; omega, fun k hk _ => by simp only [World.alloc, Array.getElem?_push]; rw [if_neg (by omega)]⟩
theorem set_upd (w : World) (b : Nat) (v : Value) : Upd w (w.setCell ⟨b, 0, none⟩ v) (fun x => x = b) :=
  ⟨rfl, rfl, rfl, by simp [World.setCell], fun k hk hs => by simp only [World.setCell, Array.getElem?_modify]; rw [if_neg (fun e => hs e.symm)]⟩
theorem set_at {w : World} {b : Nat} {x : Value} {t : Nat} (h : w.heap[b]? = some (.cells #[x] t (0, 0))) (v : Value) : (w.setCell ⟨b, 0, none⟩ v).heap[b]? = some (.cells #[v] t (0, 0)) := by
  simp only [World.setCell, Array.getElem?_modify, h]; simp
theorem res49 {tm : Array Value} {w : World} {b : Nat} {x : Int} (h : tm[2]?.getD undef = .pointer (some ⟨b, 0, none⟩)) (hh : w.heap[b]? = some (.cells #[.int .i64 x] 3 (0, 0))) : (results Tryz.f49 tm).run Tryz.prog w = .ok (.int .i64 x) w := by
  obtain ⟨hc, hz⟩ := one_cell hh
  simp [results, Tryz.results49, go_sem, h, hc]
theorem start_lst {w w2 : World} {G : Nat → Prop} {zs : List Int} {B : Option Addr} {bc : Nat} (h2 : IntsR w G zs B zs.length bc) (hE : Ext w w2) (hG : ∀ x, G x → x < w.heap.size) :
    Lst (((w2.alloc (.map #[] 0)).alloc (.map #[] 0)).alloc (.cells #[.slice B zs.length bc, .map (some w2.heap.size), .map (some (w2.heap.size + 1)), .int .i64 0] 103)) (w2.heap.size + 1 + 1) w2.heap.size (w2.heap.size + 1) zs B bc
      ⟨0, List.replicate zs.length none, List.replicate zs.length 0, true⟩ := by
  have hs := hE.size
  have e1 : w2.heap.size + 1 = (w2.alloc (.map #[] 0)).heap.size := by simp
  have e2 : w2.heap.size + 1 + 1 = ((w2.alloc (.map #[] 0)).alloc (.map #[] 0)).heap.size := by simp
  have hE3 := ((alloc_ext w2 (.map #[] 0)).trans (alloc_ext _ (.map #[] 0))).trans (alloc_ext _ (.cells #[.slice B zs.length bc, .map (some w2.heap.size), .map (some (w2.heap.size + 1)), .int .i64 0] 103))
  refine ⟨by rw [e2]; exact alloc_new, ?_, ⟨fun _ => none, ⟨[], 0, alloc_keep (alloc_keep alloc_new), fun _ _ => rfl, by simp [bornOk]⟩, fun i x hx => ?_⟩, ⟨fun _ => none, ⟨[], 0, by rw [e1]; exact alloc_keep alloc_new, fun _ _ => rfl, by simp [bornOk]⟩, fun i y hy => ?_⟩, by simp, by simp, by omega, by omega, by omega⟩
  · exact RowIn.mono (RowIn.upd h2 (hE.trans hE3) (no_no _)) fun x hx hS => by
      have := hG x hx
      rcases hS with e | e | e <;> omega
  · have := List.getElem?_eq_some_iff.1 hx
    obtain ⟨hi, hx⟩ := this
    simp at hx
    subst hx; rfl
  · obtain ⟨hi, hy⟩ := List.getElem?_eq_some_iff.1 hy
    simp at hy
theorem kind49 (p : Pl) {w : World} {F G : Nat → Prop} {A : Option Addr} {l c : Nat} {B : Option Addr} {bl bc : Nat} (h : NdsR w F p.root.kids A l c) (h2 : IntsR w G p.cells B bl bc) (hF : ∀ x, F x ∨ G x → x < w.heap.size) :
    CallsX E.P 49 #[plA p A l c B bl bc] w (IsV (.int .i64 (planKind p)) w) never := by
  refine ⟨?_⟩
  show Calls Tryz.prog 49 _ _ _
  have hmf : ∀ (fn : Fn) (first cap : Array Value) (w : World), (Instr.makeFunc fn first cap).run Tryz.prog w = .ok (.func fn first cap) w := fun _ _ _ _ => rfl
  have hmk : ∀ (t : Nat) (w : World), Sem.run Tryz.prog (Instr.makeMap t none) w = .ok (.map (some w.heap.size)) (w.alloc (.map #[] 0)) := fun _ _ => rfl
  obtain rfl := h2.len
  have hE1 : Ext w ((w.alloc (Obj.cells #[.int .i64 p.root.k, .int .i64 p.root.n, .string p.root.s, .slice A l c, .slice B p.cells.length bc] 27)).alloc (Obj.cells #[.int .i64 0] 3)) := (alloc_ext _ _).trans (alloc_ext _ _)
  have k1 : ((w.alloc (Obj.cells #[.int .i64 p.root.k, .int .i64 p.root.n, .string p.root.s, .slice A l c, .slice B p.cells.length bc] 27)).alloc (Obj.cells #[.int .i64 0] 3)).heap[w.heap.size]? = some (Obj.cells #[.int .i64 p.root.k, .int .i64 p.root.n, .string p.root.s, .slice A l c, .slice B p.cells.length bc] 27) := alloc_keep alloc_new
  have k2 : ((w.alloc (Obj.cells #[.int .i64 p.root.k, .int .i64 p.root.n, .string p.root.s, .slice A l c, .slice B p.cells.length bc] 27)).alloc (Obj.cells #[.int .i64 0] 3)).heap[w.heap.size + 1]? = some (Obj.cells #[.int .i64 0] 3) := by
    have := alloc_new (w := w.alloc (Obj.cells #[.int .i64 p.root.k, .int .i64 p.root.n, .string p.root.s, .slice A l c, .slice B p.cells.length bc] 27)) (o := Obj.cells #[.int .i64 0] 3)
    rwa [World.size_alloc] at this
  have k3 : w.heap.size + 2 ≤ ((w.alloc (Obj.cells #[.int .i64 p.root.k, .int .i64 p.root.n, .string p.root.s, .slice A l c, .slice B p.cells.length bc] 27)).alloc (Obj.cells #[.int .i64 0] 3)).heap.size := by simp
  go_enter_defers Tryz.func49, Tryz.ntmps49
  go_wp2_with fail
  · generalize ((w.alloc (Obj.cells #[.int .i64 p.root.k, .int .i64 p.root.n, .string p.root.s, .slice A l c, .slice B p.cells.length bc] 27)).alloc (Obj.cells #[.int .i64 0] 3)) = w1 at *
    refine (bad_c p.cells (h2.ext hE1)).out.mono ?_
    rintro (v | _ | _) w2 hR
    · obtain ⟨rfl, hE2⟩ := hR
      have g1 : w2.heap[w.heap.size]? = _ := (hE2.keep _ (lt_of_get k1) (fun h => h)).trans k1
      have g2 : w2.heap[w.heap.size + 1]? = _ := (hE2.keep _ (lt_of_get k2) (fun h => h)).trans k2
      have hs2 := hE2.size
      have hE02 := hE1.trans hE2
      have c4 : w2.cell? ⟨w.heap.size, 4, none⟩ = some (.slice B p.cells.length bc) := by simp only [World.cell?, g1]; rfl
      obtain ⟨c5, z5⟩ := one_cell g2
      have g3 : (((w2.alloc (.map #[] 0)).alloc (.map #[] 0)).alloc (.cells #[.slice B p.cells.length bc, .map (some w2.heap.size), .map (some (w2.heap.size + 1)), .int .i64 0] 103)).heap[w.heap.size]? = _ := alloc_keep (alloc_keep (alloc_keep g1))
      have g4 : (((w2.alloc (.map #[] 0)).alloc (.map #[] 0)).alloc (.cells #[.slice B p.cells.length bc, .map (some w2.heap.size), .map (some (w2.heap.size + 1)), .int .i64 0] 103)).heap[w.heap.size + 1]? = _ := alloc_keep (alloc_keep (alloc_keep g2))
      have hE03 := hE02.trans (((alloc_ext w2 (.map #[] 0)).trans (alloc_ext _ (.map #[] 0))).trans (alloc_ext _ (.cells #[.slice B p.cells.length bc, .map (some w2.heap.size), .map (some (w2.heap.size + 1)), .int .i64 0] 103)))
      have hL := start_lst h2 hE02 (fun x hx => hF x (.inr hx))
      have d0 : (((w2.alloc (.map #[] 0)).alloc (.map #[] 0)).alloc (.cells #[.slice B p.cells.length bc, .map (some w2.heap.size), .map (some (w2.heap.size + 1)), .int .i64 0] 103)).cell? ⟨w.heap.size, 0, none⟩ = some (.int .i64 p.root.k) := by rw [World.cell?, g3]; rfl
      have d1 : (((w2.alloc (.map #[] 0)).alloc (.map #[] 0)).alloc (.cells #[.slice B p.cells.length bc, .map (some w2.heap.size), .map (some (w2.heap.size + 1)), .int .i64 0] 103)).cell? ⟨w.heap.size, 1, none⟩ = some (.int .i64 p.root.n) := by rw [World.cell?, g3]; rfl
      have d2 : (((w2.alloc (.map #[] 0)).alloc (.map #[] 0)).alloc (.cells #[.slice B p.cells.length bc, .map (some w2.heap.size), .map (some (w2.heap.size + 1)), .int .i64 0] 103)).cell? ⟨w.heap.size, 2, none⟩ = some (.string p.root.s) := by rw [World.cell?, g3]; rfl
      have d3 : (((w2.alloc (.map #[] 0)).alloc (.map #[] 0)).alloc (.cells #[.slice B p.cells.length bc, .map (some w2.heap.size), .map (some (w2.heap.size + 1)), .int .i64 0] 103)).cell? ⟨w.heap.size, 3, none⟩ = some (.slice A l c) := by rw [World.cell?, g3]; rfl
      cases hb : cellsBad p.cells with
      | true =>
        go_wp2_with fail
        refine ⟨.int .i64 0, res49 rfl (set_at g2 _), ?_, Upd.step hE02 (set_upd _ _ _) (by intro x hx; omega)⟩
        rw [planKind, hb, if_pos rfl]
        split <;> rfl
      | false =>
        go_wp2_with fail
        have hpk1 : ∀ r, lookK p.cells p.root.size 0 0 ⟨0, List.replicate p.cells.length none, List.replicate p.cells.length 0, true⟩ p.root = some r → planKind p = r.1 := fun r e => by
          rw [planKind, hb, if_neg (by simp; omega), if_neg Bool.false_ne_true, e]
        have hpk0 : lookK p.cells p.root.size 0 0 ⟨0, List.replicate p.cells.length none, List.replicate p.cells.length 0, true⟩ p.root = none → planKind p = 0 := fun e => by
          rw [planKind, hb, if_neg (by simp; omega), if_neg Bool.false_ne_true, e]
        refine (kindK_c p.root.size p.root (Nat.le_refl _) 0 0 _ hL (NdsG.mono (h.ext hE03) fun x hx hS => by
          have := hF x (.inl hx)
          have := hE02.size
          rcases hS with e | e | e <;> omega)).out.mono ?_
        have hk4 : ∀ {w4 : World}, Upd (((w2.alloc (.map #[] 0)).alloc (.map #[] 0)).alloc (.cells #[.slice B p.cells.length bc, .map (some w2.heap.size), .map (some (w2.heap.size + 1)), .int .i64 0] 103)) w4 (S3 (w2.heap.size + 1 + 1) w2.heap.size (w2.heap.size + 1)) →
            w4.heap[w.heap.size + 1]? = some (.cells #[.int .i64 0] 3 (0, 0)) ∧ Ext w w4 := fun {w4} hU => by
          refine ⟨(hU.keep _ (lt_of_get g4) (fun hS => ?_)).trans g4, Upd.step hE03 hU fun x hx => ?_⟩
          · rcases hS with e | e | e <;> omega
          · have := hE02.size
            rcases hx with e | e | e <;> omega
        rintro (v | ch | _) w4 hR
        · obtain ⟨pr, hpr, rfl, hL4, hU⟩ := hR
          obtain ⟨hc4, hE4⟩ := hk4 hU
          obtain ⟨e5, e6⟩ := one_cell hc4
          go_wp2_with fail
          refine leaves_cons (f := 78) (args := #[.pointer (some ⟨w.heap.size + 1, 0, none⟩)]) (by simp) (by simp [go_sem]) ?_
          refine (catch_idle _ _).mono ?_
          rintro e u' w'' ⟨rfl, rfl, rfl⟩
          exact ⟨.int .i64 pr.1, res49 rfl (set_at hc4 _), by rw [hpk1 _ hpr], Upd.step hE4 (set_upd _ _ _) (by intro x hx; omega)⟩
        · obtain ⟨hnone, rfl, hU⟩ := hR
          obtain ⟨hc4, hE4⟩ := hk4 hU
          refine leaves_cons (f := 78) (args := #[.pointer (some ⟨w.heap.size + 1, 0, none⟩)]) (by simp) (by simp [go_sem]) ?_
          refine (catch_unfit (w.heap.size + 1) [] 0 w4 hc4).mono ?_
          rintro e u' w'' ⟨rfl, rfl, rfl⟩
          exact ⟨.int .i64 0, res49 rfl (set_at (alloc_keep hc4) _), by rw [hpk0 hnone], Upd.step (hE4.trans (alloc_ext _ _)) (set_upd _ _ _) (by intro x hx; omega)⟩
        · exact hR.elim
    · exact hR.elim
    · exact hR.elim
  · refine ⟨.int .i64 0, res49 rfl k2, ?_, hE1⟩
    rename_i hx
    rw [planKind, if_pos (by simp; omega)]
theorem planKind_c (p : Pl) {w : World} {F G : Nat → Prop} {A : Option Addr} {l c : Nat} {B : Option Addr} {bl bc : Nat} (h : NdsR w F p.root.kids A l c) (h2 : IntsR w G p.cells B bl bc) (hF : ∀ x, F x ∨ G x → x < w.heap.size) :
    CallsX E.P 49 #[plA p A l c B bl bc] w (IsV (.int .i64 (refKind p)) w) never := planKind_eq p ▸ kind49 p h h2 hF
theorem planRight_c (p : Pl) {w : World} {F G : Nat → Prop} {A : Option Addr} {l c : Nat} {B : Option Addr} {bl bc : Nat} (h : NdsR w F p.root.kids A l c) (h2 : IntsR w G p.cells B bl bc) (hF : ∀ x, F x ∨ G x → x < w.heap.size) :
    CallsX E.P 28 #[plA p A l c B bl bc] w (IsV (.bool (refKind p != 0)) w) never := by
  refine vc28 ?_
  intro id hid w1 hE hi
  exact callI (planKind_c p (h.ext hE) (h2.ext hE) (fun x hx => by have := hF x hx; have := hE.size; omega)) fun w2 hE2 => ⟨rfl, hE.trans hE2⟩
def rightB (p : Pl) : Bool := refKind p != 0
theorem right_le {p : Pl} (h : rightB p = true) : p.cells.length ≤ 256 := by
  unfold rightB refKind at h
  split at h
  · cases h
  · rename_i h2; simp at h2; omega
theorem planHoist_c (p : Pl) (hN : p.root.size < 2 ^ 30) {w : World} {F G : Nat → Prop} {A : Option Addr} {l c : Nat} {B : Option Addr} {bl bc : Nat} (h : NdsR w F p.root.kids A l c) (h2 : IntsR w G p.cells B bl bc) (hF : ∀ x, F x ∨ G x → x < w.heap.size) :
    CallsX E.P 12 #[plA p A l c B bl bc] w (fun v w' => ∃ A l c B bl bc F G, v = .tuple #[plA (hoistP p (rightB p)).1 A l c B bl bc, .int .i64 (hoistP p (rightB p)).2] ∧ PlO w' F G (hoistP p (rightB p)).1 A l c B bl bc ∧ (∀ x, F x ∨ G x → w.heap.size ≤ x ∧ x < w'.heap.size) ∧ Ext w w') never :=
  hoist_c p (rightB p) right_le hN h h2 (fun x hx => hF x (.inl hx)) fun w' hE => planRight_c p (h.ext hE) (h2.ext hE) fun x hx => by have := hF x hx; have := hE.size; omega
theorem refHoistP_c (p : Pl) (hN : p.root.size < 2 ^ 30) {w : World} {F G : Nat → Prop} {A : Option Addr} {l c : Nat} {B : Option Addr} {bl bc : Nat} (h : NdsR w F p.root.kids A l c) (h2 : IntsR w G p.cells B bl bc) (hF : ∀ x, F x ∨ G x → x < w.heap.size) :
    CallsX E.P 10 #[plA p A l c B bl bc] w (fun v w' => ∃ A l c B bl bc, v = .tuple #[plA (refHoist p (rightB p)).1 A l c B bl bc, .int .i64 (refHoist p (rightB p)).2] ∧ NdsR w' (fun x => F x ∨ (w.heap.size ≤ x ∧ x < w'.heap.size)) (refHoist p (rightB p)).1.root.kids A l c ∧
      IntsR w' (fun x => w.heap.size ≤ x ∧ x < w'.heap.size) (refHoist p (rightB p)).1.cells B bl bc ∧ Ext w w') never :=
  refHoist_c p (rightB p) right_le hN h h2 (fun x hx => hF x (.inl hx)) fun w' hE => refRight_c p (h.ext hE) (h2.ext hE) fun x hx => by have := hF x hx; have := hE.size; omega
end
section
open Go Go.Vx Go.Proofs
theorem hoist_one (p : Pl) : hoistP p (rightB p) = refHoist p (rightB p) := by
  unfold hoistP refHoist
  cases h : rightB p with
  | false => rfl
  | true =>
    have h0 : refKind p ≠ 0 := by unfold rightB at h; simpa using h
    rw [if_pos rfl, if_pos rfl, gone_part p.root 0 0 p.cells (right_two h0) (right_le h)]
theorem hoist_size (p : Pl) (b : Bool) : (hoistP p b).1.root.size ≤ 2 * p.root.size + 1 := by
  unfold hoistP
  split
  · have := gone_size p.root 0 0 p.cells; dsimp only; omega
  · simp [Nd.size, Nd.sizes]
theorem hoist_cells (p : Pl) : (hoistP p (rightB p)).1.cells.length ≤ 256 := by
  unfold hoistP
  split
  · rename_i h; exact gone_len p.root 0 0 p.cells (right_le h)
  · simp
theorem hoistPlans_c (haw : ∀ w, CallsX E.P 9 #[] w (IsV (.bool true) w) never) (p : Pl) {w : World} {F G : Nat → Prop} {A : Option Addr} {l c : Nat} {B : Option Addr} {bl bc : Nat} (h : NdsR w F p.root.kids A l c) (h2 : IntsR w G p.cells B bl bc) (hF : ∀ x, F x ∨ G x → x < w.heap.size) :
    CallsX E.P 3 #[plA p A l c B bl bc] w (IsV (.bool true) w) never := by
  refine vc3 ?_
  intro id hid w1 hE1 hi1
  have hs1 := hE1.size
  refine callB (heavy_c p (h.ext hE1) (h2.ext hE1)) fun w2 hE2 => ⟨fun hx => ⟨rfl, Ext.trans hE1 hE2⟩, fun hx => ?_⟩
  have hE02 : Ext w w2 := Ext.trans hE1 hE2
  obtain ⟨hsz, hcl⟩ := light hx
  have hs2 := hE02.size
  have hs12 := hE2.size
  refine callB (haw w2) fun w3 hE3 => ?_
  have hE03 := hE02.trans hE3
  have hs3 := hE03.size
  have hs23 := hE3.size
  refine ⟨_, _, refHoistP_c p (by omega) (h.ext hE03) (h2.ext hE03) (fun x hx => by have := hF x hx; omega), ?_, never_any⟩
  rintro v w4 ⟨A2, l2, c2, B2, bl2, bc2, rfl, hq, hqc, hE4⟩
  refine ⟨_, _, _, _, _, _, _, _, _, _, rfl, no, hE4, Away.no _, fun id1 hid1 w5 hE5 hi5 => ?_⟩
  have hE05 := (hE03.trans hE4).trans hE5
  have hs4 := hE4.size
  have hs5 : w4.heap.size ≤ w5.heap.size := Upd.size hE5
  have hblen : bl = p.cells.length := h2.len
  refine ⟨_, _, lentPl_c p (h.ext hE05) (h2.ext hE05) (by omega) (by omega), ?_, never_any⟩
  rintro v w6 ⟨A3, l3, c3, B3, bl3, bc3, rfl, hlt, hlti, hE6⟩
  refine ⟨_, _, _, _, _, _, _, _, _, rfl, no, hE6, Away.no _, fun id2 hid2 w7 hE7 hi7 => ?_⟩
  have hs6 := hE6.size
  have hs7 : w6.heap.size ≤ w7.heap.size := Upd.size hE7
  have hE67 : Ext w6 w7 := hE7
  refine ⟨fun x w8 => ∃ j : Nat, x = j ∧ j ≤ 2 ∧ Ext w7 w8, fun x => (2 - x).toNat, ⟨0, rfl, by omega, Upd.refl _ _⟩, ?_⟩
  rintro _ x w8 ⟨j, rfl, hj, hE8⟩
  have hs8 := hE8.size
  have hE48 : Ext w4 w8 := ((Ext.trans hE5 hE6).trans hE67).trans hE8
  have hE08 : Ext w w8 := (hE03.trans hE4).trans hE48
  refine ⟨fun hlt2 => ?_, fun hge => ⟨rfl, hE08⟩⟩
  have hj2 : j < 2 := by simp at hlt2; omega
  have own8 : LtsR w8 (Rng w5.heap.size w6.heap.size) p.root.kids A3 l3 c3 := (hlt.ext hE67).ext hE8
  have owni8 : LtInts w8 (Rng w5.heap.size w6.heap.size) p.cells B3 bl3 bc3 := (hlti.ext hE67).ext hE8
  refine ⟨_, _, planHoist_c p (by omega) own8.plain owni8.plain (fun x hx => by rcases hx with hx | hx <;> exact Nat.lt_of_lt_of_le hx.2 (by omega)), ?_, never_any⟩
  rintro v w9 ⟨A4, l4, c4, B4, bl4, bc4, F4, G4, rfl, hO, hF4, hE9⟩
  have hs9 := hE9.size
  refine ⟨_, _, _, _, _, _, _, _, _, _, rfl, no, hE9, Away.no _, fun id3 hid3 w10 hE10 hi10 => ?_⟩
  have hs10 : w9.heap.size ≤ w10.heap.size := Upd.size hE10
  have hE10' : Ext w9 w10 := hE10
  have hE410 := (hE48.trans hE9).trans hE10'
  refine callB (samePl_c (hoistP p (rightB p)).1 (refHoist p (rightB p)).1 (hO.1.plain.ext hE10') ((ints_of hO.2.1).ext hE10') (hq.ext hE410) (hqc.ext hE410)) fun w11 hE11 => ?_
  have hE811 := (hE9.trans hE10').trans hE11
  refine callB (keptPl_c p p (own8.ext hE811) (owni8.ext hE811) (h.ext (hE08.trans hE811)) (h2.ext (hE08.trans hE811))) fun w12 hE12 => ?_
  have e1 : samePl (hoistP p (rightB p)).1 (refHoist p (rightB p)).1 = true := by rw [hoist_one]; exact samePl_rfl _
  have e2 : keptPl p p = true := keptPl_rfl p
  have e3 : ((hoistP p (rightB p)).2 != (refHoist p (rightB p)).2) = false := by rw [hoist_one]; simp
  refine ⟨(fun hh => by cases hh), fun _ => ⟨(fun hh => by rw [e1] at hh; cases hh), fun _ => ⟨(fun hh => by rw [e2] at hh; cases hh), fun _ => ⟨(fun hh => by rw [e3] at hh; cases hh), fun _ => ?_⟩⟩⟩⟩
  have hE912 := (hE10'.trans hE11).trans hE12
  have hs11 := hE11.size
  have hs12 := hE12.size
  have hO12 : PlO w12 F4 G4 (hoistP p (rightB p)).1 A4 l4 c4 B4 bl4 bc4 := ⟨hO.1.ext hE912, RowsG.updF hO.2.1 hE912 (no_no _), hO.2.2⟩
  have hb4 : bl4 = (hoistP p (rightB p)).1.cells.length := (ints_of hO.2.1).len
  have hc4 := hoist_cells p
  have hz4 := hoist_size p (rightB p)
  refine ⟨_, _, Over_c _ (by omega) hO12 (fun x hx => by have := hF4 x hx; omega) (by omega), ?_, never_any⟩
  rintro v w13 ⟨rfl, hU13⟩
  have hs13 := hU13.size
  refine ⟨_, rfl, _, hU13, away_of (fun i hi hS => ?_), ?_⟩
  · have := hF4 i hS
    simp only [List.mem_cons, List.not_mem_nil, or_false] at hi
    omega
  have hE812 := hE811.trans hE12
  have own13 : LtsR w13 (Rng w5.heap.size w6.heap.size) p.root.kids A3 l3 c3 := (own8.ext hE812).upd hU13 fun x hx hS => by have := hF4 x hS; have := hx.2; omega
  have owni13 : LtInts w13 (Rng w5.heap.size w6.heap.size) p.cells B3 bl3 bc3 := (owni8.ext hE812).upd hU13 fun x hx hS => by have := hF4 x hS; have := hx.2; omega
  have hE013 : Ext w w13 := Upd.step (hE08.trans hE812) hU13 fun x hx => by have := hF4 x hx; have := hE08.size; omega
  refine callB (keptPl_c p p own13 owni13 (h.ext hE013) (h2.ext hE013)) fun w14 hE14 => ⟨(fun hh => by rw [e2] at hh; cases hh), fun _ => ⟨⟨j + 1, w64_succ (by omega), by omega, ?_⟩, ?_⟩⟩
  · refine Upd.step (((hE8.trans hE9).trans hE912)) hU13 (fun x hx => by have := hF4 x hx; omega) |>.trans hE14
  · rw [w64_succ (by omega)]; dsimp only; omega
end
section
open Go Go.Vx Go.Proofs
def sumOk : Bool := match parseF sumT 60 with
  | none => false
  | some r => r.2.1 == 0 && decide (r.1.size ≤ 100) && (ofF r.1).2 == 0 && decide ((ofF r.1).1.root.size ≤ 100) &&
    (let q := hoistP (ofF r.1).1 (rightB (ofF r.1).1); q.2 == 0 && decide (q.1.cells = [0]) && decide (q.1.root.kids.length = 2) && (q.1.root.kids.getD 1 nd0).k == 26)
theorem sum_ok : sumOk = true := by decide +kernel
theorem sum_parts : ∃ r : Ex × Int × Int, parseF sumT 60 = some r ∧ r.2.1 = 0 ∧ r.1.size ≤ 100 ∧ (ofF r.1).2 = 0 ∧ (ofF r.1).1.root.size ≤ 100 ∧ (hoistP (ofF r.1).1 (rightB (ofF r.1).1)).2 = 0 ∧
    (hoistP (ofF r.1).1 (rightB (ofF r.1).1)).1.cells = [0] ∧ (hoistP (ofF r.1).1 (rightB (ofF r.1).1)).1.root.kids.length = 2 ∧ ((hoistP (ofF r.1).1 (rightB (ofF r.1).1)).1.root.kids.getD 1 nd0).k = 26 := by
  have h := sum_ok
  unfold sumOk at h
  split at h
  · cases h
  · rename_i r hr
    simp only [Bool.and_eq_true, beq_iff_eq, decide_eq_true_eq] at h
    obtain ⟨⟨⟨⟨h1, h2⟩, h3⟩, h4⟩, ⟨⟨h5, h6⟩, h7⟩, h8⟩ := h
    exact ⟨r, hr, h1, h2, h3, h4, h5, h6, h7, h8⟩
theorem awake_c (w : World) : CallsX E.P 9 #[] w (IsV (.bool true) w) never := by
  obtain ⟨r, hr, e0, hz, f0, hn, g0, hc, hl, hk⟩ := sum_parts
  refine vc9 ?_
  refine ⟨_, _, parse_c sumT 60 (by decide) r hr, ?_, never_any⟩
  rintro v w2 ⟨A, l, c, rfl, hx, hE2⟩
  have t2 := hE2.size
  refine ⟨_, _, _, _, _, _, _, _, _, rfl, no, hE2, Away.no _, fun id hid w3 hE3 hi3 => ?_⟩
  have hE3' : Ext w2 w3 := hE3
  have t3 := hE3'.size
  refine ⟨_, _, of_c r.1 (hx.ext hE3') (fun x hx => by have := hx.2; omega) (by omega), ?_, never_any⟩
  rintro v w4 ⟨A4, l4, c4, rfl, hN4, hcells, hE4⟩
  have t4 := hE4.size
  refine ⟨_, _, _, _, _, _, _, _, _, _, rfl, no, hE4, Away.no _, fun id1 hid1 w5 hE5 hi5 => ?_⟩
  have hE5' : Ext w4 w5 := hE5
  have t5 := hE5'.size
  have hI : IntsR w5 no (ofF r.1).1.cells none 0 0 := by rw [hcells]; exact ⟨rfl, Nat.le_refl _, by decide, by simp, fun h => absurd rfl h⟩
  refine ⟨_, _, planHoist_c (ofF r.1).1 (by omega) (hN4.ext hE5') hI (fun x hx => by rcases hx with hx | hx; have := hx.2; omega; exact hx.elim), ?_, never_any⟩
  rintro v w6 ⟨A6, l6, c6, B6, bl6, bc6, F6, G6, rfl, hO, hF6, hE6⟩
  have hE06 : Ext w w6 := (((hE2.trans hE3').trans hE4).trans hE5').trans hE6
  refine ⟨_, _, _, _, _, _, _, _, _, _, rfl, no, hE6, Away.no _, fun id2 hid2 => ?_⟩
  have hq := hO.1.plain
  have hqc := ints_of hO.2.1
  generalize hoistP (ofF r.1).1 (rightB (ofF r.1).1) = q at hq hqc g0 hc hl hk ⊢
  have l6e : l6 = 2 := by rw [hq.len, hl]
  have b6e : bl6 = 1 := by rw [hqc.len, hc]; rfl
  refine ⟨fun _ => ⟨fun _ => ⟨fun _ => ⟨fun _ => ?_, fun hh => ?_⟩, fun hh => ?_⟩, fun hh => ?_⟩, fun hh => ?_⟩
  · refine hqc.idx (j := 0) (by rw [hc]; decide) fun ad ha w7 hE7 hi7 => ?_
    have hE7' : Ext w6 w7 := hE7
    refine (hqc.ext hE7').cell ha (j := 0) (by rw [hc]; decide) ?_
    have hc0 : q.1.cells[0]'(by rw [hc]; decide) = 0 := by simp only [hc]; rfl
    rw [hc0]
    refine ⟨fun _ => ⟨fun _ => ?_, fun hh => ?_⟩, fun hh => absurd hh (by decide)⟩
    · refine hq.idx (j := 1) (by omega) fun ad1 ha1 => ?_
      obtain ⟨A8, l8, c8, h8, _⟩ := (hq.ext hE7').get ha1 (j := 1) (by omega)
      refine ⟨_, cells_at h8 (j := 0) rfl, ?_⟩
      have hk1 : (q.1.root.kids[1]'(by omega)).k = 26 := by
        rw [List.getD_eq_getElem?_getD, List.getElem?_eq_getElem (by omega)] at hk
        exact hk
      rw [hk1]
      exact ⟨rfl, hE06.trans hE7'⟩
    · rw [l6e] at hh; exact absurd hh (by decide)
  · rw [b6e] at hh; exact absurd hh (by decide)
  · rw [g0] at hh; exact absurd hh (by decide)
  · rw [f0] at hh; exact absurd hh (by decide)
  · rw [e0] at hh; exact absurd hh (by decide)
theorem hoistPlans (p : Pl) {w : World} {F G : Nat → Prop} {A : Option Addr} {l c : Nat} {B : Option Addr} {bl bc : Nat} (h : NdsR w F p.root.kids A l c) (h2 : IntsR w G p.cells B bl bc) (hF : ∀ x, F x ∨ G x → x < w.heap.size) :
    CallsX E.P 3 #[plA p A l c B bl bc] w (IsV (.bool true) w) never := hoistPlans_c awake_c p h h2 hF
end
section
open Go Go.Vx Go.Proofs Go.ChangeShapes Go.WideShapes Go.ChangeAt Go.RowKit Go.Joins
set_option maxRecDepth 100000
set_option maxHeartbeats 400000
def Old (w : World) : Nat → Prop := fun b => b < w.heap.size
section
variable {H : Type}
theorem weights_mem_all {e : TypeId} {x : DataW H} {m : Nat} (hm : m ∈ x.weights Tryz.prog e) : ∀ {l : List (DataW H)}, x ∈ l → m ∈ DataW.weightsAll Tryz.prog e l
  | y :: l, h => by
    rw [DataW.weightsAll, List.mem_append]
    rcases List.mem_cons.1 h with rfl | h
    · exact .inl hm
    · exact .inr (weights_mem_all hm h)
def Fits (t : TypeId) (d : DataW H) : Prop := ∀ m ∈ d.weights Tryz.prog t, m ≤ reachBytes
theorem Fits.slice {t e : TypeId} (ht : Tryz.prog.underlying t = some (.slice e)) {elems spare : List (DataW H)} (h : Fits t (.slice elems spare)) : elems.length * Tryz.prog.bytesOf e ≤ reachBytes ∧ ∀ x ∈ elems, Fits e x := by
  unfold Fits at h
  simp only [DataW.weights, ht, List.mem_cons, List.mem_append] at h
  refine ⟨Nat.le_trans (Nat.mul_le_mul_right _ (Nat.le_add_right _ _)) (h _ (.inl rfl)), fun x hx m hm => h m (.inr (.inl (weights_mem_all hm hx)))⟩
theorem Fits.part {t : TypeId} {fs : Array Field} (ht : Tryz.prog.underlying t = some (.struct fs)) {parts : List (DataW H)} (h : Fits t (.agg parts)) {j : Nat} {f : Field} {x : DataW H} (hf : fs[j]? = some f) (hx : parts[j]? = some x) : Fits f.type x := fun m hm => h m (by
  simp only [DataW.weights, ht]
  exact DataW.weights_mem_each (j := j) (by rw [List.getElem?_map, Array.getElem?_toList, hf]; rfl) hx m hm)
end
section
variable {H : Type} {enc : TypeId × Value → H} {w : World} {sp : Nat → Bool} {hd : Bool}
end
theorem below_ext {w w' : World} (k : Ext w w') : Below w.heap.size w w' := ⟨k.os, k.tape, k.output, k.size, fun i hi => k.keep i hi fun h => h⟩
theorem post_true {H : Type} {enc : TypeId × Value → H} {fn : Func} {s : ChangeSpec} {t tb : TypeId} (hp : fn.params = #[t]) (hr : fn.resultTypes = #[tb]) (hb : Tryz.prog.underlying tb = some .bool) (hs : s.vars = []) (hf : ∀ d, s.fn H [d] = { results := [.lit (.bool true)], args := [d] })
    (hl : laidOutB Tryz.prog = true) (hrd : Tryz.prog.readableRec t = true) (ht : t < Tryz.prog.types.size) {W W' : World} {args : Array Value} {ds gs : List (DataW H)} {before : List MemPlace} (hW : DataW.Whole enc Tryz.prog fn.params.toList s.vars false W args.toList ds gs before) (k : Ext W W') :
    s.post enc Tryz.prog fn false true false false W args (.bool true) W' := by
  have hW' := hW
  obtain ⟨p, q, hA, hV, rfl, hfz, hnd⟩ := hW
  rw [hp] at hA
  rw [hs] at hV
  obtain ⟨v, d, e1, e2, h0⟩ := trodAll_one hA
  obtain ⟨rfl, rfl⟩ := trodVars_none hV
  subst e2
  have hlt := DataW.Whole.lt hW'
  have hB := below_ext k
  refine ⟨[d], [], _, [], p, [], hW', ?_, ?_, ?_, hB.frame _, fun h => nomatch h⟩
  · have e3 : s.fn H ([d] ++ []) = { results := [.lit (.bool true)], args := [d] } := hf d
    rw [e3, hr]
    exact trodAll_mk1 (shut_bool hb true)
  · have e3 : s.fn H ([d] ++ []) = { results := [.lit (.bool true)], args := [d] } := hf d
    rw [e3, hp, e1]
    exact trodAll_mk1 (WideElems.Trod_stays hl hrd ht h0 (fun x hx => hB.same (hlt x (List.mem_append_left _ hx))) (fun x hx => decide_eq_true (hlt x (List.mem_append_left _ hx))))
  · rw [hs]
    have e3 : s.fn H ([d] ++ []) = { results := [.lit (.bool true)], args := [d] } := hf d
    rw [e3]
    rfl
theorem laidOut : laidOutB Tryz.prog = true := by kernel_rfl
end
section
open Go Go.Vx Go.Proofs Go.ChangeShapes Go.WideShapes Go.ChangeAt Go.RowKit Go.Joins
set_option maxRecDepth 100000
theorem readable9 : Tryz.prog.readableRec 9 = true := by kernel_rfl
theorem types9 : 9 < Tryz.prog.types.size := of_decide_eq_true (by kernel_rfl)
theorem text_calls {H : Type} {enc : TypeId × Value → H} {f : FuncId} {fn : Func} {s : ChangeSpec} {tb : TypeId} (hp : fn.params = #[9]) (hr : fn.resultTypes = #[tb]) (hb : Tryz.prog.underlying tb = some .bool) (hs : s.vars = []) (hf : ∀ d, s.fn H [d] = { results := [.lit (.bool true)], args := [d] })
    (law : ∀ (x : ByteArray) {w : World}, CallsX E.P f #[.string x] w (IsV (.bool true) w) never)
    {W : World} {base : Nat} {args : Array Value} {ds gs : List (DataW H)} {before : List MemPlace} (hval : ∀ (j : Nat) t v, fn.params[j]? = some t → args[j]? = some v → Value.okWide Tryz.prog W .any base t v) (hW : DataW.Whole enc Tryz.prog fn.params.toList s.vars false W args.toList ds gs before) :
    Calls Tryz.prog f args W fun e W' => ∃ v, e = .returned v ∧ s.post enc Tryz.prog fn false true false false W args v W' := by
  have hW' := hW
  obtain ⟨p, q, hA, hV, _, _, _⟩ := hW
  rw [hp] at hA
  obtain ⟨v, d, rfl, rfl, h0⟩ := trodAll_one hA
  obtain ⟨x, rfl, rfl, rfl, _⟩ := ChangeMaps.open_string Tryz.underlying9 (hval 0 9 v (by rw [hp]; rfl) rfl) h0
  refine (law x).out.mono fun e W' h => ?_
  cases e with
  | returned v =>
    have h : v = Value.bool true ∧ Ext W W' := h
    obtain ⟨rfl, hE⟩ := h
    exact ⟨_, rfl, post_true hp hr hb hs hf laidOut readable9 types9 hW' hE⟩
  | panicked ch => exact (h : never ch W').elim
  | outgrown => exact h.elim
end
end Go.Vx.Tryz
