/- Texts of the walk, gathered. -/
import Derived.Test.YtingeadhfbcacaaGreatMa1
import Derived.Test.YtingeadhfbcacaaGreatMa3
import Derived.Test.YtingeadhfbcacaaGreatMa2
import Derived.Shelf.Strings.Runes
set_option linter.unusedSimpArgs false
set_option linter.unusedVariables false
namespace Go.Vx.Tryz
open Go Go.Vx Go.Proofs
section
set_option maxRecDepth 100000
theorem vc121 {a : Nat} {a0 : Option Addr} {a0l a0c : Nat} {a1 a2 b c : Int} {w : World} {R : Value → World → Prop} {X : ContX} (ha : w.heap[a]? = some (.cells #[.slice a0 a0l a0c, .int .i64 a1, .int .i64 a2] 84 (0, 0))) (h : 
 ((a1 == 0) = true → ∀ w1, Upd w w1 (setOf [a]) → w1.heap[a]? = some (.cells #[.slice a0 a0l a0c, .int .i64 b, .int .i64 c] 84) → R (.tuple #[]) w1) ∧ ((a1 == 0) = false → w.heap[a]? = some (.cells #[.slice a0 a0l a0c, .int .i64 a1, .int .i64 a2] 84) → R (.tuple #[]) w)
 ) : CallsX E.P 121 #[.pointer (some ⟨a, 0, none⟩), .int .i64 b, .int .i64 c] w R X :=
  calls_vc E_ok ⟨[], []⟩ (f := 121) Tryz.func121 rfl [(.pointer (some ⟨a, 0, none⟩), .ptr 0 0), (.int .i64 b, .no), (.int .i64 c, .no)] [⟨a, 84, false, [⟨.slice a0 a0l a0c, .no, 0⟩, ⟨.int .i64 a1, .no, 0⟩, ⟨.int .i64 a2, .no, 0⟩]⟩] (bls1 ha) nod1 (plain_of rfl) (shs_of ⟨rfl, trivial, trivial, trivial⟩) h (by kernel_rfl)
theorem vc92 {a : Nat} {a0 : Option Addr} {a0l a0c : Nat} {a1 a2 b0 b1 : Int} {b2 : ByteArray} {b3 : Option Addr} {b3l b3c : Nat} {b4 : Int} {w : World} {R : Value → World → Prop} {X : ContX} (ha : w.heap[a]? = some (.cells #[.slice a0 a0l a0c, .int .i64 a1, .int .i64 a2] 84 (0, 0))) (h : 
 ∀ id, w.heap.size ≤ id → ∀ w1, Upd w w1 (setOf []) → id < w1.heap.size → ∃ (I : Int → World → Prop), ∃ (m : Int → Nat), I 0 w1 ∧ ∀ (jk : Nat → Value) (x : Int) (w2 : World), I x w2 → (decide (x < (↑a0l : Int)) = true → (0 ≤ x ∧ x < (↑a0l : Int)) ∧ ∃ ad, a0 = some ad ∧ ∀ w11, Upd w2 w11 (setOf []) → ∃ x1, CellsIn w11 (Addr.add ad (Int.toNat x * 1)) [.string x1] ∧ (strEq x1 b2 = true → w11.heap[a]? = some (.cells #[.slice a0 a0l a0c, .int .i64 a1, .int .i64 a2] 84) → R (.int .i64 3) w11) ∧ (strEq x1 b2 = false → I (w64 (x + 1)) w11 ∧ m (w64 (x + 1)) < m x)) ∧ (decide (x < (↑a0l : Int)) = false → w2.heap[a]? = some (.cells #[.slice a0 a0l a0c, .int .i64 a1, .int .i64 a2] 84) → ∃ R1 X', CallsX E.P 121 #[.pointer (some ⟨a, 0, none⟩), .int .i64 130, .int .i64 b4] w2 R1 X' ∧ (∀ v w21, R1 v w21 → ∃ (v1 : Value), v = v1 ∧ ∃ S, Upd w2 w21 S ∧ Away [id] S ∧ ∃ a1 n, ∃ c x2 x3, w21.heap[a]? = some (.cells #[.slice a1 n c, .int .i64 x2, .int .i64 x3] 84) ∧ 3 = 3 ∧ (w21.heap[a]? = some (.cells #[.slice a1 n c, .int .i64 x2, .int .i64 x3] 84) → R (.int .i64 0) w21)) ∧ PX X' X)
 ) : CallsX E.P 92 #[.pointer (some ⟨a, 0, none⟩), .agg #[.int .i64 b0, .int .i64 b1, .string b2, .slice b3 b3l b3c, .int .i64 b4]] w R X :=
  calls_vc E_ok ⟨[(2, ⟨[(5, .int .i64)], []⟩)], []⟩ (f := 92) Tryz.func92 rfl [(.pointer (some ⟨a, 0, none⟩), .ptr 0 0), (.agg #[.int .i64 b0, .int .i64 b1, .string b2, .slice b3 b3l b3c, .int .i64 b4], .no)] [⟨a, 84, false, [⟨.slice a0 a0l a0c, .no, 0⟩, ⟨.int .i64 a1, .no, 0⟩, ⟨.int .i64 a2, .no, 0⟩]⟩] (bls1 ha) nod1 (plain_of rfl) (shs_of ⟨rfl, trivial, trivial⟩) h (by kernel_rfl)
theorem vc93 {a : Nat} {a0 : Option Addr} {a0l a0c : Nat} {a1 a2 b0 b1 : Int} {b2 : ByteArray} {b3 : Option Addr} {b3l b3c : Nat} {b4 c : Int} {w : World} {R : Value → World → Prop} {X : ContX} (ha : w.heap[a]? = some (.cells #[.slice a0 a0l a0c, .int .i64 a1, .int .i64 a2] 84 (0, 0))) (h : 
 ∀ id, w.heap.size ≤ id → ((a1 != 0) = true → ∀ w1, Upd w w1 (setOf []) → id < w1.heap.size → w1.heap[a]? = some (.cells #[.slice a0 a0l a0c, .int .i64 a1, .int .i64 a2] 84) → R (.tuple #[]) w1) ∧ ((a1 != 0) = false → ∀ w11, Upd w w11 (setOf []) → id < w11.heap.size → w11.heap[a]? = some (.cells #[.slice a0 a0l a0c, .int .i64 a1, .int .i64 a2] 84) → ∃ R1 X', CallsX E.P 61 #[.pointer (some ⟨a, 0, none⟩), .agg #[.int .i64 b0, .int .i64 b1, .string b2, .slice b3 b3l b3c, .int .i64 b4]] w11 R1 X' ∧ (∀ v w2, R1 v w2 → ∃ x, v = .int .i64 x ∧ ∃ S, Upd w11 w2 S ∧ Away [id] S ∧ ∃ a1 n, ∃ c1 x1 x2, w2.heap[a]? = some (.cells #[.slice a1 n c1, .int .i64 x1, .int .i64 x2] 84) ∧ 3 = 3 ∧ ((x1 == 0) = true → ((x != c) = true → w2.heap[a]? = some (.cells #[.slice a1 n c1, .int .i64 x1, .int .i64 x2] 84) → ∃ R2 X'1, CallsX E.P 121 #[.pointer (some ⟨a, 0, none⟩), .int .i64 131, .int .i64 b4] w2 R2 X'1 ∧ (∀ v1 w21, R2 v1 w21 → ∃ (v2 : Value), v1 = v2 ∧ ∃ S1, Upd w2 w21 S1 ∧ Away [id] S1 ∧ ∃ a2 n1, ∃ c2 x3 x4, w21.heap[a]? = some (.cells #[.slice a2 n1 c2, .int .i64 x3, .int .i64 x4] 84) ∧ 3 = 3 ∧ (w21.heap[a]? = some (.cells #[.slice a2 n1 c2, .int .i64 x3, .int .i64 x4] 84) → R (.tuple #[]) w21)) ∧ PX X'1 X) ∧ ((x != c) = false → w2.heap[a]? = some (.cells #[.slice a1 n c1, .int .i64 x1, .int .i64 x2] 84) → R (.tuple #[]) w2)) ∧ ((x1 == 0) = false → w2.heap[a]? = some (.cells #[.slice a1 n c1, .int .i64 x1, .int .i64 x2] 84) → R (.tuple #[]) w2)) ∧ PX X' X)
 ) : CallsX E.P 93 #[.pointer (some ⟨a, 0, none⟩), .agg #[.int .i64 b0, .int .i64 b1, .string b2, .slice b3 b3l b3c, .int .i64 b4], .int .i64 c] w R X :=
  calls_vc E_ok ⟨[], []⟩ (f := 93) Tryz.func93 rfl [(.pointer (some ⟨a, 0, none⟩), .ptr 0 0), (.agg #[.int .i64 b0, .int .i64 b1, .string b2, .slice b3 b3l b3c, .int .i64 b4], .no), (.int .i64 c, .no)] [⟨a, 84, false, [⟨.slice a0 a0l a0c, .no, 0⟩, ⟨.int .i64 a1, .no, 0⟩, ⟨.int .i64 a2, .no, 0⟩]⟩] (bls1 ha) nod1 (plain_of rfl) (shs_of ⟨rfl, trivial, trivial, trivial⟩) h (by kernel_rfl)
theorem vc94 {a : Nat} {a0 : Option Addr} {a0l a0c : Nat} {a1 a2 b0 b1 : Int} {b2 : ByteArray} {b3 : Option Addr} {b3l b3c : Nat} {b4 c d : Int} {w : World} {R : Value → World → Prop} {X : ContX} (ha : w.heap[a]? = some (.cells #[.slice a0 a0l a0c, .int .i64 a1, .int .i64 a2] 84 (0, 0))) (h : 
 ∀ id, w.heap.size ≤ id → ((0 : Int) ≤ 0 ∧ 0 < (↑b3l : Int)) ∧ ∃ ad, b3 = some ad ∧ ∀ w1, Upd w w1 (setOf []) → id < w1.heap.size → ∃ x x1, ∃ x2 a1_1, ∃ n c1 x3, CellsIn w1 (Addr.add ad 0) [.int .i64 x, .int .i64 x1, .string x2, .slice a1_1 n c1, .int .i64 x3] ∧ (w1.heap[a]? = some (.cells #[.slice a0 a0l a0c, .int .i64 a1, .int .i64 a2] 84) → ∃ R1 X', CallsX E.P 93 #[.pointer (some ⟨a, 0, none⟩), .agg #[.int .i64 x, .int .i64 x1, .string x2, .slice a1_1 n c1, .int .i64 x3], .int .i64 c] w1 R1 X' ∧ (∀ v w2, R1 v w2 → ∃ (v1 : Value), v = v1 ∧ ∃ S, Upd w1 w2 S ∧ Away [id] S ∧ ∃ a2 n1, ∃ c2 x4 x5, w2.heap[a]? = some (.cells #[.slice a2 n1 c2, .int .i64 x4, .int .i64 x5] 84) ∧ 3 = 3 ∧ ((0 : Int) ≤ 1 ∧ 1 < (↑b3l : Int)) ∧ ∃ ad1, b3 = some ad1 ∧ ∃ x6 x7, ∃ x8 a3, ∃ n2 c3 x9, CellsIn w2 (Addr.add ad1 5) [.int .i64 x6, .int .i64 x7, .string x8, .slice a3 n2 c3, .int .i64 x9] ∧ (w2.heap[a]? = some (.cells #[.slice a2 n1 c2, .int .i64 x4, .int .i64 x5] 84) → ∃ R2 X'1, CallsX E.P 93 #[.pointer (some ⟨a, 0, none⟩), .agg #[.int .i64 x6, .int .i64 x7, .string x8, .slice a3 n2 c3, .int .i64 x9], .int .i64 c] w2 R2 X'1 ∧ (∀ v2 w21, R2 v2 w21 → ∃ (v3 : Value), v2 = v3 ∧ ∃ S1, Upd w2 w21 S1 ∧ Away [id] S1 ∧ ∃ a4 n3, ∃ c4 x10 x11, w21.heap[a]? = some (.cells #[.slice a4 n3 c4, .int .i64 x10, .int .i64 x11] 84) ∧ 3 = 3 ∧ (w21.heap[a]? = some (.cells #[.slice a4 n3 c4, .int .i64 x10, .int .i64 x11] 84) → R (.int .i64 d) w21)) ∧ PX X'1 X)) ∧ PX X' X)
 ) : CallsX E.P 94 #[.pointer (some ⟨a, 0, none⟩), .agg #[.int .i64 b0, .int .i64 b1, .string b2, .slice b3 b3l b3c, .int .i64 b4], .int .i64 c, .int .i64 d] w R X :=
  calls_vc E_ok ⟨[], []⟩ (f := 94) Tryz.func94 rfl [(.pointer (some ⟨a, 0, none⟩), .ptr 0 0), (.agg #[.int .i64 b0, .int .i64 b1, .string b2, .slice b3 b3l b3c, .int .i64 b4], .no), (.int .i64 c, .no), (.int .i64 d, .no)] [⟨a, 84, false, [⟨.slice a0 a0l a0c, .no, 0⟩, ⟨.int .i64 a1, .no, 0⟩, ⟨.int .i64 a2, .no, 0⟩]⟩] (bls1 ha) nod1 (plain_of rfl) (shs_of ⟨rfl, trivial, trivial, trivial, trivial⟩) h (by kernel_rfl)
theorem vc96 {a : Nat} {a0 : Option Addr} {a0l a0c : Nat} {a1 a2 b0 b1 : Int} {b2 : ByteArray} {b3 : Option Addr} {b3l b3c : Nat} {b4 : Int} {w : World} {R : Value → World → Prop} {X : ContX} (ha : w.heap[a]? = some (.cells #[.slice a0 a0l a0c, .int .i64 a1, .int .i64 a2] 84 (0, 0))) (h : 
 ∀ id, w.heap.size ≤ id → ((0 : Int) ≤ 0 ∧ 0 < (↑b3l : Int)) ∧ ∃ ad, b3 = some ad ∧ ∀ w1, Upd w w1 (setOf []) → id < w1.heap.size → ∃ x x1, ∃ x2 a1_1, ∃ n c x3, CellsIn w1 (Addr.add ad 0) [.int .i64 x, .int .i64 x1, .string x2, .slice a1_1 n c, .int .i64 x3] ∧ ∀ id1, w1.heap.size ≤ id1 → ∀ w11, Upd w1 w11 (setOf []) → id1 < w11.heap.size → ∃ (I : Int → Option Addr → Nat → Nat → Int → Int → World → Prop), ∃ (m : Int → Option Addr → Nat → Nat → Int → Int → Nat), I 0 a0 a0l a0c a1 a2 w11 ∧ ∀ (jk : Nat → Value) (x4 : Int) (a2 : Option Addr) (n1 c1 : Nat) (x5 x6 : Int) (w2 : World), I x4 a2 n1 c1 x5 x6 w2 → (decide (x4 < (↑n : Int)) = true → (0 ≤ x4 ∧ x4 < (↑n : Int)) ∧ ∃ ad1, a1_1 = some ad1 ∧ ∃ x7 x8, ∃ x9 a3, ∃ n2 c2 x10, CellsIn w2 (Addr.add ad1 (Int.toNat x4 * 5)) [.int .i64 x7, .int .i64 x8, .string x9, .slice a3 n2 c2, .int .i64 x10] ∧ (w2.heap[a]? = some (.cells #[.slice a2 n1 c1, .int .i64 x5, .int .i64 x6] 84) → ∃ R1 X', CallsX E.P 93 #[.pointer (some ⟨a, 0, none⟩), .agg #[.int .i64 x7, .int .i64 x8, .string x9, .slice a3 n2 c2, .int .i64 x10], .int .i64 3] w2 R1 X' ∧ (∀ v w21, R1 v w21 → ∃ (v1 : Value), v = v1 ∧ ∃ S, Upd w2 w21 S ∧ Away [id, id1] S ∧ ∃ a4 n3, ∃ c3 x11 x12, w21.heap[a]? = some (.cells #[.slice a4 n3 c3, .int .i64 x11, .int .i64 x12] 84) ∧ 3 = 3 ∧ I (w64 (x4 + 1)) a4 n3 c3 x11 x12 w21 ∧ m (w64 (x4 + 1)) a4 n3 c3 x11 x12 < m x4 a2 n1 c1 x5 x6) ∧ PX X' X)) ∧ (decide (x4 < (↑n : Int)) = false → ∃ R2, RunsTo E.P (Builtin.append_ #[76, 76] 76 #[.slice none 0 0, .slice a2 n1 c1]) w2 R2 ∧ ∀ v2 w23, R2 v2 w23 → ∃ a5 n4 c4, v2 = .slice a5 n4 c4 ∧ ∃ S1, Upd w2 w23 S1 ∧ Away [a, id, id1] S1 ∧ ∀ id2, w23.heap.size ≤ id2 → ∀ w12, Upd w23 w12 (setOf []) → id2 < w12.heap.size → w12.heap[id2]? = some (.cells #[.string b2] 9) → ∃ R3, RunsTo E.P (Builtin.append_ #[76, 76] 76 #[.slice a5 n4 c4, .slice (some ⟨id2, 0, none⟩) 1 1]) w12 R3 ∧ ∀ v3 w24, R3 v3 w24 → ∃ a6 n5 c5, v3 = .slice a6 n5 c5 ∧ ∃ S2, Upd w12 w24 S2 ∧ Away [a, id, id1, id2] S2 ∧ ((0 : Int) ≤ 1 ∧ 1 < (↑b3l : Int)) ∧ ∃ ad2, b3 = some ad2 ∧ (∀ w13, Upd w24 w13 (setOf [a]) → w13.heap[id2]? = some (.cells #[.string b2] 9) → ∃ x13 x14, ∃ x15 a7, ∃ n6 c6 x16, CellsIn w13 (Addr.add ad2 5) [.int .i64 x13, .int .i64 x14, .string x15, .slice a7 n6 c6, .int .i64 x16] ∧ (w13.heap[id2]? = some (.cells #[.string b2] 9) → ∃ R4 X'1, CallsX E.P 122 #[.int .i64 b1] w13 R4 X'1 ∧ (∀ v4 w25, R4 v4 w25 → ∃ x17, v4 = .int .i64 x17 ∧ ∃ S3, Upd w13 w25 S3 ∧ Away [a, id, id1, id2] S3 ∧ (w25.heap[a]? = some (.cells #[.slice a6 n5 c5, .int .i64 x5, .int .i64 x6] 84) → w25.heap[id2]? = some (.cells #[.string b2] 9) → ∃ R5 X'2, CallsX E.P 93 #[.pointer (some ⟨a, 0, none⟩), .agg #[.int .i64 x13, .int .i64 x14, .string x15, .slice a7 n6 c6, .int .i64 x16], .int .i64 x17] w25 R5 X'2 ∧ (∀ v5 w26, R5 v5 w26 → ∃ (v6 : Value), v5 = v6 ∧ ∃ S4, Upd w25 w26 S4 ∧ Away [id, id1, id2] S4 ∧ ∃ a8 n7, ∃ c7 x18 x19, w26.heap[a]? = some (.cells #[.slice a8 n7 c7, .int .i64 x18, .int .i64 x19] 84) ∧ 3 = 3 ∧ ∀ w14, Upd w26 w14 (setOf [a]) → w14.heap[id2]? = some (.cells #[.string b2] 9) → ∃ R6 X'3, CallsX E.P 123 #[.int .i64 b1] w14 R6 X'3 ∧ (∀ v7 w27, R6 v7 w27 → ∃ x20, v7 = .int .i64 x20 ∧ ∃ S5, Upd w14 w27 S5 ∧ Away [a, id, id1, id2] S5 ∧ (w27.heap[a]? = some (.cells #[.slice a2 n1 c1, .int .i64 x18, .int .i64 x19] 84) → w27.heap[id2]? = some (.cells #[.string b2] 9) → R (.int .i64 x20) w27)) ∧ PX X'3 X) ∧ PX X'2 X)) ∧ PX X'1 X)) ∧ ∀ w15, Upd w24 w15 (setOf [a]) → w15.heap[id2]? = some (.cells #[.string b2] 9) → ∃ R7 X'4, CallsX E.P 122 #[.int .i64 b1] w15 R7 X'4 ∧ (∀ v8 w211, R7 v8 w211 → ∃ x21, v8 = .int .i64 x21 ∧ ∃ S6, Upd w15 w211 S6 ∧ Away [a, id, id1, id2] S6 ∧ (w211.heap[id2]? = some (.cells #[.string b2] 9) → ∃ x22 x23, ∃ x24 a9, ∃ n8 c8 x25, CellsIn w211 (Addr.add ad2 5) [.int .i64 x22, .int .i64 x23, .string x24, .slice a9 n8 c8, .int .i64 x25] ∧ (w211.heap[a]? = some (.cells #[.slice a6 n5 c5, .int .i64 x5, .int .i64 x6] 84) → w211.heap[id2]? = some (.cells #[.string b2] 9) → ∃ R8 X'5, CallsX E.P 93 #[.pointer (some ⟨a, 0, none⟩), .agg #[.int .i64 x22, .int .i64 x23, .string x24, .slice a9 n8 c8, .int .i64 x25], .int .i64 x21] w211 R8 X'5 ∧ (∀ v9 w212, R8 v9 w212 → ∃ (v10 : Value), v9 = v10 ∧ ∃ S7, Upd w211 w212 S7 ∧ Away [id, id1, id2] S7 ∧ ∃ a10 n9, ∃ c9 x26 x27, w212.heap[a]? = some (.cells #[.slice a10 n9 c9, .int .i64 x26, .int .i64 x27] 84) ∧ 3 = 3 ∧ ∀ w16, Upd w212 w16 (setOf [a]) → w16.heap[id2]? = some (.cells #[.string b2] 9) → ∃ R9 X'6, CallsX E.P 123 #[.int .i64 b1] w16 R9 X'6 ∧ (∀ v11 w213, R9 v11 w213 → ∃ x28, v11 = .int .i64 x28 ∧ ∃ S8, Upd w16 w213 S8 ∧ Away [a, id, id1, id2] S8 ∧ (w213.heap[a]? = some (.cells #[.slice a2 n1 c1, .int .i64 x26, .int .i64 x27] 84) → w213.heap[id2]? = some (.cells #[.string b2] 9) → R (.int .i64 x28) w213)) ∧ PX X'6 X) ∧ PX X'5 X))) ∧ PX X'4 X)
 ) : CallsX E.P 96 #[.pointer (some ⟨a, 0, none⟩), .agg #[.int .i64 b0, .int .i64 b1, .string b2, .slice b3 b3l b3c, .int .i64 b4]] w R X :=
  calls_vc E_ok ⟨[(3, ⟨[(6, .int .i64)], [(0, 0, .slc), (0, 1, .int .i64), (0, 2, .int .i64)]⟩)], []⟩ (f := 96) Tryz.func96 rfl [(.pointer (some ⟨a, 0, none⟩), .ptr 0 0), (.agg #[.int .i64 b0, .int .i64 b1, .string b2, .slice b3 b3l b3c, .int .i64 b4], .no)] [⟨a, 84, false, [⟨.slice a0 a0l a0c, .no, 0⟩, ⟨.int .i64 a1, .no, 0⟩, ⟨.int .i64 a2, .no, 0⟩]⟩] (bls1 ha) nod1 (plain_of rfl) (shs_of ⟨rfl, trivial, trivial⟩) h (by kernel_rfl)
theorem vc61 {a : Nat} {a0 : Option Addr} {a0l a0c : Nat} {a1 a2 b0 b1 : Int} {b2 : ByteArray} {b3 : Option Addr} {b3l b3c : Nat} {b4 : Int} {w : World} {R : Value → World → Prop} {X : ContX} (ha : w.heap[a]? = some (.cells #[.slice a0 a0l a0c, .int .i64 a1, .int .i64 a2] 84 (0, 0))) (h : 
 ∀ id, w.heap.size ≤ id → ((b0 == 1) = true → ∀ w1, Upd w w1 (setOf []) → id < w1.heap.size → w1.heap[a]? = some (.cells #[.slice a0 a0l a0c, .int .i64 a1, .int .i64 a2] 84) → R (.int .i64 1) w1) ∧ ((b0 == 1) = false → ((b0 == 2) = true → ∀ w11, Upd w w11 (setOf []) → id < w11.heap.size → w11.heap[a]? = some (.cells #[.slice a0 a0l a0c, .int .i64 a1, .int .i64 a2] 84) → R (.int .i64 2) w11) ∧ ((b0 == 2) = false → ((b0 == 3) = true → ∀ w12, Upd w w12 (setOf []) → id < w12.heap.size → w12.heap[a]? = some (.cells #[.slice a0 a0l a0c, .int .i64 a1, .int .i64 a2] 84) → R (.int .i64 3) w12) ∧ ((b0 == 3) = false → ((b0 == 4) = true → ∀ w13, Upd w w13 (setOf []) → id < w13.heap.size → w13.heap[a]? = some (.cells #[.slice a0 a0l a0c, .int .i64 a1, .int .i64 a2] 84) → ∃ R1 X', CallsX E.P 92 #[.pointer (some ⟨a, 0, none⟩), .agg #[.int .i64 b0, .int .i64 b1, .string b2, .slice b3 b3l b3c, .int .i64 b4]] w13 R1 X' ∧ (∀ v w2, R1 v w2 → ∃ x, v = .int .i64 x ∧ ∃ S, Upd w13 w2 S ∧ Away [id] S ∧ ∃ a1 n, ∃ c x1 x2, w2.heap[a]? = some (.cells #[.slice a1 n c, .int .i64 x1, .int .i64 x2] 84) ∧ 3 = 3 ∧ (w2.heap[a]? = some (.cells #[.slice a1 n c, .int .i64 x1, .int .i64 x2] 84) → R (.int .i64 x) w2)) ∧ PX X' X) ∧ ((b0 == 4) = false → ((b0 == 6) = true → ((0 : Int) ≤ 0 ∧ 0 < (↑b3l : Int)) ∧ ∃ ad, b3 = some ad ∧ ∀ w14, Upd w w14 (setOf []) → id < w14.heap.size → ∃ x3 x4, ∃ x5 a2_1, ∃ n1 c1 x6, CellsIn w14 (Addr.add ad 0) [.int .i64 x3, .int .i64 x4, .string x5, .slice a2_1 n1 c1, .int .i64 x6] ∧ (w14.heap[a]? = some (.cells #[.slice a0 a0l a0c, .int .i64 a1, .int .i64 a2] 84) → ∃ R2 X'1, CallsX E.P 93 #[.pointer (some ⟨a, 0, none⟩), .agg #[.int .i64 x3, .int .i64 x4, .string x5, .slice a2_1 n1 c1, .int .i64 x6], .int .i64 1] w14 R2 X'1 ∧ (∀ v1 w22, R2 v1 w22 → ∃ (v2 : Value), v1 = v2 ∧ ∃ S1, Upd w14 w22 S1 ∧ Away [id] S1 ∧ ∃ a3 n2, ∃ c2 x7 x8, w22.heap[a]? = some (.cells #[.slice a3 n2 c2, .int .i64 x7, .int .i64 x8] 84) ∧ 3 = 3 ∧ (w22.heap[a]? = some (.cells #[.slice a3 n2 c2, .int .i64 x7, .int .i64 x8] 84) → R (.int .i64 1) w22)) ∧ PX X'1 X)) ∧ ((b0 == 6) = false → ((b0 == 7) = true → ((0 : Int) ≤ 0 ∧ 0 < (↑b3l : Int)) ∧ ∃ ad1, b3 = some ad1 ∧ ∀ w15, Upd w w15 (setOf []) → id < w15.heap.size → ∃ x9 x10, ∃ x11 a4, ∃ n3 c3 x12, CellsIn w15 (Addr.add ad1 0) [.int .i64 x9, .int .i64 x10, .string x11, .slice a4 n3 c3, .int .i64 x12] ∧ (w15.heap[a]? = some (.cells #[.slice a0 a0l a0c, .int .i64 a1, .int .i64 a2] 84) → ∃ R3 X'2, CallsX E.P 93 #[.pointer (some ⟨a, 0, none⟩), .agg #[.int .i64 x9, .int .i64 x10, .string x11, .slice a4 n3 c3, .int .i64 x12], .int .i64 2] w15 R3 X'2 ∧ (∀ v3 w24, R3 v3 w24 → ∃ (v4 : Value), v3 = v4 ∧ ∃ S2, Upd w15 w24 S2 ∧ Away [id] S2 ∧ ∃ a5 n4, ∃ c4 x13 x14, w24.heap[a]? = some (.cells #[.slice a5 n4 c4, .int .i64 x13, .int .i64 x14] 84) ∧ 3 = 3 ∧ (w24.heap[a]? = some (.cells #[.slice a5 n4 c4, .int .i64 x13, .int .i64 x14] 84) → R (.int .i64 2) w24)) ∧ PX X'2 X)) ∧ ((b0 == 7) = false → ((b0 == 8) = true → ∀ w16, Upd w w16 (setOf []) → id < w16.heap.size → w16.heap[a]? = some (.cells #[.slice a0 a0l a0c, .int .i64 a1, .int .i64 a2] 84) → ∃ R4 X'3, CallsX E.P 94 #[.pointer (some ⟨a, 0, none⟩), .agg #[.int .i64 b0, .int .i64 b1, .string b2, .slice b3 b3l b3c, .int .i64 b4], .int .i64 1, .int .i64 1] w16 R4 X'3 ∧ (∀ v5 w26, R4 v5 w26 → ∃ x15, v5 = .int .i64 x15 ∧ ∃ S3, Upd w16 w26 S3 ∧ Away [id] S3 ∧ ∃ a6 n5, ∃ c5 x16 x17, w26.heap[a]? = some (.cells #[.slice a6 n5 c5, .int .i64 x16, .int .i64 x17] 84) ∧ 3 = 3 ∧ (w26.heap[a]? = some (.cells #[.slice a6 n5 c5, .int .i64 x16, .int .i64 x17] 84) → R (.int .i64 x15) w26)) ∧ PX X'3 X) ∧ ((b0 == 8) = false → ((b0 == 9) = true → ∀ w17, Upd w w17 (setOf []) → id < w17.heap.size → w17.heap[a]? = some (.cells #[.slice a0 a0l a0c, .int .i64 a1, .int .i64 a2] 84) → ∃ R5 X'4, CallsX E.P 94 #[.pointer (some ⟨a, 0, none⟩), .agg #[.int .i64 b0, .int .i64 b1, .string b2, .slice b3 b3l b3c, .int .i64 b4], .int .i64 1, .int .i64 1] w17 R5 X'4 ∧ (∀ v6 w28, R5 v6 w28 → ∃ x18, v6 = .int .i64 x18 ∧ ∃ S4, Upd w17 w28 S4 ∧ Away [id] S4 ∧ ∃ a7 n6, ∃ c6 x19 x20, w28.heap[a]? = some (.cells #[.slice a7 n6 c6, .int .i64 x19, .int .i64 x20] 84) ∧ 3 = 3 ∧ (w28.heap[a]? = some (.cells #[.slice a7 n6 c6, .int .i64 x19, .int .i64 x20] 84) → R (.int .i64 x18) w28)) ∧ PX X'4 X) ∧ ((b0 == 9) = false → ((b0 == 10) = true → ∀ w18, Upd w w18 (setOf []) → id < w18.heap.size → w18.heap[a]? = some (.cells #[.slice a0 a0l a0c, .int .i64 a1, .int .i64 a2] 84) → ∃ R6 X'5, CallsX E.P 94 #[.pointer (some ⟨a, 0, none⟩), .agg #[.int .i64 b0, .int .i64 b1, .string b2, .slice b3 b3l b3c, .int .i64 b4], .int .i64 1, .int .i64 1] w18 R6 X'5 ∧ (∀ v7 w210, R6 v7 w210 → ∃ x21, v7 = .int .i64 x21 ∧ ∃ S5, Upd w18 w210 S5 ∧ Away [id] S5 ∧ ∃ a8 n7, ∃ c7 x22 x23, w210.heap[a]? = some (.cells #[.slice a8 n7 c7, .int .i64 x22, .int .i64 x23] 84) ∧ 3 = 3 ∧ (w210.heap[a]? = some (.cells #[.slice a8 n7 c7, .int .i64 x22, .int .i64 x23] 84) → R (.int .i64 x21) w210)) ∧ PX X'5 X) ∧ ((b0 == 10) = false → ((b0 == 11) = true → ∀ w19, Upd w w19 (setOf []) → id < w19.heap.size → w19.heap[a]? = some (.cells #[.slice a0 a0l a0c, .int .i64 a1, .int .i64 a2] 84) → ∃ R7 X'6, CallsX E.P 94 #[.pointer (some ⟨a, 0, none⟩), .agg #[.int .i64 b0, .int .i64 b1, .string b2, .slice b3 b3l b3c, .int .i64 b4], .int .i64 1, .int .i64 1] w19 R7 X'6 ∧ (∀ v8 w212, R7 v8 w212 → ∃ x24, v8 = .int .i64 x24 ∧ ∃ S6, Upd w19 w212 S6 ∧ Away [id] S6 ∧ ∃ a9 n8, ∃ c8 x25 x26, w212.heap[a]? = some (.cells #[.slice a9 n8 c8, .int .i64 x25, .int .i64 x26] 84) ∧ 3 = 3 ∧ (w212.heap[a]? = some (.cells #[.slice a9 n8 c8, .int .i64 x25, .int .i64 x26] 84) → R (.int .i64 x24) w212)) ∧ PX X'6 X) ∧ ((b0 == 11) = false → ((b0 == 12) = true → ∀ w110, Upd w w110 (setOf []) → id < w110.heap.size → w110.heap[a]? = some (.cells #[.slice a0 a0l a0c, .int .i64 a1, .int .i64 a2] 84) → ∃ R8 X'7, CallsX E.P 94 #[.pointer (some ⟨a, 0, none⟩), .agg #[.int .i64 b0, .int .i64 b1, .string b2, .slice b3 b3l b3c, .int .i64 b4], .int .i64 1, .int .i64 1] w110 R8 X'7 ∧ (∀ v9 w214, R8 v9 w214 → ∃ x27, v9 = .int .i64 x27 ∧ ∃ S7, Upd w110 w214 S7 ∧ Away [id] S7 ∧ ∃ a10 n9, ∃ c9 x28 x29, w214.heap[a]? = some (.cells #[.slice a10 n9 c9, .int .i64 x28, .int .i64 x29] 84) ∧ 3 = 3 ∧ (w214.heap[a]? = some (.cells #[.slice a10 n9 c9, .int .i64 x28, .int .i64 x29] 84) → R (.int .i64 x27) w214)) ∧ PX X'7 X) ∧ ((b0 == 12) = false → ((b0 == 15) = true → ∀ w111, Upd w w111 (setOf []) → id < w111.heap.size → w111.heap[a]? = some (.cells #[.slice a0 a0l a0c, .int .i64 a1, .int .i64 a2] 84) → ∃ R9 X'8, CallsX E.P 94 #[.pointer (some ⟨a, 0, none⟩), .agg #[.int .i64 b0, .int .i64 b1, .string b2, .slice b3 b3l b3c, .int .i64 b4], .int .i64 1, .int .i64 2] w111 R9 X'8 ∧ (∀ v10 w216, R9 v10 w216 → ∃ x30, v10 = .int .i64 x30 ∧ ∃ S8, Upd w111 w216 S8 ∧ Away [id] S8 ∧ ∃ a11 n10, ∃ c10 x31 x32, w216.heap[a]? = some (.cells #[.slice a11 n10 c10, .int .i64 x31, .int .i64 x32] 84) ∧ 3 = 3 ∧ (w216.heap[a]? = some (.cells #[.slice a11 n10 c10, .int .i64 x31, .int .i64 x32] 84) → R (.int .i64 x30) w216)) ∧ PX X'8 X) ∧ ((b0 == 15) = false → ((b0 == 16) = true → ∀ w112, Upd w w112 (setOf []) → id < w112.heap.size → w112.heap[a]? = some (.cells #[.slice a0 a0l a0c, .int .i64 a1, .int .i64 a2] 84) → ∃ R10 X'9, CallsX E.P 94 #[.pointer (some ⟨a, 0, none⟩), .agg #[.int .i64 b0, .int .i64 b1, .string b2, .slice b3 b3l b3c, .int .i64 b4], .int .i64 1, .int .i64 2] w112 R10 X'9 ∧ (∀ v11 w218, R10 v11 w218 → ∃ x33, v11 = .int .i64 x33 ∧ ∃ S9, Upd w112 w218 S9 ∧ Away [id] S9 ∧ ∃ a12 n11, ∃ c11 x34 x35, w218.heap[a]? = some (.cells #[.slice a12 n11 c11, .int .i64 x34, .int .i64 x35] 84) ∧ 3 = 3 ∧ (w218.heap[a]? = some (.cells #[.slice a12 n11 c11, .int .i64 x34, .int .i64 x35] 84) → R (.int .i64 x33) w218)) ∧ PX X'9 X) ∧ ((b0 == 16) = false → ((b0 == 17) = true → ∀ w113, Upd w w113 (setOf []) → id < w113.heap.size → w113.heap[a]? = some (.cells #[.slice a0 a0l a0c, .int .i64 a1, .int .i64 a2] 84) → ∃ R11 X'10, CallsX E.P 94 #[.pointer (some ⟨a, 0, none⟩), .agg #[.int .i64 b0, .int .i64 b1, .string b2, .slice b3 b3l b3c, .int .i64 b4], .int .i64 2, .int .i64 2] w113 R11 X'10 ∧ (∀ v12 w220, R11 v12 w220 → ∃ x36, v12 = .int .i64 x36 ∧ ∃ S10, Upd w113 w220 S10 ∧ Away [id] S10 ∧ ∃ a13 n12, ∃ c12 x37 x38, w220.heap[a]? = some (.cells #[.slice a13 n12 c12, .int .i64 x37, .int .i64 x38] 84) ∧ 3 = 3 ∧ (w220.heap[a]? = some (.cells #[.slice a13 n12 c12, .int .i64 x37, .int .i64 x38] 84) → R (.int .i64 x36) w220)) ∧ PX X'10 X) ∧ ((b0 == 17) = false → ((b0 == 18) = true → ∀ w114, Upd w w114 (setOf []) → id < w114.heap.size → w114.heap[a]? = some (.cells #[.slice a0 a0l a0c, .int .i64 a1, .int .i64 a2] 84) → ∃ R12 X'11, CallsX E.P 94 #[.pointer (some ⟨a, 0, none⟩), .agg #[.int .i64 b0, .int .i64 b1, .string b2, .slice b3 b3l b3c, .int .i64 b4], .int .i64 2, .int .i64 2] w114 R12 X'11 ∧ (∀ v13 w222, R12 v13 w222 → ∃ x39, v13 = .int .i64 x39 ∧ ∃ S11, Upd w114 w222 S11 ∧ Away [id] S11 ∧ ∃ a14 n13, ∃ c13 x40 x41, w222.heap[a]? = some (.cells #[.slice a14 n13 c13, .int .i64 x40, .int .i64 x41] 84) ∧ 3 = 3 ∧ (w222.heap[a]? = some (.cells #[.slice a14 n13 c13, .int .i64 x40, .int .i64 x41] 84) → R (.int .i64 x39) w222)) ∧ PX X'11 X) ∧ ((b0 == 18) = false → ((b0 == 13) = true → ((0 : Int) ≤ 0 ∧ 0 < (↑b3l : Int)) ∧ ∃ ad2, b3 = some ad2 ∧ ∀ w115, Upd w w115 (setOf []) → id < w115.heap.size → ∃ x42 x43, ∃ x44 a15, ∃ n14 c14 x45, CellsIn w115 (Addr.add ad2 0) [.int .i64 x42, .int .i64 x43, .string x44, .slice a15 n14 c14, .int .i64 x45] ∧ (w115.heap[a]? = some (.cells #[.slice a0 a0l a0c, .int .i64 a1, .int .i64 a2] 84) → ∃ R13 X'12, CallsX E.P 61 #[.pointer (some ⟨a, 0, none⟩), .agg #[.int .i64 x42, .int .i64 x43, .string x44, .slice a15 n14 c14, .int .i64 x45]] w115 R13 X'12 ∧ (∀ v14 w224, R13 v14 w224 → ∃ x46, v14 = .int .i64 x46 ∧ ∃ S12, Upd w115 w224 S12 ∧ Away [id] S12 ∧ ∃ a16 n15, ∃ c15 x47 x48, w224.heap[a]? = some (.cells #[.slice a16 n15 c15, .int .i64 x47, .int .i64 x48] 84) ∧ 3 = 3 ∧ ((0 : Int) ≤ 1 ∧ 1 < (↑b3l : Int)) ∧ ∃ ad3, b3 = some ad3 ∧ ∃ x49 x50, ∃ x51 a17, ∃ n16 c16 x52, CellsIn w224 (Addr.add ad3 5) [.int .i64 x49, .int .i64 x50, .string x51, .slice a17 n16 c16, .int .i64 x52] ∧ (w224.heap[a]? = some (.cells #[.slice a16 n15 c15, .int .i64 x47, .int .i64 x48] 84) → ∃ R14 X'13, CallsX E.P 93 #[.pointer (some ⟨a, 0, none⟩), .agg #[.int .i64 x49, .int .i64 x50, .string x51, .slice a17 n16 c16, .int .i64 x52], .int .i64 x46] w224 R14 X'13 ∧ (∀ v15 w225, R14 v15 w225 → ∃ (v16 : Value), v15 = v16 ∧ ∃ S13, Upd w224 w225 S13 ∧ Away [id] S13 ∧ ∃ a18 n17, ∃ c17 x53 x54, w225.heap[a]? = some (.cells #[.slice a18 n17 c17, .int .i64 x53, .int .i64 x54] 84) ∧ 3 = 3 ∧ (w225.heap[a]? = some (.cells #[.slice a18 n17 c17, .int .i64 x53, .int .i64 x54] 84) → R (.int .i64 2) w225)) ∧ PX X'13 X)) ∧ PX X'12 X)) ∧ ((b0 == 13) = false → ((b0 == 14) = true → ((0 : Int) ≤ 0 ∧ 0 < (↑b3l : Int)) ∧ ∃ ad4, b3 = some ad4 ∧ ∀ w116, Upd w w116 (setOf []) → id < w116.heap.size → ∃ x55 x56, ∃ x57 a19, ∃ n18 c18 x58, CellsIn w116 (Addr.add ad4 0) [.int .i64 x55, .int .i64 x56, .string x57, .slice a19 n18 c18, .int .i64 x58] ∧ (w116.heap[a]? = some (.cells #[.slice a0 a0l a0c, .int .i64 a1, .int .i64 a2] 84) → ∃ R15 X'14, CallsX E.P 61 #[.pointer (some ⟨a, 0, none⟩), .agg #[.int .i64 x55, .int .i64 x56, .string x57, .slice a19 n18 c18, .int .i64 x58]] w116 R15 X'14 ∧ (∀ v17 w228, R15 v17 w228 → ∃ x59, v17 = .int .i64 x59 ∧ ∃ S14, Upd w116 w228 S14 ∧ Away [id] S14 ∧ ∃ a20 n19, ∃ c19 x60 x61, w228.heap[a]? = some (.cells #[.slice a20 n19 c19, .int .i64 x60, .int .i64 x61] 84) ∧ 3 = 3 ∧ ((0 : Int) ≤ 1 ∧ 1 < (↑b3l : Int)) ∧ ∃ ad5, b3 = some ad5 ∧ ∃ x62 x63, ∃ x64 a21, ∃ n20 c20 x65, CellsIn w228 (Addr.add ad5 5) [.int .i64 x62, .int .i64 x63, .string x64, .slice a21 n20 c20, .int .i64 x65] ∧ (w228.heap[a]? = some (.cells #[.slice a20 n19 c19, .int .i64 x60, .int .i64 x61] 84) → ∃ R16 X'15, CallsX E.P 93 #[.pointer (some ⟨a, 0, none⟩), .agg #[.int .i64 x62, .int .i64 x63, .string x64, .slice a21 n20 c20, .int .i64 x65], .int .i64 x59] w228 R16 X'15 ∧ (∀ v18 w229, R16 v18 w229 → ∃ (v19 : Value), v18 = v19 ∧ ∃ S15, Upd w228 w229 S15 ∧ Away [id] S15 ∧ ∃ a22 n21, ∃ c21 x66 x67, w229.heap[a]? = some (.cells #[.slice a22 n21 c21, .int .i64 x66, .int .i64 x67] 84) ∧ 3 = 3 ∧ (w229.heap[a]? = some (.cells #[.slice a22 n21 c21, .int .i64 x66, .int .i64 x67] 84) → R (.int .i64 2) w229)) ∧ PX X'15 X)) ∧ PX X'14 X)) ∧ ((b0 == 14) = false → ((b0 == 19) = true → ((0 : Int) ≤ 0 ∧ 0 < (↑b3l : Int)) ∧ ∃ ad6, b3 = some ad6 ∧ ∀ w117, Upd w w117 (setOf []) → id < w117.heap.size → ∃ x68 x69, ∃ x70 a23, ∃ n22 c22 x71, CellsIn w117 (Addr.add ad6 0) [.int .i64 x68, .int .i64 x69, .string x70, .slice a23 n22 c22, .int .i64 x71] ∧ (w117.heap[a]? = some (.cells #[.slice a0 a0l a0c, .int .i64 a1, .int .i64 a2] 84) → ∃ R17 X'16, CallsX E.P 93 #[.pointer (some ⟨a, 0, none⟩), .agg #[.int .i64 x68, .int .i64 x69, .string x70, .slice a23 n22 c22, .int .i64 x71], .int .i64 2] w117 R17 X'16 ∧ (∀ v20 w232, R17 v20 w232 → ∃ (v21 : Value), v20 = v21 ∧ ∃ S16, Upd w117 w232 S16 ∧ Away [id] S16 ∧ ∃ a24 n23, ∃ c23 x72 x73, w232.heap[a]? = some (.cells #[.slice a24 n23 c23, .int .i64 x72, .int .i64 x73] 84) ∧ 3 = 3 ∧ ((x72 != 0) = true → w232.heap[a]? = some (.cells #[.slice a24 n23 c23, .int .i64 x72, .int .i64 x73] 84) → R (.int .i64 0) w232) ∧ ((x72 != 0) = false → ((0 : Int) ≤ 1 ∧ 1 < (↑b3l : Int)) ∧ ∃ ad7, b3 = some ad7 ∧ ∃ x74 x75, ∃ x76 a25, ∃ n24 c24 x77, CellsIn w232 (Addr.add ad7 5) [.int .i64 x74, .int .i64 x75, .string x76, .slice a25 n24 c24, .int .i64 x77] ∧ (w232.heap[a]? = some (.cells #[.slice a24 n23 c23, .int .i64 x72, .int .i64 x73] 84) → ∃ R18 X'17, CallsX E.P 61 #[.pointer (some ⟨a, 0, none⟩), .agg #[.int .i64 x74, .int .i64 x75, .string x76, .slice a25 n24 c24, .int .i64 x77]] w232 R18 X'17 ∧ (∀ v22 w233, R18 v22 w233 → ∃ x78, v22 = .int .i64 x78 ∧ ∃ S17, Upd w232 w233 S17 ∧ Away [id] S17 ∧ ∃ a26 n25, ∃ c25 x79 x80, w233.heap[a]? = some (.cells #[.slice a26 n25 c25, .int .i64 x79, .int .i64 x80] 84) ∧ 3 = 3 ∧ ((0 : Int) ≤ 2 ∧ 2 < (↑b3l : Int)) ∧ ∃ ad8, b3 = some ad8 ∧ ∃ x81 x82, ∃ x83 a27, ∃ n26 c26 x84, CellsIn w233 (Addr.add ad8 10) [.int .i64 x81, .int .i64 x82, .string x83, .slice a27 n26 c26, .int .i64 x84] ∧ (w233.heap[a]? = some (.cells #[.slice a26 n25 c25, .int .i64 x79, .int .i64 x80] 84) → ∃ R19 X'18, CallsX E.P 93 #[.pointer (some ⟨a, 0, none⟩), .agg #[.int .i64 x81, .int .i64 x82, .string x83, .slice a27 n26 c26, .int .i64 x84], .int .i64 x78] w233 R19 X'18 ∧ (∀ v23 w234, R19 v23 w234 → ∃ (v24 : Value), v23 = v24 ∧ ∃ S18, Upd w233 w234 S18 ∧ Away [id] S18 ∧ ∃ a28 n27, ∃ c27 x85 x86, w234.heap[a]? = some (.cells #[.slice a28 n27 c27, .int .i64 x85, .int .i64 x86] 84) ∧ 3 = 3 ∧ (w234.heap[a]? = some (.cells #[.slice a28 n27 c27, .int .i64 x85, .int .i64 x86] 84) → R (.int .i64 x78) w234)) ∧ PX X'18 X)) ∧ PX X'17 X))) ∧ PX X'16 X)) ∧ ((b0 == 19) = false → ((b0 == 20) = true → ∀ w118, Upd w w118 (setOf []) → id < w118.heap.size → ∃ (I : Int → Option Addr → Nat → Nat → Int → Int → World → Prop), ∃ (m : Int → Option Addr → Nat → Nat → Int → Int → Nat), I 0 a0 a0l a0c a1 a2 w118 ∧ ∀ (jk : Nat → Value) (x87 : Int) (a29 : Option Addr) (n28 c28 : Nat) (x88 x89 : Int) (w238 : World), I x87 a29 n28 c28 x88 x89 w238 → (decide (x87 < (↑b3l : Int)) = true → (0 ≤ x87 ∧ x87 < (↑b3l : Int)) ∧ ∃ ad9, b3 = some ad9 ∧ ∃ x90 x91, ∃ x92 a30, ∃ n29 c29 x93, CellsIn w238 (Addr.add ad9 (Int.toNat x87 * 5)) [.int .i64 x90, .int .i64 x91, .string x92, .slice a30 n29 c29, .int .i64 x93] ∧ (w238.heap[a]? = some (.cells #[.slice a29 n28 c28, .int .i64 x88, .int .i64 x89] 84) → ∃ R20 X'19, CallsX E.P 93 #[.pointer (some ⟨a, 0, none⟩), .agg #[.int .i64 x90, .int .i64 x91, .string x92, .slice a30 n29 c29, .int .i64 x93], .int .i64 3] w238 R20 X'19 ∧ (∀ v25 w239, R20 v25 w239 → ∃ (v26 : Value), v25 = v26 ∧ ∃ S19, Upd w238 w239 S19 ∧ Away [id] S19 ∧ ∃ a31 n30, ∃ c30 x94 x95, w239.heap[a]? = some (.cells #[.slice a31 n30 c30, .int .i64 x94, .int .i64 x95] 84) ∧ 3 = 3 ∧ I (w64 (x87 + 1)) a31 n30 c30 x94 x95 w239 ∧ m (w64 (x87 + 1)) a31 n30 c30 x94 x95 < m x87 a29 n28 c28 x88 x89) ∧ PX X'19 X)) ∧ (decide (x87 < (↑b3l : Int)) = false → ∃ R21 X'20, CallsX E.P 95 #[.int .i64 b1] w238 R21 X'20 ∧ (∀ v27 w241, R21 v27 w241 → ∃ x96, v27 = .int .i64 x96 ∧ ∃ S20, Upd w238 w241 S20 ∧ Away [a, id] S20 ∧ (w241.heap[a]? = some (.cells #[.slice a29 n28 c28, .int .i64 x88, .int .i64 x89] 84) → R (.int .i64 x96) w241)) ∧ PX X'20 X)) ∧ ((b0 == 20) = false → ∀ w119, Upd w w119 (setOf []) → id < w119.heap.size → w119.heap[a]? = some (.cells #[.slice a0 a0l a0c, .int .i64 a1, .int .i64 a2] 84) → ∃ R22 X'21, CallsX E.P 96 #[.pointer (some ⟨a, 0, none⟩), .agg #[.int .i64 b0, .int .i64 b1, .string b2, .slice b3 b3l b3c, .int .i64 b4]] w119 R22 X'21 ∧ (∀ v28 w243, R22 v28 w243 → ∃ x97, v28 = .int .i64 x97 ∧ ∃ S21, Upd w119 w243 S21 ∧ Away [id] S21 ∧ ∃ a32 n31, ∃ c31 x98 x99, w243.heap[a]? = some (.cells #[.slice a32 n31 c31, .int .i64 x98, .int .i64 x99] 84) ∧ 3 = 3 ∧ (w243.heap[a]? = some (.cells #[.slice a32 n31 c31, .int .i64 x98, .int .i64 x99] 84) → R (.int .i64 x97) w243)) ∧ PX X'21 X)))))))))))))))))))
 ) : CallsX E.P 61 #[.pointer (some ⟨a, 0, none⟩), .agg #[.int .i64 b0, .int .i64 b1, .string b2, .slice b3 b3l b3c, .int .i64 b4]] w R X :=
  calls_vc E_ok ⟨[(42, ⟨[(7, .int .i64)], [(0, 0, .slc), (0, 1, .int .i64), (0, 2, .int .i64)]⟩)], []⟩ (f := 61) Tryz.func61 rfl [(.pointer (some ⟨a, 0, none⟩), .ptr 0 0), (.agg #[.int .i64 b0, .int .i64 b1, .string b2, .slice b3 b3l b3c, .int .i64 b4], .no)] [⟨a, 84, false, [⟨.slice a0 a0l a0c, .no, 0⟩, ⟨.int .i64 a1, .no, 0⟩, ⟨.int .i64 a2, .no, 0⟩]⟩] (bls1 ha) nod1 (plain_of rfl) (shs_of ⟨rfl, trivial, trivial⟩) h (by kernel_rfl)
theorem vc40 {a0 a1 : Int} {a2 : ByteArray} {a3 : Option Addr} {a3l a3c : Nat} {a4 : Int} {w : World} {R : Value → World → Prop} {X : ContX}  (h : 
 ∀ id, w.heap.size ≤ id → ∀ w1, Upd w w1 (setOf []) → id < w1.heap.size → ∃ R1 X', CallsX E.P 60 #[.agg #[.int .i64 a0, .int .i64 a1, .string a2, .slice a3 a3l a3c, .int .i64 a4]] w1 R1 X' ∧ (∀ v w2, R1 v w2 → ∃ x, v = .bool x ∧ ∃ S, Upd w1 w2 S ∧ Away [id] S ∧ ((!x) = true → R (.tuple #[.int .i64 0, .int .i64 122, .int .i64 0]) w2) ∧ ((!x) = false → ∀ id1, w2.heap.size ≤ id1 → ∀ w11, Upd w2 w11 (setOf []) → id1 < w11.heap.size → w11.heap[id1]? = some (.cells #[.slice none 0 0, .int .i64 0, .int .i64 0] 84) → ∃ R2 X'1, CallsX E.P 61 #[.pointer (some ⟨id1, 0, none⟩), .agg #[.int .i64 a0, .int .i64 a1, .string a2, .slice a3 a3l a3c, .int .i64 a4]] w11 R2 X'1 ∧ (∀ v1 w21, R2 v1 w21 → ∃ x1, v1 = .int .i64 x1 ∧ ∃ S1, Upd w11 w21 S1 ∧ Away [id] S1 ∧ ∃ a n, ∃ c x2 x3, w21.heap[id1]? = some (.cells #[.slice a n c, .int .i64 x2, .int .i64 x3] 84) ∧ 3 = 3 ∧ ((x2 != 0) = true → ∀ w12, Upd w21 w12 (setOf []) → R (.tuple #[.int .i64 0, .int .i64 x2, .int .i64 x3]) w12) ∧ ((x2 != 0) = false → R (.tuple #[.int .i64 x1, .int .i64 0, .int .i64 0]) w21)) ∧ PX X'1 X)) ∧ PX X' X
 ) : CallsX E.P 40 #[.agg #[.int .i64 a0, .int .i64 a1, .string a2, .slice a3 a3l a3c, .int .i64 a4]] w R X :=
  calls_vc E_ok ⟨[], []⟩ (f := 40) Tryz.func40 rfl [(.agg #[.int .i64 a0, .int .i64 a1, .string a2, .slice a3 a3l a3c, .int .i64 a4], .no)] [] (bls0) nod0 (plain_of rfl) (shs_of ⟨trivial, trivial⟩) h (by kernel_rfl)
theorem vc41 {a0 a1 : Int} {a2 : ByteArray} {a3 : Option Addr} {a3l a3c : Nat} {a4 : Int} {b : Option Addr} {bl bc : Nat} {w : World} {R : Value → World → Prop} {X : ContX}  (h : 
 ∀ id, w.heap.size ≤ id → ∀ id1, w.heap.size ≤ id1 → ∀ id2, w.heap.size ≤ id2 → ∃ (I : Int → Int → ByteArray → Option Addr → Nat → Nat → Int → Int → ByteArray → World → Prop), (((a0 == 4) = true → ∀ w1, Upd w w1 (setOf []) → id < w1.heap.size → id1 < w1.heap.size → id2 < w1.heap.size → ∃ (I1 : Int → Int → World → Prop), ∃ (m : Int → Int → Nat), I1 0 a1 w1 ∧ ∀ (jk : Nat → Value) (x x1 : Int) (w2 : World), I1 x x1 w2 → (decide (x < (↑bl : Int)) = true → (0 ≤ x ∧ x < (↑bl : Int)) ∧ ∃ ad, b = some ad ∧ ∀ w11, Upd w2 w11 (setOf []) → ∃ x2, CellsIn w11 (Addr.add ad (Int.toNat x * 1)) [.string x2] ∧ (strEq x2 a2 = true → ∀ w12, Upd w11 w12 (setOf [id2]) → I1 (w64 (x + 1)) x w12 ∧ m (w64 (x + 1)) x < m x x1) ∧ (strEq x2 a2 = false → I1 (w64 (x + 1)) x1 w11 ∧ m (w64 (x + 1)) x1 < m x x1)) ∧ (decide (x < (↑bl : Int)) = false → ∀ w13, Upd w2 w13 (setOf [id1]) → R (.agg #[.int .i64 5, .int .i64 x1, .string (ByteArray.mk #[]), .slice none 0 0]) w13)) ∧ ((a0 == 4) = false → ((a0 == 23) = true → ∀ w14, Upd w w14 (setOf []) → id < w14.heap.size → id1 < w14.heap.size → id2 < w14.heap.size → I 0 0 (ByteArray.mk #[]) none 0 0 a0 a1 a2 w14) ∧ ((a0 == 23) = false → ∀ w15, Upd w w15 (setOf []) → id < w15.heap.size → id1 < w15.heap.size → id2 < w15.heap.size → I 0 0 (ByteArray.mk #[]) none 0 0 a0 a1 (ByteArray.mk #[]) w15))) ∧ ∀ (jk1 : Nat → Value) (x3 x4 : Int) (x5 : ByteArray) (a : Option Addr) (n c : Nat) (x6 x7 : Int) (x8 : ByteArray) (w21 : World), I x3 x4 x5 a n c x6 x7 x8 w21 → ∃ (I2 : Int → Option Addr → Nat → Nat → World → Prop), ∃ (m1 : Int → Option Addr → Nat → Nat → Nat), I2 0 none 0 0 w21 ∧ ∀ (jk2 : Nat → Value) (x9 : Int) (a1 : Option Addr) (n1 c1 : Nat) (w22 : World), I2 x9 a1 n1 c1 w22 → (decide (x9 < (↑a3l : Int)) = true → ∃ (I3 : Option Addr → Nat → Nat → World → Prop), (((a0 == 21) = true → ((x9 == 1) = true → ∃ R1, RunsTo E.P (Builtin.append_ #[76, 76] 76 #[.slice none 0 0, .slice b bl bc]) w22 R1 ∧ ∀ v w23, R1 v w23 → ∃ a2_1 n2 c2, v = .slice a2_1 n2 c2 ∧ ∃ S, Upd w22 w23 S ∧ Away [id, id1, id2] S ∧ ∀ id3, w23.heap.size ≤ id3 → ∀ w16, Upd w23 w16 (setOf []) → id3 < w16.heap.size → w16.heap[id3]? = some (.cells #[.string a2] 9) → ∃ R2, RunsTo E.P (Builtin.append_ #[76, 76] 76 #[.slice a2_1 n2 c2, .slice (some ⟨id3, 0, none⟩) 1 1]) w16 R2 ∧ ∀ v1 w24, R2 v1 w24 → ∃ a3 n3 c3, v1 = .slice a3 n3 c3 ∧ ∃ S1, Upd w16 w24 S1 ∧ Away [id, id1, id2, id3] S1 ∧ (w24.heap[id3]? = some (.cells #[.string a2] 9) → I3 a3 n3 c3 w24)) ∧ ((x9 == 1) = false → I3 b bl bc w22)) ∧ ((a0 == 21) = false → I3 b bl bc w22)) ∧ ∀ (jk3 : Nat → Value) (a4 : Option Addr) (n4 c4 : Nat) (w25 : World), I3 a4 n4 c4 w25 → (0 ≤ x9 ∧ x9 < (↑a3l : Int)) ∧ ∃ ad1, a3 = some ad1 ∧ ∃ x10 x11, ∃ x12 a5, ∃ n5 c5 x13, CellsIn w25 (Addr.add ad1 (Int.toNat x9 * 5)) [.int .i64 x10, .int .i64 x11, .string x12, .slice a5 n5 c5, .int .i64 x13] ∧ ∃ R3 X', CallsX E.P 41 #[.agg #[.int .i64 x10, .int .i64 x11, .string x12, .slice a5 n5 c5, .int .i64 x13], .slice a4 n4 c4] w25 R3 X' ∧ (∀ v2 w26, R3 v2 w26 → ∃ x14 x15, ∃ x16 a6, ∃ n6 c6, v2 = .agg #[.int .i64 x14, .int .i64 x15, .string x16, .slice a6 n6 c6] ∧ ∃ S2, Upd w25 w26 S2 ∧ Away [id, id1, id2] S2 ∧ ∀ id4, w26.heap.size ≤ id4 → ∀ id5, w26.heap.size ≤ id5 → ∀ w17, Upd w26 w17 (setOf []) → id4 < w17.heap.size → id5 < w17.heap.size → w17.heap[id5]? = some (.cells #[.int .i64 x14, .int .i64 x15, .string x16, .slice a6 n6 c6] 24) → ∃ R4, RunsTo E.P (Builtin.append_ #[22, 22] 22 #[.slice a1 n1 c1, .slice (some ⟨id5, 0, none⟩) 1 1]) w17 R4 ∧ ∀ v3 w27, R4 v3 w27 → ∃ a7 n7 c7, v3 = .slice a7 n7 c7 ∧ ∃ S3, Upd w17 w27 S3 ∧ Away [id, id1, id2, id4, id5] S3 ∧ ∀ w18, Upd w27 w18 (setOf [id2]) → w18.heap[id5]? = some (.cells #[.int .i64 x14, .int .i64 x15, .string x16, .slice a6 n6 c6] 24) → I2 (w64 (x9 + 1)) a7 n7 c7 w18 ∧ m1 (w64 (x9 + 1)) a7 n7 c7 < m1 x9 a1 n1 c1) ∧ PX X' X) ∧ (decide (x9 < (↑a3l : Int)) = false → ∀ w19, Upd w22 w19 (setOf [id1]) → R (.agg #[.int .i64 x6, .int .i64 x7, .string x8, .slice a1 n1 c1]) w19)
 ) : CallsX E.P 41 #[.agg #[.int .i64 a0, .int .i64 a1, .string a2, .slice a3 a3l a3c, .int .i64 a4], .slice b bl bc] w R X :=
  calls_vc E_ok ⟨[(6, ⟨[(6, .int .i64)], [(2, 1, .int .i64)]⟩), (14, ⟨[(7, .int .i64)], [(2, 3, .slc)]⟩)], [(13, ⟨[], [(1, 0, .int .i64), (1, 1, .int .i64), (1, 2, .str), (1, 3, .slc), (2, 0, .int .i64), (2, 1, .int .i64), (2, 2, .str)]⟩), (21, ⟨[(8, .slc)], []⟩)]⟩ (f := 41) Tryz.func41 rfl [(.agg #[.int .i64 a0, .int .i64 a1, .string a2, .slice a3 a3l a3c, .int .i64 a4], .no), (.slice b bl bc, .no)] [] (bls0) nod0 (plain_of rfl) (shs_of ⟨trivial, trivial, trivial⟩) h (by kernel_rfl)
theorem vc17 {a0 a1 : Int} {a2 : ByteArray} {a3 : Option Addr} {a3l a3c : Nat} {a4 : Int} {w : World} {R : Value → World → Prop} {X : ContX}  (h : 
 ∀ id, w.heap.size ≤ id → ∀ id1, w.heap.size ≤ id1 → ∀ w1, Upd w w1 (setOf []) → id < w1.heap.size → id1 < w1.heap.size → ∃ R1 X', CallsX E.P 40 #[.agg #[.int .i64 a0, .int .i64 a1, .string a2, .slice a3 a3l a3c, .int .i64 a4]] w1 R1 X' ∧ (∀ v w2, R1 v w2 → ∃ x x1 x2, v = .tuple #[.int .i64 x, .int .i64 x1, .int .i64 x2] ∧ ∃ S, Upd w1 w2 S ∧ Away [id, id1] S ∧ ((x1 != 0) = true → ∀ w11, Upd w2 w11 (setOf [id1]) → R (.tuple #[.agg #[.int .i64 0, .int .i64 0, .string (ByteArray.mk #[]), .slice none 0 0, .slice none 0 0], .int .i64 140]) w11) ∧ ((x1 != 0) = false → ∃ R2 X'1, CallsX E.P 41 #[.agg #[.int .i64 a0, .int .i64 a1, .string a2, .slice a3 a3l a3c, .int .i64 a4], .slice none 0 0] w2 R2 X'1 ∧ (∀ v1 w21, R2 v1 w21 → ∃ x3 x4, ∃ x5 a, ∃ n c, v1 = .agg #[.int .i64 x3, .int .i64 x4, .string x5, .slice a n c] ∧ ∃ S1, Upd w2 w21 S1 ∧ Away [id, id1] S1 ∧ ∀ w12, Upd w21 w12 (setOf [id1]) → R (.tuple #[.agg #[.int .i64 x3, .int .i64 x4, .string x5, .slice a n c, .slice none 0 0], .int .i64 0]) w12) ∧ PX X'1 X)) ∧ PX X' X
 ) : CallsX E.P 17 #[.agg #[.int .i64 a0, .int .i64 a1, .string a2, .slice a3 a3l a3c, .int .i64 a4]] w R X :=
  calls_vc E_ok ⟨[], []⟩ (f := 17) Tryz.func17 rfl [(.agg #[.int .i64 a0, .int .i64 a1, .string a2, .slice a3 a3l a3c, .int .i64 a4], .no)] [] (bls0) nod0 (plain_of rfl) (shs_of ⟨trivial, trivial⟩) h (by kernel_rfl)
theorem vc9  {w : World} {R : Value → World → Prop} {X : ContX}  (h : 
 ∃ R1 X', CallsX E.P 16 #[.string (ByteArray.mk #[115, 117, 109, 32, 118, 32, 105, 110, 32, 118, 101, 114, 116, 105, 99, 101, 115, 58, 32, 115, 105, 122, 101, 40, 64, 49, 41])] w R1 X' ∧ (∀ v w2, R1 v w2 → ∃ x x1, ∃ x2 a, ∃ n c, ∃ x3 x4 x5, v = .tuple #[.agg #[.int .i64 x, .int .i64 x1, .string x2, .slice a n c, .int .i64 x3], .int .i64 x4, .int .i64 x5] ∧ ∃ S, Upd w w2 S ∧ Away [] S ∧ ∀ id, w2.heap.size ≤ id → ∀ w1, Upd w2 w1 (setOf []) → id < w1.heap.size → ∃ R2 X'1, CallsX E.P 17 #[.agg #[.int .i64 x, .int .i64 x1, .string x2, .slice a n c, .int .i64 x3]] w1 R2 X'1 ∧ (∀ v1 w21, R2 v1 w21 → ∃ x6 x7, ∃ x8 a1, ∃ n1 c1, ∃ a2 n2, ∃ c2 x9, v1 = .tuple #[.agg #[.int .i64 x6, .int .i64 x7, .string x8, .slice a1 n1 c1, .slice a2 n2 c2], .int .i64 x9] ∧ ∃ S1, Upd w1 w21 S1 ∧ Away [id] S1 ∧ ∀ id1, w21.heap.size ≤ id1 → ∀ w11, Upd w21 w11 (setOf []) → id1 < w11.heap.size → ∃ R3 X'2, CallsX E.P 12 #[.agg #[.int .i64 x6, .int .i64 x7, .string x8, .slice a1 n1 c1, .slice a2 n2 c2]] w11 R3 X'2 ∧ (∀ v2 w22, R3 v2 w22 → ∃ x10 x11, ∃ x12 a3, ∃ n3 c3, ∃ a4 n4, ∃ c4 x13, v2 = .tuple #[.agg #[.int .i64 x10, .int .i64 x11, .string x12, .slice a3 n3 c3, .slice a4 n4 c4], .int .i64 x13] ∧ ∃ S2, Upd w11 w22 S2 ∧ Away [id, id1] S2 ∧ ∀ id2, w22.heap.size ≤ id2 → ((x4 == 0) = true → ((x9 == 0) = true → ((x13 == 0) = true → (((↑n4 : Int) == 1) = true → ((0 : Int) ≤ 0 ∧ 0 < (↑n4 : Int)) ∧ ∃ ad, a4 = some ad ∧ ∀ w12, Upd w22 w12 (setOf []) → id2 < w12.heap.size → ∃ x14, CellsIn w12 (Addr.add ad 0) [.int .i64 x14] ∧ ((x14 == 0) = true → (((↑n3 : Int) == 2) = true → ((0 : Int) ≤ 1 ∧ 1 < (↑n3 : Int)) ∧ ∃ ad1, a3 = some ad1 ∧ ∃ x15, CellsIn w12 (Addr.add (Addr.add ad1 4) 0) [.int .i64 x15] ∧ R (.bool (x15 == 26)) w12) ∧ (((↑n3 : Int) == 2) = false → R (.bool false) w12)) ∧ ((x14 == 0) = false → R (.bool false) w12)) ∧ (((↑n4 : Int) == 1) = false → ∀ w13, Upd w22 w13 (setOf []) → id2 < w13.heap.size → R (.bool false) w13)) ∧ ((x13 == 0) = false → ∀ w14, Upd w22 w14 (setOf []) → id2 < w14.heap.size → R (.bool false) w14)) ∧ ((x9 == 0) = false → ∀ w15, Upd w22 w15 (setOf []) → id2 < w15.heap.size → R (.bool false) w15)) ∧ ((x4 == 0) = false → ∀ w16, Upd w22 w16 (setOf []) → id2 < w16.heap.size → R (.bool false) w16)) ∧ PX X'2 X) ∧ PX X'1 X) ∧ PX X' X
 ) : CallsX E.P 9 #[] w R X :=
  calls_vc E_ok ⟨[], []⟩ (f := 9) Tryz.func9 rfl [] [] (bls0) nod0 (plain_of rfl) (shs_of trivial) h (by kernel_rfl)
end
end Go.Vx.Tryz
namespace Go.Vx
open Go
section
structure CS where
  bound : List ByteArray
  e : Int
  at_ : Int
def failsC (e t : Int) (s : CS) : CS := if s.e == 0 then { s with e := e, at_ := t } else s
def Ex.kid (e : Ex) (i : Nat) : Ex := e.kids.getD i ex0
def mustC (kf : CS → Ex → Int × CS) (s : CS) (e : Ex) (k : Int) : CS :=
  if s.e != 0 then s else if (kf s e).2.e == 0 then if (kf s e).1 != k then failsC 131 e.at_ (kf s e).2 else (kf s e).2 else (kf s e).2
def binC (kf : CS → Ex → Int × CS) (s : CS) (e : Ex) (k g : Int) : Int × CS := (g, mustC kf (mustC kf s (e.kid 0) k) (e.kid 1) k)
def boundIn (a : ByteArray) : List ByteArray → Bool
  | [] => false
  | x :: l => if strEq x a then true else boundIn a l
def nameC (s : CS) (e : Ex) : Int × CS := if boundIn e.s s.bound then (3, s) else (0, failsC 130 e.at_ s)
def allC (kf : CS → Ex → Int × CS) (k : Int) : CS → List Ex → CS
  | s, [] => s
  | s, x :: l => allC kf k (mustC kf s x k) l
def quantC (kf : CS → Ex → Int × CS) (s : CS) (e : Ex) : Int × CS :=
  let s1 := allC kf 3 s (e.kid 0).kids
  (wholeI e.n, { mustC kf { s1 with bound := s1.bound ++ [e.s] } (e.kid 1) (bodyI e.n) with bound := s1.bound })
def ifC (kf : CS → Ex → Int × CS) (s : CS) (e : Ex) : Int × CS :=
  let s1 := mustC kf s (e.kid 0) 2
  if s1.e != 0 then (0, s1) else ((kf s1 (e.kid 1)).1, mustC kf (kf s1 (e.kid 1)).2 (e.kid 2) (kf s1 (e.kid 1)).1)
def bodyC (kf : CS → Ex → Int × CS) (s : CS) (e : Ex) : Int × CS :=
  if e.k == 1 then (1, s) else if e.k == 2 then (2, s) else if e.k == 3 then (3, s) else if e.k == 4 then nameC s e
  else if e.k == 6 then (1, mustC kf s (e.kid 0) 1) else if e.k == 7 then (2, mustC kf s (e.kid 0) 2)
  else if e.k == 8 || e.k == 9 || e.k == 10 || e.k == 11 || e.k == 12 then binC kf s e 1 1
  else if e.k == 15 || e.k == 16 then binC kf s e 1 2 else if e.k == 17 || e.k == 18 then binC kf s e 2 2
  else if e.k == 13 || e.k == 14 then (2, mustC kf (kf s (e.kid 0)).2 (e.kid 1) (kf s (e.kid 0)).1)
  else if e.k == 19 then ifC kf s e else if e.k == 20 then (givesI e.n, allC kf 3 s e.kids) else quantC kf s e
def kindC : Nat → CS → Ex → Int × CS
  | 0, s, _ => (0, s)
  | f + 1, s, e => bodyC (kindC f) s e
def checkF (e : Ex) : Int × Int × Int :=
  if !rightE e then (0, 122, 0) else
  let r := kindC e.size ⟨[], 0, 0⟩ e
  if r.2.e != 0 then (0, r.2.e, r.2.at_) else (r.1, 0, 0)
/-! Right trees. -/
mutual
def wfE : Ex → Bool → Bool
  | .mk k n s l _, set => fieldsF k n s && !decide (kidsN k n < -1) && (!decide (kidsN k n ≥ 0) || (l.length : Int) == kidsN k n) && (isSetF k == set) && wfL k 0 l
def wfL (k : Int) : Nat → List Ex → Bool
  | _, [] => true
  | i, x :: l => wfE x (k == 21 && (i : Int) == 0) && wfL k (i + 1) l
end
theorem puts_ok {sz : Nat} {s : PS} (h : (putsW sz s).ok = true) : s.ok = true := by
  unfold putsW at h
  split at h
  · simp [PS.bad] at h
  · exact h
theorem opens_ok {sz : Nat} {s : PS} (h : (opensW sz s).ok = true) : s.ok = true := by
  have := puts_ok h
  dsimp only at this
  split at this
  · cases this
  · exact this
theorem part_ok {f : Nat} {s : PS} {e : Ex} {set : Bool} (h : (partW (f + 1) s e set).ok = true) : guardW s e set = false ∧ (bodyW (partW f) s e).ok = true := by
  rw [partW] at h
  split at h
  · simp [PS.bad] at h
  · rename_i hg; exact ⟨by simpa using hg, h⟩
theorem part_mono : ∀ (f : Nat) (s : PS) (e : Ex) (set : Bool), (partW f s e set).ok = true → s.ok = true
  | 0, _, _, _, h => h
  | f + 1, s, e, set, h => by
    rw [partW] at h
    split at h
    · simp [PS.bad] at h
    · rename_i hg
      have : guardW s e set = false := by simpa using hg
      unfold guardW at this
      simp only [Bool.or_eq_false_iff, Bool.not_eq_false'] at this
      exact this.1.1.1.1
theorem rowF_ge (k : Int) : 0 ≤ rowF k := by
  unfold rowF
  repeat' split
  all_goals decide
theorem kid_ok {f : Nat} {s : PS} {e : Ex} {i : Nat} (h : (kidW (partW f) s e i).ok = true) : s.ok = true ∧ ∃ s2, (partW f s2 (e.kids.getD i ex0) (e.k == 21 && (i : Int) == 0)).ok = true := by
  unfold kidW at h
  split at h
  · exact ⟨part_mono _ _ _ _ h, s, h⟩
  · rename_i hlt
    have h1 : (partW f (opensW 1 s) (e.kids.getD i ex0) false).ok = true := puts_ok (s := (partW f (opensW 1 s) (e.kids.getD i ex0) false).shut) h
    have h2 : (e.k == 21 && (i : Int) == 0) = false := by
      by_cases h21 : e.k = 21
      · have ha : askedF e.k i = 0 := by rw [h21]; rfl
        rw [ha] at hlt
        have := rowF_ge (e.kids.getD i ex0).k
        have hlt : ¬ (rowF (e.kids.getD i ex0).k ≥ 0) := fun h => hlt (decide_eq_true h)
        omega
      · have : (e.k == 21) = false := by simpa using h21
        rw [this]; rfl
    rw [h2]
    exact ⟨opens_ok (part_mono _ _ _ _ h1), _, h1⟩
theorem list_ok {f : Nat} {e : Ex} : ∀ (l : List Ex) (i : Nat) (s : PS), (listW (partW f) e i s l).ok = true → s.ok = true ∧ ∀ j, j < l.length → ∃ s2, (partW f s2 (e.kids.getD (i + j) ex0) (e.k == 21 && ((i + j : Nat) : Int) == 0)).ok = true
  | [], i, s, h => ⟨h, fun j hj => by simp at hj⟩
  | x :: l, i, s, h => by
    rw [listW] at h
    by_cases hs : s.ok = true
    · rw [if_pos hs] at h
      obtain ⟨h1, h2⟩ := list_ok l (i + 1) _ h
      obtain ⟨h3, h4⟩ := kid_ok h1
      refine ⟨hs, fun j hj => ?_⟩
      cases j with
      | zero => exact h4
      | succ j =>
        have := h2 j (by simp at hj; omega)
        rw [show i + 1 + j = i + (j + 1) by omega] at this
        exact this
    · rw [if_neg hs] at h; exact absurd h hs
theorem wfL_of {k : Int} : ∀ (l : List Ex) (i : Nat), (∀ j (hj : j < l.length), wfE l[j] (k == 21 && ((i + j : Nat) : Int) == 0) = true) → wfL k i l = true
  | [], _, _ => by rw [wfL]
  | x :: l, i, h => by
    rw [wfL, Bool.and_eq_true]
    refine ⟨h 0 (by simp), wfL_of l (i + 1) fun j hj => ?_⟩
    have := h (j + 1) (by simp; omega)
    rw [show i + (j + 1) = i + 1 + j by omega] at this
    simpa using this
theorem wf_of : ∀ (f : Nat) (e : Ex) (set : Bool) (s : PS), e.size ≤ f → (partW f s e set).ok = true → wfE e set = true := by
  intro f
  induction f with
  | zero => intro e _ _ hn; cases e with | mk k n s l t => simp only [Ex.size] at hn; omega
  | succ f ih =>
    intro e set s hn h
    obtain ⟨hg, hb⟩ := part_ok h
    have each : (∀ j, j < e.kids.length → ∃ s2, (partW f s2 (e.kids.getD j ex0) (e.k == 21 && (j : Int) == 0)).ok = true) → wfE e set = true := fun hall => by
      unfold guardW at hg
      simp only [Bool.or_eq_false_iff, Bool.not_eq_false', Bool.and_eq_false_iff, decide_eq_false_iff_not, bne_eq_false_iff_eq, beq_iff_eq] at hg
      obtain ⟨⟨⟨⟨h1, h2⟩, h3⟩, h4⟩, h5⟩ := hg
      obtain ⟨k, n, s', l, t⟩ := e
      have h2 : fieldsF k n s' = true := h2
      have h3 : ¬ (kidsN k n < -1) := h3
      have h4 : ¬ (kidsN k n ≥ 0) ∨ (l.length : Int) = kidsN k n := h4
      have h5 : isSetF k = set := h5
      rw [wfE, h2, h5, wfL_of l 0 fun j hj => ?_]
      · simp only [Bool.true_and, Bool.and_true, BEq.rfl, Bool.and_eq_true, Bool.not_eq_true', decide_eq_false_iff_not, Bool.or_eq_true, beq_iff_eq]
        exact ⟨h3, h4⟩
      · obtain ⟨s2, hs2⟩ := hall j hj
        have hx : (Ex.mk k n s' l t).kids.getD j ex0 = l[j] := by
          show l.getD j ex0 = _
          rw [List.getD_eq_getElem?_getD, List.getElem?_eq_getElem hj]; rfl
        rw [hx] at hs2
        rw [Nat.zero_add]
        refine ih _ _ s2 ?_ hs2
        have := Ex.size_lt (List.getElem_mem hj)
        simp only [Ex.size] at hn; omega
    unfold guardW at hg
    simp only [Bool.or_eq_false_iff, Bool.not_eq_false', Bool.and_eq_false_iff, decide_eq_false_iff_not, bne_eq_false_iff_eq, beq_iff_eq] at hg
    obtain ⟨⟨⟨⟨_, _⟩, h3⟩, h4⟩, _⟩ := hg
    have cnt : ∀ {m : Int}, 0 ≤ m → kidsN e.k e.n = m → (e.kids.length : Int) = m := fun hm hk => by
      rcases h4 with h4 | h4
      · rw [hk] at h4; exact absurd hm h4
      · rw [hk] at h4; exact h4
    have few : ∀ {m : Nat}, (e.kids.length : Int) = m → (∀ j, j < m → ∃ s2, (partW f s2 (e.kids.getD j ex0) (e.k == 21 && (j : Int) == 0)).ok = true) → wfE e set = true := fun hl ha => each fun j hj => ha j (by omega)
    have n0 : ∀ {k : Int}, e.k = k → kidsN k e.n = 0 → wfE e set = true := fun hk hz => few (m := 0) (cnt (by omega) (by rw [hk]; exact hz)) fun j hj => by omega
    have l2 : ∀ {P : Nat → Prop}, P 0 → P 1 → ∀ j, j < 2 → P j := fun h0 h1 j hj => by
      match j, hj with
      | 0, _ => exact h0
      | 1, _ => exact h1
    unfold bodyW at hb
    by_cases c1 : e.k = 1
    · exact n0 c1 rfl
    by_cases c2 : e.k = 2
    · exact n0 c2 rfl
    by_cases c3 : e.k = 3
    · exact n0 c3 rfl
    by_cases c4 : e.k = 4
    · exact n0 c4 rfl
    by_cases c23 : e.k = 23
    · exact n0 c23 rfl
    by_cases c22 : e.k = 22
    · exact n0 c22 rfl
    have b1 : (e.k == 1) = false := by simpa using c1
    have b2 : (e.k == 2) = false := by simpa using c2
    have b3 : (e.k == 3) = false := by simpa using c3
    have b4 : (e.k == 4) = false := by simpa using c4
    have b23 : (e.k == 23) = false := by simpa using c23
    have b22 : (e.k == 22) = false := by simpa using c22
    rw [iff0 b1, iff0 b2, iff0 b3, iff0 b4, iff0 b23, iff0 b22] at hb
    by_cases c6 : e.k = 6
    · rw [if_pos (by rw [c6]; rfl)] at hb
      have := kid_ok hb
      exact few (m := 1) (cnt (by omega) (by rw [c6]; rfl)) fun j hj => by
        obtain rfl : j = 0 := by omega
        exact this.2
    have b6 : (e.k == 6) = false := by simpa using c6
    rw [iff0 b6] at hb
    by_cases c7 : e.k = 7
    · rw [if_pos (by rw [c7]; rfl)] at hb
      have := kid_ok hb
      exact few (m := 1) (cnt (by omega) (by rw [c7]; rfl)) fun j hj => by
        obtain rfl : j = 0 := by omega
        exact this.2
    have b7 : (e.k == 7) = false := by simpa using c7
    rw [iff0 b7] at hb
    by_cases cg : e.k = 19 ∨ e.k = 21 ∨ e.k = 20 ∨ e.k = 24 ∨ e.k = 25
    · have bg : (e.k == 19 || e.k == 21 || e.k == 20 || e.k == 24 || e.k == 25) = true := by
        rcases cg with h | h | h | h | h <;> rw [h] <;> rfl
      rw [if_pos bg] at hb
      unfold greatW at hb
      by_cases c19 : e.k = 19
      · rw [if_pos (by rw [c19]; rfl)] at hb
        obtain ⟨h1, k2⟩ := kid_ok hb
        obtain ⟨h2, k1⟩ := kid_ok (puts_ok h1)
        obtain ⟨h3, k0⟩ := kid_ok (puts_ok h2)
        exact few (m := 3) (cnt (by omega) (by rw [c19]; rfl)) fun j hj => by
          match j, hj with
          | 0, _ => exact k0
          | 1, _ => exact k1
          | 2, _ => exact k2
      have b19 : (e.k == 19) = false := by simpa using c19
      rw [iff0 b19] at hb
      by_cases c21 : e.k = 21
      · rw [if_pos (by rw [c21]; rfl)] at hb
        obtain ⟨h1, k1⟩ := kid_ok hb
        obtain ⟨h2, k0⟩ := kid_ok (puts_ok h1)
        exact few (m := 2) (cnt (by omega) (by rw [c21]; rfl)) (l2 k0 k1)
      have b21 : (e.k == 21) = false := by simpa using c21
      rw [iff0 b21] at hb
      have lst : ∀ {s0 : PS}, (listW (partW f) e 0 s0 e.kids).ok = true → wfE e set = true := fun h0 => each fun j hj => by
        have := (list_ok e.kids 0 _ h0).2 j hj
        rw [Nat.zero_add] at this
        exact this
      split at hb
      · exact lst (s0 := _) (puts_ok (s := PS.shut _) hb)
      · split at hb
        · exact lst (s0 := _) (puts_ok (s := PS.shut _) hb)
        · exact lst (s0 := _) (puts_ok (s := PS.shut _) hb)
    · have bg : (e.k == 19 || e.k == 21 || e.k == 20 || e.k == 24 || e.k == 25) = false := by
        simp only [not_or] at cg
        simp [cg.1, cg.2.1, cg.2.2.1, cg.2.2.2.1, cg.2.2.2.2]
      rw [iff0 bg] at hb
      obtain ⟨h1, k1⟩ := kid_ok hb
      obtain ⟨h2, k0⟩ := kid_ok (puts_ok h1)
      simp only [Bool.or_eq_false_iff] at bg
      have hz : kidsN e.k e.n = 2 := by
        have q1 : (e.k == 1 || e.k == 2 || e.k == 3 || e.k == 4 || e.k == 22 || e.k == 23) = false := by rw [b1, b2, b3, b4, b22, b23]; rfl
        have q2 : (e.k == 6 || e.k == 7 || e.k == 24) = false := by rw [b6, b7, bg.1.2]; rfl
        unfold kidsN at h3 ⊢
        rw [iff0 q1, iff0 q2] at h3 ⊢
        cases q3 : (e.k == 8 || e.k == 9 || e.k == 10 || e.k == 11 || e.k == 12 || e.k == 13 || e.k == 14 || e.k == 15 || e.k == 16 || e.k == 17 || e.k == 18 || e.k == 21) with
        | true => rfl
        | false =>
          rw [q3, iff0 rfl, iff0 bg.1.1.1.1, iff0 bg.2, iff0 bg.1.1.2] at h3
          exact absurd (by decide) h3
      exact few (m := 2) (cnt (by omega) hz) (l2 k0 k1)
theorem right_wf {e : Ex} (h : rightE e = true) : wfE e false = true := wf_of e.size e false _ (Nat.le_refl _) h
/-! The plan of a tree. -/
def lastIn (a : ByteArray) : Nat → Int → List ByteArray → Int
  | _, n, [] => n
  | i, n, x :: l => lastIn a (i + 1) (if strEq x a then i else n) l
mutual
def nodeF : Ex → List ByteArray → Nd
  | .mk k n s l _, bd => if k == 4 then .mk 5 (lastIn s 0 n bd) (ByteArray.mk #[]) [] else .mk k n (if k == 23 then s else ByteArray.mk #[]) (nodesF k s 0 l bd)
def nodesF (k : Int) (s : ByteArray) : Nat → List Ex → List ByteArray → List Nd
  | _, [], _ => []
  | i, x :: l, bd => nodeF x (if k == 21 && (i : Int) == 1 then bd ++ [s] else bd) :: nodesF k s (i + 1) l bd
end
def ofF (e : Ex) : Pl × Int := if (checkF e).2.1 != 0 then (⟨.mk 0 0 (ByteArray.mk #[]) [], []⟩, 140) else (⟨nodeF e [], []⟩, 0)
def sumT : ByteArray := ByteArray.mk #[115, 117, 109, 32, 118, 32, 105, 110, 32, 118, 101, 114, 116, 105, 99, 101, 115, 58, 32, 115, 105, 122, 101, 40, 64, 49, 41]
end
end Go.Vx
namespace Go.Vx.Tryz
open Go Go.Vx Go.Proofs
section
structure CkW (w : World) (b : Nat) (A : Option Addr) (c : Nat) (st : CS) : Prop where
  hh : w.heap[b]? = some (.cells #[.slice A st.bound.length c, .int .i64 st.e, .int .i64 st.at_] 84 (0, 0))
  hs : StrsR w (fun x => x ≠ b) st.bound A st.bound.length c
def CkI (b : Nat) (w : World) (r : Int × CS) : Value → World → Prop := fun v w' => v = .int .i64 r.1 ∧ ∃ A c, CkW w' b A c r.2 ∧ Upd w w' (OB b)
def CkU (b : Nat) (w : World) (s : CS) : Value → World → Prop := fun v w' => v = .tuple #[] ∧ ∃ A c, CkW w' b A c s ∧ Upd w w' (OB b)
section
variable {w w' : World} {b : Nat} {A : Option Addr} {c : Nat} {st st' : CS}
theorem CkW.blt (q : CkW w b A c st) : b < w.heap.size := lt_of_get q.hh
theorem CkW.ext (q : CkW w b A c st) (k : Ext w w') : CkW w' b A c st :=
  ⟨by rw [k.keep b q.blt (fun h => h)]; exact q.hh, RowIn.upd' q.hs k fun _ _ _ h => h⟩
theorem CkW.put (q : CkW w b A c st) (k : Upd w w' (OB b)) (hh : w'.heap[b]? = some (.cells #[.slice A st'.bound.length c, .int .i64 st'.e, .int .i64 st'.at_] 84 (0, 0))) (hb : st'.bound = st.bound) : CkW w' b A c st' := by
  refine ⟨hh, ?_⟩
  rw [hb]
  exact RowIn.upd' q.hs k fun x hx _ hS => hx hS
end
section
variable {P : Program} {f : Nat} {args : Array Value} {w : World} {ids : List Nat} {b : Nat} {X : ContX}
theorem callCU {s : CS} (hc : CallsX P f args w (CkU b w s) never) (haw : Away ids (OB b)) {K : Option Addr → Nat → Nat → Int → Int → World → Prop}
    (k : ∀ A c w2, CkW w2 b A c s → Upd w w2 (OB b) → K A s.bound.length c s.e s.at_ w2) :
    ∃ (R : Value → World → Prop) (X' : ContX), CallsX P f args w R X' ∧ (∀ v w2, R v w2 → ∃ y : Value, v = y ∧ ∃ S, Upd w w2 S ∧ Away ids S ∧ ∃ a1 n, ∃ c1 x x1,
      w2.heap[b]? = some (Obj.cells #[.slice a1 n c1, .int .i64 x, .int .i64 x1] 84) ∧ 3 = 3 ∧ K a1 n c1 x x1 w2) ∧ ∀ ch w2, X' ch w2 → X ch w2 :=
  ⟨_, _, hc, fun v w2 ⟨_, A, c, hw, hU⟩ => ⟨v, rfl, _, hU, haw, _, _, _, _, _, hw.hh, rfl, k A c w2 hw hU⟩, never_any⟩
theorem callCI {r : Int × CS} (hc : CallsX P f args w (CkI b w r) never) (haw : Away ids (OB b)) {K : Int → Option Addr → Nat → Nat → Int → Int → World → Prop}
    (k : ∀ A c w2, CkW w2 b A c r.2 → Upd w w2 (OB b) → K r.1 A r.2.bound.length c r.2.e r.2.at_ w2) :
    ∃ (R : Value → World → Prop) (X' : ContX), CallsX P f args w R X' ∧ (∀ v w2, R v w2 → ∃ y, v = .int .i64 y ∧ ∃ S, Upd w w2 S ∧ Away ids S ∧ ∃ a1 n, ∃ c1 x x1,
      w2.heap[b]? = some (Obj.cells #[.slice a1 n c1, .int .i64 x, .int .i64 x1] 84) ∧ 3 = 3 ∧ K y a1 n c1 x x1 w2) ∧ ∀ ch w2, X' ch w2 → X ch w2 :=
  ⟨_, _, hc, fun v w2 ⟨hv, A, c, hw, hU⟩ => ⟨_, hv, _, hU, haw, _, _, _, _, _, hw.hh, rfl, k A c w2 hw hU⟩, never_any⟩
end
section
variable {b : Nat}
theorem failsC_c (e t : Int) {w : World} {A : Option Addr} {c : Nat} {st : CS} (hw : CkW w b A c st) : CallsX E.P 121 #[.pointer (some ⟨b, 0, none⟩), .int .i64 e, .int .i64 t] w (CkU b w (failsC e t st)) never := by
  refine vc121 hw.hh ⟨fun h1 w1 hU1 hh1 => ?_, fun h1 hh1 => ?_⟩
  · rw [failsC, if_pos h1]
    exact ⟨rfl, A, c, hw.put (st' := { st with e := e, at_ := t }) (upd_ob hU1) hh1 rfl, upd_ob hU1⟩
  · rw [failsC, if_neg (by rw [h1]; exact Bool.false_ne_true)]
    exact ⟨rfl, A, c, hw, Upd.refl _ _⟩
def KCk (b : Nat) (kf : CS → Ex → Int × CS) (e : Ex) : Prop := ∀ {w : World} {A : Option Addr} {c : Nat} {B : Option Addr} {l cc : Nat} {st : CS}, CkW w b A c st → ExsR w (NB b) e.kids B l cc → st.bound.length + e.size ≤ 2 ^ 30 →
  CallsX E.P 61 #[.pointer (some ⟨b, 0, none⟩), exA e B l cc] w (CkI b w (kf st e)) never
def BKc (kf : CS → Ex → Int × CS) : Prop := ∀ s e, (kf s e).2.bound = s.bound
theorem failsC_b (e t : Int) (s : CS) : (failsC e t s).bound = s.bound := by unfold failsC; split <;> rfl
theorem mustC_b {kf : CS → Ex → Int × CS} (hb : BKc kf) (s : CS) (e : Ex) (k : Int) : (mustC kf s e k).bound = s.bound := by
  unfold mustC
  split
  · rfl
  · split
    · split
      · rw [failsC_b, hb]
      · exact hb _ _
    · exact hb _ _
theorem allC_b {kf : CS → Ex → Int × CS} (hb : BKc kf) (k : Int) : ∀ (l : List Ex) (s : CS), (allC kf k s l).bound = s.bound
  | [], _ => rfl
  | x :: l, s => by rw [allC, allC_b hb k l, mustC_b hb]
theorem ite_bound {c : Prop} [Decidable c] {x y : Int × CS} {l : List ByteArray} (h1 : x.2.bound = l) (h2 : y.2.bound = l) : (if c then x else y).2.bound = l := by split <;> assumption
theorem kind_b : ∀ (f : Nat), BKc (kindC f)
  | 0 => fun _ _ => rfl
  | f + 1 => fun s e => by
    have hb := kind_b f
    rw [kindC]
    unfold bodyC binC nameC ifC quantC
    repeat' refine ite_bound ?_ ?_
    all_goals first | rfl | (dsimp only; simp only [mustC_b hb, allC_b hb, failsC_b, hb _ _])
theorem nfc {c : Bool} (h : c = false) : ¬ c = true := by rw [h]; exact Bool.false_ne_true
theorem cmust_c {kf : CS → Ex → Int × CS} {e : Ex} (hk : KCk b kf e) (k : Int) {w : World} {A : Option Addr} {c : Nat} {B : Option Addr} {l cc : Nat} {st : CS} (hw : CkW w b A c st) (hr : ExsR w (NB b) e.kids B l cc) (hs : st.bound.length + e.size ≤ 2 ^ 30) :
    CallsX E.P 93 #[.pointer (some ⟨b, 0, none⟩), exA e B l cc, .int .i64 k] w (CkU b w (mustC kf st e k)) never := by
  refine vc93 hw.hh ?_
  intro id hid
  have hb := hw.blt
  refine ⟨fun h1 w1 hU1 hi1 hh1 => ?_, fun h1 w1 hU1 hi1 hh1 => ?_⟩
  · rw [mustC, if_pos h1]
    exact ⟨rfl, A, c, hw.ext hU1, ext_ob hU1⟩
  · have hw1 : CkW w1 b A c st := hw.ext hU1
    have hr1 : ExsR w1 (NB b) e.kids B l cc := hr.ext hU1
    have aw : Away [id] (OB b) := away_ob hb (by simp; omega)
    rw [mustC, if_neg (nfc h1)]
    refine callCI (hk hw1 hr1 hs) aw fun A2 c2 w2 hw2 hU2 => ⟨fun h2 => ⟨fun h3 hh2 => ?_, fun h3 hh2 => ?_⟩, fun h2 hh2 => ?_⟩
    · rw [if_pos h2, if_pos h3]
      exact callCU (failsC_c _ _ hw2) aw fun A3 c3 w3 hw3 hU3 hh3 => ⟨rfl, A3, c3, hw3, ((ext_ob hU1).tb hU2).tb hU3⟩
    · rw [if_pos h2, if_neg (nfc h3)]
      exact ⟨rfl, A2, c2, hw2, (ext_ob hU1).tb hU2⟩
    · rw [if_neg (nfc h2)]
      exact ⟨rfl, A2, c2, hw2, (ext_ob hU1).tb hU2⟩
theorem kid_eq {e : Ex} {j : Nat} (hj : j < e.kids.length) : e.kid j = e.kids[j] := by
  rw [Ex.kid, List.getD_eq_getElem?_getD, List.getElem?_eq_getElem hj]; rfl
theorem kid_sz {e : Ex} {j : Nat} (hj : j < e.kids.length) : (e.kid j).size < e.size := by
  rw [kid_eq hj]
  have := Ex.size_lt (List.getElem_mem hj)
  cases e with | mk k v s l t => simp only [Ex.size, Ex.kids] at this ⊢; omega
theorem kid_cell {w : World} {F : Nat → Prop} {e : Ex} {B : Option Addr} {l cc : Nat} (h : ExsR w F e.kids B l cc) {j : Nat} (hj : j < e.kids.length) {ad : Addr} (ha : B = some ad)
    {K : Int → Int → ByteArray → Option Addr → Nat → Nat → Int → Prop} (k : ∀ A1 l1 c1, ExsR w F (e.kid j).kids A1 l1 c1 → K (e.kid j).k (e.kid j).n (e.kid j).s A1 l1 c1 (e.kid j).at_) :
    ∃ x2 x3, ∃ x4 a, ∃ n c, ∃ x5, CellsIn w (ad.add (Int.toNat (j : Int) * 5)) [.int .i64 x2, .int .i64 x3, .string x4, .slice a n c, .int .i64 x5] ∧ K x2 x3 x4 a n c x5 := by
  refine h.cell ha hj fun A1 l1 c1 q => ?_
  rw [← kid_eq hj] at q ⊢
  exact k A1 l1 c1 q
theorem bin_c {kf : CS → Ex → Int × CS} {e : Ex} (hb : BKc kf) (hl : 2 ≤ e.kids.length) (hk : ∀ i, i < e.kids.length → KCk b kf (e.kid i)) (k g : Int) {w : World} {A : Option Addr} {c : Nat} {B : Option Addr} {l cc : Nat} {st : CS} (hw : CkW w b A c st) (hr : ExsR w (NB b) e.kids B l cc) (hs : st.bound.length + e.size ≤ 2 ^ 30) :
    CallsX E.P 94 #[.pointer (some ⟨b, 0, none⟩), exA e B l cc, .int .i64 k, .int .i64 g] w (CkI b w (binC kf st e k g)) never := by
  refine vc94 hw.hh ?_
  intro id hid
  have hlt := hw.blt
  have aw : Away [id] (OB b) := away_ob hlt (by simp; omega)
  have s0 := kid_sz (e := e) (j := 0) (by omega)
  have s1 := kid_sz (e := e) (j := 1) (by omega)
  refine hr.idx (j := 0) (by omega) fun ad ha w1 hE1 hi1 => ?_
  have hE1' : Ext w w1 := hE1
  refine kid_cell (hr.ext hE1') (j := 0) (by omega) ha fun A1 l1 c1 q1 hh1 => ?_
  refine callCU (cmust_c (hk 0 (by omega)) k (hw.ext hE1') q1 (by omega)) aw fun A2 c2 w2 hw2 hU2 => ?_
  have hr2 : ExsR w2 (NB b) e.kids B l cc := (hr.ext hE1').upd' hU2 fun x hx _ hS => by have hx : x < b := hx; have hS : x = b := hS; omega
  refine hr2.idx (j := 1) (by omega) fun ad ha => ?_
  refine kid_cell hr2 (j := 1) (by omega) ha fun A3 l3 c3 q3 hh2 => ?_
  refine callCU (cmust_c (hk 1 (by omega)) k hw2 q3 (by rw [mustC_b hb]; omega)) aw fun A4 c4 w4 hw4 hU4 hh4 => ?_
  exact ⟨rfl, A4, c4, hw4, ((ext_ob hE1').tb hU2).tb hU4⟩
theorem nameC_c (e : Ex) {w : World} {A : Option Addr} {c : Nat} {B : Option Addr} {l cc : Nat} {st : CS} (hw : CkW w b A c st) :
    CallsX E.P 92 #[.pointer (some ⟨b, 0, none⟩), exA e B l cc] w (CkI b w (nameC st e)) never := by
  refine vc92 hw.hh ?_
  intro id hid w1 hE1 hi1
  have hE1' : Ext w w1 := hE1
  have hb := hw.blt
  refine ⟨fun x w2 => ∃ j : Nat, x = j ∧ j ≤ st.bound.length ∧ boundIn e.s (st.bound.drop j) = boundIn e.s st.bound ∧ CkW w2 b A c st ∧ Ext w w2, fun x => ((st.bound.length : Int) - x).toNat, ⟨0, rfl, Nat.zero_le _, rfl, hw.ext hE1', hE1'⟩, ?_⟩
  rintro _ x w2 ⟨j, rfl, hj, hg, hw2, hE2⟩
  have hlt := RowIn.lt hw2.hs
  refine ⟨fun hlt2 => ?_, fun hlt2 hh2 => ?_⟩
  · have hjl : j < st.bound.length := by simpa using hlt2
    rw [drop_cons hjl, boundIn] at hg
    obtain ⟨ad, r, e1, hr, _, hc⟩ := RowIn.get hw2.hs (j : Int) (by omega) (by omega)
    have hn : Int.toNat (j : Int) = j := by omega
    rw [hn, List.getElem?_map, List.getElem?_eq_getElem hjl] at hr
    cases hr
    refine ⟨⟨by omega, by omega⟩, ad, e1, fun w3 hE3 => ?_⟩
    have hE3' : Ext w2 w3 := hE3
    refine ⟨_, hc.ext hE3' (fun h => h), fun hx hh3 => ?_, fun hx => ?_⟩
    · rw [if_pos hx] at hg
      unfold nameC
      rw [if_pos hg.symm]
      exact ⟨rfl, A, c, hw2.ext hE3', ext_ob (hE2.trans hE3')⟩
    · rw [if_neg (nfc hx)] at hg
      refine ⟨⟨j + 1, w64_succ (by omega), hjl, hg, hw2.ext hE3', hE2.trans hE3'⟩, ?_⟩
      dsimp only
      rw [w64_succ (by omega)]; exact mea_succ hjl
  · have hjl : ¬ j < st.bound.length := by simpa using hlt2
    rw [List.drop_eq_nil_of_le (by omega), boundIn] at hg
    unfold nameC
    rw [if_neg (nfc hg.symm)]
    exact callCU (failsC_c _ _ hw2) (away_ob hb (by simp; omega)) fun A3 c3 w3 hw3 hU3 hh3 => ⟨rfl, A3, c3, hw3, (ext_ob hE2).tb hU3⟩
end
end
section
open Go Go.Vx Go.Proofs
theorem sl76 : SlT E.P 76 9 1 16 := SlT.of (by kernel_rfl) (by omega) (by omega)
def strRel : Rel ByteArray 1 := flatRel strE (fun _ => rfl) (fun x u hu => by cases List.mem_singleton.1 hu; rfl)
theorem strs_done {w : World} {lo top : Nat} {l : List ByteArray} {A : Option Addr} {n c : Nat} {F : Nat → Prop} (h : RowB strRel 9 w false lo top no no l A n c) (hl : n < 2 ^ 48) (hF : ∀ x, lo ≤ x → F x) : StrsR w F l A n c :=
  (flat_of (RowB.done h hl (.inr ⟨rfl, rfl⟩))).mono fun x hx => by
    rcases hx with h | h
    · exact h.2.elim
    · exact hF x h.1
theorem names_nil {l : List ByteArray} {w : World} {G : Nat → Prop} {B : Option Addr} {bl bc : Nat} (h2 : StrsR w G l B bl bc) (hs : bl ≤ 2 ^ 34) :
    RunsTo E.P (Builtin.append_ #[76, 76] 76 #[.slice none 0 0, .slice B bl bc]) w (fun v w' => ∃ A' c', v = .slice A' bl c' ∧ RowB strRel 9 w' false w.heap.size w'.heap.size no no l A' bl c' ∧ Upd w w' (blkOf none)) := by
  have hB1 : RowB strRel 9 w false w.heap.size w.heap.size no no [] none 0 0 := RowB.nil (fun _ h => h.elim) (Nat.le_refl _)
  obtain ⟨v, w', hr, A', c', rfl, ⟨hB, _⟩, hU⟩ := RowB.app (tx := 76) (F := G) (ys := l) (B := B) (bl := bl) (bc := bc) sl76 hB1 h2 (by omega) (fun _ h => h.elim)
  rw [Nat.zero_add] at hr hB
  exact ⟨_, w', hr, A', c', rfl, hB, hU⟩
theorem names_push {l : List ByteArray} {s : ByteArray} {w1 w2 : World} {lo top : Nat} {A : Option Addr} {n c id : Nat} (h : RowB strRel 9 w1 false lo top no no l A n c) (hE : Ext w1 w2) (hcell : w2.heap[id]? = some (.cells #[.string s] 9 (0, 0))) (hl : n < 2 ^ 33) :
    RunsTo E.P (Builtin.append_ #[76, 76] 76 #[.slice A n c, .slice (some ⟨id, 0, none⟩) 1 1]) w2 (fun v w' => ∃ A' c', v = .slice A' (n + 1) c' ∧ RowB strRel 9 w' false lo w'.heap.size no no (l ++ [s]) A' (n + 1) c' ∧ Upd w2 w' (blkOf A)) := by
  obtain ⟨v, w', hr, A', c', rfl, ⟨hB, _⟩, hU⟩ := RowB.push (tx := 76) (x := s) (cs := strE s) (Fk := no) sl76 h rfl (fun _ h => h.elim) hE (fun _ h => h.elim) hcell hl
  exact ⟨_, w', hr, A', c', rfl, hB, hU⟩
variable {b : Nat}
theorem quantC_c {kf : CS → Ex → Int × CS} {e : Ex} (hb : BKc kf) (hl : 2 ≤ e.kids.length) (hk0 : ∀ i, i < (e.kid 0).kids.length → KCk b kf ((e.kid 0).kid i)) (hk1 : KCk b kf (e.kid 1)) {w : World} {A : Option Addr} {c : Nat} {B : Option Addr} {l cc : Nat} {st : CS} (hw : CkW w b A c st) (hr : ExsR w (NB b) e.kids B l cc) (hs : st.bound.length + e.size ≤ 2 ^ 30) :
    CallsX E.P 96 #[.pointer (some ⟨b, 0, none⟩), exA e B l cc] w (CkI b w (quantC kf st e)) never := by
  refine vc96 hw.hh ?_
  intro id hid
  have hlt := hw.blt
  have s0 := kid_sz (e := e) (j := 0) (by omega)
  have s1 := kid_sz (e := e) (j := 1) (by omega)
  refine hr.idx (j := 0) (by omega) fun ad ha w1 hE1 hi1 => ?_
  have hE1' : Ext w w1 := hE1
  have t1 := hE1'.size
  refine kid_cell (hr.ext hE1') (j := 0) (by omega) ha fun A1 l1 c1 q1 id1 hid1 w11 hE11 hi11 => ?_
  have hE11' : Ext w1 w11 := hE11
  have t11 := hE11'.size
  have hE0 : Ext w w11 := hE1'.trans hE11'
  have q1 := q1.ext hE11'
  have hr11 := hr.ext hE0
  obtain rfl := q1.len
  have hsm := q1.lt
  generalize hks : (e.kid 0).kids = ks at *
  have kidq : ∀ {w' : World} {kk : List Ex} {D : Option Addr} {m d : Nat}, ExsR w11 (NB b) kk D m d → Upd w11 w' (OB b) → ExsR w' (NB b) kk D m d := fun q k => q.upd' k fun x hx _ hS => by have hx : x < b := hx; have hS : x = b := hS; omega
  refine ⟨fun x a2 n1 c1 x5 x6 w2 => ∃ (j : Nat) (s : CS), x = j ∧ j ≤ ks.length ∧ allC kf 3 s (ks.drop j) = allC kf 3 st ks ∧ s.bound = st.bound ∧ (n1 = s.bound.length ∧ x5 = s.e ∧ x6 = s.at_) ∧ CkW w2 b a2 c1 s ∧ Upd w11 w2 (OB b), fun x _ _ _ _ _ => ((ks.length : Int) - x).toNat,
    ⟨0, st, rfl, Nat.zero_le _, rfl, rfl, ⟨rfl, rfl, rfl⟩, hw.ext hE0, Upd.refl _ _⟩, ?_⟩
  rintro _ x A2 n1 c2 x5 x6 w2 ⟨j, s, rfl, hj, hg, hbs, ⟨rfl, rfl, rfl⟩, hw2, hU2⟩
  have t2 := hU2.size
  refine ⟨fun hx => ?_, fun hx => ?_⟩
  · have hjl : j < ks.length := by simpa using hx
    rw [drop_cons hjl, allC] at hg
    have q2 := kidq q1 hU2
    have hki : (e.kid 0).kid j = ks[j] := by
      rw [kid_eq (by rw [hks]; exact hjl)]
      simp only [hks]
    have hsz : ks[j].size ≤ e.size := by
      have := kid_sz (e := e.kid 0) (j := j) (by rw [hks]; exact hjl)
      rw [hki] at this; omega
    refine q2.idx hjl fun ad1 ha1 => q2.cell ha1 hjl fun A3 l3 c3 q3 hh2 => ?_
    have hkj : KCk b kf ks[j] := hki ▸ hk0 j hjl
    refine callCU (cmust_c hkj 3 hw2 q3 (by rw [hbs]; omega)) (away_ob (top := w.heap.size) hlt (by simp; omega)) fun A4 c4 w4 hw4 hU4 => ?_
    refine ⟨⟨j + 1, _, w64_succ (by omega), hjl, hg, by rw [mustC_b hb, hbs], ⟨rfl, rfl, rfl⟩, hw4, hU2.tb hU4⟩, ?_⟩
    dsimp only
    rw [w64_succ (by omega)]; exact mea_succ hjl
  · have hjl : ¬ j < ks.length := by simpa using hx
    rw [List.drop_eq_nil_of_le (by omega), allC] at hg
    have hn : s.bound.length ≤ 2 ^ 30 := by rw [hbs]; omega
    refine pushVC (names_nil hw2.hs (by omega)) (away_of fun _ _ h => h) fun A5 c5 w5 hB5 hU5 => ?_
    have hE5 : Ext w2 w5 := Upd.mono hU5 fun _ h => h
    have t5 := hE5.size
    intro id2 hid2 w12 hE12 hi12 hh12
    have hE12' : Ext w5 w12 := hE12
    have t12 := hE12'.size
    refine pushVC (names_push hB5 hE12' hh12 (by omega)) (away_of fun i hi hS => ?_) fun A6 c6 w6 hB6 hU6 => ?_
    · have := (hB5.blk hS); have := (hw2.blt); simp only [List.mem_cons, List.not_mem_nil, or_false] at hi; omega
    have t6 := hU6.size
    have hE6 : Ext w2 w6 := Upd.step (hE5.trans hE12') hU6 fun x hx => (hB5.blk hx).1
    have hb2 := hw2.blt
    have ids : ∀ i ∈ [id, id1, id2], w.heap.size ≤ i := by simp; omega
    have ab : Away [id, id1, id2] (OB b) := away_ob hlt ids
    refine hr.idx (j := 1) (by omega) fun ad2 ha2 => ?_
    have hw6 : ∀ {w7 : World}, Upd w6 w7 (OB b) → w7.heap[b]? = some (.cells #[.slice A6 (s.bound.length + 1) c6, .int .i64 s.e, .int .i64 s.at_] 84 (0, 0)) → CkW w7 b A6 c6 { s with bound := s.bound ++ [e.s] } := fun {w7} hU7 hh7 => by
      refine ⟨by rw [hh7]; simp, ?_⟩
      have := strs_done (F := fun x => x ≠ b) hB6 (by omega) (fun x hx => by omega)
      rw [show ({ s with bound := s.bound ++ [e.s] } : CS).bound.length = s.bound.length + 1 by simp]
      exact RowIn.upd' this hU7 fun x hx _ hS => hx hS
    have hr6 := fun {w7 : World} (hU7 : Upd w6 w7 (OB b)) => kidq hr11 (hU2.tb ((ext_ob hE6).tb hU7))
    have fin : ∀ {w7 w8 w9 : World} {A8 : Option Addr} {c8 : Nat} {s8 : CS}, mustC kf { s with bound := s.bound ++ [e.s] } (e.kid 1) (bodyI e.n) = s8 → CkW w8 b A8 c8 s8 → Upd w6 w7 (OB b) → Upd w7 w8 (OB b) → Upd w8 w9 (OB b) → w9.heap[b]? = some (.cells #[.slice A2 s.bound.length c2, .int .i64 s8.e, .int .i64 s8.at_] 84 (0, 0)) → CkI b w (quantC kf st e) (.int .i64 (wholeI e.n)) w9 := fun {w7 w8 w9 A8 c8 s8} h8 hw8 hU7 hU8 hU9 hh9 => by
      have hU : Upd w2 w9 (OB b) := (((ext_ob hE6).tb hU7).tb hU8).tb hU9
      unfold quantC
      dsimp only
      rw [hks, ← hg, h8]
      refine ⟨rfl, A2, c2, hw2.put hU ?_ rfl, ((ext_ob hE0).tb hU2).tb hU⟩
      exact hh9
    have hsz : ({ s with bound := s.bound ++ [e.s] } : CS).bound.length + (e.kid 1).size ≤ 2 ^ 30 := by
      have : s.bound.length = st.bound.length := by rw [hbs]
      simp only [List.length_append, List.length_cons, List.length_nil]
      omega
    refine ⟨fun w7 hU7 hh7 => ?_, fun w7 hU7 hh7 => ?_⟩
    · have hU7' := upd_ob hU7
      refine kid_cell (hr6 hU7') (j := 1) (by omega) ha2 fun A7 l7 c7 q7 hhb => callI (body_c _) fun w8 hE8 hhb8 hh8 => ?_
      have hU8 := hU7'.tb (ext_ob hE8)
      refine callCU (cmust_c hk1 (bodyI e.n) (hw6 hU8 hhb8) (q7.ext hE8) hsz) ab fun A9 c9 w9 hw9 hU9 w10 hU10 hh10 => callI (whole_c _) fun w13 hE13 hhb13 hh13 => ?_
      exact fin rfl hw9 hU8 hU9 ((upd_ob hU10).tb (ext_ob hE13)) hhb13
    · have hU7' := upd_ob hU7
      refine callI (body_c _) fun w8 hE8 hh8 => ?_
      have hU8 := hU7'.tb (ext_ob hE8)
      refine kid_cell (hr6 hU8) (j := 1) (by omega) ha2 fun A7 l7 c7 q7 hhb8 hh8' => ?_
      refine callCU (cmust_c hk1 (bodyI e.n) (hw6 hU8 hhb8) q7 hsz) ab fun A9 c9 w9 hw9 hU9 w10 hU10 hh10 => callI (whole_c _) fun w13 hE13 hhb13 hh13 => ?_
      exact fin rfl hw9 hU8 hU9 ((upd_ob hU10).tb (ext_ob hE13)) hhb13
end
section
open Go Go.Vx Go.Proofs
variable {b : Nat}
theorem wfL_at {k : Int} : ∀ {l : List Ex} {i : Nat}, wfL k i l = true → ∀ j (hj : j < l.length), wfE l[j] (k == 21 && ((i + j : Nat) : Int) == 0) = true
  | [], _, _, _, hj => by simp at hj
  | x :: l, i, h, j, hj => by
    rw [wfL, Bool.and_eq_true] at h
    cases j with
    | zero => exact h.1
    | succ j =>
      have := wfL_at h.2 j (by simp at hj; omega)
      rw [show i + 1 + j = i + (j + 1) by omega] at this
      exact this
theorem wf_parts {e : Ex} {set : Bool} (h : wfE e set = true) : isSetF e.k = set ∧ ¬ (kidsN e.k e.n < -1) ∧ (kidsN e.k e.n ≥ 0 → (e.kids.length : Int) = kidsN e.k e.n) ∧ ∀ j, j < e.kids.length → wfE (e.kid j) (e.k == 21 && (j : Int) == 0) = true := by
  obtain ⟨k, n, s, l, t⟩ := e
  rw [wfE] at h
  simp only [Bool.and_eq_true, Bool.not_eq_true', decide_eq_false_iff_not, Bool.or_eq_true, beq_iff_eq] at h
  obtain ⟨⟨⟨⟨_, h2⟩, h3⟩, h4⟩, h5⟩ := h
  refine ⟨h4, h2, fun hk => ?_, fun j hj => ?_⟩
  · rcases h3 with h3 | h3
    · exact absurd hk (by have h3 : ¬ (kidsN k n ≥ 0) := by simpa using h3
                          exact h3)
    · exact h3
  · rw [kid_eq hj]
    have := wfL_at h5 j hj
    rw [Nat.zero_add] at this
    exact this
theorem kind_step {kf : CS → Ex → Int × CS} {e : Ex} (hb : BKc kf) (hk : ∀ i, i < e.kids.length → (e.k == 21 && (i : Int) == 0) = false → KCk b kf (e.kid i)) (hkk : e.k = 21 → ∀ i, i < (e.kid 0).kids.length → KCk b kf ((e.kid 0).kid i)) (hwf : wfE e false = true)
    {w : World} {A : Option Addr} {c : Nat} {B : Option Addr} {l cc : Nat} {st : CS} (hw : CkW w b A c st) (hr : ExsR w (NB b) e.kids B l cc) (hs : st.bound.length + e.size ≤ 2 ^ 30) :
    CallsX E.P 61 #[.pointer (some ⟨b, 0, none⟩), exA e B l cc] w (CkI b w (bodyC kf st e)) never := by
  obtain ⟨hset, hkn, hkl, _⟩ := wf_parts hwf
  refine vc61 hw.hh ?_
  intro id hid
  have hlt := hw.blt
  have aw : Away [id] (OB b) := away_ob hlt (by simp; omega)
  have cnt : ∀ {k m : Int}, (e.k == k) = true → kidsN k e.n = m → 0 ≤ m → (e.kids.length : Int) = m := fun h h2 h3 => by
    rw [eq_of_beq h, h2] at hkl
    exact hkl h3
  have kk : ∀ {k : Int}, (e.k == k) = true → k ≠ 21 → ∀ i, i < e.kids.length → KCk b kf (e.kid i) := fun h hne i hi => hk i hi (by
    have h1 : (e.k == 21) = false := by rw [eq_of_beq h]; simpa using hne
    rw [h1]; rfl)
  have keep : ∀ {wa wb : World} {kk : List Ex} {D : Option Addr} {m d : Nat}, ExsR wa (NB b) kk D m d → Upd wa wb (OB b) → ExsR wb (NB b) kk D m d := fun q k => q.upd' k fun x hx _ hS => by have hx : x < b := hx; have hS : x = b := hS; omega
  have sz : ∀ {s : CS} {i : Nat}, s.bound = st.bound → i < e.kids.length → s.bound.length + (e.kid i).size ≤ 2 ^ 30 := fun h hi => by have := kid_sz hi; rw [h]; omega
  unfold bodyC
  refine ⟨fun c1 w1 hE1 hi1 hh1 => ?_, fun c1 => ?_⟩
  · rw [if_pos c1]
    exact ⟨rfl, A, c, hw.ext hE1, ext_ob hE1⟩
  rw [if_neg (nfc c1)]
  refine ⟨fun c2 w1 hE1 hi1 hh1 => ?_, fun c2 => ?_⟩
  · rw [if_pos c2]
    exact ⟨rfl, A, c, hw.ext hE1, ext_ob hE1⟩
  rw [if_neg (nfc c2)]
  refine ⟨fun c3 w1 hE1 hi1 hh1 => ?_, fun c3 => ?_⟩
  · rw [if_pos c3]
    exact ⟨rfl, A, c, hw.ext hE1, ext_ob hE1⟩
  rw [if_neg (nfc c3)]
  refine ⟨fun c4 w1 hE1 hi1 hh1 => ?_, fun c4 => ?_⟩
  · rw [if_pos c4]
    exact callCI (nameC_c e (hw.ext hE1)) aw fun A2 c2 w2 hw2 hU2 hh2 => ⟨rfl, A2, c2, hw2, (ext_ob hE1).tb hU2⟩
  rw [if_neg (nfc c4)]
  refine ⟨fun c6 => ?_, fun c6 => ?_⟩
  · rw [if_pos c6]
    have hl := cnt c6 (m := 1) rfl (by decide)
    refine hr.idx (j := 0) (by omega) fun ad ha w1 hE1 hi1 => kid_cell (hr.ext hE1) (j := 0) (by omega) ha fun A1 l1 c1 q1 hh1 => ?_
    exact callCU (cmust_c (kk c6 (by decide) 0 (by omega)) 1 (hw.ext hE1) q1 (sz rfl (by omega))) aw fun A2 c2 w2 hw2 hU2 hh2 => ⟨rfl, A2, c2, hw2, (ext_ob hE1).tb hU2⟩
  rw [if_neg (nfc c6)]
  refine ⟨fun c7 => ?_, fun c7 => ?_⟩
  · rw [if_pos c7]
    have hl := cnt c7 (m := 1) rfl (by decide)
    refine hr.idx (j := 0) (by omega) fun ad ha w1 hE1 hi1 => kid_cell (hr.ext hE1) (j := 0) (by omega) ha fun A1 l1 c1 q1 hh1 => ?_
    exact callCU (cmust_c (kk c7 (by decide) 0 (by omega)) 2 (hw.ext hE1) q1 (sz rfl (by omega))) aw fun A2 c2 w2 hw2 hU2 hh2 => ⟨rfl, A2, c2, hw2, (ext_ob hE1).tb hU2⟩
  rw [if_neg (nfc c7)]
  refine ⟨fun c8 w1 hE1 hi1 hh1 => ?_, fun c8 => ?_⟩
  · rw [if_pos (by rw [c8]; rfl)]
    have hl := cnt c8 (m := 2) rfl (by decide)
    exact callCI (bin_c hb (by omega) (kk c8 (by decide)) 1 1 (hw.ext hE1) (hr.ext hE1) hs) aw fun A2 c2 w2 hw2 hU2 hh2 => ⟨rfl, A2, c2, hw2, (ext_ob hE1).tb hU2⟩
  refine ⟨fun c9 w1 hE1 hi1 hh1 => ?_, fun c9 => ?_⟩
  · rw [if_pos (by rw [c8, c9]; rfl)]
    have hl := cnt c9 (m := 2) rfl (by decide)
    exact callCI (bin_c hb (by omega) (kk c9 (by decide)) 1 1 (hw.ext hE1) (hr.ext hE1) hs) aw fun A2 c2 w2 hw2 hU2 hh2 => ⟨rfl, A2, c2, hw2, (ext_ob hE1).tb hU2⟩
  refine ⟨fun c10 w1 hE1 hi1 hh1 => ?_, fun c10 => ?_⟩
  · rw [if_pos (by rw [c8, c9, c10]; rfl)]
    have hl := cnt c10 (m := 2) rfl (by decide)
    exact callCI (bin_c hb (by omega) (kk c10 (by decide)) 1 1 (hw.ext hE1) (hr.ext hE1) hs) aw fun A2 c2 w2 hw2 hU2 hh2 => ⟨rfl, A2, c2, hw2, (ext_ob hE1).tb hU2⟩
  refine ⟨fun c11 w1 hE1 hi1 hh1 => ?_, fun c11 => ?_⟩
  · rw [if_pos (by rw [c8, c9, c10, c11]; rfl)]
    have hl := cnt c11 (m := 2) rfl (by decide)
    exact callCI (bin_c hb (by omega) (kk c11 (by decide)) 1 1 (hw.ext hE1) (hr.ext hE1) hs) aw fun A2 c2 w2 hw2 hU2 hh2 => ⟨rfl, A2, c2, hw2, (ext_ob hE1).tb hU2⟩
  refine ⟨fun c12 w1 hE1 hi1 hh1 => ?_, fun c12 => ?_⟩
  · rw [if_pos (by rw [c8, c9, c10, c11, c12]; rfl)]
    have hl := cnt c12 (m := 2) rfl (by decide)
    exact callCI (bin_c hb (by omega) (kk c12 (by decide)) 1 1 (hw.ext hE1) (hr.ext hE1) hs) aw fun A2 c2 w2 hw2 hU2 hh2 => ⟨rfl, A2, c2, hw2, (ext_ob hE1).tb hU2⟩
  rw [iff0 (show (e.k == 8 || e.k == 9 || e.k == 10 || e.k == 11 || e.k == 12) = false by rw [c8, c9, c10, c11, c12]; rfl)]
  refine ⟨fun c15 w1 hE1 hi1 hh1 => ?_, fun c15 => ?_⟩
  · rw [if_pos (by rw [c15]; rfl)]
    have hl := cnt c15 (m := 2) rfl (by decide)
    exact callCI (bin_c hb (by omega) (kk c15 (by decide)) 1 2 (hw.ext hE1) (hr.ext hE1) hs) aw fun A2 c2 w2 hw2 hU2 hh2 => ⟨rfl, A2, c2, hw2, (ext_ob hE1).tb hU2⟩
  refine ⟨fun c16 w1 hE1 hi1 hh1 => ?_, fun c16 => ?_⟩
  · rw [if_pos (by rw [c15, c16]; rfl)]
    have hl := cnt c16 (m := 2) rfl (by decide)
    exact callCI (bin_c hb (by omega) (kk c16 (by decide)) 1 2 (hw.ext hE1) (hr.ext hE1) hs) aw fun A2 c2 w2 hw2 hU2 hh2 => ⟨rfl, A2, c2, hw2, (ext_ob hE1).tb hU2⟩
  rw [iff0 (show (e.k == 15 || e.k == 16) = false by rw [c15, c16]; rfl)]
  refine ⟨fun c17 w1 hE1 hi1 hh1 => ?_, fun c17 => ?_⟩
  · rw [if_pos (by rw [c17]; rfl)]
    have hl := cnt c17 (m := 2) rfl (by decide)
    exact callCI (bin_c hb (by omega) (kk c17 (by decide)) 2 2 (hw.ext hE1) (hr.ext hE1) hs) aw fun A2 c2 w2 hw2 hU2 hh2 => ⟨rfl, A2, c2, hw2, (ext_ob hE1).tb hU2⟩
  refine ⟨fun c18 w1 hE1 hi1 hh1 => ?_, fun c18 => ?_⟩
  · rw [if_pos (by rw [c17, c18]; rfl)]
    have hl := cnt c18 (m := 2) rfl (by decide)
    exact callCI (bin_c hb (by omega) (kk c18 (by decide)) 2 2 (hw.ext hE1) (hr.ext hE1) hs) aw fun A2 c2 w2 hw2 hU2 hh2 => ⟨rfl, A2, c2, hw2, (ext_ob hE1).tb hU2⟩
  rw [iff0 (show (e.k == 17 || e.k == 18) = false by rw [c17, c18]; rfl)]
  refine ⟨fun c13 => ?_, fun c13 => ?_⟩
  · rw [if_pos (by rw [c13]; rfl)]
    have hl := cnt c13 (m := 2) rfl (by decide)
    refine hr.idx (j := 0) (by omega) fun ad ha w1 hE1 hi1 => kid_cell (hr.ext hE1) (j := 0) (by omega) ha fun A1 l1 c1 q1 hh1 => ?_
    refine callCI (kk c13 (by decide) 0 (by omega) (hw.ext hE1) q1 (sz rfl (by omega))) aw fun A2 c2 w2 hw2 hU2 => ?_
    have hr2 := keep hr ((ext_ob hE1).tb hU2)
    refine hr2.idx (j := 1) (by omega) fun ad1 ha1 => kid_cell hr2 (j := 1) (by omega) ha1 fun A3 l3 c3 q3 hh2 => ?_
    exact callCU (cmust_c (kk c13 (by decide) 1 (by omega)) _ hw2 q3 (sz (hb _ _) (by omega))) aw fun A4 c4 w4 hw4 hU4 hh4 => ⟨rfl, A4, c4, hw4, ((ext_ob hE1).tb hU2).tb hU4⟩
  refine ⟨fun c14 => ?_, fun c14 => ?_⟩
  · rw [if_pos (by rw [c13, c14]; rfl)]
    have hl := cnt c14 (m := 2) rfl (by decide)
    refine hr.idx (j := 0) (by omega) fun ad ha w1 hE1 hi1 => kid_cell (hr.ext hE1) (j := 0) (by omega) ha fun A1 l1 c1 q1 hh1 => ?_
    refine callCI (kk c14 (by decide) 0 (by omega) (hw.ext hE1) q1 (sz rfl (by omega))) aw fun A2 c2 w2 hw2 hU2 => ?_
    have hr2 := keep hr ((ext_ob hE1).tb hU2)
    refine hr2.idx (j := 1) (by omega) fun ad1 ha1 => kid_cell hr2 (j := 1) (by omega) ha1 fun A3 l3 c3 q3 hh2 => ?_
    exact callCU (cmust_c (kk c14 (by decide) 1 (by omega)) _ hw2 q3 (sz (hb _ _) (by omega))) aw fun A4 c4 w4 hw4 hU4 hh4 => ⟨rfl, A4, c4, hw4, ((ext_ob hE1).tb hU2).tb hU4⟩
  rw [iff0 (show (e.k == 13 || e.k == 14) = false by rw [c13, c14]; rfl)]
  refine ⟨fun c19 => ?_, fun c19 => ?_⟩
  · rw [if_pos c19]
    have hl := cnt c19 (m := 3) rfl (by decide)
    unfold ifC
    dsimp only
    refine hr.idx (j := 0) (by omega) fun ad ha w1 hE1 hi1 => kid_cell (hr.ext hE1) (j := 0) (by omega) ha fun A1 l1 c1 q1 hh1 => ?_
    refine callCU (cmust_c (kk c19 (by decide) 0 (by omega)) 2 (hw.ext hE1) q1 (sz rfl (by omega))) aw fun A2 c2 w2 hw2 hU2 => ⟨fun d1 hh2 => ?_, fun d1 => ?_⟩
    · rw [if_pos d1]
      exact ⟨rfl, A2, c2, hw2, (ext_ob hE1).tb hU2⟩
    rw [if_neg (nfc d1)]
    have hr2 := keep hr ((ext_ob hE1).tb hU2)
    have b2 := mustC_b hb st (e.kid 0) 2
    refine hr2.idx (j := 1) (by omega) fun ad1 ha1 => kid_cell hr2 (j := 1) (by omega) ha1 fun A3 l3 c3 q3 hh2 => ?_
    refine callCI (kk c19 (by decide) 1 (by omega) hw2 q3 (sz b2 (by omega))) aw fun A4 c4 w4 hw4 hU4 => ?_
    have hr4 := keep hr2 hU4
    refine hr4.idx (j := 2) (by omega) fun ad2 ha2 => kid_cell hr4 (j := 2) (by omega) ha2 fun A5 l5 c5 q5 hh4 => ?_
    exact callCU (cmust_c (kk c19 (by decide) 2 (by omega)) _ hw4 q5 (sz ((hb _ _).trans b2) (by omega))) aw fun A6 c6 w6 hw6 hU6 hh6 => ⟨rfl, A6, c6, hw6, (((ext_ob hE1).tb hU2).tb hU4).tb hU6⟩
  rw [if_neg (nfc c19)]
  refine ⟨fun c20 w1 hE1 hi1 => ?_, fun c20 w1 hE1 hi1 hh1 => ?_⟩
  · rw [if_pos c20]
    have hE1' : Ext w w1 := hE1
    have hr1 := hr.ext hE1'
    obtain rfl := hr.len
    have hsm := hr.lt
    refine ⟨fun x a2 n1 c1 x5 x6 w2 => ∃ (j : Nat) (s : CS), x = j ∧ j ≤ e.kids.length ∧ allC kf 3 s (e.kids.drop j) = allC kf 3 st e.kids ∧ s.bound = st.bound ∧ (n1 = s.bound.length ∧ x5 = s.e ∧ x6 = s.at_) ∧ CkW w2 b a2 c1 s ∧ Upd w1 w2 (OB b), fun x _ _ _ _ _ => ((e.kids.length : Int) - x).toNat,
      ⟨0, st, rfl, Nat.zero_le _, rfl, rfl, ⟨rfl, rfl, rfl⟩, hw.ext hE1', Upd.refl _ _⟩, ?_⟩
    rintro _ x A2 n1 c2 x5 x6 w2 ⟨j, s, rfl, hj, hg, hbs, ⟨rfl, rfl, rfl⟩, hw2, hU2⟩
    refine ⟨fun hx => ?_, fun hx => ?_⟩
    · have hjl : j < e.kids.length := by simpa using hx
      rw [drop_cons hjl, allC] at hg
      have q2 := keep hr1 hU2
      refine q2.idx hjl fun ad1 ha1 => kid_cell q2 hjl ha1 fun A3 l3 c3 q3 hh2 => ?_
      refine callCU (cmust_c (kk c20 (by decide) j hjl) 3 hw2 q3 (sz hbs hjl)) aw fun A4 c4 w4 hw4 hU4 => ?_
      refine ⟨⟨j + 1, _, w64_succ (by omega), hjl, by rw [kid_eq hjl]; exact hg, by rw [mustC_b hb, hbs], ⟨rfl, rfl, rfl⟩, hw4, hU2.tb hU4⟩, ?_⟩
      dsimp only
      rw [w64_succ (by omega)]; exact mea_succ hjl
    · have hjl : ¬ j < e.kids.length := by simpa using hx
      rw [List.drop_eq_nil_of_le (by omega), allC] at hg
      rw [← hg]
      exact callI (gives_c _) fun w3 hE3 hh3 => ⟨rfl, A2, c2, hw2.ext hE3, ((ext_ob hE1').tb hU2).tb (ext_ob hE3)⟩
  rw [if_neg (nfc c20)]
  have c21 : e.k = 21 := by
    refine Classical.byContradiction fun hne => hkn ?_
    have h21 : (e.k == 21) = false := by simpa using hne
    have hq : ∀ k : Int, 22 ≤ k → k ≤ 25 → (e.k == k) = false := fun k h1 h2 => by
      cases h : e.k == k with
      | false => rfl
      | true =>
        rw [eq_of_beq h] at hset
        simp only [isSetF, Bool.and_eq_false_iff, decide_eq_false_iff_not] at hset
        omega
    unfold kidsN
    rw [c1, c2, c3, c4, hq 22 (by decide) (by decide), hq 23 (by decide) (by decide), c6, c7, hq 24 (by decide) (by decide), c8, c9, c10, c11, c12, c13, c14, c15, c16, c17, c18, h21, c19, hq 25 (by decide) (by decide), c20]
    exact (by decide : (-2 : Int) < -1)
  have hl := cnt (k := 21) (m := 2) (by rw [c21]; rfl) rfl (by decide)
  refine callCI (quantC_c hb (by omega) (hkk c21) (hk 1 (by omega) (by rw [c21]; rfl)) (hw.ext hE1) (hr.ext hE1) hs) aw fun A2 c2 w2 hw2 hU2 hh2 => ⟨rfl, A2, c2, hw2, (ext_ob hE1).tb hU2⟩
theorem kind_c' : ∀ (f : Nat) (e : Ex), e.size ≤ f → wfE e false = true → KCk b (kindC f) e := by
  intro f
  induction f with
  | zero => intro e hn; cases e with | mk k v s l t => simp only [Ex.size] at hn; omega
  | succ f ih =>
    intro e hn hwf w A c B l cc st hw hr hs
    obtain ⟨_, _, _, hkid⟩ := wf_parts hwf
    rw [kindC]
    refine kind_step (kind_b f) (fun i hi h0 => ih _ ?_ ?_) (fun h21 i hi => ?_) hwf hw hr hs
    · have := kid_sz hi; omega
    · have := hkid i hi; rw [h0] at this; exact this
    · have h0 : 0 < e.kids.length := by
        rcases Nat.eq_zero_or_pos e.kids.length with h | h
        · have hk : e.kid 0 = ex0 := by rw [Ex.kid, List.eq_nil_of_length_eq_zero h]; rfl
          rw [hk] at hi
          exact absurd hi (Nat.not_lt_zero _)
        · exact h
      have hq := hkid 0 h0
      rw [h21] at hq
      have hq : wfE (e.kid 0) true = true := hq
      obtain ⟨p1, _, _, p4⟩ := wf_parts hq
      have hp := p4 i hi
      have hne : ((e.kid 0).k == 21) = false := by
        cases h : (e.kid 0).k == 21 with
        | false => rfl
        | true => rw [eq_of_beq h] at p1; exact absurd p1 (by decide)
      rw [hne] at hp
      have hsz : ((e.kid 0).kid i).size ≤ f := by
        have := kid_sz h0
        have := kid_sz hi
        omega
      exact @ih _ hsz hp
theorem check_c (e : Ex) {w : World} {F : Nat → Prop} {B : Option Addr} {l cc : Nat} (hr : ExsR w F e.kids B l cc) (hF : ∀ x, F x → x < w.heap.size) (hs : e.size ≤ 2 ^ 30) :
    CallsX E.P 40 #[exA e B l cc] w (IsV (.tuple #[.int .i64 (checkF e).1, .int .i64 (checkF e).2.1, .int .i64 (checkF e).2.2]) w) never := by
  refine vc40 ?_
  intro id hid w1 hE1 hi1
  have hE1' : Ext w w1 := hE1
  have t1 := hE1'.size
  refine callB (rightE_c e (hr.ext hE1') fun x hx => by have := hF x hx; omega) fun w2 hE2 => ⟨fun h1 => ?_, fun h1 id2 hid2 w3 hE3 hi3 hh3 => ?_⟩
  · unfold checkF
    rw [if_pos h1]
    exact ⟨rfl, hE1'.trans hE2⟩
  · have hright : rightE e = true := by simpa using h1
    have hE3' : Ext w2 w3 := hE3
    have t2 := hE2.size
    have t3 := hE3'.size
    have hE03 : Ext w w3 := (hE1'.trans hE2).trans hE3'
    have hw3 : CkW w3 id2 none 0 ⟨[], 0, 0⟩ := ⟨hh3, ⟨rfl, Nat.le_refl _, by decide, by simp, fun h => absurd rfl h⟩⟩
    have hr3 : ExsR w3 (NB id2) e.kids B l cc := (hr.ext hE03).mono fun x hx => by have := hF x hx; show x < id2; omega
    refine callCI (kind_c' e.size e (Nat.le_refl _) (right_wf hright) hw3 hr3 (by simpa using hs)) (away_of fun i hi hS => by simp only [List.mem_cons, List.not_mem_nil, or_false] at hi; have hS : i = id2 := hS; omega) fun A2 c2 w4 hw4 hU4 => ?_
    have hE4 : Ext w w4 := Upd.step hE03 hU4 fun x hx => by have hx : x = id2 := hx; omega
    unfold checkF
    rw [if_neg (nfc h1)]
    dsimp only
    refine ⟨fun h2 w5 hE5 => ?_, fun h2 => ?_⟩
    · rw [if_pos h2]
      exact ⟨rfl, hE4.trans hE5⟩
    · rw [if_neg (nfc h2)]
      exact ⟨rfl, hE4⟩
end
section
open Go Go.Vx Go.Proofs
def NwR (w : World) (n : Nd) : Value → World → Prop := fun v w' => ∃ A l c, v = ndA n A l c ∧ NdsR w' (Rng w.heap.size w'.heap.size) n.kids A l c ∧ Ext w w'
theorem callNw {f : Nat} {args : Array Value} {w : World} {X : ContX} {ids : List Nat} {n : Nd} (h : CallsX E.P f args w (NwR w n) never) {K : Int → Int → ByteArray → Option Addr → Nat → Nat → World → Prop}
    (k : ∀ A l c w2, NdsR w2 (Rng w.heap.size w2.heap.size) n.kids A l c → Ext w w2 → K n.k n.n n.s A l c w2) :
    ∃ (R : Value → World → Prop) (X' : ContX), CallsX E.P f args w R X' ∧ (∀ v w2, R v w2 → ∃ x4 x5, ∃ x6 a2, ∃ n2 c2, v = .agg #[.int .i64 x4, .int .i64 x5, .string x6, .slice a2 n2 c2] ∧ ∃ S, Upd w w2 S ∧ Away ids S ∧ K x4 x5 x6 a2 n2 c2 w2) ∧ ∀ ch w2, X' ch w2 → X ch w2 :=
  ⟨_, _, h, fun _ w2 ⟨A, l, c, hv, hN, hE⟩ => ⟨_, _, _, _, _, _, hv, no, hE, Away.no _, k A l c w2 hN hE⟩, never_any⟩
theorem strs_keep {w w' : World} {G : Nat → Prop} {l : List ByteArray} {A : Option Addr} {n c : Nat} (h : StrsR w G l A n c) (k : Ext w w') : StrsR w' G l A n c := RowIn.upd' h k fun _ _ _ h => h
theorem strs_len {w : World} {G : Nat → Prop} {l : List ByteArray} {A : Option Addr} {n c : Nat} (h : StrsR w G l A n c) : n = l.length := by simpa using RowIn.len h
theorem ex_pos : ∀ (e : Ex), 1 ≤ e.size
  | .mk _ _ _ _ _ => by rw [Ex.size]; omega
theorem ex_len : ∀ (l : List Ex), l.length ≤ Ex.sizes l
  | [] => Nat.zero_le _
  | x :: l => by
    have := ex_len l
    have := ex_pos x
    rw [Ex.sizes, List.length_cons]; omega
theorem kids_le (e : Ex) : e.kids.length ≤ e.size := by
  cases e with | mk k n s l t => have := ex_len l; simp only [Ex.size, Ex.kids]; omega
theorem node_c : ∀ (f : Nat) (e : Ex), e.size ≤ f → ∀ (bd : List ByteArray) {w : World} {F G : Nat → Prop} {B : Option Addr} {l cc : Nat} {D : Option Addr} {m d : Nat}, ExsR w F e.kids B l cc → StrsR w G bd D m d → bd.length + e.size ≤ 2 ^ 30 →
    CallsX E.P 41 #[exA e B l cc, .slice D m d] w (NwR w (nodeF e bd)) never := by
  intro f
  induction f with
  | zero => intro e hn; cases e with | mk k v s l t => simp only [Ex.size] at hn; omega
  | succ f ih =>
    intro e hn bd w F G B l cc D m d hr hbd hs
    obtain rfl := strs_len hbd
    obtain rfl := hr.len
    have hsm := hr.lt
    have hkl := kids_le e
    refine vc41 ?_
    intro id hid id1 hid1 id2 hid2
    have fin : ∀ {w1 w2 : World} {i : Nat}, Ext w w1 → w.heap.size ≤ i → Upd w1 w2 (setOf [i]) → Ext w w2 := fun h1 h2 h3 => Upd.step h1 h3 fun x hx => by simp only [setOf, no, or_false] at hx; omega
    refine ⟨fun _ _ _ _ _ _ x6 x7 x8 w1 => (e.k == 4) = false ∧ (x6 = e.k ∧ x7 = e.n ∧ x8 = (if e.k == 23 then e.s else ByteArray.mk #[])) ∧ Ext w w1 ∧ id < w1.heap.size ∧ id1 < w1.heap.size ∧ id2 < w1.heap.size, ⟨fun c4 w1 hE1 i0 i1 i2 => ?_, fun c4 => ⟨fun c23 w1 hE1 i0 i1 i2 => ⟨c4, ⟨rfl, rfl, by rw [c23]; rfl⟩, hE1, i0, i1, i2⟩, fun c23 w1 hE1 i0 i1 i2 => ⟨c4, ⟨rfl, rfl, by rw [c23]; rfl⟩, hE1, i0, i1, i2⟩⟩⟩, ?_⟩
    · have hE1' : Ext w w1 := hE1
      refine ⟨fun x x1 w2 => ∃ j : Nat, x = j ∧ j ≤ bd.length ∧ lastIn e.s j x1 (bd.drop j) = lastIn e.s 0 e.n bd ∧ Ext w w2 ∧ w1.heap.size ≤ w2.heap.size, fun x _ => ((bd.length : Int) - x).toNat, ⟨0, rfl, Nat.zero_le _, rfl, hE1', Nat.le_refl _⟩, ?_⟩
      rintro _ x x1 w2 ⟨j, rfl, hj, hg, hE2, hs2⟩
      have hbd2 := strs_keep hbd hE2
      have hlt := RowIn.lt hbd
      refine ⟨fun hlt2 => ?_, fun hlt2 w3 hU3 => ?_⟩
      · have hjl : j < bd.length := by simpa using hlt2
        rw [drop_cons hjl, lastIn] at hg
        obtain ⟨ad, r, e1, hr, _, hc⟩ := RowIn.get hbd2 (j : Int) (by omega) (by omega)
        have hnn : Int.toNat (j : Int) = j := by omega
        rw [hnn, List.getElem?_map, List.getElem?_eq_getElem hjl] at hr
        cases hr
        refine ⟨⟨by omega, by omega⟩, ad, e1, fun w3 hE3 => ⟨_, CellsIn.ext hc hE3 (fun h => h), fun hx w4 hU4 => ?_, fun hx => ?_⟩⟩
        · rw [if_pos hx] at hg
          have hE3' : Ext w2 w3 := hE3
          have t3 := hE3'.size
          have t4 := hU4.size
          refine ⟨⟨j + 1, w64_succ (by omega), hjl, hg, fin (hE2.trans hE3') hid2 hU4, by omega⟩, ?_⟩
          dsimp only
          rw [w64_succ (by omega)]; exact mea_succ hjl
        · rw [if_neg (nfc hx)] at hg
          have hE3' : Ext w2 w3 := hE3
          have t3 := hE3'.size
          refine ⟨⟨j + 1, w64_succ (by omega), hjl, hg, hE2.trans hE3', by omega⟩, ?_⟩
          dsimp only
          rw [w64_succ (by omega)]; exact mea_succ hjl
      · have hjl : ¬ j < bd.length := by simpa using hlt2
        rw [List.drop_eq_nil_of_le (by omega), lastIn] at hg
        have hN : nodeF e bd = .mk 5 x1 (ByteArray.mk #[]) [] := by
          rw [hg]
          cases e with | mk k n s l t => have c4 : (k == 4) = true := c4; rw [nodeF, if_pos c4]; rfl
        rw [hN]
        exact ⟨none, 0, 0, rfl, nds_nil.plain, fin hE2 hid1 hU3⟩
    rintro _ _ _ _ _ _ _ x6 x7 x8 w1 ⟨c4, ⟨rfl, rfl, rfl⟩, hE1, i0, i1, i2⟩
    have hN : nodeF e bd = .mk e.k e.n (if e.k == 23 then e.s else ByteArray.mk #[]) (nodesF e.k e.s 0 e.kids bd) := by
      cases e with | mk k n s l t => have c4 : (k == 4) = false := c4; rw [nodeF, if_neg (nfc c4)]; rfl
    rw [hN]
    have t1 := hE1.size
    have hr1 := hr.ext hE1
    have hbd1 := strs_keep hbd hE1
    refine ⟨fun x a1 n1 c1 w2 => ∃ (j : Nat) (sd : List Nd), x = j ∧ j ≤ e.kids.length ∧ sd ++ nodesF e.k e.s j (e.kids.drop j) bd = nodesF e.k e.s 0 e.kids bd ∧ NdsB w2 false w1.heap.size w2.heap.size no no sd a1 n1 c1 ∧ Ext w w2 ∧ w1.heap.size ≤ w2.heap.size ∧ sd.length = j,
      fun x _ _ _ => ((e.kids.length : Int) - x).toNat, ⟨0, [], rfl, Nat.zero_le _, rfl, RowB.nil (fun _ h => h.elim) (Nat.le_refl _), hE1, Nat.le_refl _, rfl⟩, ?_⟩
    rintro _ x a1 n1 c1 w2 ⟨j, sd, rfl, hj, hg, hB, hE2, t2, hsd⟩
    obtain rfl := hB.len
    refine ⟨fun hlt2 => ?_, fun hlt2 w3 hU3 => ?_⟩
    · have hjl : j < e.kids.length := by simpa using hlt2
      rw [drop_cons hjl, nodesF] at hg
      generalize hin : (if e.k == 21 && (j : Int) == 1 then bd ++ [e.s] else bd) = inn at hg
      have hbd2 := strs_keep hbd hE2
      have hkz : e.kids[j].size < e.size := by have := kid_sz hjl; rw [kid_eq hjl] at this; exact this
      have hil : inn.length ≤ bd.length + 1 := by rw [← hin]; split <;> simp
      refine ⟨fun a4 n4 c4 w4 => StrsR w4 (fun _ => True) inn a4 n4 c4 ∧ Ext w2 w4, ⟨fun c21 => ⟨fun cj => ?_, fun cj => ⟨?_, Upd.refl _ _⟩⟩, fun c21 => ⟨?_, Upd.refl _ _⟩⟩, ?_⟩
      · refine pushVC (names_nil hbd2 (by omega)) (away_of fun _ _ h => h) fun A5 c5 w5 hB5 hU5 => ?_
        have hE5 : Ext w2 w5 := Upd.mono hU5 fun _ h => h
        have t5 := hE5.size
        intro id3 hid3 w6 hE6 i3 hh6
        refine pushVC (names_push hB5 hE6 hh6 (by omega)) (away_of fun i hi hS => ?_) fun A7 c7 w7 hB7 hU7 hh7 => ?_
        · have := hB5.blk hS; simp only [List.mem_cons, List.not_mem_nil, or_false] at hi; omega
        · refine ⟨?_, Upd.step (hE5.trans hE6) hU7 fun x hx => (hB5.blk hx).1⟩
          rw [← hin, if_pos (by rw [c21, cj]; rfl)]
          exact strs_done hB7 (by omega) fun _ _ => trivial
      · rw [← hin, if_neg (by rw [cj]; simp)]
        exact RowIn.mono hbd2 fun _ _ => trivial
      · rw [← hin, if_neg (by rw [c21]; simp)]
        exact RowIn.mono hbd2 fun _ _ => trivial
      rintro _ a4 n4 c4' w4 ⟨hS4, hE4⟩
      have t4 := hE4.size
      refine (hr.ext (hE2.trans hE4)).idx hjl fun ad ha => (hr.ext (hE2.trans hE4)).cell ha hjl fun A1 l1 c1' q1 => ?_
      refine callNw (ih e.kids[j] (by omega) inn q1 hS4 (by omega)) fun A5 l5 c5 w5 hN5 hE5 id4 hid4 id5 hid5 w6 hE6 i4 i5 hh6 => ?_
      have t5 := hE5.size
      refine pushVC (RowB.push (x := nodeF e.kids[j] inn) (cs := ndV (nodeF e.kids[j] inn) A5 l5 c5) (Fk := Rng w4.heap.size w5.heap.size) sl22 ((hB.ext hE4).ext hE5) hN5.node (fun x hx => .inr ⟨by have := hx.1; omega, hx.2, fun h => h⟩) hE6 (fun _ h => h.elim) hh6 (by omega)) (away_of fun i hi hS => ?_) ?_
      · have := hB.blk hS; simp only [List.mem_cons, List.not_mem_nil, or_false] at hi; omega
      intro A7 c7 w7 ⟨hB7, _⟩ hU7 w8 hU8 hh8
      have t6 := Upd.size hE6
      have t7 := hU7.size
      have t8 := hU8.size
      have hE7 : Ext w w7 := Upd.step (((hE2.trans hE4).trans hE5).trans hE6) hU7 fun x hx => by have := (hB.blk hx).1; omega
      have hE8 : Ext w w8 := fin hE7 hid2 hU8
      refine ⟨⟨j + 1, sd ++ [nodeF e.kids[j] inn], w64_succ (by omega), hjl, ?_, ?_, hE8, by omega, by simp [hsd]⟩, ?_⟩
      · rw [← hg, List.append_assoc]; rfl
      · exact (hB7.upd hU8 fun x hx => ⟨fun h => h, .inr (by simp only [setOf, no, or_false] at hx; omega)⟩).re t8 (Nat.le_refl _) (fun x hx => .inl hx)
      · dsimp only
        rw [w64_succ (by omega)]; exact mea_succ hjl
    · have hjl : ¬ j < e.kids.length := by simpa using hlt2
      rw [List.drop_eq_nil_of_le (by omega), nodesF, List.append_nil] at hg
      have t3 := hU3.size
      rw [← hg]
      refine ⟨a1, _, c1, rfl, ?_, fin hE2 hid1 hU3⟩
      have hB3 := hB.upd hU3 fun x hx => ⟨fun h => h, .inr (by simp only [setOf, no, or_false] at hx; omega)⟩
      exact (nds_of (RowB.done hB3 (by omega) (.inr ⟨rfl, rfl⟩))).mono fun x hx => by
        rcases hx with h | h
        · exact h.2.elim
        · exact ⟨by omega, by omega⟩
theorem of_c (e : Ex) {w : World} {F : Nat → Prop} {B : Option Addr} {l cc : Nat} (hr : ExsR w F e.kids B l cc) (hF : ∀ x, F x → x < w.heap.size) (hs : e.size ≤ 2 ^ 30) :
    CallsX E.P 17 #[exA e B l cc] w (fun v w' => ∃ A l c, v = .tuple #[plA (ofF e).1 A l c none 0 0, .int .i64 (ofF e).2] ∧ NdsR w' (Rng w.heap.size w'.heap.size) (ofF e).1.root.kids A l c ∧ (ofF e).1.cells = [] ∧ Ext w w') never := by
  refine vc17 ?_
  intro id hid id1 hid1 w1 hE1 i0 i1
  have hE1' : Ext w w1 := hE1
  have t1 := hE1'.size
  refine ⟨_, _, check_c e (hr.ext hE1') (fun x hx => by have := hF x hx; omega) hs, ?_, never_any⟩
  rintro v w2 ⟨rfl, hE2⟩
  have t2 := hE2.size
  have fin : ∀ {w3 w4 : World}, Ext w w3 → Upd w3 w4 (setOf [id1]) → Ext w w4 := fun h1 h3 => Upd.step h1 h3 fun x hx => by simp only [setOf, no, or_false] at hx; omega
  refine ⟨_, _, _, rfl, no, hE2, Away.no _, fun h w3 hU3 => ?_, fun h => ?_⟩
  · unfold ofF
    rw [if_pos h]
    exact ⟨none, 0, 0, rfl, nds_nil.plain, rfl, fin (hE1'.trans hE2) hU3⟩
  · unfold ofF
    rw [if_neg (nfc h)]
    have hE02 := hE1'.trans hE2
    refine callNw (node_c e.size e (Nat.le_refl _) [] (G := no) (hr.ext hE02) ⟨rfl, Nat.le_refl _, by decide, by simp, fun h => absurd rfl h⟩ (by simpa using hs)) fun A l c w3 hN hE3 w4 hU4 => ?_
    have t3 := hE3.size
    have t4 := hU4.size
    refine ⟨A, l, c, rfl, ?_, rfl, fin (hE02.trans hE3) hU4⟩
    exact (hN.upd' hU4 fun x hx _ hS => by simp only [setOf, no, or_false] at hS; have := hx.1; omega).mono fun x hx => ⟨by have := hx.1; omega, by have := hx.2; omega⟩
end
section
open Go Go.Vx Go.Proofs
set_option maxRecDepth 100000
theorem vc132 {a : Nat} {a0 : Option Addr} {a0l a0c : Nat} {a1 a2 : Option Nat} {a3 b0 b1 : Int} {b2 : ByteArray} {b3 : Option Addr} {b3l b3c : Nat} {c d : Int} {w : World} {R : Value → World → Prop} {X : ContX} (ha : w.heap[a]? = some (.cells #[.slice a0 a0l a0c, .map a1, .map a2, .int .i64 a3] 103 (0, 0))) (h : 
 ∀ id, w.heap.size ≤ id → ∀ w1, Upd w w1 (setOf []) → id < w1.heap.size → w1.heap[a]? = some (.cells #[.slice a0 a0l a0c, Value.map a1, Value.map a2, .int .i64 a3] 103) → ∃ R1 X', CallsX E.P 109 #[.pointer (some ⟨a, 0, none⟩), .bool (b1 == 0)] w1 R1 X' ∧ (∀ v w2, R1 v w2 → ∃ (v1 : Value), v = v1 ∧ ∃ S, Upd w1 w2 S ∧ Away [id] S ∧ ∃ a1 n, ∃ c1 r, ∃ r1 x, w2.heap[a]? = some (.cells #[.slice a1 n c1, Value.map r, Value.map r1, .int .i64 x] 103) ∧ 4 = 4 ∧ ((0 : Int) ≤ 1 ∧ 1 < (↑b3l : Int)) ∧ ∃ ad, b3 = some ad ∧ ((0 : Int) ≤ 0 ∧ 0 < (↑b3l : Int)) ∧ ∃ ad1, b3 = some ad1 ∧ (∀ w11, Upd w2 w11 (setOf []) → ∃ x1 x2, ∃ x3 a2, ∃ n1 c2, CellsIn w11 (Addr.add ad 4) [.int .i64 x1, .int .i64 x2, .string x3, .slice a2 n1 c2] ∧ ∃ x4 x5, ∃ x6 a3, ∃ n2 c3, CellsIn w11 (Addr.add ad1 0) [.int .i64 x4, .int .i64 x5, .string x6, .slice a3 n2 c3] ∧ (w11.heap[a]? = some (.cells #[.slice a1 n c1, Value.map r, Value.map r1, .int .i64 x] 103) → ∃ R2 X'1, CallsX E.P 79 #[.pointer (some ⟨a, 0, none⟩), .agg #[.int .i64 x4, .int .i64 x5, .string x6, .slice a3 n2 c3], .int .i64 c, .int .i64 d] w11 R2 X'1 ∧ (∀ v2 w21, R2 v2 w21 → ∃ x7, v2 = .int .i64 x7 ∧ ∃ S1, Upd w11 w21 S1 ∧ Away [id] S1 ∧ ∃ a4 n3, ∃ c4 r2, ∃ r3 x8, w21.heap[a]? = some (.cells #[.slice a4 n3 c4, Value.map r2, Value.map r3, .int .i64 x8] 103) ∧ 4 = 4 ∧ (w21.heap[a]? = some (.cells #[.slice a4 n3 c4, Value.map r2, Value.map r3, .int .i64 x8] 103) → ∃ R3 X'2, CallsX E.P 137 #[.pointer (some ⟨a, 0, none⟩), .agg #[.int .i64 x1, .int .i64 x2, .string x3, .slice a2 n1 c2], .int .i64 x7, .int .i64 c, .int .i64 d] w21 R3 X'2 ∧ (∀ v3 w22, R3 v3 w22 → ∃ (v4 : Value), v3 = v4 ∧ ∃ S2, Upd w21 w22 S2 ∧ Away [id] S2 ∧ ∃ a5 n4, ∃ c5 r4, ∃ r5 x9, w22.heap[a]? = some (.cells #[.slice a5 n4 c5, Value.map r4, Value.map r5, .int .i64 x9] 103) ∧ 4 = 4 ∧ (w22.heap[a]? = some (.cells #[.slice a5 n4 c5, Value.map r4, Value.map r5, .int .i64 x9] 103) → R (.int .i64 2) w22)) ∧ PX X'2 X)) ∧ PX X'1 X)) ∧ ∀ w12, Upd w2 w12 (setOf []) → ∃ x10 x11, ∃ x12 a6, ∃ n5 c6, CellsIn w12 (Addr.add ad1 0) [.int .i64 x10, .int .i64 x11, .string x12, .slice a6 n5 c6] ∧ (∃ x13 x14, ∃ x15 a7, ∃ n6 c7, CellsIn w12 (Addr.add ad 4) [.int .i64 x13, .int .i64 x14, .string x15, .slice a7 n6 c7] ∧ (w12.heap[a]? = some (.cells #[.slice a1 n c1, Value.map r, Value.map r1, .int .i64 x] 103) → ∃ R4 X'3, CallsX E.P 79 #[.pointer (some ⟨a, 0, none⟩), .agg #[.int .i64 x10, .int .i64 x11, .string x12, .slice a6 n5 c6], .int .i64 c, .int .i64 d] w12 R4 X'3 ∧ (∀ v5 w25, R4 v5 w25 → ∃ x16, v5 = .int .i64 x16 ∧ ∃ S3, Upd w12 w25 S3 ∧ Away [id] S3 ∧ ∃ a8 n7, ∃ c8 r6, ∃ r7 x17, w25.heap[a]? = some (.cells #[.slice a8 n7 c8, Value.map r6, Value.map r7, .int .i64 x17] 103) ∧ 4 = 4 ∧ (w25.heap[a]? = some (.cells #[.slice a8 n7 c8, Value.map r6, Value.map r7, .int .i64 x17] 103) → ∃ R5 X'4, CallsX E.P 137 #[.pointer (some ⟨a, 0, none⟩), .agg #[.int .i64 x13, .int .i64 x14, .string x15, .slice a7 n6 c7], .int .i64 x16, .int .i64 c, .int .i64 d] w25 R5 X'4 ∧ (∀ v6 w26, R5 v6 w26 → ∃ (v7 : Value), v6 = v7 ∧ ∃ S4, Upd w25 w26 S4 ∧ Away [id] S4 ∧ ∃ a9 n8, ∃ c9 r8, ∃ r9 x18, w26.heap[a]? = some (.cells #[.slice a9 n8 c9, Value.map r8, Value.map r9, .int .i64 x18] 103) ∧ 4 = 4 ∧ (w26.heap[a]? = some (.cells #[.slice a9 n8 c9, Value.map r8, Value.map r9, .int .i64 x18] 103) → R (.int .i64 2) w26)) ∧ PX X'4 X)) ∧ PX X'3 X)) ∧ (w12.heap[a]? = some (.cells #[.slice a1 n c1, Value.map r, Value.map r1, .int .i64 x] 103) → ∃ R6 X'5, CallsX E.P 79 #[.pointer (some ⟨a, 0, none⟩), .agg #[.int .i64 x10, .int .i64 x11, .string x12, .slice a6 n5 c6], .int .i64 c, .int .i64 d] w12 R6 X'5 ∧ (∀ v8 w29, R6 v8 w29 → ∃ x19, v8 = .int .i64 x19 ∧ ∃ S5, Upd w12 w29 S5 ∧ Away [id] S5 ∧ ∃ a10 n9, ∃ c10 r10, ∃ r11 x20, w29.heap[a]? = some (.cells #[.slice a10 n9 c10, Value.map r10, Value.map r11, .int .i64 x20] 103) ∧ 4 = 4 ∧ ∃ x21 x22, ∃ x23 a11, ∃ n10 c11, CellsIn w29 (Addr.add ad 4) [.int .i64 x21, .int .i64 x22, .string x23, .slice a11 n10 c11] ∧ (w29.heap[a]? = some (.cells #[.slice a10 n9 c10, Value.map r10, Value.map r11, .int .i64 x20] 103) → ∃ R7 X'6, CallsX E.P 137 #[.pointer (some ⟨a, 0, none⟩), .agg #[.int .i64 x21, .int .i64 x22, .string x23, .slice a11 n10 c11], .int .i64 x19, .int .i64 c, .int .i64 d] w29 R7 X'6 ∧ (∀ v9 w210, R7 v9 w210 → ∃ (v10 : Value), v9 = v10 ∧ ∃ S6, Upd w29 w210 S6 ∧ Away [id] S6 ∧ ∃ a12 n11, ∃ c12 r12, ∃ r13 x24, w210.heap[a]? = some (.cells #[.slice a12 n11 c12, Value.map r12, Value.map r13, .int .i64 x24] 103) ∧ 4 = 4 ∧ (w210.heap[a]? = some (.cells #[.slice a12 n11 c12, Value.map r12, Value.map r13, .int .i64 x24] 103) → R (.int .i64 2) w210)) ∧ PX X'6 X)) ∧ PX X'5 X)) ∧ PX X' X
 ) : CallsX E.P 132 #[.pointer (some ⟨a, 0, none⟩), .agg #[.int .i64 b0, .int .i64 b1, .string b2, .slice b3 b3l b3c], .int .i64 c, .int .i64 d] w R X :=
  calls_vc E_ok ⟨[], []⟩ (f := 132) Tryz.func132 rfl [(.pointer (some ⟨a, 0, none⟩), .ptr 0 0), (.agg #[.int .i64 b0, .int .i64 b1, .string b2, .slice b3 b3l b3c], .no), (.int .i64 c, .no), (.int .i64 d, .no)] [⟨a, 103, false, [⟨.slice a0 a0l a0c, .no, 0⟩, ⟨.map a1, .no, 0⟩, ⟨.map a2, .no, 0⟩, ⟨.int .i64 a3, .no, 0⟩]⟩] (bls1 ha) nod1 (plain_of rfl) (shs_of ⟨rfl, trivial, trivial, trivial, trivial⟩) h (by kernel_rfl)
theorem vc133 {a : Nat} {a0 : Option Addr} {a0l a0c : Nat} {a1 a2 : Option Nat} {a3 b0 b1 : Int} {b2 : ByteArray} {b3 : Option Addr} {b3l b3c : Nat} {c d : Int} {w : World} {R : Value → World → Prop} {X : ContX} (ha : w.heap[a]? = some (.cells #[.slice a0 a0l a0c, .map a1, .map a2, .int .i64 a3] 103 (0, 0))) (h : 
 ∀ id, w.heap.size ≤ id → ∀ w1, Upd w w1 (setOf []) → id < w1.heap.size → w1.heap[a]? = some (.cells #[.slice a0 a0l a0c, Value.map a1, Value.map a2, .int .i64 a3] 103) → ∃ R1 X', CallsX E.P 109 #[.pointer (some ⟨a, 0, none⟩), .bool (b1 == 0)] w1 R1 X' ∧ (∀ v w2, R1 v w2 → ∃ (v1 : Value), v = v1 ∧ ∃ S, Upd w1 w2 S ∧ Away [id] S ∧ ∃ a1 n, ∃ c1 r, ∃ r1 x, w2.heap[a]? = some (.cells #[.slice a1 n c1, Value.map r, Value.map r1, .int .i64 x] 103) ∧ 4 = 4 ∧ ((0 : Int) ≤ 0 ∧ 0 < (↑b3l : Int)) ∧ ∃ ad, b3 = some ad ∧ ∃ x1 x2, ∃ x3 a2, ∃ n1 c2, CellsIn w2 (Addr.add ad 0) [.int .i64 x1, .int .i64 x2, .string x3, .slice a2 n1 c2] ∧ (w2.heap[a]? = some (.cells #[.slice a1 n c1, Value.map r, Value.map r1, .int .i64 x] 103) → ∃ R2 X'1, CallsX E.P 137 #[.pointer (some ⟨a, 0, none⟩), .agg #[.int .i64 x1, .int .i64 x2, .string x3, .slice a2 n1 c2], .int .i64 2, .int .i64 c, .int .i64 d] w2 R2 X'1 ∧ (∀ v2 w21, R2 v2 w21 → ∃ (v3 : Value), v2 = v3 ∧ ∃ S1, Upd w2 w21 S1 ∧ Away [id] S1 ∧ ∃ a3 n2, ∃ c3 r2, ∃ r3 x4, w21.heap[a]? = some (.cells #[.slice a3 n2 c3, Value.map r2, Value.map r3, .int .i64 x4] 103) ∧ 4 = 4 ∧ ((0 : Int) ≤ 1 ∧ 1 < (↑b3l : Int)) ∧ ∃ ad1, b3 = some ad1 ∧ ∃ x5 x6, ∃ x7 a4, ∃ n3 c4, CellsIn w21 (Addr.add ad1 4) [.int .i64 x5, .int .i64 x6, .string x7, .slice a4 n3 c4] ∧ (w21.heap[a]? = some (.cells #[.slice a3 n2 c3, Value.map r2, Value.map r3, .int .i64 x4] 103) → ∃ R3 X'2, CallsX E.P 79 #[.pointer (some ⟨a, 0, none⟩), .agg #[.int .i64 x5, .int .i64 x6, .string x7, .slice a4 n3 c4], .int .i64 c, .int .i64 d] w21 R3 X'2 ∧ (∀ v4 w22, R3 v4 w22 → ∃ x8, v4 = .int .i64 x8 ∧ ∃ S2, Upd w21 w22 S2 ∧ Away [id] S2 ∧ ∃ a5 n4, ∃ c5 r4, ∃ r5 x9, w22.heap[a]? = some (.cells #[.slice a5 n4 c5, Value.map r4, Value.map r5, .int .i64 x9] 103) ∧ 4 = 4 ∧ ((0 : Int) ≤ 2 ∧ 2 < (↑b3l : Int)) ∧ ∃ ad2, b3 = some ad2 ∧ ∃ x10 x11, ∃ x12 a6, ∃ n5 c6, CellsIn w22 (Addr.add ad2 8) [.int .i64 x10, .int .i64 x11, .string x12, .slice a6 n5 c6] ∧ (w22.heap[a]? = some (.cells #[.slice a5 n4 c5, Value.map r4, Value.map r5, .int .i64 x9] 103) → ∃ R4 X'3, CallsX E.P 137 #[.pointer (some ⟨a, 0, none⟩), .agg #[.int .i64 x10, .int .i64 x11, .string x12, .slice a6 n5 c6], .int .i64 x8, .int .i64 c, .int .i64 d] w22 R4 X'3 ∧ (∀ v5 w23, R4 v5 w23 → ∃ (v6 : Value), v5 = v6 ∧ ∃ S3, Upd w22 w23 S3 ∧ Away [id] S3 ∧ ∃ a7 n6, ∃ c7 r6, ∃ r7 x13, w23.heap[a]? = some (.cells #[.slice a7 n6 c7, Value.map r6, Value.map r7, .int .i64 x13] 103) ∧ 4 = 4 ∧ (w23.heap[a]? = some (.cells #[.slice a7 n6 c7, Value.map r6, Value.map r7, .int .i64 x13] 103) → R (.int .i64 x8) w23)) ∧ PX X'3 X)) ∧ PX X'2 X)) ∧ PX X'1 X)) ∧ PX X' X
 ) : CallsX E.P 133 #[.pointer (some ⟨a, 0, none⟩), .agg #[.int .i64 b0, .int .i64 b1, .string b2, .slice b3 b3l b3c], .int .i64 c, .int .i64 d] w R X :=
  calls_vc E_ok ⟨[], []⟩ (f := 133) Tryz.func133 rfl [(.pointer (some ⟨a, 0, none⟩), .ptr 0 0), (.agg #[.int .i64 b0, .int .i64 b1, .string b2, .slice b3 b3l b3c], .no), (.int .i64 c, .no), (.int .i64 d, .no)] [⟨a, 103, false, [⟨.slice a0 a0l a0c, .no, 0⟩, ⟨.map a1, .no, 0⟩, ⟨.map a2, .no, 0⟩, ⟨.int .i64 a3, .no, 0⟩]⟩] (bls1 ha) nod1 (plain_of rfl) (shs_of ⟨rfl, trivial, trivial, trivial, trivial⟩) h (by kernel_rfl)
theorem vc135 {a : Nat} {a0 : Option Addr} {a0l a0c : Nat} {a1 a2 : Option Nat} {a3 b0 b1 : Int} {b2 : ByteArray} {b3 : Option Addr} {b3l b3c : Nat} {c d : Int} {w : World} {R : Value → World → Prop} {X : ContX} (ha : w.heap[a]? = some (.cells #[.slice a0 a0l a0c, .map a1, .map a2, .int .i64 a3] 103 (0, 0))) (h : 
 ∀ id, w.heap.size ≤ id → ∃ (I : Option Addr → Nat → Nat → Option Nat → Option Nat → Int → World → Prop), ((decide (b1 ≥ 1) = true → (decide (b1 ≤ 6) = true → ∀ w1, Upd w w1 (setOf []) → id < w1.heap.size → w1.heap[a]? = some (.cells #[.slice a0 a0l a0c, Value.map a1, Value.map a2, .int .i64 a3] 103) → ∃ R1 X', CallsX E.P 109 #[.pointer (some ⟨a, 0, none⟩), .bool (decide (d < 4))] w1 R1 X' ∧ (∀ v w2, R1 v w2 → ∃ (v1 : Value), v = v1 ∧ ∃ S, Upd w1 w2 S ∧ Away [id] S ∧ ∃ a1 n, ∃ c1 r, ∃ r1 x, w2.heap[a]? = some (.cells #[.slice a1 n c1, Value.map r, Value.map r1, .int .i64 x] 103) ∧ 4 = 4 ∧ I a1 n c1 r r1 x w2) ∧ PX X' X) ∧ (decide (b1 ≤ 6) = false → ∀ w11, Upd w w11 (setOf []) → id < w11.heap.size → w11.heap[a]? = some (.cells #[.slice a0 a0l a0c, Value.map a1, Value.map a2, .int .i64 a3] 103) → ∃ R2 X'1, CallsX E.P 109 #[.pointer (some ⟨a, 0, none⟩), .bool false] w11 R2 X'1 ∧ (∀ v2 w22, R2 v2 w22 → ∃ (v3 : Value), v2 = v3 ∧ ∃ S1, Upd w11 w22 S1 ∧ Away [id] S1 ∧ ∃ a2 n1, ∃ c2 r2, ∃ r3 x1, w22.heap[a]? = some (.cells #[.slice a2 n1 c2, Value.map r2, Value.map r3, .int .i64 x1] 103) ∧ 4 = 4 ∧ I a2 n1 c2 r2 r3 x1 w22) ∧ PX X'1 X)) ∧ (decide (b1 ≥ 1) = false → ∀ w12, Upd w w12 (setOf []) → id < w12.heap.size → w12.heap[a]? = some (.cells #[.slice a0 a0l a0c, Value.map a1, Value.map a2, .int .i64 a3] 103) → ∃ R3 X'2, CallsX E.P 109 #[.pointer (some ⟨a, 0, none⟩), .bool false] w12 R3 X'2 ∧ (∀ v4 w24, R3 v4 w24 → ∃ (v5 : Value), v4 = v5 ∧ ∃ S2, Upd w12 w24 S2 ∧ Away [id] S2 ∧ ∃ a3 n2, ∃ c3 r4, ∃ r5 x2, w24.heap[a]? = some (.cells #[.slice a3 n2 c3, Value.map r4, Value.map r5, .int .i64 x2] 103) ∧ 4 = 4 ∧ I a3 n2 c3 r4 r5 x2 w24) ∧ PX X'2 X)) ∧ ∀ (jk : Nat → Value) (a4 : Option Addr) (n3 c4 : Nat) (r6 r7 : Option Nat) (x3 : Int) (w26 : World), I a4 n3 c4 r6 r7 x3 w26 → ((0 : Int) ≤ 0 ∧ 0 < (↑b3l : Int)) ∧ ∃ ad, b3 = some ad ∧ ∃ x4 x5, ∃ x6 a5, ∃ n4 c5, CellsIn w26 (Addr.add ad 0) [.int .i64 x4, .int .i64 x5, .string x6, .slice a5 n4 c5] ∧ (w26.heap[a]? = some (.cells #[.slice a4 n3 c4, Value.map r6, Value.map r7, .int .i64 x3] 103) → ∃ R4 X'3, CallsX E.P 149 #[.pointer (some ⟨a, 0, none⟩), .agg #[.int .i64 x4, .int .i64 x5, .string x6, .slice a5 n4 c5], .int .i64 c, .int .i64 (w64 (d + 1))] w26 R4 X'3 ∧ (∀ v6 w27, R4 v6 w27 → ∃ (v7 : Value), v6 = v7 ∧ ∃ S3, Upd w26 w27 S3 ∧ Away [id] S3 ∧ ∃ a6 n5, ∃ c6 r8, ∃ r9 x7, w27.heap[a]? = some (.cells #[.slice a6 n5 c6, Value.map r8, Value.map r9, .int .i64 x7] 103) ∧ 4 = 4 ∧ (decide (b1 ≤ 3) = true → ∃ (I1 : Int → World → Prop), ((decide (b1 ≤ 2) = true → I1 2 w27) ∧ (decide (b1 ≤ 2) = false → I1 1 w27)) ∧ ∀ (jk1 : Nat → Value) (x8 : Int) (w28 : World), I1 x8 w28 → ((0 : Int) ≤ 1 ∧ 1 < (↑b3l : Int)) ∧ ∃ ad1, b3 = some ad1 ∧ ∃ x9 x10, ∃ x11 a7, ∃ n6 c7, CellsIn w28 (Addr.add ad1 4) [.int .i64 x9, .int .i64 x10, .string x11, .slice a7 n6 c7] ∧ (w28.heap[a]? = some (.cells #[.slice a6 n5 c6, Value.map r8, Value.map r9, .int .i64 x7] 103) → ∃ R5 X'4, CallsX E.P 137 #[.pointer (some ⟨a, 0, none⟩), .agg #[.int .i64 x9, .int .i64 x10, .string x11, .slice a7 n6 c7], .int .i64 2, .int .i64 (w64 (c + 1)), .int .i64 (w64 (d + 1))] w28 R5 X'4 ∧ (∀ v8 w29, R5 v8 w29 → ∃ (v9 : Value), v8 = v9 ∧ ∃ S4, Upd w28 w29 S4 ∧ Away [id] S4 ∧ ∃ a8 n7, ∃ c8 r10, ∃ r11 x12, w29.heap[a]? = some (.cells #[.slice a8 n7 c8, Value.map r10, Value.map r11, .int .i64 x12] 103) ∧ 4 = 4 ∧ (w29.heap[a]? = some (.cells #[.slice a8 n7 c8, Value.map r10, Value.map r11, .int .i64 x12] 103) → R (.int .i64 x8) w29)) ∧ PX X'4 X)) ∧ (decide (b1 ≤ 3) = false → ∃ (I2 : Int → World → Prop), ((decide (b1 ≤ 2) = true → I2 2 w27) ∧ (decide (b1 ≤ 2) = false → I2 1 w27)) ∧ ∀ (jk2 : Nat → Value) (x13 : Int) (w211 : World), I2 x13 w211 → ((0 : Int) ≤ 1 ∧ 1 < (↑b3l : Int)) ∧ ∃ ad2, b3 = some ad2 ∧ ∃ x14 x15, ∃ x16 a9, ∃ n8 c9, CellsIn w211 (Addr.add ad2 4) [.int .i64 x14, .int .i64 x15, .string x16, .slice a9 n8 c9] ∧ (w211.heap[a]? = some (.cells #[.slice a6 n5 c6, Value.map r8, Value.map r9, .int .i64 x7] 103) → ∃ R6 X'5, CallsX E.P 137 #[.pointer (some ⟨a, 0, none⟩), .agg #[.int .i64 x14, .int .i64 x15, .string x16, .slice a9 n8 c9], .int .i64 1, .int .i64 (w64 (c + 1)), .int .i64 (w64 (d + 1))] w211 R6 X'5 ∧ (∀ v10 w212, R6 v10 w212 → ∃ (v11 : Value), v10 = v11 ∧ ∃ S5, Upd w211 w212 S5 ∧ Away [id] S5 ∧ ∃ a10 n9, ∃ c10 r12, ∃ r13 x17, w212.heap[a]? = some (.cells #[.slice a10 n9 c10, Value.map r12, Value.map r13, .int .i64 x17] 103) ∧ 4 = 4 ∧ (w212.heap[a]? = some (.cells #[.slice a10 n9 c10, Value.map r12, Value.map r13, .int .i64 x17] 103) → R (.int .i64 x13) w212)) ∧ PX X'5 X))) ∧ PX X'3 X)
 ) : CallsX E.P 135 #[.pointer (some ⟨a, 0, none⟩), .agg #[.int .i64 b0, .int .i64 b1, .string b2, .slice b3 b3l b3c], .int .i64 c, .int .i64 d] w R X :=
  calls_vc E_ok ⟨[], [(2, ⟨[], [(0, 0, .slc), (0, 1, .map), (0, 2, .map), (0, 3, .int .i64)]⟩), (8, ⟨[(10, .int .i64)], []⟩)]⟩ (f := 135) Tryz.func135 rfl [(.pointer (some ⟨a, 0, none⟩), .ptr 0 0), (.agg #[.int .i64 b0, .int .i64 b1, .string b2, .slice b3 b3l b3c], .no), (.int .i64 c, .no), (.int .i64 d, .no)] [⟨a, 103, false, [⟨.slice a0 a0l a0c, .no, 0⟩, ⟨.map a1, .no, 0⟩, ⟨.map a2, .no, 0⟩, ⟨.int .i64 a3, .no, 0⟩]⟩] (bls1 ha) nod1 (plain_of rfl) (shs_of ⟨rfl, trivial, trivial, trivial, trivial⟩) h (by kernel_rfl)
theorem vc136 {a : Nat} {a0 : Option Addr} {a0l a0c : Nat} {a1 a2 : Option Nat} {a3 b0 b1 : Int} {b2 : ByteArray} {b3 : Option Addr} {b3l b3c : Nat} {c d : Int} {w : World} {R : Value → World → Prop} {X : ContX} (ha : w.heap[a]? = some (.cells #[.slice a0 a0l a0c, .map a1, .map a2, .int .i64 a3] 103 (0, 0))) (h : 
 ∀ id, w.heap.size ≤ id → ∃ (I : Option Addr → Nat → Nat → Option Nat → Option Nat → Int → World → Prop), ((decide (b1 ≥ 0) = true → (decide (b1 < (↑a0l : Int)) = true → (0 ≤ b1 ∧ b1 < (↑a0l : Int)) ∧ ∃ ad, a0 = some ad ∧ ∀ w1, Upd w w1 (setOf []) → id < w1.heap.size → ∃ x, CellsIn w1 (Addr.add ad (Int.toNat b1 * 1)) [.int .i64 x] ∧ (w1.heap[a]? = some (.cells #[.slice a0 a0l a0c, Value.map a1, Value.map a2, .int .i64 a3] 103) → ∃ R1 X', CallsX E.P 109 #[.pointer (some ⟨a, 0, none⟩), .bool (decide (x ≤ c))] w1 R1 X' ∧ (∀ v w2, R1 v w2 → ∃ (v1 : Value), v = v1 ∧ ∃ S, Upd w1 w2 S ∧ Away [id] S ∧ ∃ a1 n, ∃ c1 r, ∃ r1 x1, w2.heap[a]? = some (.cells #[.slice a1 n c1, Value.map r, Value.map r1, .int .i64 x1] 103) ∧ 4 = 4 ∧ I a1 n c1 r r1 x1 w2) ∧ PX X' X)) ∧ (decide (b1 < (↑a0l : Int)) = false → ∀ w11, Upd w w11 (setOf []) → id < w11.heap.size → w11.heap[a]? = some (.cells #[.slice a0 a0l a0c, Value.map a1, Value.map a2, .int .i64 a3] 103) → ∃ R2 X'1, CallsX E.P 109 #[.pointer (some ⟨a, 0, none⟩), .bool false] w11 R2 X'1 ∧ (∀ v2 w22, R2 v2 w22 → ∃ (v3 : Value), v2 = v3 ∧ ∃ S1, Upd w11 w22 S1 ∧ Away [id] S1 ∧ ∃ a2 n1, ∃ c2 r2, ∃ r3 x2, w22.heap[a]? = some (.cells #[.slice a2 n1 c2, Value.map r2, Value.map r3, .int .i64 x2] 103) ∧ 4 = 4 ∧ I a2 n1 c2 r2 r3 x2 w22) ∧ PX X'1 X)) ∧ (decide (b1 ≥ 0) = false → ∀ w12, Upd w w12 (setOf []) → id < w12.heap.size → w12.heap[a]? = some (.cells #[.slice a0 a0l a0c, Value.map a1, Value.map a2, .int .i64 a3] 103) → ∃ R3 X'2, CallsX E.P 109 #[.pointer (some ⟨a, 0, none⟩), .bool false] w12 R3 X'2 ∧ (∀ v4 w24, R3 v4 w24 → ∃ (v5 : Value), v4 = v5 ∧ ∃ S2, Upd w12 w24 S2 ∧ Away [id] S2 ∧ ∃ a3 n2, ∃ c3 r4, ∃ r5 x3, w24.heap[a]? = some (.cells #[.slice a3 n2 c3, Value.map r4, Value.map r5, .int .i64 x3] 103) ∧ 4 = 4 ∧ I a3 n2 c3 r4 r5 x3 w24) ∧ PX X'2 X)) ∧ ∀ (jk : Nat → Value) (a4 : Option Addr) (n3 c4 : Nat) (r6 r7 : Option Nat) (x4 : Int) (w26 : World), I a4 n3 c4 r6 r7 x4 w26 → ∃ (I1 : Int → Option Addr → Nat → Nat → Option Nat → Option Nat → Int → World → Prop), (((0 : Int) ≤ 0 ∧ 0 < (↑b3l : Int)) ∧ ∃ ad1, b3 = some ad1 ∧ ∃ x5 x6, ∃ x7 a5, ∃ n4 c5, CellsIn w26 (Addr.add ad1 0) [.int .i64 x5, .int .i64 x6, .string x7, .slice a5 n4 c5] ∧ (w26.heap[a]? = some (.cells #[.slice a4 n3 c4, Value.map r6, Value.map r7, .int .i64 x4] 103) → ∃ R4 X'3, CallsX E.P 79 #[.pointer (some ⟨a, 0, none⟩), .agg #[.int .i64 x5, .int .i64 x6, .string x7, .slice a5 n4 c5], .int .i64 c, .int .i64 d] w26 R4 X'3 ∧ (∀ v6 w27, R4 v6 w27 → ∃ x8, v6 = .int .i64 x8 ∧ ∃ S3, Upd w26 w27 S3 ∧ Away [id] S3 ∧ ∃ a6 n5, ∃ c6 r8, ∃ r9 x9, w27.heap[a]? = some (.cells #[.slice a6 n5 c6, Value.map r8, Value.map r9, .int .i64 x9] 103) ∧ 4 = 4 ∧ I1 x8 a6 n5 c6 r8 r9 x9 w27) ∧ PX X'3 X)) ∧ ∀ (jk1 : Nat → Value) (x10 : Int) (a7 : Option Addr) (n6 c7 : Nat) (r10 r11 : Option Nat) (x11 : Int) (w29 : World), I1 x10 a7 n6 c7 r10 r11 x11 w29 → (∀ w13, Upd w29 w13 (setOf []) → ∃ x12 x13, ∃ x14 a8, ∃ n7 c8 x15, Sem.run E.P (Instr.lookup 100 (Value.map r10) (.int .i64 b1) true) w13 = Result.ok (.tuple #[.agg #[.int .i64 x12, .int .i64 x13, .string x14, .slice a8 n7 c8], .bool x15]) w13 ∧ ∀ id1, w13.heap.size ≤ id1 → ∃ (I2 : Option Addr → Nat → Nat → Option Nat → Option Nat → Int → World → Prop), (((0 : Int) ≤ 0 ∧ 0 < (↑b3l : Int)) ∧ ∃ ad2, b3 = some ad2 ∧ ∀ w14, Upd w13 w14 (setOf []) → id1 < w14.heap.size → ∃ x16 x17, ∃ x18 a9, ∃ n8 c9, CellsIn w14 (Addr.add ad2 0) [.int .i64 x16, .int .i64 x17, .string x18, .slice a9 n8 c9] ∧ (0 ≤ b1 ∧ b1 < (↑n6 : Int)) ∧ ∃ ad3, a7 = some ad3 ∧ ∃ x19, CellsIn w14 (Addr.add ad3 (Int.toNat b1 * 1)) [.int .i64 x19] ∧ ∃ R5 X'4, CallsX E.P 150 #[.agg #[.int .i64 x16, .int .i64 x17, .string x18, .slice a9 n8 c9], .int .i64 c] w14 R5 X'4 ∧ (∀ v7 w210, R5 v7 w210 → ∃ x20, v7 = .int .i64 x20 ∧ Upd w14 w210 no ∧ (decide (x20 ≤ x19) = true → ((!x15) = true → w210.heap[a]? = some (.cells #[.slice a7 n6 c7, Value.map r10, Value.map r11, .int .i64 x11] 103) → ∃ R6 X'5, CallsX E.P 109 #[.pointer (some ⟨a, 0, none⟩), .bool true] w210 R6 X'5 ∧ (∀ v8 w211, R6 v8 w211 → ∃ (v9 : Value), v8 = v9 ∧ ∃ S4, Upd w210 w211 S4 ∧ Away [id, id1] S4 ∧ ∃ a10 n9, ∃ c10 r12, ∃ r13 x21, w211.heap[a]? = some (.cells #[.slice a10 n9 c10, Value.map r12, Value.map r13, .int .i64 x21] 103) ∧ 4 = 4 ∧ I2 a10 n9 c10 r12 r13 x21 w211) ∧ PX X'5 X) ∧ ((!x15) = false → ((0 : Int) ≤ 0 ∧ 0 < (↑b3l : Int)) ∧ ∃ ad4, b3 = some ad4 ∧ ∃ x22 x23, ∃ x24 a11, ∃ n10 c11, CellsIn w210 (Addr.add ad4 0) [.int .i64 x22, .int .i64 x23, .string x24, .slice a11 n10 c11] ∧ ∃ R7 X'6, CallsX E.P 44 #[.agg #[.int .i64 x12, .int .i64 x13, .string x14, .slice a8 n7 c8], .agg #[.int .i64 x22, .int .i64 x23, .string x24, .slice a11 n10 c11]] w210 R7 X'6 ∧ (∀ v10 w213, R7 v10 w213 → ∃ x25, v10 = .bool x25 ∧ Upd w210 w213 no ∧ (x25 = true → ∃ x26, Sem.run E.P (Instr.lookup 101 (Value.map r11) (.int .i64 b1) false) w213 = Result.ok (.int .i64 x26) w213 ∧ ((x26 == c) = true → w213.heap[a]? = some (.cells #[.slice a7 n6 c7, Value.map r10, Value.map r11, .int .i64 x11] 103) → ∃ R8 X'7, CallsX E.P 109 #[.pointer (some ⟨a, 0, none⟩), .bool true] w213 R8 X'7 ∧ (∀ v11 w214, R8 v11 w214 → ∃ (v12 : Value), v11 = v12 ∧ ∃ S5, Upd w213 w214 S5 ∧ Away [id, id1] S5 ∧ ∃ a12 n11, ∃ c12 r14, ∃ r15 x27, w214.heap[a]? = some (.cells #[.slice a12 n11 c12, Value.map r14, Value.map r15, .int .i64 x27] 103) ∧ 4 = 4 ∧ I2 a12 n11 c12 r14 r15 x27 w214) ∧ PX X'7 X) ∧ ((x26 == c) = false → ∃ R9 X'8, CallsX E.P 151 #[.agg #[.int .i64 x12, .int .i64 x13, .string x14, .slice a8 n7 c8]] w213 R9 X'8 ∧ (∀ v13 w216, R9 v13 w216 → ∃ x28, v13 = .bool x28 ∧ Upd w213 w216 no ∧ (w216.heap[a]? = some (.cells #[.slice a7 n6 c7, Value.map r10, Value.map r11, .int .i64 x11] 103) → ∃ R10 X'9, CallsX E.P 109 #[.pointer (some ⟨a, 0, none⟩), .bool !x28] w216 R10 X'9 ∧ (∀ v14 w217, R10 v14 w217 → ∃ (v15 : Value), v14 = v15 ∧ ∃ S6, Upd w216 w217 S6 ∧ Away [id, id1] S6 ∧ ∃ a13 n12, ∃ c13 r16, ∃ r17 x29, w217.heap[a]? = some (.cells #[.slice a13 n12 c13, Value.map r16, Value.map r17, .int .i64 x29] 103) ∧ 4 = 4 ∧ I2 a13 n12 c13 r16 r17 x29 w217) ∧ PX X'9 X)) ∧ PX X'8 X)) ∧ (x25 = false → w213.heap[a]? = some (.cells #[.slice a7 n6 c7, Value.map r10, Value.map r11, .int .i64 x11] 103) → ∃ R11 X'10, CallsX E.P 109 #[.pointer (some ⟨a, 0, none⟩), .bool false] w213 R11 X'10 ∧ (∀ v16 w220, R11 v16 w220 → ∃ (v17 : Value), v16 = v17 ∧ ∃ S7, Upd w213 w220 S7 ∧ Away [id, id1] S7 ∧ ∃ a14 n13, ∃ c14 r18, ∃ r19 x30, w220.heap[a]? = some (.cells #[.slice a14 n13 c14, Value.map r18, Value.map r19, .int .i64 x30] 103) ∧ 4 = 4 ∧ I2 a14 n13 c14 r18 r19 x30 w220) ∧ PX X'10 X)) ∧ PX X'6 X)) ∧ (decide (x20 ≤ x19) = false → w210.heap[a]? = some (.cells #[.slice a7 n6 c7, Value.map r10, Value.map r11, .int .i64 x11] 103) → ∃ R12 X'11, CallsX E.P 109 #[.pointer (some ⟨a, 0, none⟩), .bool false] w210 R12 X'11 ∧ (∀ v18 w223, R12 v18 w223 → ∃ (v19 : Value), v18 = v19 ∧ ∃ S8, Upd w210 w223 S8 ∧ Away [id, id1] S8 ∧ ∃ a15 n14, ∃ c15 r20, ∃ r21 x31, w223.heap[a]? = some (.cells #[.slice a15 n14 c15, Value.map r20, Value.map r21, .int .i64 x31] 103) ∧ 4 = 4 ∧ I2 a15 n14 c15 r20 r21 x31 w223) ∧ PX X'11 X)) ∧ PX X'4 X) ∧ ∀ (jk2 : Nat → Value) (a16 : Option Addr) (n15 c16 : Nat) (r22 r23 : Option Nat) (x32 : Int) (w226 : World), I2 a16 n15 c16 r22 r23 x32 w226 → ((0 : Int) ≤ 0 ∧ 0 < (↑b3l : Int)) ∧ ∃ ad5, b3 = some ad5 ∧ (∀ w15, Upd w226 w15 (setOf []) → ∃ x33 x34, ∃ x35 a17, ∃ n16 c17, CellsIn w15 (Addr.add ad5 0) [.int .i64 x33, .int .i64 x34, .string x35, .slice a17 n16 c17] ∧ ∃ R13, RunsTo E.P (Instr.mapEntry 100 (Value.map r22) (.int .i64 b1)) w15 R13 ∧ ∀ v20 w227, R13 v20 w227 → ∃ (u : Value), ∃ k, v20 = .tuple #[u, .int .i64 k] ∧ ∃ S9, Upd w15 w227 S9 ∧ Away [a, id, id1] S9 ∧ ∃ R14, RunsU E.P (Instr.entryStore 100 (Value.map r22) (.int .i64 k) (.agg #[.int .i64 x33, .int .i64 x34, .string x35, .slice a17 n16 c17])) w227 R14 ∧ ∀ w228, R14 w228 → ∃ S10, Upd w227 w228 S10 ∧ Away [a, id, id1] S10 ∧ ∃ R15, RunsTo E.P (Instr.mapEntry 101 (Value.map r23) (.int .i64 b1)) w228 R15 ∧ ∀ v21 w229, R15 v21 w229 → ∃ (u1 : Value), ∃ k1, v21 = .tuple #[u1, .int .i64 k1] ∧ ∃ S11, Upd w228 w229 S11 ∧ Away [a, id, id1] S11 ∧ ∃ R16, RunsU E.P (Instr.entryStore 101 (Value.map r23) (.int .i64 k1) (.int .i64 c)) w229 R16 ∧ ∀ w230, R16 w230 → ∃ S12, Upd w229 w230 S12 ∧ Away [a, id, id1] S12 ∧ (w230.heap[a]? = some (.cells #[.slice a16 n15 c16, Value.map r22, Value.map r23, .int .i64 x32] 103) → R (.int .i64 x10) w230)) ∧ ∀ w16, Upd w226 w16 (setOf []) → ∃ R17, RunsTo E.P (Instr.mapEntry 100 (Value.map r22) (.int .i64 b1)) w16 R17 ∧ ∀ v22 w231, R17 v22 w231 → ∃ (u2 : Value), ∃ k2, v22 = .tuple #[u2, .int .i64 k2] ∧ ∃ S13, Upd w16 w231 S13 ∧ Away [a, id, id1] S13 ∧ ∃ x36 x37, ∃ x38 a18, ∃ n17 c18, CellsIn w231 (Addr.add ad5 0) [.int .i64 x36, .int .i64 x37, .string x38, .slice a18 n17 c18] ∧ ∃ R18, RunsU E.P (Instr.entryStore 100 (Value.map r22) (.int .i64 k2) (.agg #[.int .i64 x36, .int .i64 x37, .string x38, .slice a18 n17 c18])) w231 R18 ∧ ∀ w232, R18 w232 → ∃ S14, Upd w231 w232 S14 ∧ Away [a, id, id1] S14 ∧ ∃ R19, RunsTo E.P (Instr.mapEntry 101 (Value.map r23) (.int .i64 b1)) w232 R19 ∧ ∀ v23 w233, R19 v23 w233 → ∃ (u3 : Value), ∃ k3, v23 = .tuple #[u3, .int .i64 k3] ∧ ∃ S15, Upd w232 w233 S15 ∧ Away [a, id, id1] S15 ∧ ∃ R20, RunsU E.P (Instr.entryStore 101 (Value.map r23) (.int .i64 k3) (.int .i64 c)) w233 R20 ∧ ∀ w234, R20 w234 → ∃ S16, Upd w233 w234 S16 ∧ Away [a, id, id1] S16 ∧ (w234.heap[a]? = some (.cells #[.slice a16 n15 c16, Value.map r22, Value.map r23, .int .i64 x32] 103) → R (.int .i64 x10) w234)) ∧ ∀ id2, w29.heap.size ≤ id2 → ∀ w17, Upd w29 w17 (setOf []) → id2 < w17.heap.size → ∃ x39 x40, ∃ x41 a19, ∃ n18 c19 x42, Sem.run E.P (Instr.lookup 100 (Value.map r10) (.int .i64 b1) true) w17 = Result.ok (.tuple #[.agg #[.int .i64 x39, .int .i64 x40, .string x41, .slice a19 n18 c19], .bool x42]) w17 ∧ ∃ (I3 : Option Addr → Nat → Nat → Option Nat → Option Nat → Int → World → Prop), (((0 : Int) ≤ 0 ∧ 0 < (↑b3l : Int)) ∧ ∃ ad6, b3 = some ad6 ∧ ∀ w18, Upd w17 w18 (setOf [id2]) → ∃ x43 x44, ∃ x45 a20, ∃ n19 c20, CellsIn w18 (Addr.add ad6 0) [.int .i64 x43, .int .i64 x44, .string x45, .slice a20 n19 c20] ∧ (0 ≤ b1 ∧ b1 < (↑n6 : Int)) ∧ ∃ ad7, a7 = some ad7 ∧ ∃ x46, CellsIn w18 (Addr.add ad7 (Int.toNat b1 * 1)) [.int .i64 x46] ∧ ∃ R21 X'12, CallsX E.P 150 #[.agg #[.int .i64 x43, .int .i64 x44, .string x45, .slice a20 n19 c20], .int .i64 c] w18 R21 X'12 ∧ (∀ v24 w235, R21 v24 w235 → ∃ x47, v24 = .int .i64 x47 ∧ Upd w18 w235 no ∧ (decide (x47 ≤ x46) = true → ((!x42) = true → w235.heap[a]? = some (.cells #[.slice a7 n6 c7, Value.map r10, Value.map r11, .int .i64 x11] 103) → ∃ R22 X'13, CallsX E.P 109 #[.pointer (some ⟨a, 0, none⟩), .bool true] w235 R22 X'13 ∧ (∀ v25 w236, R22 v25 w236 → ∃ (v26 : Value), v25 = v26 ∧ ∃ S17, Upd w235 w236 S17 ∧ Away [id, id2] S17 ∧ ∃ a21 n20, ∃ c21 r24, ∃ r25 x48, w236.heap[a]? = some (.cells #[.slice a21 n20 c21, Value.map r24, Value.map r25, .int .i64 x48] 103) ∧ 4 = 4 ∧ I3 a21 n20 c21 r24 r25 x48 w236) ∧ PX X'13 X) ∧ ((!x42) = false → ((0 : Int) ≤ 0 ∧ 0 < (↑b3l : Int)) ∧ ∃ ad8, b3 = some ad8 ∧ ∃ x49 x50, ∃ x51 a22, ∃ n21 c22, CellsIn w235 (Addr.add ad8 0) [.int .i64 x49, .int .i64 x50, .string x51, .slice a22 n21 c22] ∧ ∃ R23 X'14, CallsX E.P 44 #[.agg #[.int .i64 x39, .int .i64 x40, .string x41, .slice a19 n18 c19], .agg #[.int .i64 x49, .int .i64 x50, .string x51, .slice a22 n21 c22]] w235 R23 X'14 ∧ (∀ v27 w238, R23 v27 w238 → ∃ x52, v27 = .bool x52 ∧ Upd w235 w238 no ∧ (x52 = true → ∃ x53, Sem.run E.P (Instr.lookup 101 (Value.map r11) (.int .i64 b1) false) w238 = Result.ok (.int .i64 x53) w238 ∧ ((x53 == c) = true → w238.heap[a]? = some (.cells #[.slice a7 n6 c7, Value.map r10, Value.map r11, .int .i64 x11] 103) → ∃ R24 X'15, CallsX E.P 109 #[.pointer (some ⟨a, 0, none⟩), .bool true] w238 R24 X'15 ∧ (∀ v28 w239, R24 v28 w239 → ∃ (v29 : Value), v28 = v29 ∧ ∃ S18, Upd w238 w239 S18 ∧ Away [id, id2] S18 ∧ ∃ a23 n22, ∃ c23 r26, ∃ r27 x54, w239.heap[a]? = some (.cells #[.slice a23 n22 c23, Value.map r26, Value.map r27, .int .i64 x54] 103) ∧ 4 = 4 ∧ I3 a23 n22 c23 r26 r27 x54 w239) ∧ PX X'15 X) ∧ ((x53 == c) = false → ∃ R25 X'16, CallsX E.P 151 #[.agg #[.int .i64 x39, .int .i64 x40, .string x41, .slice a19 n18 c19]] w238 R25 X'16 ∧ (∀ v30 w241, R25 v30 w241 → ∃ x55, v30 = .bool x55 ∧ Upd w238 w241 no ∧ (w241.heap[a]? = some (.cells #[.slice a7 n6 c7, Value.map r10, Value.map r11, .int .i64 x11] 103) → ∃ R26 X'17, CallsX E.P 109 #[.pointer (some ⟨a, 0, none⟩), .bool !x55] w241 R26 X'17 ∧ (∀ v31 w242, R26 v31 w242 → ∃ (v32 : Value), v31 = v32 ∧ ∃ S19, Upd w241 w242 S19 ∧ Away [id, id2] S19 ∧ ∃ a24 n23, ∃ c24 r28, ∃ r29 x56, w242.heap[a]? = some (.cells #[.slice a24 n23 c24, Value.map r28, Value.map r29, .int .i64 x56] 103) ∧ 4 = 4 ∧ I3 a24 n23 c24 r28 r29 x56 w242) ∧ PX X'17 X)) ∧ PX X'16 X)) ∧ (x52 = false → w238.heap[a]? = some (.cells #[.slice a7 n6 c7, Value.map r10, Value.map r11, .int .i64 x11] 103) → ∃ R27 X'18, CallsX E.P 109 #[.pointer (some ⟨a, 0, none⟩), .bool false] w238 R27 X'18 ∧ (∀ v33 w245, R27 v33 w245 → ∃ (v34 : Value), v33 = v34 ∧ ∃ S20, Upd w238 w245 S20 ∧ Away [id, id2] S20 ∧ ∃ a25 n24, ∃ c25 r30, ∃ r31 x57, w245.heap[a]? = some (.cells #[.slice a25 n24 c25, Value.map r30, Value.map r31, .int .i64 x57] 103) ∧ 4 = 4 ∧ I3 a25 n24 c25 r30 r31 x57 w245) ∧ PX X'18 X)) ∧ PX X'14 X)) ∧ (decide (x47 ≤ x46) = false → w235.heap[a]? = some (.cells #[.slice a7 n6 c7, Value.map r10, Value.map r11, .int .i64 x11] 103) → ∃ R28 X'19, CallsX E.P 109 #[.pointer (some ⟨a, 0, none⟩), .bool false] w235 R28 X'19 ∧ (∀ v35 w248, R28 v35 w248 → ∃ (v36 : Value), v35 = v36 ∧ ∃ S21, Upd w235 w248 S21 ∧ Away [id, id2] S21 ∧ ∃ a26 n25, ∃ c26 r32, ∃ r33 x58, w248.heap[a]? = some (.cells #[.slice a26 n25 c26, Value.map r32, Value.map r33, .int .i64 x58] 103) ∧ 4 = 4 ∧ I3 a26 n25 c26 r32 r33 x58 w248) ∧ PX X'19 X)) ∧ PX X'12 X) ∧ ∀ (jk3 : Nat → Value) (a27 : Option Addr) (n26 c27 : Nat) (r34 r35 : Option Nat) (x59 : Int) (w251 : World), I3 a27 n26 c27 r34 r35 x59 w251 → ((0 : Int) ≤ 0 ∧ 0 < (↑b3l : Int)) ∧ ∃ ad9, b3 = some ad9 ∧ (∀ w19, Upd w251 w19 (setOf []) → ∃ x60 x61, ∃ x62 a28, ∃ n27 c28, CellsIn w19 (Addr.add ad9 0) [.int .i64 x60, .int .i64 x61, .string x62, .slice a28 n27 c28] ∧ ∃ R29, RunsTo E.P (Instr.mapEntry 100 (Value.map r34) (.int .i64 b1)) w19 R29 ∧ ∀ v37 w252, R29 v37 w252 → ∃ (u4 : Value), ∃ k4, v37 = .tuple #[u4, .int .i64 k4] ∧ ∃ S22, Upd w19 w252 S22 ∧ Away [a, id, id2] S22 ∧ ∃ R30, RunsU E.P (Instr.entryStore 100 (Value.map r34) (.int .i64 k4) (.agg #[.int .i64 x60, .int .i64 x61, .string x62, .slice a28 n27 c28])) w252 R30 ∧ ∀ w253, R30 w253 → ∃ S23, Upd w252 w253 S23 ∧ Away [a, id, id2] S23 ∧ ∃ R31, RunsTo E.P (Instr.mapEntry 101 (Value.map r35) (.int .i64 b1)) w253 R31 ∧ ∀ v38 w254, R31 v38 w254 → ∃ (u5 : Value), ∃ k5, v38 = .tuple #[u5, .int .i64 k5] ∧ ∃ S24, Upd w253 w254 S24 ∧ Away [a, id, id2] S24 ∧ ∃ R32, RunsU E.P (Instr.entryStore 101 (Value.map r35) (.int .i64 k5) (.int .i64 c)) w254 R32 ∧ ∀ w255, R32 w255 → ∃ S25, Upd w254 w255 S25 ∧ Away [a, id, id2] S25 ∧ (w255.heap[a]? = some (.cells #[.slice a27 n26 c27, Value.map r34, Value.map r35, .int .i64 x59] 103) → R (.int .i64 x10) w255)) ∧ ∀ w110, Upd w251 w110 (setOf []) → ∃ R33, RunsTo E.P (Instr.mapEntry 100 (Value.map r34) (.int .i64 b1)) w110 R33 ∧ ∀ v39 w256, R33 v39 w256 → ∃ (u6 : Value), ∃ k6, v39 = .tuple #[u6, .int .i64 k6] ∧ ∃ S26, Upd w110 w256 S26 ∧ Away [a, id, id2] S26 ∧ ∃ x63 x64, ∃ x65 a29, ∃ n28 c29, CellsIn w256 (Addr.add ad9 0) [.int .i64 x63, .int .i64 x64, .string x65, .slice a29 n28 c29] ∧ ∃ R34, RunsU E.P (Instr.entryStore 100 (Value.map r34) (.int .i64 k6) (.agg #[.int .i64 x63, .int .i64 x64, .string x65, .slice a29 n28 c29])) w256 R34 ∧ ∀ w257, R34 w257 → ∃ S27, Upd w256 w257 S27 ∧ Away [a, id, id2] S27 ∧ ∃ R35, RunsTo E.P (Instr.mapEntry 101 (Value.map r35) (.int .i64 b1)) w257 R35 ∧ ∀ v40 w258, R35 v40 w258 → ∃ (u7 : Value), ∃ k7, v40 = .tuple #[u7, .int .i64 k7] ∧ ∃ S28, Upd w257 w258 S28 ∧ Away [a, id, id2] S28 ∧ ∃ R36, RunsU E.P (Instr.entryStore 101 (Value.map r35) (.int .i64 k7) (.int .i64 c)) w258 R36 ∧ ∀ w259, R36 w259 → ∃ S29, Upd w258 w259 S29 ∧ Away [a, id, id2] S29 ∧ (w259.heap[a]? = some (.cells #[.slice a27 n26 c27, Value.map r34, Value.map r35, .int .i64 x59] 103) → R (.int .i64 x10) w259)
 ) : CallsX E.P 136 #[.pointer (some ⟨a, 0, none⟩), .agg #[.int .i64 b0, .int .i64 b1, .string b2, .slice b3 b3l b3c], .int .i64 c, .int .i64 d] w R X :=
  calls_vc E_ok ⟨[(100004, ⟨[], []⟩)], [(2, ⟨[], [(0, 0, .slc), (0, 1, .map), (0, 2, .map), (0, 3, .int .i64)]⟩), (3, ⟨[(9, .int .i64)], [(0, 0, .slc), (0, 1, .map), (0, 2, .map), (0, 3, .int .i64)]⟩), (5, ⟨[], [(0, 0, .slc), (0, 1, .map), (0, 2, .map), (0, 3, .int .i64)]⟩)]⟩ (f := 136) Tryz.func136 rfl [(.pointer (some ⟨a, 0, none⟩), .ptr 0 0), (.agg #[.int .i64 b0, .int .i64 b1, .string b2, .slice b3 b3l b3c], .no), (.int .i64 c, .no), (.int .i64 d, .no)] [⟨a, 103, false, [⟨.slice a0 a0l a0c, .no, 0⟩, ⟨.map a1, .no, 0⟩, ⟨.map a2, .no, 0⟩, ⟨.int .i64 a3, .no, 0⟩]⟩] (bls1 ha) nod1 (plain_of rfl) (shs_of ⟨rfl, trivial, trivial, trivial, trivial⟩) h (by kernel_rfl)
abbrev V111 (n : Nat) (a0 a1 a2 : Int) (b : Nat) (b0 : Option Addr) (b0l b0c : Nat) (b1 b2 : Option Nat) (b3 c0 c1 : Int) (c2 : ByteArray) (c3 : Option Addr) (c3l c3c : Nat) (d e : Int) (w : World) (R : Value → World → Prop) (X : ContX) : Prop :=
 ∀ id, w.heap.size ≤ id → ∀ id1, w.heap.size ≤ id1 → ∃ (I : Option Addr → Nat → Nat → Option Nat → Option Nat → Int → World → Prop), ((((↑c3l : Int) == a0) = true → (strEq c2 (ByteArray.mk #[]) = true → ∀ w1, Upd w w1 (setOf []) → id < w1.heap.size → id1 < w1.heap.size → ∃ R1 X', CallsX E.P n #[.int .i64 c1] w1 R1 X' ∧ (∀ v w2, R1 v w2 → ∃ x, v = .bool x ∧ ∃ S, Upd w1 w2 S ∧ Away [b, id, id1] S ∧ (w2.heap[b]? = some (.cells #[.slice b0 b0l b0c, Value.map b1, Value.map b2, .int .i64 b3] 103) → ∃ R2 X'1, CallsX E.P 109 #[.pointer (some ⟨b, 0, none⟩), .bool x] w2 R2 X'1 ∧ (∀ v1 w21, R2 v1 w21 → ∃ (v2 : Value), v1 = v2 ∧ ∃ S1, Upd w2 w21 S1 ∧ Away [id, id1] S1 ∧ ∃ a n, ∃ c r, ∃ r1 x1, w21.heap[b]? = some (.cells #[.slice a n c, Value.map r, Value.map r1, .int .i64 x1] 103) ∧ 4 = 4 ∧ I a n c r r1 x1 w21) ∧ PX X'1 X)) ∧ PX X' X) ∧ (strEq c2 (ByteArray.mk #[]) = false → ∀ w11, Upd w w11 (setOf []) → id < w11.heap.size → id1 < w11.heap.size → w11.heap[b]? = some (.cells #[.slice b0 b0l b0c, Value.map b1, Value.map b2, .int .i64 b3] 103) → ∃ R3 X'2, CallsX E.P 109 #[.pointer (some ⟨b, 0, none⟩), .bool false] w11 R3 X'2 ∧ (∀ v3 w24, R3 v3 w24 → ∃ (v4 : Value), v3 = v4 ∧ ∃ S2, Upd w11 w24 S2 ∧ Away [id, id1] S2 ∧ ∃ a1 n1, ∃ c1 r2, ∃ r3 x2, w24.heap[b]? = some (.cells #[.slice a1 n1 c1, Value.map r2, Value.map r3, .int .i64 x2] 103) ∧ 4 = 4 ∧ I a1 n1 c1 r2 r3 x2 w24) ∧ PX X'2 X)) ∧ (((↑c3l : Int) == a0) = false → ∀ w12, Upd w w12 (setOf []) → id < w12.heap.size → id1 < w12.heap.size → w12.heap[b]? = some (.cells #[.slice b0 b0l b0c, Value.map b1, Value.map b2, .int .i64 b3] 103) → ∃ R4 X'3, CallsX E.P 109 #[.pointer (some ⟨b, 0, none⟩), .bool false] w12 R4 X'3 ∧ (∀ v5 w26, R4 v5 w26 → ∃ (v6 : Value), v5 = v6 ∧ ∃ S3, Upd w12 w26 S3 ∧ Away [id, id1] S3 ∧ ∃ a2 n2, ∃ c2 r4, ∃ r5 x3, w26.heap[b]? = some (.cells #[.slice a2 n2 c2, Value.map r4, Value.map r5, .int .i64 x3] 103) ∧ 4 = 4 ∧ I a2 n2 c2 r4 r5 x3 w26) ∧ PX X'3 X)) ∧ ∀ (jk : Nat → Value) (a3 : Option Addr) (n3 c3_1 : Nat) (r6 r7 : Option Nat) (x4 : Int) (w28 : World), I a3 n3 c3_1 r6 r7 x4 w28 → ∃ (I1 : Int → Option Addr → Nat → Nat → Option Nat → Option Nat → Int → World → Prop), ∃ (m : Int → Option Addr → Nat → Nat → Option Nat → Option Nat → Int → Nat), I1 0 a3 n3 c3_1 r6 r7 x4 w28 ∧ ∀ (jk1 : Nat → Value) (x5 : Int) (a4 : Option Addr) (n4 c4 : Nat) (r8 r9 : Option Nat) (x6 : Int) (w29 : World), I1 x5 a4 n4 c4 r8 r9 x6 w29 → (decide (x5 < (↑c3l : Int)) = true → (0 ≤ x5 ∧ x5 < (↑c3l : Int)) ∧ ∃ ad, c3 = some ad ∧ ∃ x7 x8, ∃ x9 a5, ∃ n5 c5, CellsIn w29 (Addr.add ad (Int.toNat x5 * 4)) [.int .i64 x7, .int .i64 x8, .string x9, .slice a5 n5 c5] ∧ ∀ id2, w29.heap.size ≤ id2 → ∀ w13, Upd w29 w13 (setOf []) → id2 < w13.heap.size → w13.heap[b]? = some (.cells #[.slice a4 n4 c4, Value.map r8, Value.map r9, .int .i64 x6] 103) → ∃ R5 X'4, CallsX E.P 137 #[.pointer (some ⟨b, 0, none⟩), .agg #[.int .i64 x7, .int .i64 x8, .string x9, .slice a5 n5 c5], .int .i64 a1, .int .i64 d, .int .i64 e] w13 R5 X'4 ∧ (∀ v7 w210, R5 v7 w210 → ∃ (v8 : Value), v7 = v8 ∧ ∃ S4, Upd w13 w210 S4 ∧ Away [id, id1, id2] S4 ∧ ∃ a6 n6, ∃ c6 r10, ∃ r11 x10, w210.heap[b]? = some (.cells #[.slice a6 n6 c6, Value.map r10, Value.map r11, .int .i64 x10] 103) ∧ 4 = 4 ∧ I1 (w64 (x5 + 1)) a6 n6 c6 r10 r11 x10 w210 ∧ m (w64 (x5 + 1)) a6 n6 c6 r10 r11 x10 < m x5 a4 n4 c4 r8 r9 x6) ∧ PX X'4 X) ∧ (decide (x5 < (↑c3l : Int)) = false → w29.heap[b]? = some (.cells #[.slice a4 n4 c4, Value.map r8, Value.map r9, .int .i64 x6] 103) → R (.int .i64 a2) w29)
theorem vc111_127 {a0 a1 a2 : Int} {b : Nat} {b0 : Option Addr} {b0l b0c : Nat} {b1 b2 : Option Nat} {b3 c0 c1 : Int} {c2 : ByteArray} {c3 : Option Addr} {c3l c3c : Nat} {d e : Int} {w : World} {R : Value → World → Prop} {X : ContX} (hb : w.heap[b]? = some (.cells #[.slice b0 b0l b0c, .map b1, .map b2, .int .i64 b3] 103 (0, 0))) (h : V111 127 a0 a1 a2 b b0 b0l b0c b1 b2 b3 c0 c1 c2 c3 c3l c3c d e w R X) : CallsX E.P 111 #[.agg #[.int .i64 a0, .int .i64 a1, .int .i64 a2, .func (.func 127) #[] #[]], .pointer (some ⟨b, 0, none⟩), .agg #[.int .i64 c0, .int .i64 c1, .string c2, .slice c3 c3l c3c], .int .i64 d, .int .i64 e] w R X :=
  calls_vc E_ok ⟨[(3, ⟨[(36, .int .i64)], [(0, 0, .slc), (0, 1, .map), (0, 2, .map), (0, 3, .int .i64)]⟩)], [(2, ⟨[], [(0, 0, .slc), (0, 1, .map), (0, 2, .map), (0, 3, .int .i64)]⟩)]⟩ (f := 111) Tryz.func111 rfl [(.agg #[.int .i64 a0, .int .i64 a1, .int .i64 a2, .func (.func 127) #[] #[]], .no), (.pointer (some ⟨b, 0, none⟩), .ptr 0 0), (.agg #[.int .i64 c0, .int .i64 c1, .string c2, .slice c3 c3l c3c], .no), (.int .i64 d, .no), (.int .i64 e, .no)] [⟨b, 103, false, [⟨.slice b0 b0l b0c, .no, 0⟩, ⟨.map b1, .no, 0⟩, ⟨.map b2, .no, 0⟩, ⟨.int .i64 b3, .no, 0⟩]⟩] (bls1 hb) nod1 (plain_of rfl) (shs_of ⟨trivial, rfl, trivial, trivial, trivial, trivial⟩) h (by kernel_rfl)
theorem vc111_128 {a0 a1 a2 : Int} {b : Nat} {b0 : Option Addr} {b0l b0c : Nat} {b1 b2 : Option Nat} {b3 c0 c1 : Int} {c2 : ByteArray} {c3 : Option Addr} {c3l c3c : Nat} {d e : Int} {w : World} {R : Value → World → Prop} {X : ContX} (hb : w.heap[b]? = some (.cells #[.slice b0 b0l b0c, .map b1, .map b2, .int .i64 b3] 103 (0, 0))) (h : V111 128 a0 a1 a2 b b0 b0l b0c b1 b2 b3 c0 c1 c2 c3 c3l c3c d e w R X) : CallsX E.P 111 #[.agg #[.int .i64 a0, .int .i64 a1, .int .i64 a2, .func (.func 128) #[] #[]], .pointer (some ⟨b, 0, none⟩), .agg #[.int .i64 c0, .int .i64 c1, .string c2, .slice c3 c3l c3c], .int .i64 d, .int .i64 e] w R X :=
  calls_vc E_ok ⟨[(3, ⟨[(36, .int .i64)], [(0, 0, .slc), (0, 1, .map), (0, 2, .map), (0, 3, .int .i64)]⟩)], [(2, ⟨[], [(0, 0, .slc), (0, 1, .map), (0, 2, .map), (0, 3, .int .i64)]⟩)]⟩ (f := 111) Tryz.func111 rfl [(.agg #[.int .i64 a0, .int .i64 a1, .int .i64 a2, .func (.func 128) #[] #[]], .no), (.pointer (some ⟨b, 0, none⟩), .ptr 0 0), (.agg #[.int .i64 c0, .int .i64 c1, .string c2, .slice c3 c3l c3c], .no), (.int .i64 d, .no), (.int .i64 e, .no)] [⟨b, 103, false, [⟨.slice b0 b0l b0c, .no, 0⟩, ⟨.map b1, .no, 0⟩, ⟨.map b2, .no, 0⟩, ⟨.int .i64 b3, .no, 0⟩]⟩] (bls1 hb) nod1 (plain_of rfl) (shs_of ⟨trivial, rfl, trivial, trivial, trivial, trivial⟩) h (by kernel_rfl)
theorem vc111_129 {a0 a1 a2 : Int} {b : Nat} {b0 : Option Addr} {b0l b0c : Nat} {b1 b2 : Option Nat} {b3 c0 c1 : Int} {c2 : ByteArray} {c3 : Option Addr} {c3l c3c : Nat} {d e : Int} {w : World} {R : Value → World → Prop} {X : ContX} (hb : w.heap[b]? = some (.cells #[.slice b0 b0l b0c, .map b1, .map b2, .int .i64 b3] 103 (0, 0))) (h : V111 129 a0 a1 a2 b b0 b0l b0c b1 b2 b3 c0 c1 c2 c3 c3l c3c d e w R X) : CallsX E.P 111 #[.agg #[.int .i64 a0, .int .i64 a1, .int .i64 a2, .func (.func 129) #[] #[]], .pointer (some ⟨b, 0, none⟩), .agg #[.int .i64 c0, .int .i64 c1, .string c2, .slice c3 c3l c3c], .int .i64 d, .int .i64 e] w R X :=
  calls_vc E_ok ⟨[(3, ⟨[(36, .int .i64)], [(0, 0, .slc), (0, 1, .map), (0, 2, .map), (0, 3, .int .i64)]⟩)], [(2, ⟨[], [(0, 0, .slc), (0, 1, .map), (0, 2, .map), (0, 3, .int .i64)]⟩)]⟩ (f := 111) Tryz.func111 rfl [(.agg #[.int .i64 a0, .int .i64 a1, .int .i64 a2, .func (.func 129) #[] #[]], .no), (.pointer (some ⟨b, 0, none⟩), .ptr 0 0), (.agg #[.int .i64 c0, .int .i64 c1, .string c2, .slice c3 c3l c3c], .no), (.int .i64 d, .no), (.int .i64 e, .no)] [⟨b, 103, false, [⟨.slice b0 b0l b0c, .no, 0⟩, ⟨.map b1, .no, 0⟩, ⟨.map b2, .no, 0⟩, ⟨.int .i64 b3, .no, 0⟩]⟩] (bls1 hb) nod1 (plain_of rfl) (shs_of ⟨trivial, rfl, trivial, trivial, trivial, trivial⟩) h (by kernel_rfl)
theorem vc111_130 {a0 a1 a2 : Int} {ab b : Nat} {b0 : Option Addr} {b0l b0c : Nat} {b1 b2 : Option Nat} {b3 c0 c1 : Int} {c2 : ByteArray} {c3 : Option Addr} {c3l c3c : Nat} {d e : Int} {w : World} {R : Value → World → Prop} {X : ContX} (hb : w.heap[b]? = some (.cells #[.slice b0 b0l b0c, .map b1, .map b2, .int .i64 b3] 103 (0, 0))) (h : 
 ∀ id, w.heap.size ≤ id → ∀ id1, w.heap.size ≤ id1 → ∃ (I : Option Addr → Nat → Nat → Option Nat → Option Nat → Int → World → Prop), ((((↑c3l : Int) == a0) = true → (strEq c2 (ByteArray.mk #[]) = true → ∀ w1, Upd w w1 (setOf []) → id < w1.heap.size → id1 < w1.heap.size → ∃ R1 X', CallsX E.P 130 #[.int .i64 c1, .pointer (some ⟨ab, 0, none⟩)] w1 R1 X' ∧ (∀ v w2, R1 v w2 → ∃ x, v = .bool x ∧ ∃ S, Upd w1 w2 S ∧ Away [b, id, id1] S ∧ (w2.heap[b]? = some (.cells #[.slice b0 b0l b0c, Value.map b1, Value.map b2, .int .i64 b3] 103) → ∃ R2 X'1, CallsX E.P 109 #[.pointer (some ⟨b, 0, none⟩), .bool x] w2 R2 X'1 ∧ (∀ v1 w21, R2 v1 w21 → ∃ (v2 : Value), v1 = v2 ∧ ∃ S1, Upd w2 w21 S1 ∧ Away [id, id1] S1 ∧ ∃ a n, ∃ c r, ∃ r1 x1, w21.heap[b]? = some (.cells #[.slice a n c, Value.map r, Value.map r1, .int .i64 x1] 103) ∧ 4 = 4 ∧ I a n c r r1 x1 w21) ∧ PX X'1 X)) ∧ PX X' X) ∧ (strEq c2 (ByteArray.mk #[]) = false → ∀ w11, Upd w w11 (setOf []) → id < w11.heap.size → id1 < w11.heap.size → w11.heap[b]? = some (.cells #[.slice b0 b0l b0c, Value.map b1, Value.map b2, .int .i64 b3] 103) → ∃ R3 X'2, CallsX E.P 109 #[.pointer (some ⟨b, 0, none⟩), .bool false] w11 R3 X'2 ∧ (∀ v3 w24, R3 v3 w24 → ∃ (v4 : Value), v3 = v4 ∧ ∃ S2, Upd w11 w24 S2 ∧ Away [id, id1] S2 ∧ ∃ a1 n1, ∃ c1 r2, ∃ r3 x2, w24.heap[b]? = some (.cells #[.slice a1 n1 c1, Value.map r2, Value.map r3, .int .i64 x2] 103) ∧ 4 = 4 ∧ I a1 n1 c1 r2 r3 x2 w24) ∧ PX X'2 X)) ∧ (((↑c3l : Int) == a0) = false → ∀ w12, Upd w w12 (setOf []) → id < w12.heap.size → id1 < w12.heap.size → w12.heap[b]? = some (.cells #[.slice b0 b0l b0c, Value.map b1, Value.map b2, .int .i64 b3] 103) → ∃ R4 X'3, CallsX E.P 109 #[.pointer (some ⟨b, 0, none⟩), .bool false] w12 R4 X'3 ∧ (∀ v5 w26, R4 v5 w26 → ∃ (v6 : Value), v5 = v6 ∧ ∃ S3, Upd w12 w26 S3 ∧ Away [id, id1] S3 ∧ ∃ a2 n2, ∃ c2 r4, ∃ r5 x3, w26.heap[b]? = some (.cells #[.slice a2 n2 c2, Value.map r4, Value.map r5, .int .i64 x3] 103) ∧ 4 = 4 ∧ I a2 n2 c2 r4 r5 x3 w26) ∧ PX X'3 X)) ∧ ∀ (jk : Nat → Value) (a3 : Option Addr) (n3 c3_1 : Nat) (r6 r7 : Option Nat) (x4 : Int) (w28 : World), I a3 n3 c3_1 r6 r7 x4 w28 → ∃ (I1 : Int → Option Addr → Nat → Nat → Option Nat → Option Nat → Int → World → Prop), ∃ (m : Int → Option Addr → Nat → Nat → Option Nat → Option Nat → Int → Nat), I1 0 a3 n3 c3_1 r6 r7 x4 w28 ∧ ∀ (jk1 : Nat → Value) (x5 : Int) (a4 : Option Addr) (n4 c4 : Nat) (r8 r9 : Option Nat) (x6 : Int) (w29 : World), I1 x5 a4 n4 c4 r8 r9 x6 w29 → (decide (x5 < (↑c3l : Int)) = true → (0 ≤ x5 ∧ x5 < (↑c3l : Int)) ∧ ∃ ad, c3 = some ad ∧ ∃ x7 x8, ∃ x9 a5, ∃ n5 c5, CellsIn w29 (Addr.add ad (Int.toNat x5 * 4)) [.int .i64 x7, .int .i64 x8, .string x9, .slice a5 n5 c5] ∧ ∀ id2, w29.heap.size ≤ id2 → ∀ w13, Upd w29 w13 (setOf []) → id2 < w13.heap.size → w13.heap[b]? = some (.cells #[.slice a4 n4 c4, Value.map r8, Value.map r9, .int .i64 x6] 103) → ∃ R5 X'4, CallsX E.P 137 #[.pointer (some ⟨b, 0, none⟩), .agg #[.int .i64 x7, .int .i64 x8, .string x9, .slice a5 n5 c5], .int .i64 a1, .int .i64 d, .int .i64 e] w13 R5 X'4 ∧ (∀ v7 w210, R5 v7 w210 → ∃ (v8 : Value), v7 = v8 ∧ ∃ S4, Upd w13 w210 S4 ∧ Away [id, id1, id2] S4 ∧ ∃ a6 n6, ∃ c6 r10, ∃ r11 x10, w210.heap[b]? = some (.cells #[.slice a6 n6 c6, Value.map r10, Value.map r11, .int .i64 x10] 103) ∧ 4 = 4 ∧ I1 (w64 (x5 + 1)) a6 n6 c6 r10 r11 x10 w210 ∧ m (w64 (x5 + 1)) a6 n6 c6 r10 r11 x10 < m x5 a4 n4 c4 r8 r9 x6) ∧ PX X'4 X) ∧ (decide (x5 < (↑c3l : Int)) = false → w29.heap[b]? = some (.cells #[.slice a4 n4 c4, Value.map r8, Value.map r9, .int .i64 x6] 103) → R (.int .i64 a2) w29)
 ) : CallsX E.P 111 #[.agg #[.int .i64 a0, .int .i64 a1, .int .i64 a2, .func (.func 130) #[] #[.pointer (some ⟨ab, 0, none⟩)]], .pointer (some ⟨b, 0, none⟩), .agg #[.int .i64 c0, .int .i64 c1, .string c2, .slice c3 c3l c3c], .int .i64 d, .int .i64 e] w R X :=
  calls_vc E_ok ⟨[(3, ⟨[(36, .int .i64)], [(0, 0, .slc), (0, 1, .map), (0, 2, .map), (0, 3, .int .i64)]⟩)], [(2, ⟨[], [(0, 0, .slc), (0, 1, .map), (0, 2, .map), (0, 3, .int .i64)]⟩)]⟩ (f := 111) Tryz.func111 rfl [(.agg #[.int .i64 a0, .int .i64 a1, .int .i64 a2, .func (.func 130) #[] #[.pointer (some ⟨ab, 0, none⟩)]], .no), (.pointer (some ⟨b, 0, none⟩), .ptr 0 0), (.agg #[.int .i64 c0, .int .i64 c1, .string c2, .slice c3 c3l c3c], .no), (.int .i64 d, .no), (.int .i64 e, .no)] [⟨b, 103, false, [⟨.slice b0 b0l b0c, .no, 0⟩, ⟨.map b1, .no, 0⟩, ⟨.map b2, .no, 0⟩, ⟨.int .i64 b3, .no, 0⟩]⟩] (bls1 hb) nod1 (plain_of rfl) (shs_of ⟨trivial, rfl, trivial, trivial, trivial, trivial⟩) h (by kernel_rfl)
theorem vc111_131 {a0 a1 a2 : Int} {b : Nat} {b0 : Option Addr} {b0l b0c : Nat} {b1 b2 : Option Nat} {b3 c0 c1 : Int} {c2 : ByteArray} {c3 : Option Addr} {c3l c3c : Nat} {d e : Int} {w : World} {R : Value → World → Prop} {X : ContX} (hb : w.heap[b]? = some (.cells #[.slice b0 b0l b0c, .map b1, .map b2, .int .i64 b3] 103 (0, 0))) (h : V111 131 a0 a1 a2 b b0 b0l b0c b1 b2 b3 c0 c1 c2 c3 c3l c3c d e w R X) : CallsX E.P 111 #[.agg #[.int .i64 a0, .int .i64 a1, .int .i64 a2, .func (.func 131) #[] #[]], .pointer (some ⟨b, 0, none⟩), .agg #[.int .i64 c0, .int .i64 c1, .string c2, .slice c3 c3l c3c], .int .i64 d, .int .i64 e] w R X :=
  calls_vc E_ok ⟨[(3, ⟨[(36, .int .i64)], [(0, 0, .slc), (0, 1, .map), (0, 2, .map), (0, 3, .int .i64)]⟩)], [(2, ⟨[], [(0, 0, .slc), (0, 1, .map), (0, 2, .map), (0, 3, .int .i64)]⟩)]⟩ (f := 111) Tryz.func111 rfl [(.agg #[.int .i64 a0, .int .i64 a1, .int .i64 a2, .func (.func 131) #[] #[]], .no), (.pointer (some ⟨b, 0, none⟩), .ptr 0 0), (.agg #[.int .i64 c0, .int .i64 c1, .string c2, .slice c3 c3l c3c], .no), (.int .i64 d, .no), (.int .i64 e, .no)] [⟨b, 103, false, [⟨.slice b0 b0l b0c, .no, 0⟩, ⟨.map b1, .no, 0⟩, ⟨.map b2, .no, 0⟩, ⟨.int .i64 b3, .no, 0⟩]⟩] (bls1 hb) nod1 (plain_of rfl) (shs_of ⟨trivial, rfl, trivial, trivial, trivial, trivial⟩) h (by kernel_rfl)
theorem vc111_134 {a0 a1 a2 : Int} {b : Nat} {b0 : Option Addr} {b0l b0c : Nat} {b1 b2 : Option Nat} {b3 c0 c1 : Int} {c2 : ByteArray} {c3 : Option Addr} {c3l c3c : Nat} {d e : Int} {w : World} {R : Value → World → Prop} {X : ContX} (hb : w.heap[b]? = some (.cells #[.slice b0 b0l b0c, .map b1, .map b2, .int .i64 b3] 103 (0, 0))) (h : V111 134 a0 a1 a2 b b0 b0l b0c b1 b2 b3 c0 c1 c2 c3 c3l c3c d e w R X) : CallsX E.P 111 #[.agg #[.int .i64 a0, .int .i64 a1, .int .i64 a2, .func (.func 134) #[] #[]], .pointer (some ⟨b, 0, none⟩), .agg #[.int .i64 c0, .int .i64 c1, .string c2, .slice c3 c3l c3c], .int .i64 d, .int .i64 e] w R X :=
  calls_vc E_ok ⟨[(3, ⟨[(36, .int .i64)], [(0, 0, .slc), (0, 1, .map), (0, 2, .map), (0, 3, .int .i64)]⟩)], [(2, ⟨[], [(0, 0, .slc), (0, 1, .map), (0, 2, .map), (0, 3, .int .i64)]⟩)]⟩ (f := 111) Tryz.func111 rfl [(.agg #[.int .i64 a0, .int .i64 a1, .int .i64 a2, .func (.func 134) #[] #[]], .no), (.pointer (some ⟨b, 0, none⟩), .ptr 0 0), (.agg #[.int .i64 c0, .int .i64 c1, .string c2, .slice c3 c3l c3c], .no), (.int .i64 d, .no), (.int .i64 e, .no)] [⟨b, 103, false, [⟨.slice b0 b0l b0c, .no, 0⟩, ⟨.map b1, .no, 0⟩, ⟨.map b2, .no, 0⟩, ⟨.int .i64 b3, .no, 0⟩]⟩] (bls1 hb) nod1 (plain_of rfl) (shs_of ⟨trivial, rfl, trivial, trivial, trivial, trivial⟩) h (by kernel_rfl)
abbrev V112 (n : Nat) (a0 : Int) (b : Nat) (b0 : Option Addr) (b0l b0c : Nat) (b1 b2 : Option Nat) (b3 c0 c1 : Int) (c2 : ByteArray) (c3 : Option Addr) (c3l c3c : Nat) (d e : Int) (w : World) (R : Value → World → Prop) (X : ContX) : Prop :=
 ∀ id, w.heap.size ≤ id → ∀ id1, w.heap.size ≤ id1 → ∃ (I : Option Addr → Nat → Nat → Option Nat → Option Nat → Int → World → Prop), ((((↑c3l : Int) == a0) = true → ∀ w1, Upd w w1 (setOf []) → id < w1.heap.size → id1 < w1.heap.size → w1.heap[b]? = some (.cells #[.slice b0 b0l b0c, Value.map b1, Value.map b2, .int .i64 b3] 103) → ∃ R1 X', CallsX E.P 109 #[.pointer (some ⟨b, 0, none⟩), .bool (strEq c2 (ByteArray.mk #[]))] w1 R1 X' ∧ (∀ v w2, R1 v w2 → ∃ (v1 : Value), v = v1 ∧ ∃ S, Upd w1 w2 S ∧ Away [id, id1] S ∧ ∃ a n, ∃ c r, ∃ r1 x, w2.heap[b]? = some (.cells #[.slice a n c, Value.map r, Value.map r1, .int .i64 x] 103) ∧ 4 = 4 ∧ I a n c r r1 x w2) ∧ PX X' X) ∧ (((↑c3l : Int) == a0) = false → ∀ w11, Upd w w11 (setOf []) → id < w11.heap.size → id1 < w11.heap.size → w11.heap[b]? = some (.cells #[.slice b0 b0l b0c, Value.map b1, Value.map b2, .int .i64 b3] 103) → ∃ R2 X'1, CallsX E.P 109 #[.pointer (some ⟨b, 0, none⟩), .bool false] w11 R2 X'1 ∧ (∀ v2 w22, R2 v2 w22 → ∃ (v3 : Value), v2 = v3 ∧ ∃ S1, Upd w11 w22 S1 ∧ Away [id, id1] S1 ∧ ∃ a1 n1, ∃ c1 r2, ∃ r3 x1, w22.heap[b]? = some (.cells #[.slice a1 n1 c1, Value.map r2, Value.map r3, .int .i64 x1] 103) ∧ 4 = 4 ∧ I a1 n1 c1 r2 r3 x1 w22) ∧ PX X'1 X)) ∧ ∀ (jk : Nat → Value) (a2 : Option Addr) (n2 c2_1 : Nat) (r4 r5 : Option Nat) (x2 : Int) (w24 : World), I a2 n2 c2_1 r4 r5 x2 w24 → w24.heap[b]? = some (.cells #[.slice a2 n2 c2_1, Value.map r4, Value.map r5, .int .i64 x2] 103) → ∃ R3 X'2, CallsX E.P n #[.pointer (some ⟨b, 0, none⟩), .agg #[.int .i64 c0, .int .i64 c1, .string c2, .slice c3 c3l c3c], .int .i64 d, .int .i64 e] w24 R3 X'2 ∧ (∀ v4 w25, R3 v4 w25 → ∃ x3, v4 = .int .i64 x3 ∧ ∃ S2, Upd w24 w25 S2 ∧ Away [id, id1] S2 ∧ ∃ a3 n3, ∃ c3 r6, ∃ r7 x4, w25.heap[b]? = some (.cells #[.slice a3 n3 c3, Value.map r6, Value.map r7, .int .i64 x4] 103) ∧ 4 = 4 ∧ (w25.heap[b]? = some (.cells #[.slice a3 n3 c3, Value.map r6, Value.map r7, .int .i64 x4] 103) → R (.int .i64 x3) w25)) ∧ PX X'2 X
theorem vc112_132 {a0 : Int} {b : Nat} {b0 : Option Addr} {b0l b0c : Nat} {b1 b2 : Option Nat} {b3 c0 c1 : Int} {c2 : ByteArray} {c3 : Option Addr} {c3l c3c : Nat} {d e : Int} {w : World} {R : Value → World → Prop} {X : ContX} (hb : w.heap[b]? = some (.cells #[.slice b0 b0l b0c, .map b1, .map b2, .int .i64 b3] 103 (0, 0))) (h : V112 132 a0 b b0 b0l b0c b1 b2 b3 c0 c1 c2 c3 c3l c3c d e w R X) : CallsX E.P 112 #[.agg #[.int .i64 a0, .func (.func 132) #[] #[]], .pointer (some ⟨b, 0, none⟩), .agg #[.int .i64 c0, .int .i64 c1, .string c2, .slice c3 c3l c3c], .int .i64 d, .int .i64 e] w R X :=
  calls_vc E_ok ⟨[], [(2, ⟨[], [(0, 0, .slc), (0, 1, .map), (0, 2, .map), (0, 3, .int .i64)]⟩)]⟩ (f := 112) Tryz.func112 rfl [(.agg #[.int .i64 a0, .func (.func 132) #[] #[]], .no), (.pointer (some ⟨b, 0, none⟩), .ptr 0 0), (.agg #[.int .i64 c0, .int .i64 c1, .string c2, .slice c3 c3l c3c], .no), (.int .i64 d, .no), (.int .i64 e, .no)] [⟨b, 103, false, [⟨.slice b0 b0l b0c, .no, 0⟩, ⟨.map b1, .no, 0⟩, ⟨.map b2, .no, 0⟩, ⟨.int .i64 b3, .no, 0⟩]⟩] (bls1 hb) nod1 (plain_of rfl) (shs_of ⟨trivial, rfl, trivial, trivial, trivial, trivial⟩) h (by kernel_rfl)
theorem vc112_133 {a0 : Int} {b : Nat} {b0 : Option Addr} {b0l b0c : Nat} {b1 b2 : Option Nat} {b3 c0 c1 : Int} {c2 : ByteArray} {c3 : Option Addr} {c3l c3c : Nat} {d e : Int} {w : World} {R : Value → World → Prop} {X : ContX} (hb : w.heap[b]? = some (.cells #[.slice b0 b0l b0c, .map b1, .map b2, .int .i64 b3] 103 (0, 0))) (h : V112 133 a0 b b0 b0l b0c b1 b2 b3 c0 c1 c2 c3 c3l c3c d e w R X) : CallsX E.P 112 #[.agg #[.int .i64 a0, .func (.func 133) #[] #[]], .pointer (some ⟨b, 0, none⟩), .agg #[.int .i64 c0, .int .i64 c1, .string c2, .slice c3 c3l c3c], .int .i64 d, .int .i64 e] w R X :=
  calls_vc E_ok ⟨[], [(2, ⟨[], [(0, 0, .slc), (0, 1, .map), (0, 2, .map), (0, 3, .int .i64)]⟩)]⟩ (f := 112) Tryz.func112 rfl [(.agg #[.int .i64 a0, .func (.func 133) #[] #[]], .no), (.pointer (some ⟨b, 0, none⟩), .ptr 0 0), (.agg #[.int .i64 c0, .int .i64 c1, .string c2, .slice c3 c3l c3c], .no), (.int .i64 d, .no), (.int .i64 e, .no)] [⟨b, 103, false, [⟨.slice b0 b0l b0c, .no, 0⟩, ⟨.map b1, .no, 0⟩, ⟨.map b2, .no, 0⟩, ⟨.int .i64 b3, .no, 0⟩]⟩] (bls1 hb) nod1 (plain_of rfl) (shs_of ⟨trivial, rfl, trivial, trivial, trivial, trivial⟩) h (by kernel_rfl)
theorem vc112_135 {a0 : Int} {b : Nat} {b0 : Option Addr} {b0l b0c : Nat} {b1 b2 : Option Nat} {b3 c0 c1 : Int} {c2 : ByteArray} {c3 : Option Addr} {c3l c3c : Nat} {d e : Int} {w : World} {R : Value → World → Prop} {X : ContX} (hb : w.heap[b]? = some (.cells #[.slice b0 b0l b0c, .map b1, .map b2, .int .i64 b3] 103 (0, 0))) (h : V112 135 a0 b b0 b0l b0c b1 b2 b3 c0 c1 c2 c3 c3l c3c d e w R X) : CallsX E.P 112 #[.agg #[.int .i64 a0, .func (.func 135) #[] #[]], .pointer (some ⟨b, 0, none⟩), .agg #[.int .i64 c0, .int .i64 c1, .string c2, .slice c3 c3l c3c], .int .i64 d, .int .i64 e] w R X :=
  calls_vc E_ok ⟨[], [(2, ⟨[], [(0, 0, .slc), (0, 1, .map), (0, 2, .map), (0, 3, .int .i64)]⟩)]⟩ (f := 112) Tryz.func112 rfl [(.agg #[.int .i64 a0, .func (.func 135) #[] #[]], .no), (.pointer (some ⟨b, 0, none⟩), .ptr 0 0), (.agg #[.int .i64 c0, .int .i64 c1, .string c2, .slice c3 c3l c3c], .no), (.int .i64 d, .no), (.int .i64 e, .no)] [⟨b, 103, false, [⟨.slice b0 b0l b0c, .no, 0⟩, ⟨.map b1, .no, 0⟩, ⟨.map b2, .no, 0⟩, ⟨.int .i64 b3, .no, 0⟩]⟩] (bls1 hb) nod1 (plain_of rfl) (shs_of ⟨trivial, rfl, trivial, trivial, trivial, trivial⟩) h (by kernel_rfl)
theorem vc112_136 {a0 : Int} {b : Nat} {b0 : Option Addr} {b0l b0c : Nat} {b1 b2 : Option Nat} {b3 c0 c1 : Int} {c2 : ByteArray} {c3 : Option Addr} {c3l c3c : Nat} {d e : Int} {w : World} {R : Value → World → Prop} {X : ContX} (hb : w.heap[b]? = some (.cells #[.slice b0 b0l b0c, .map b1, .map b2, .int .i64 b3] 103 (0, 0))) (h : V112 136 a0 b b0 b0l b0c b1 b2 b3 c0 c1 c2 c3 c3l c3c d e w R X) : CallsX E.P 112 #[.agg #[.int .i64 a0, .func (.func 136) #[] #[]], .pointer (some ⟨b, 0, none⟩), .agg #[.int .i64 c0, .int .i64 c1, .string c2, .slice c3 c3l c3c], .int .i64 d, .int .i64 e] w R X :=
  calls_vc E_ok ⟨[], [(2, ⟨[], [(0, 0, .slc), (0, 1, .map), (0, 2, .map), (0, 3, .int .i64)]⟩)]⟩ (f := 112) Tryz.func112 rfl [(.agg #[.int .i64 a0, .func (.func 136) #[] #[]], .no), (.pointer (some ⟨b, 0, none⟩), .ptr 0 0), (.agg #[.int .i64 c0, .int .i64 c1, .string c2, .slice c3 c3l c3c], .no), (.int .i64 d, .no), (.int .i64 e, .no)] [⟨b, 103, false, [⟨.slice b0 b0l b0c, .no, 0⟩, ⟨.map b1, .no, 0⟩, ⟨.map b2, .no, 0⟩, ⟨.int .i64 b3, .no, 0⟩]⟩] (bls1 hb) nod1 (plain_of rfl) (shs_of ⟨trivial, rfl, trivial, trivial, trivial, trivial⟩) h (by kernel_rfl)
end
section
open Go Go.Vx Go.Proofs
set_option maxRecDepth 100000
theorem vc127 {a : Int} {w : World} {R : Value → World → Prop} {X : ContX}  (h : 
 R (.bool true) w
 ) : CallsX E.P 127 #[.int .i64 a] w R X :=
  calls_vc E_ok ⟨[], []⟩ (f := 127) Tryz.func127 rfl [(.int .i64 a, .no)] [] (bls0) nod0 (plain_of rfl) (shs_of ⟨trivial, trivial⟩) h (by kernel_rfl)
theorem vc128 {a : Int} {w : World} {R : Value → World → Prop} {X : ContX}  (h : 
 ((a == 0) = true → R (.bool true) w) ∧ ((a == 0) = false → R (.bool (a == 1)) w)
 ) : CallsX E.P 128 #[.int .i64 a] w R X :=
  calls_vc E_ok ⟨[], []⟩ (f := 128) Tryz.func128 rfl [(.int .i64 a, .no)] [] (bls0) nod0 (plain_of rfl) (shs_of ⟨trivial, trivial⟩) h (by kernel_rfl)
theorem vc129 {a : Int} {w : World} {R : Value → World → Prop} {X : ContX}  (h : 
 R (.bool (decide (a ≥ 0))) w
 ) : CallsX E.P 129 #[.int .i64 a] w R X :=
  calls_vc E_ok ⟨[], []⟩ (f := 129) Tryz.func129 rfl [(.int .i64 a, .no)] [] (bls0) nod0 (plain_of rfl) (shs_of ⟨trivial, trivial⟩) h (by kernel_rfl)
theorem vc130 {a : Int} {b : Nat} {b0 : Int} {w : World} {R : Value → World → Prop} {X : ContX} (hb : w.heap[b]? = some (.cells #[.int .i64 b0] 3 (0, 0))) (h : 
 (decide (a ≥ 0) = true → w.heap[b]? = some (.cells #[.int .i64 b0] 3) → R (.bool (decide (a < b0))) w) ∧ (decide (a ≥ 0) = false → w.heap[b]? = some (.cells #[.int .i64 b0] 3) → R (.bool false) w)
 ) : CallsX E.P 130 #[.int .i64 a, .pointer (some ⟨b, 0, none⟩)] w R X :=
  calls_vc E_ok ⟨[], []⟩ (f := 130) Tryz.func130 rfl [(.int .i64 a, .no), (.pointer (some ⟨b, 0, none⟩), .ptr 0 0)] [⟨b, 3, false, [⟨.int .i64 b0, .no, 0⟩]⟩] (bls1 hb) nod1 (plain_of rfl) (shs_of ⟨trivial, rfl, trivial⟩) h (by kernel_rfl)
theorem vc131 {a : Int} {w : World} {R : Value → World → Prop} {X : ContX}  (h : 
 R (.bool (a == 0)) w
 ) : CallsX E.P 131 #[.int .i64 a] w R X :=
  calls_vc E_ok ⟨[], []⟩ (f := 131) Tryz.func131 rfl [(.int .i64 a, .no)] [] (bls0) nod0 (plain_of rfl) (shs_of ⟨trivial, trivial⟩) h (by kernel_rfl)
theorem vc134 {a : Int} {w : World} {R : Value → World → Prop} {X : ContX}  (h : 
 (decide (a ≥ 4) = true → R (.bool (decide (a ≤ 9))) w) ∧ (decide (a ≥ 4) = false → R (.bool false) w)
 ) : CallsX E.P 134 #[.int .i64 a] w R X :=
  calls_vc E_ok ⟨[], []⟩ (f := 134) Tryz.func134 rfl [(.int .i64 a, .no)] [] (bls0) nod0 (plain_of rfl) (shs_of ⟨trivial, trivial⟩) h (by kernel_rfl)
theorem vc79 {a : Nat} {a0 : Option Addr} {a0l a0c : Nat} {a1 a2 : Option Nat} {a3 b0 b1 : Int} {b2 : ByteArray} {b3 : Option Addr} {b3l b3c : Nat} {c d : Int} {w : World} {R : Value → World → Prop} {X : ContX} (ha : w.heap[a]? = some (.cells #[.slice a0 a0l a0c, .map a1, .map a2, .int .i64 a3] 103 (0, 0))) (h : 
 ∀ id, w.heap.size ≤ id → ∀ w1, Upd w w1 (setOf [a]) → id < w1.heap.size → w1.heap[a]? = some (.cells #[.slice a0 a0l a0c, Value.map a1, Value.map a2, .int .i64 (w64 (a3 + 1))] 103) → ∃ R1 X', CallsX E.P 109 #[.pointer (some ⟨a, 0, none⟩), .bool (decide (w64 (a3 + 1) ≤ 4096))] w1 R1 X' ∧ (∀ v w2, R1 v w2 → ∃ (v1 : Value), v = v1 ∧ ∃ S, Upd w1 w2 S ∧ Away [id] S ∧ ∃ a1 n, ∃ c1 r, ∃ r1 x, w2.heap[a]? = some (.cells #[.slice a1 n c1, Value.map r, Value.map r1, .int .i64 x] 103) ∧ 4 = 4 ∧ ∃ R2 X'1, CallsX E.P 110 #[.agg #[.int .i64 b0, .int .i64 b1, .string b2, .slice b3 b3l b3c], .int .i64 c] w2 R2 X'1 ∧ (∀ v2 w21, R2 v2 w21 → ∃ (v3 : Value), v2 = v3 ∧ ∃ S1, Upd w2 w21 S1 ∧ Away [a, id] S1 ∧ ∃ is x1, ∃ x2 x3, ∃ (v4 : Value), Sem.run E.P (Instr.typeAssert v3 122 125 true) w21 = Result.ok (.tuple #[.agg #[.int .i64 x1, .int .i64 x2, .int .i64 x3, v4], .bool is]) w21 ∧ (is = true → ∀ id1, w21.heap.size ≤ id1 → Value.oneCell' v4 = true ∧ ∀ w11, Upd w21 w11 (setOf []) → id1 < w11.heap.size → w11.heap[a]? = some (.cells #[.slice a1 n c1, Value.map r, Value.map r1, .int .i64 x] 103) → ∃ R3 X'2, CallsX E.P 111 #[.agg #[.int .i64 x1, .int .i64 x2, .int .i64 x3, v4], .pointer (some ⟨a, 0, none⟩), .agg #[.int .i64 b0, .int .i64 b1, .string b2, .slice b3 b3l b3c], .int .i64 c, .int .i64 d] w11 R3 X'2 ∧ (∀ v5 w22, R3 v5 w22 → ∃ x4, v5 = .int .i64 x4 ∧ ∃ S2, Upd w11 w22 S2 ∧ Away [id, id1] S2 ∧ ∃ a2 n1, ∃ c2 r2, ∃ r3 x5, w22.heap[a]? = some (.cells #[.slice a2 n1 c2, Value.map r2, Value.map r3, .int .i64 x5] 103) ∧ 4 = 4 ∧ (w22.heap[a]? = some (.cells #[.slice a2 n1 c2, Value.map r2, Value.map r3, .int .i64 x5] 103) → R (.int .i64 x4) w22)) ∧ PX X'2 X) ∧ (is = false → ∃ is1 x6, ∃ (v6 : Value), Sem.run E.P (Instr.typeAssert v3 122 128 true) w21 = Result.ok (.tuple #[.agg #[.int .i64 x6, v6], .bool is1]) w21 ∧ (is1 = true → ∀ id2, w21.heap.size ≤ id2 → Value.oneCell' v6 = true ∧ ∀ w12, Upd w21 w12 (setOf []) → id2 < w12.heap.size → w12.heap[a]? = some (.cells #[.slice a1 n c1, Value.map r, Value.map r1, .int .i64 x] 103) → ∃ R4 X'3, CallsX E.P 112 #[.agg #[.int .i64 x6, v6], .pointer (some ⟨a, 0, none⟩), .agg #[.int .i64 b0, .int .i64 b1, .string b2, .slice b3 b3l b3c], .int .i64 c, .int .i64 d] w12 R4 X'3 ∧ (∀ v7 w24, R4 v7 w24 → ∃ x7, v7 = .int .i64 x7 ∧ ∃ S3, Upd w12 w24 S3 ∧ Away [id, id2] S3 ∧ ∃ a3 n2, ∃ c3 r4, ∃ r5 x8, w24.heap[a]? = some (.cells #[.slice a3 n2 c3, Value.map r4, Value.map r5, .int .i64 x8] 103) ∧ 4 = 4 ∧ (w24.heap[a]? = some (.cells #[.slice a3 n2 c3, Value.map r4, Value.map r5, .int .i64 x8] 103) → R (.int .i64 x7) w24)) ∧ PX X'3 X) ∧ (is1 = false → X [PanicEntry.mk (Value.iface 98 (.agg #[])) false false] w21))) ∧ PX X'1 X) ∧ PX X' X
 ) : CallsX E.P 79 #[.pointer (some ⟨a, 0, none⟩), .agg #[.int .i64 b0, .int .i64 b1, .string b2, .slice b3 b3l b3c], .int .i64 c, .int .i64 d] w R X :=
  calls_vc E_ok ⟨[], []⟩ (f := 79) Tryz.func79 rfl [(.pointer (some ⟨a, 0, none⟩), .ptr 0 0), (.agg #[.int .i64 b0, .int .i64 b1, .string b2, .slice b3 b3l b3c], .no), (.int .i64 c, .no), (.int .i64 d, .no)] [⟨a, 103, false, [⟨.slice a0 a0l a0c, .no, 0⟩, ⟨.map a1, .no, 0⟩, ⟨.map a2, .no, 0⟩, ⟨.int .i64 a3, .no, 0⟩]⟩] (bls1 ha) nod1 (plain_of rfl) (shs_of ⟨rfl, trivial, trivial, trivial, trivial⟩) h (by kernel_rfl)
end
end Go.Vx.Tryz
namespace Go.Vx
open Go Go.MapKept
section
def bornOk (ps : List (Int × Value × Nat)) (clock : Nat) : Prop := (ps.map (·.2.2)).Nodup ∧ ∀ p ∈ ps, p.2.2 < clock
def MapG (w : World) (r : Nat) (f : Int → Option Value) : Prop :=
  ∃ (ps : List (Int × Value × Nat)) (clock : Nat), w.heap[r]? = some (.map (ps.map entOf).toArray clock) ∧ (∀ k i, (findP k ps i).map (·.2) = f k) ∧ bornOk ps clock
theorem MapG.toF {w : World} {r : Nat} {f : Int → Option Value} (h : MapG w r f) : MapF w r f := by
  obtain ⟨ps, c, h1, h2, _⟩ := h; exact ⟨ps, c, h1, h2⟩
theorem MapG.lt {w : World} {r : Nat} {f : Int → Option Value} (h : MapG w r f) : r < w.heap.size := h.toF.lt
theorem MapG.upd {w w' : World} {r : Nat} {f : Int → Option Value} {S : Nat → Prop} (h : MapG w r f) (k : Upd w w' S) (hs : ¬ S r) : MapG w' r f := by
  obtain ⟨ps, c, h1, h2, h3⟩ := h
  exact ⟨ps, c, by rw [k.keep r (lt_of_get h1) hs]; exact h1, h2, h3⟩
def MapE (w : World) (r : Nat) (f : Int → Option Value) (k : Int) (st : Nat) : Prop :=
  ∃ (ps : List (Int × Value × Nat)) (clock j : Nat) (v0 : Value) (p : Int × Value × Nat), w.heap[r]? = some (.map (ps.map entOf).toArray clock) ∧ bornOk ps clock ∧ ps[j]? = some p ∧ p.1 = k ∧ p.2.2 = st ∧
    findP k ps 0 = some (j, v0) ∧ ∀ k', k' ≠ k → ∀ i, (findP k' ps i).map (·.2) = f k'
theorem MapE.lt {w : World} {r : Nat} {f : Int → Option Value} {k : Int} {st : Nat} (h : MapE w r f k st) : r < w.heap.size := by
  obtain ⟨ps, c, j, v0, p, h1, _⟩ := h; exact lt_of_get h1
theorem MapE.upd {w w' : World} {r : Nat} {f : Int → Option Value} {k : Int} {st : Nat} {S : Nat → Prop} (h : MapE w r f k st) (u : Upd w w' S) (hs : ¬ S r) : MapE w' r f k st := by
  obtain ⟨ps, c, j, v0, p, h1, h2⟩ := h
  exact ⟨ps, c, j, v0, p, by rw [u.keep r (lt_of_get h1) hs]; exact h1, h2⟩
theorem modify_same {k : Int} : ∀ (ps : List (Int × Value × Nat)) (j : Nat) {p : Int × Value × Nat}, ps[j]? = some p → p.1 = k → ps.modify j (fun q => (k, q.2.1, q.2.2)) = ps
  | [], j, p, h, _ => by simp at h
  | q :: ps, 0, p, h, hk => by
    simp at h; subst h; subst hk; rfl
  | q :: ps, j + 1, p, h, hk => by
    simp only [List.modify_succ_cons]
    rw [modify_same ps j (by simpa using h) hk]
theorem map_modify_key {k : Int} : ∀ (ps : List (Int × Value × Nat)) (j : Nat), (ps.map entOf).modify j (fun e => { e with key := .int .i64 k }) = (ps.modify j fun p => (k, p.2.1, p.2.2)).map entOf
  | [], j => by simp
  | p :: ps, 0 => by simp [entOf]
  | p :: ps, j + 1 => by simp [map_modify_key ps j]
theorem map_modify_val {v : Value} : ∀ (ps : List (Int × Value × Nat)) (j : Nat), (ps.map entOf).modify j (fun e => { e with val := v }) = (ps.modify j fun p => (p.1, v, p.2.2)).map entOf
  | [], j => by simp
  | p :: ps, 0 => by simp [entOf]
  | p :: ps, j + 1 => by simp [map_modify_val ps j]
theorem modify_born {v : Value} : ∀ (ps : List (Int × Value × Nat)) (j : Nat), (ps.modify j fun p => (p.1, v, p.2.2)).map (·.2.2) = ps.map (·.2.2)
  | [], j => by simp
  | p :: ps, 0 => by simp
  | p :: ps, j + 1 => by simp [modify_born ps j]
theorem modify_val_key {k : Int} {v : Value} : ∀ (ps : List (Int × Value × Nat)) (j : Nat) {p : Int × Value × Nat}, ps[j]? = some p → p.1 = k → ps.modify j (fun q => (q.1, v, q.2.2)) = ps.modify j (fun q => (k, v, q.2.2))
  | [], j, p, h, _ => by simp at h
  | q :: ps, 0, p, h, hk => by
    simp at h; subst h; subst hk; rfl
  | q :: ps, j + 1, p, h, hk => by
    simp only [List.modify_succ_cons]
    rw [modify_val_key ps j (by simpa using h) hk]
theorem born_find {ps : List (Int × Value × Nat)} {j : Nat} {p : Int × Value × Nat} (hn : (ps.map (·.2.2)).Nodup) (hj : ps[j]? = some p) : (ps.map entOf).findIdx? (fun e => (e.born : Int) == (p.2.2 : Int)) = some j := by
  obtain ⟨hl, he⟩ := List.getElem?_eq_some_iff.1 hj
  rw [List.findIdx?_eq_some_iff_getElem]
  refine ⟨by simpa using hl, by simp [entOf, he], fun i hi => ?_⟩
  have hil : i < ps.length := by omega
  simp only [List.getElem_map, entOf, beq_iff_eq, Int.natCast_inj]
  intro h
  have := List.pairwise_iff_getElem.1 hn i j (by simpa using hil) (by simpa using hl) hi
  apply this
  simp [h, he]
theorem findP_last {k : Int} {v : Value} {c : Nat} : ∀ (ps : List (Int × Value × Nat)) (i : Nat), findP k ps i = none → findP k (ps ++ [(k, v, c)]) i = some (i + ps.length, v)
  | [], i, _ => by simp [findP]
  | p :: ps, i, h => by
    simp only [findP] at h
    split at h
    · cases h
    · rename_i hk
      have := findP_last (k := k) (v := v) (c := c) ps (i + 1) h
      simp only [List.cons_append, findP, hk, Bool.false_eq_true, if_false, this]
      simp; omega
section
variable {P : Program} {t kt et : Nat} {zv : Value} {w : World} {r : Nat} {f : Int → Option Value}
theorem MapG.entry (T : MapT P t kt et zv) (h : MapG w r f) (k : Int) :
    RunsTo P (Instr.mapEntry t (.map (some r)) (.int .i64 k)) w (fun v w' => ∃ (u : Value) (st : Nat), v = .tuple #[u, .int .i64 st] ∧ MapE w' r f k st ∧ Upd w w' (fun x => x = r) ∧ w'.heap.size = w.heap.size) := by
  obtain ⟨ps, c, h1, h2, h3⟩ := h
  have hlt := lt_of_get h1
  have up : ∀ o : Obj, Upd w { w with heap := w.heap.setIfInBounds r o } (fun x => x = r) := fun o => ⟨rfl, rfl, rfl, by simp, fun k hk hS => by simp [Array.getElem?_setIfInBounds_ne (fun e => hS e.symm)]⟩
  have hset : ∀ o : Obj, (setObj r o).run P w = .ok () { w with heap := w.heap.setIfInBounds r o } := fun o => run_setObj_map o h1
  cases hq : findP k ps 0 with
  | none =>
    refine ⟨_, { w with heap := w.heap.setIfInBounds r (.map ((ps.map entOf).toArray.push (entOf (k, zv, c))) (c + 1)) }, ?_, zv, c, rfl, ⟨ps ++ [(k, zv, c)], c + 1, ps.length, zv, (k, zv, c), ?_, ⟨?_, ?_⟩, by simp, rfl, rfl, ?_, fun k' hk' i => ?_⟩, up _, by simp⟩
    · simp only [Instr.mapEntry, Sem.run_bind, run_underlying T.ht, Result.andThen_ok, run_get_map h1, run_check T.hk, run_find T.hk, hq, T.hz]
      rw [show ({ key := .int .i64 k, val := zv, born := c } : MapEntry) = entOf (k, zv, c) from rfl, hset]
      rfl
    · simp [hlt]
    · rw [List.map_append, List.nodup_append]
      refine ⟨h3.1, by simp, fun a ha b hb => ?_⟩
      obtain ⟨p, hp, rfl⟩ := List.mem_map.1 ha
      simp at hb; subst hb
      have := h3.2 p hp
      omega
    · intro p hp
      rcases List.mem_append.1 hp with hp | hp
      · have := h3.2 p hp; omega
      · simp at hp; subst hp; simp
    · have := findP_last (k := k) (v := zv) (c := c) ps 0 hq
      simpa using this
    · have := findP_push k zv c k' ps 0 hq i
      rw [this, if_neg hk', h2]
  | some q =>
    obtain ⟨j, v0⟩ := q
    have hj : j < ps.length := findP_lt k ps 0 (by rw [Nat.zero_add]; exact hq)
    have hkk : k = ps[j].1 := findP_key k ps 0 (by simpa using hq) hj
    have hgj : ps[j]? = some ps[j] := List.getElem?_eq_getElem hj
    refine ⟨_, { w with heap := w.heap.setIfInBounds r (.map (ps.map entOf).toArray c) }, ?_, v0, ps[j].2.2, rfl, ⟨ps, c, j, v0, ps[j], by simp [hlt], h3, hgj, hkk.symm, rfl, hq, fun k' _ i => h2 k' i⟩, up _, by simp⟩
    simp only [Instr.mapEntry, Sem.run_bind, run_underlying T.ht, Result.andThen_ok, run_get_map h1, run_check T.hk, run_find T.hk, hq]
    have hge : (ps.map entOf).toArray[j]? = some (entOf ps[j]) := by
      rw [List.getElem?_toArray, List.getElem?_map, hgj]; rfl
    rw [hge]
    have hst : (Instr.keyThatStays (.int .i64 k) (.int .i64 k)).run P w = .ok (.int .i64 k) w := by
      have hsb : Instr.sameBits 10000 (.int .i64 k) (.int .i64 k) = true := by simp [Instr.sameBits]
      simp [Instr.keyThatStays, hsb]
    have hen : (((some (entOf ps[j])).map (fun e : MapEntry => e.key)).getD (.int .i64 k)) = .int .i64 k := by
      show Value.int .i64 ps[j].1 = _
      rw [← hkk]
    rw [hen, hst, Result.andThen_ok]
    have hmo : (ps.map entOf).toArray.modify j (fun e => { e with key := .int .i64 k }) = (ps.map entOf).toArray := by
      rw [List.modify_toArray, map_modify_key, modify_same ps j hgj hkk.symm]
    have hse := hset (.map (ps.map entOf).toArray c)
    have : (fun e : MapEntry => ({ key := .int .i64 k, val := e.val, born := e.born } : MapEntry)) = (fun e => { e with key := .int .i64 k }) := rfl
    rw [hmo, hse]
    rfl
theorem MapE.store {k : Int} {st : Nat} (h : MapE w r f k st) (v : Value) :
    RunsU P (Instr.entryStore t (.map (some r)) (.int .i64 st) v) w (fun w' => MapG w' r (fun k' => if k' = k then some v else f k') ∧ Upd w w' (fun x => x = r) ∧ w'.heap.size = w.heap.size) := by
  obtain ⟨ps, c, j, v0, p, h1, h3, hp, hk, hst, hq, h2⟩ := h
  have hlt := lt_of_get h1
  have hset : ∀ o : Obj, (setObj r o).run P w = .ok () { w with heap := w.heap.setIfInBounds r o } := fun o => run_setObj_map o h1
  refine ⟨{ w with heap := w.heap.setIfInBounds r (.map ((ps.modify j fun p => (p.1, v, p.2.2)).map entOf).toArray c) }, ?_, ⟨ps.modify j fun p => (p.1, v, p.2.2), c, by simp [hlt], fun k' i => ?_, ⟨by rw [modify_born]; exact h3.1, fun q hq2 => ?_⟩⟩,
    ⟨rfl, rfl, rfl, by simp, fun k hk hS => by simp [Array.getElem?_setIfInBounds_ne (fun e => hS e.symm)]⟩, by simp⟩
  · have hf : (ps.map entOf).toArray.findIdx? (fun e => (e.born : Int) == (st : Int)) = some j := by
      rw [← hst, List.findIdx?_toArray]; exact born_find h3.1 hp
    simp only [Instr.entryStore, Sem.run_bind, run_get_map h1, Result.andThen_ok, asInt, asIntOf, Sem.run_pure, hf]
    rw [List.modify_toArray, map_modify_val, hset]
  · rw [modify_val_key ps j hp hk, findP_set k v k' ps 0 j v0 (by rw [Nat.zero_add]; exact hq) i]
    by_cases hkk : k' = k
    · simp [hkk, hq]
    · simp [hkk, h2 k' hkk]
  · have : q.2.2 ∈ ps.map (·.2.2) := by rw [← modify_born (v := v) ps j]; exact List.mem_map_of_mem hq2
    obtain ⟨p', hp', e⟩ := List.mem_map.1 this
    rw [← e]; exact h3.2 p' hp'
end
end
section
open Go
def KidV (w : World) (F : Nat → Prop) : Option Nd → Option Value → Prop
  | none, v => v = none
  | some x, v => ∃ A l c, v = some (ndA x A l c) ∧ NdsR w F x.kids A l c
structure LMem (w : World) (b g h : Nat) (zs : List Int) (C : Option Addr) (cc : Nat) (ks : List (Option Nd)) (ts : List Int) : Prop where
  hc : IntsR w (Fw b g h) zs C zs.length cc
  hk : ∃ f, MapG w g f ∧ ∀ (i : Nat) (x : Option Nd), ks[i]? = some x → KidV w (Fw b g h) x (f i)
  ht : ∃ f, MapG w h f ∧ ∀ (i : Nat) (y : Nd), ks[i]? = some (some y) → f i = some (.int .i64 (ts.getD i 0))
  kl : ks.length = zs.length
  tl : ts.length = zs.length
  bg : b ≠ g
  bh : b ≠ h
  gh : g ≠ h
def lcells (zs : List Int) (C : Option Addr) (cc g h : Nat) (st : WS) : Array Value :=
  #[.slice C zs.length cc, .map (some g), .map (some h), .int .i64 st.parts]
def Lst (w : World) (b g h : Nat) (zs : List Int) (C : Option Addr) (cc : Nat) (st : WS) : Prop :=
  w.heap[b]? = some (.cells (lcells zs C cc g h st) 103 (0, 0)) ∧ LMem w b g h zs C cc st.ks st.ts
def unfitCh : List PanicEntry := [PanicEntry.mk (Value.iface 98 (.agg (#[]))) false false]
def LR (b g h : Nat) (zs : List Int) (C : Option Addr) (cc : Nat) (w : World) (r : Option (Int × WS)) : Value → World → Prop :=
  fun v w' => ∃ p, r = some p ∧ v = .int .i64 p.1 ∧ Lst w' b g h zs C cc p.2 ∧ Upd w w' (S3 b g h)
def LU (b g h : Nat) (zs : List Int) (C : Option Addr) (cc : Nat) (w : World) (r : Option WS) : Value → World → Prop :=
  fun v w' => ∃ p, r = some p ∧ v = .tuple #[] ∧ Lst w' b g h zs C cc p ∧ Upd w w' (S3 b g h)
def LX {α : Type} (b g h : Nat) (w : World) (r : Option α) : ContX := fun ch w' => r = none ∧ ch = unfitCh ∧ Upd w w' (S3 b g h)
section
variable {w w' : World} {b g h : Nat} {zs : List Int} {C : Option Addr} {cc : Nat} {ks : List (Option Nd)} {ts : List Int} {S : Nat → Prop} {st : WS}
theorem KidV.upd {x : Option Nd} {v : Option Value} {F : Nat → Prop} (q : KidV w F x v) (k : Upd w w' S) (hs : ∀ b, F b → b < w.heap.size → ¬ S b) : KidV w' F x v := by
  cases x with
  | none => exact q
  | some x => obtain ⟨A, l, c, e, hA⟩ := q; exact ⟨A, l, c, e, hA.upd' k hs⟩
theorem LMem.lt (m : LMem w b g h zs C cc ks ts) : g < w.heap.size ∧ h < w.heap.size := by
  obtain ⟨_, ⟨f, hf, _⟩, ⟨f2, hf2, _⟩, _⟩ := m
  exact ⟨hf.lt, hf2.lt⟩
theorem LMem.upd (m : LMem w b g h zs C cc ks ts) (k : Upd w w' S) (hs : ∀ x, S x → x = b ∨ w.heap.size ≤ x) : LMem w' b g h zs C cc ks ts := by
  have hF : ∀ x, Fw b g h x → x < w.heap.size → ¬ S x := fun x hx hlt hS => by
    rcases hs x hS with e | e
    · exact hx (.inl e)
    · omega
  obtain ⟨lg, lh⟩ := m.lt
  obtain ⟨h1, ⟨f, h2, h3⟩, ⟨f2, h4, h5⟩, h6, h7, h8, h9, h10⟩ := m
  refine ⟨RowIn.upd' h1 k hF, ⟨f, h2.upd k fun hS => ?_, fun i x hx => (h3 i x hx).upd k hF⟩, ⟨f2, h4.upd k fun hS => ?_, h5⟩, h6, h7, h8, h9, h10⟩
  · rcases hs g hS with e | e
    · exact h8 e.symm
    · omega
  · rcases hs h hS with e | e
    · exact h9 e.symm
    · omega
theorem Lst.lt (q : Lst w b g h zs C cc st) : b < w.heap.size ∧ g < w.heap.size ∧ h < w.heap.size := ⟨lt_of_get q.1, q.2.lt⟩
theorem LMem.ext (m : LMem w b g h zs C cc ks ts) (k : Ext w w') : LMem w' b g h zs C cc ks ts := m.upd k (fun _ h => h.elim)
theorem Lst.ext (q : Lst w b g h zs C cc st) (k : Ext w w') : Lst w' b g h zs C cc st :=
  ⟨by rw [k.keep b (lt_of_get q.1) (fun h => h)]; exact q.1, q.2.ext k⟩
end
section
variable {P : Program} {f : Nat} {args : Array Value} {w0 w : World} {ids : List Nat} {b g h : Nat} {zs : List Int} {C : Option Addr} {cc : Nat}
theorem callL {α : Type} {r : Option (Int × WS)} {rc : Option α} (hc : CallsX P f args w (LR b g h zs C cc w r) (LX b g h w r)) (h0 : Upd w0 w (S3 b g h)) (haw : Away ids (S3 b g h)) (hn : r = none → rc = none)
    {K : Int → Option Addr → Nat → Nat → Option Nat → Option Nat → Int → World → Prop}
    (k : ∀ x st w2, r = some (x, st) → Lst w2 b g h zs C cc st → Upd w w2 (S3 b g h) → K x C zs.length cc (some g) (some h) st.parts w2) :
    ∃ (R : Value → World → Prop) (X' : ContX), CallsX P f args w R X' ∧ (∀ v w2, R v w2 → ∃ y, v = .int .i64 y ∧ ∃ S, Upd w w2 S ∧ Away ids S ∧ ∃ a1 n c1 r1 r2, ∃ x, w2.heap[b]? = some (Obj.cells #[.slice a1 n c1, .map r1, .map r2, .int .i64 x] 103) ∧ 4 = 4 ∧ K y a1 n c1 r1 r2 x w2) ∧ ∀ ch w2, X' ch w2 → LX b g h w0 rc ch w2 :=
  ⟨_, _, hc, fun _ w2 ⟨p, hp, hv, hw, hU⟩ => ⟨p.1, hv, _, hU, haw, _, _, _, _, _, _, hw.1, rfl, k p.1 p.2 w2 hp hw hU⟩, fun _ _ ⟨e, hch, hU⟩ => ⟨hn e, hch, h0.t3 hU⟩⟩
theorem callLU {α : Type} {r : Option WS} {rc : Option α} (hc : CallsX P f args w (LU b g h zs C cc w r) (LX b g h w r)) (h0 : Upd w0 w (S3 b g h)) (haw : Away ids (S3 b g h)) (hn : r = none → rc = none)
    {K : Option Addr → Nat → Nat → Option Nat → Option Nat → Int → World → Prop}
    (k : ∀ st w2, r = some st → Lst w2 b g h zs C cc st → Upd w w2 (S3 b g h) → K C zs.length cc (some g) (some h) st.parts w2) :
    ∃ (R : Value → World → Prop) (X' : ContX), CallsX P f args w R X' ∧ (∀ v w2, R v w2 → ∃ y : Value, v = y ∧ ∃ S, Upd w w2 S ∧ Away ids S ∧ ∃ a1 n c1 r1 r2, ∃ x, w2.heap[b]? = some (Obj.cells #[.slice a1 n c1, .map r1, .map r2, .int .i64 x] 103) ∧ 4 = 4 ∧ K a1 n c1 r1 r2 x w2) ∧ ∀ ch w2, X' ch w2 → LX b g h w0 rc ch w2 :=
  ⟨_, _, hc, fun v w2 ⟨p, hp, hv, hw, hU⟩ => ⟨v, rfl, _, hU, haw, _, _, _, _, _, _, hw.1, rfl, k p w2 hp hw hU⟩, fun _ _ ⟨e, hch, hU⟩ => ⟨hn e, hch, h0.t3 hU⟩⟩
end
end
end Go.Vx
namespace Go.Vx.Tryz
open Go Go.Vx Go.Proofs
section
set_option maxRecDepth 100000
theorem vc76 {a : Option Addr} {al ac : Nat}  {w : World} {R : Value → World → Prop} {X : ContX}  (h : 
 ∃ R1 X', CallsX E.P 108 #[.slice a al ac, Value.func (Fn.func 77) #[] #[]] w R1 X' ∧ (∀ v w2, R1 v w2 → ∃ x, v = .int .i64 x ∧ ∃ S, Upd w w2 S ∧ Away [] S ∧ R (.bool (decide (x ≥ 0))) w2) ∧ PX X' X
 ) : CallsX E.P 76 #[.slice a al ac, .func (.func 77) #[] #[]] w R X :=
  calls_vc E_ok ⟨[], []⟩ (f := 76) Tryz.func76 rfl [(.slice a al ac, .no), (.func (.func 77) #[] #[], .no)] [] (bls0) nod0 (plain_of rfl) (shs_of ⟨trivial, trivial, trivial⟩) h (by kernel_rfl)
theorem vc108 {a : Option Addr} {al ac : Nat}  {w : World} {R : Value → World → Prop} {X : ContX}  (h : 
 ∃ (I : Int → World → Prop), ∃ (m : Int → Nat), I 0 w ∧ ∀ (jk : Nat → Value) (x : Int) (w2 : World), I x w2 → (decide (x < (↑al : Int)) = true → (0 ≤ x ∧ x < (↑al : Int)) ∧ ∃ ad, a = some ad ∧ ∃ x1, CellsIn w2 (Addr.add ad (Int.toNat x * 1)) [.int .i64 x1] ∧ ∃ R1 X', CallsX E.P 77 #[.int .i64 x1] w2 R1 X' ∧ (∀ v w21, R1 v w21 → ∃ x2, v = .bool x2 ∧ ∃ S, Upd w2 w21 S ∧ Away [] S ∧ (x2 = true → R (.int .i64 x) w21) ∧ (x2 = false → I (w64 (x + 1)) w21 ∧ m (w64 (x + 1)) < m x)) ∧ PX X' X) ∧ (decide (x < (↑al : Int)) = false → R (.int .i64 (-1)) w2)
 ) : CallsX E.P 108 #[.slice a al ac, .func (.func 77) #[] #[]] w R X :=
  calls_vc E_ok ⟨[(2, ⟨[(8, .int .i64)], []⟩)], []⟩ (f := 108) Tryz.func108 rfl [(.slice a al ac, .no), (.func (.func 77) #[] #[], .no)] [] (bls0) nod0 (plain_of rfl) (shs_of ⟨trivial, trivial, trivial⟩) h (by kernel_rfl)
theorem vc77 {a : Int} {w : World} {R : Value → World → Prop} {X : ContX}  (h : 
 (decide (a < 0) = true → R (.bool true) w) ∧ (decide (a < 0) = false → R (.bool (decide (a > 4))) w)
 ) : CallsX E.P 77 #[.int .i64 a] w R X :=
  calls_vc E_ok ⟨[], []⟩ (f := 77) Tryz.func77 rfl [(.int .i64 a, .no)] [] (bls0) nod0 (plain_of rfl) (shs_of ⟨trivial, trivial⟩) h (by kernel_rfl)
theorem vc109 {a : Nat} {a0 : Option Addr} {a0l a0c : Nat} {a1 a2 : Option Nat} {a3 : Int} {b : Bool} {w : World} {R : Value → World → Prop} {X : ContX} (ha : w.heap[a]? = some (.cells #[.slice a0 a0l a0c, .map a1, .map a2, .int .i64 a3] 103 (0, 0))) (h : 
 ((!b) = true → X [PanicEntry.mk (Value.iface 98 (.agg #[])) false false] w) ∧ ((!b) = false → w.heap[a]? = some (.cells #[.slice a0 a0l a0c, Value.map a1, Value.map a2, .int .i64 a3] 103) → R (.tuple #[]) w)
 ) : CallsX E.P 109 #[.pointer (some ⟨a, 0, none⟩), .bool b] w R X :=
  calls_vc E_ok ⟨[], []⟩ (f := 109) Tryz.func109 rfl [(.pointer (some ⟨a, 0, none⟩), .ptr 0 0), (.bool b, .no)] [⟨a, 103, false, [⟨.slice a0 a0l a0c, .no, 0⟩, ⟨.map a1, .no, 0⟩, ⟨.map a2, .no, 0⟩, ⟨.int .i64 a3, .no, 0⟩]⟩] (bls1 ha) nod1 (plain_of rfl) (shs_of ⟨rfl, trivial, trivial⟩) h (by kernel_rfl)
theorem vc110 {a0 a1 : Int} {a2 : ByteArray} {a3 : Option Addr} {a3l a3c : Nat} {b : Int} {w : World} {R : Value → World → Prop} {X : ContX}  (h : 
 ∀ id, w.heap.size ≤ id → ∀ id1, w.heap.size ≤ id1 → ((a0 == 1) = true → ∀ w1, Upd w w1 (setOf []) → id < w1.heap.size → id1 < w1.heap.size → w1.heap[id1]? = some (.cells #[.int .i64 b] 3) → R (Value.iface 125 (.agg #[.int .i64 0, .int .i64 0, .int .i64 1, Value.func (Fn.func 127) #[] #[]])) w1) ∧ ((a0 == 1) = false → ((a0 == 2) = true → ∀ w11, Upd w w11 (setOf []) → id < w11.heap.size → id1 < w11.heap.size → w11.heap[id1]? = some (.cells #[.int .i64 b] 3) → R (Value.iface 125 (.agg #[.int .i64 0, .int .i64 0, .int .i64 2, Value.func (Fn.func 128) #[] #[]])) w11) ∧ ((a0 == 2) = false → ((a0 == 3) = true → ∀ w12, Upd w w12 (setOf []) → id < w12.heap.size → id1 < w12.heap.size → w12.heap[id1]? = some (.cells #[.int .i64 b] 3) → R (Value.iface 125 (.agg #[.int .i64 0, .int .i64 0, .int .i64 3, Value.func (Fn.func 129) #[] #[]])) w12) ∧ ((a0 == 3) = false → ((a0 == 5) = true → ∀ w13, Upd w w13 (setOf []) → id < w13.heap.size → id1 < w13.heap.size → w13.heap[id1]? = some (.cells #[.int .i64 b] 3) → R (Value.iface 125 (.agg #[.int .i64 0, .int .i64 0, .int .i64 3, Value.func (Fn.func 130) #[] #[.pointer (some ⟨id1, 0, none⟩)]])) w13) ∧ ((a0 == 5) = false → ((a0 == 6) = true → ∀ w14, Upd w w14 (setOf []) → id < w14.heap.size → id1 < w14.heap.size → w14.heap[id1]? = some (.cells #[.int .i64 b] 3) → R (Value.iface 125 (.agg #[.int .i64 1, .int .i64 1, .int .i64 1, Value.func (Fn.func 131) #[] #[]])) w14) ∧ ((a0 == 6) = false → ((a0 == 7) = true → ∀ w15, Upd w w15 (setOf []) → id < w15.heap.size → id1 < w15.heap.size → w15.heap[id1]? = some (.cells #[.int .i64 b] 3) → R (Value.iface 125 (.agg #[.int .i64 1, .int .i64 2, .int .i64 2, Value.func (Fn.func 131) #[] #[]])) w15) ∧ ((a0 == 7) = false → ((a0 == 8) = true → ∀ w16, Upd w w16 (setOf []) → id < w16.heap.size → id1 < w16.heap.size → w16.heap[id1]? = some (.cells #[.int .i64 b] 3) → R (Value.iface 125 (.agg #[.int .i64 2, .int .i64 1, .int .i64 1, Value.func (Fn.func 131) #[] #[]])) w16) ∧ ((a0 == 8) = false → ((a0 == 9) = true → ∀ w17, Upd w w17 (setOf []) → id < w17.heap.size → id1 < w17.heap.size → w17.heap[id1]? = some (.cells #[.int .i64 b] 3) → R (Value.iface 125 (.agg #[.int .i64 2, .int .i64 1, .int .i64 1, Value.func (Fn.func 131) #[] #[]])) w17) ∧ ((a0 == 9) = false → ((a0 == 10) = true → ∀ w18, Upd w w18 (setOf []) → id < w18.heap.size → id1 < w18.heap.size → w18.heap[id1]? = some (.cells #[.int .i64 b] 3) → R (Value.iface 125 (.agg #[.int .i64 2, .int .i64 1, .int .i64 1, Value.func (Fn.func 131) #[] #[]])) w18) ∧ ((a0 == 10) = false → ((a0 == 11) = true → ∀ w19, Upd w w19 (setOf []) → id < w19.heap.size → id1 < w19.heap.size → w19.heap[id1]? = some (.cells #[.int .i64 b] 3) → R (Value.iface 125 (.agg #[.int .i64 2, .int .i64 1, .int .i64 1, Value.func (Fn.func 131) #[] #[]])) w19) ∧ ((a0 == 11) = false → ((a0 == 12) = true → ∀ w110, Upd w w110 (setOf []) → id < w110.heap.size → id1 < w110.heap.size → w110.heap[id1]? = some (.cells #[.int .i64 b] 3) → R (Value.iface 125 (.agg #[.int .i64 2, .int .i64 1, .int .i64 1, Value.func (Fn.func 131) #[] #[]])) w110) ∧ ((a0 == 12) = false → ((a0 == 15) = true → ∀ w111, Upd w w111 (setOf []) → id < w111.heap.size → id1 < w111.heap.size → w111.heap[id1]? = some (.cells #[.int .i64 b] 3) → R (Value.iface 125 (.agg #[.int .i64 2, .int .i64 1, .int .i64 2, Value.func (Fn.func 131) #[] #[]])) w111) ∧ ((a0 == 15) = false → ((a0 == 16) = true → ∀ w112, Upd w w112 (setOf []) → id < w112.heap.size → id1 < w112.heap.size → w112.heap[id1]? = some (.cells #[.int .i64 b] 3) → R (Value.iface 125 (.agg #[.int .i64 2, .int .i64 1, .int .i64 2, Value.func (Fn.func 131) #[] #[]])) w112) ∧ ((a0 == 16) = false → ((a0 == 17) = true → ∀ w113, Upd w w113 (setOf []) → id < w113.heap.size → id1 < w113.heap.size → w113.heap[id1]? = some (.cells #[.int .i64 b] 3) → R (Value.iface 125 (.agg #[.int .i64 2, .int .i64 2, .int .i64 2, Value.func (Fn.func 131) #[] #[]])) w113) ∧ ((a0 == 17) = false → ((a0 == 18) = true → ∀ w114, Upd w w114 (setOf []) → id < w114.heap.size → id1 < w114.heap.size → w114.heap[id1]? = some (.cells #[.int .i64 b] 3) → R (Value.iface 125 (.agg #[.int .i64 2, .int .i64 2, .int .i64 2, Value.func (Fn.func 131) #[] #[]])) w114) ∧ ((a0 == 18) = false → ((a0 == 13) = true → ∀ w115, Upd w w115 (setOf []) → id < w115.heap.size → id1 < w115.heap.size → w115.heap[id1]? = some (.cells #[.int .i64 b] 3) → R (Value.iface 128 (.agg #[.int .i64 2, Value.func (Fn.func 132) #[] #[]])) w115) ∧ ((a0 == 13) = false → ((a0 == 14) = true → ∀ w116, Upd w w116 (setOf []) → id < w116.heap.size → id1 < w116.heap.size → w116.heap[id1]? = some (.cells #[.int .i64 b] 3) → R (Value.iface 128 (.agg #[.int .i64 2, Value.func (Fn.func 132) #[] #[]])) w116) ∧ ((a0 == 14) = false → ((a0 == 19) = true → ∀ w117, Upd w w117 (setOf []) → id < w117.heap.size → id1 < w117.heap.size → w117.heap[id1]? = some (.cells #[.int .i64 b] 3) → R (Value.iface 128 (.agg #[.int .i64 3, Value.func (Fn.func 133) #[] #[]])) w117) ∧ ((a0 == 19) = false → ((a0 == 20) = true → ((a1 == 1) = true → ∀ w118, Upd w w118 (setOf []) → id < w118.heap.size → id1 < w118.heap.size → w118.heap[id1]? = some (.cells #[.int .i64 b] 3) → R (Value.iface 125 (.agg #[.int .i64 2, .int .i64 3, .int .i64 2, Value.func (Fn.func 127) #[] #[]])) w118) ∧ ((a1 == 1) = false → ((a1 == 2) = true → ∀ w119, Upd w w119 (setOf []) → id < w119.heap.size → id1 < w119.heap.size → w119.heap[id1]? = some (.cells #[.int .i64 b] 3) → R (Value.iface 125 (.agg #[.int .i64 2, .int .i64 3, .int .i64 2, Value.func (Fn.func 127) #[] #[]])) w119) ∧ ((a1 == 2) = false → ((a1 == 3) = true → ∀ w120, Upd w w120 (setOf []) → id < w120.heap.size → id1 < w120.heap.size → w120.heap[id1]? = some (.cells #[.int .i64 b] 3) → R (Value.iface 125 (.agg #[.int .i64 2, .int .i64 3, .int .i64 1, Value.func (Fn.func 127) #[] #[]])) w120) ∧ ((a1 == 3) = false → ((a1 == 10) = true → ∀ w121, Upd w w121 (setOf []) → id < w121.heap.size → id1 < w121.heap.size → w121.heap[id1]? = some (.cells #[.int .i64 b] 3) → R (Value.iface 125 (.agg #[.int .i64 1, .int .i64 3, .int .i64 3, Value.func (Fn.func 127) #[] #[]])) w121) ∧ ((a1 == 10) = false → ∀ w122, Upd w w122 (setOf []) → id < w122.heap.size → id1 < w122.heap.size → w122.heap[id1]? = some (.cells #[.int .i64 b] 3) → R (Value.iface 125 (.agg #[.int .i64 1, .int .i64 3, .int .i64 1, Value.func (Fn.func 134) #[] #[]])) w122))))) ∧ ((a0 == 20) = false → ((a0 == 21) = true → ∀ w123, Upd w w123 (setOf []) → id < w123.heap.size → id1 < w123.heap.size → w123.heap[id1]? = some (.cells #[.int .i64 b] 3) → R (Value.iface 128 (.agg #[.int .i64 2, Value.func (Fn.func 135) #[] #[]])) w123) ∧ ((a0 == 21) = false → ((a0 == 26) = true → ∀ w124, Upd w w124 (setOf []) → id < w124.heap.size → id1 < w124.heap.size → w124.heap[id1]? = some (.cells #[.int .i64 b] 3) → R (Value.iface 128 (.agg #[.int .i64 1, Value.func (Fn.func 136) #[] #[]])) w124) ∧ ((a0 == 26) = false → ∀ w125, Upd w w125 (setOf []) → id < w125.heap.size → id1 < w125.heap.size → w125.heap[id1]? = some (.cells #[.int .i64 b] 3) → R Value.nilIface w125)))))))))))))))))))))
 ) : CallsX E.P 110 #[.agg #[.int .i64 a0, .int .i64 a1, .string a2, .slice a3 a3l a3c], .int .i64 b] w R X :=
  calls_vc E_ok ⟨[(400001, ⟨[], []⟩)], []⟩ (f := 110) Tryz.func110 rfl [(.agg #[.int .i64 a0, .int .i64 a1, .string a2, .slice a3 a3l a3c], .no), (.int .i64 b, .no)] [] (bls0) nod0 (plain_of rfl) (shs_of ⟨trivial, trivial, trivial⟩) h (by kernel_rfl)
theorem vc137 {a : Nat} {a0 : Option Addr} {a0l a0c : Nat} {a1 a2 : Option Nat} {a3 b0 b1 : Int} {b2 : ByteArray} {b3 : Option Addr} {b3l b3c : Nat} {c d e : Int} {w : World} {R : Value → World → Prop} {X : ContX} (ha : w.heap[a]? = some (.cells #[.slice a0 a0l a0c, .map a1, .map a2, .int .i64 a3] 103 (0, 0))) (h : 
 ∀ id, w.heap.size ≤ id → ∀ w1, Upd w w1 (setOf []) → id < w1.heap.size → w1.heap[a]? = some (.cells #[.slice a0 a0l a0c, Value.map a1, Value.map a2, .int .i64 a3] 103) → ∃ R1 X', CallsX E.P 79 #[.pointer (some ⟨a, 0, none⟩), .agg #[.int .i64 b0, .int .i64 b1, .string b2, .slice b3 b3l b3c], .int .i64 d, .int .i64 e] w1 R1 X' ∧ (∀ v w2, R1 v w2 → ∃ x, v = .int .i64 x ∧ ∃ S, Upd w1 w2 S ∧ Away [id] S ∧ ∃ a1 n, ∃ c1 r, ∃ r1 x1, w2.heap[a]? = some (.cells #[.slice a1 n c1, Value.map r, Value.map r1, .int .i64 x1] 103) ∧ 4 = 4 ∧ (w2.heap[a]? = some (.cells #[.slice a1 n c1, Value.map r, Value.map r1, .int .i64 x1] 103) → ∃ R2 X'1, CallsX E.P 109 #[.pointer (some ⟨a, 0, none⟩), .bool (x == c)] w2 R2 X'1 ∧ (∀ v1 w21, R2 v1 w21 → ∃ (v2 : Value), v1 = v2 ∧ ∃ S1, Upd w2 w21 S1 ∧ Away [id] S1 ∧ ∃ a2 n1, ∃ c2 r2, ∃ r3 x2, w21.heap[a]? = some (.cells #[.slice a2 n1 c2, Value.map r2, Value.map r3, .int .i64 x2] 103) ∧ 4 = 4 ∧ (w21.heap[a]? = some (.cells #[.slice a2 n1 c2, Value.map r2, Value.map r3, .int .i64 x2] 103) → R (.tuple #[]) w21)) ∧ PX X'1 X)) ∧ PX X' X
 ) : CallsX E.P 137 #[.pointer (some ⟨a, 0, none⟩), .agg #[.int .i64 b0, .int .i64 b1, .string b2, .slice b3 b3l b3c], .int .i64 c, .int .i64 d, .int .i64 e] w R X :=
  calls_vc E_ok ⟨[], []⟩ (f := 137) Tryz.func137 rfl [(.pointer (some ⟨a, 0, none⟩), .ptr 0 0), (.agg #[.int .i64 b0, .int .i64 b1, .string b2, .slice b3 b3l b3c], .no), (.int .i64 c, .no), (.int .i64 d, .no), (.int .i64 e, .no)] [⟨a, 103, false, [⟨.slice a0 a0l a0c, .no, 0⟩, ⟨.map a1, .no, 0⟩, ⟨.map a2, .no, 0⟩, ⟨.int .i64 a3, .no, 0⟩]⟩] (bls1 ha) nod1 (plain_of rfl) (shs_of ⟨rfl, trivial, trivial, trivial, trivial, trivial⟩) h (by kernel_rfl)
theorem vc149 {a : Nat} {a0 : Option Addr} {a0l a0c : Nat} {a1 a2 : Option Nat} {a3 b0 b1 : Int} {b2 : ByteArray} {b3 : Option Addr} {b3l b3c : Nat} {c d : Int} {w : World} {R : Value → World → Prop} {X : ContX} (ha : w.heap[a]? = some (.cells #[.slice a0 a0l a0c, .map a1, .map a2, .int .i64 a3] 103 (0, 0))) (h : 
 ∀ id, w.heap.size ≤ id → ∃ (I : Option Addr → Nat → Nat → Option Nat → Option Nat → Int → World → Prop), ((decide (w64 (a3 + 1) ≤ 4096) = true → ∀ w1, Upd w w1 (setOf [a]) → id < w1.heap.size → w1.heap[a]? = some (.cells #[.slice a0 a0l a0c, Value.map a1, Value.map a2, .int .i64 (w64 (a3 + 1))] 103) → ∃ R1 X', CallsX E.P 109 #[.pointer (some ⟨a, 0, none⟩), .bool (b1 == 0)] w1 R1 X' ∧ (∀ v w2, R1 v w2 → ∃ (v1 : Value), v = v1 ∧ ∃ S, Upd w1 w2 S ∧ Away [id] S ∧ ∃ a1 n, ∃ c1 r, ∃ r1 x, w2.heap[a]? = some (.cells #[.slice a1 n c1, Value.map r, Value.map r1, .int .i64 x] 103) ∧ 4 = 4 ∧ I a1 n c1 r r1 x w2) ∧ PX X' X) ∧ (decide (w64 (a3 + 1) ≤ 4096) = false → ∀ w11, Upd w w11 (setOf [a]) → id < w11.heap.size → w11.heap[a]? = some (.cells #[.slice a0 a0l a0c, Value.map a1, Value.map a2, .int .i64 (w64 (a3 + 1))] 103) → ∃ R2 X'1, CallsX E.P 109 #[.pointer (some ⟨a, 0, none⟩), .bool false] w11 R2 X'1 ∧ (∀ v2 w22, R2 v2 w22 → ∃ (v3 : Value), v2 = v3 ∧ ∃ S1, Upd w11 w22 S1 ∧ Away [id] S1 ∧ ∃ a2 n1, ∃ c2 r2, ∃ r3 x1, w22.heap[a]? = some (.cells #[.slice a2 n1 c2, Value.map r2, Value.map r3, .int .i64 x1] 103) ∧ 4 = 4 ∧ I a2 n1 c2 r2 r3 x1 w22) ∧ PX X'1 X)) ∧ ∀ (jk : Nat → Value) (a3 : Option Addr) (n2 c3 : Nat) (r4 r5 : Option Nat) (x2 : Int) (w24 : World), I a3 n2 c3 r4 r5 x2 w24 → ∃ (I1 : Option Addr → Nat → Nat → Option Nat → Option Nat → Int → World → Prop), (((b0 == 23) = true → ∃ R3 X'2, CallsX E.P 156 #[.string b2] w24 R3 X'2 ∧ (∀ v4 w25, R3 v4 w25 → ∃ x3, v4 = .bool x3 ∧ ∃ S2, Upd w24 w25 S2 ∧ Away [a, id] S2 ∧ (x3 = true → w25.heap[a]? = some (.cells #[.slice a3 n2 c3, Value.map r4, Value.map r5, .int .i64 x2] 103) → ∃ R4 X'3, CallsX E.P 109 #[.pointer (some ⟨a, 0, none⟩), .bool ((↑b3l : Int) == 0)] w25 R4 X'3 ∧ (∀ v5 w26, R4 v5 w26 → ∃ (v6 : Value), v5 = v6 ∧ ∃ S3, Upd w25 w26 S3 ∧ Away [id] S3 ∧ ∃ a4 n3, ∃ c4 r6, ∃ r7 x4, w26.heap[a]? = some (.cells #[.slice a4 n3 c4, Value.map r6, Value.map r7, .int .i64 x4] 103) ∧ 4 = 4 ∧ (w26.heap[a]? = some (.cells #[.slice a4 n3 c4, Value.map r6, Value.map r7, .int .i64 x4] 103) → R (.tuple #[]) w26)) ∧ PX X'3 X) ∧ (x3 = false → w25.heap[a]? = some (.cells #[.slice a3 n2 c3, Value.map r4, Value.map r5, .int .i64 x2] 103) → ∃ R5 X'4, CallsX E.P 109 #[.pointer (some ⟨a, 0, none⟩), .bool false] w25 R5 X'4 ∧ (∀ v7 w28, R5 v7 w28 → ∃ (v8 : Value), v7 = v8 ∧ ∃ S4, Upd w25 w28 S4 ∧ Away [id] S4 ∧ ∃ a5 n4, ∃ c5 r8, ∃ r9 x5, w28.heap[a]? = some (.cells #[.slice a5 n4 c5, Value.map r8, Value.map r9, .int .i64 x5] 103) ∧ 4 = 4 ∧ (w28.heap[a]? = some (.cells #[.slice a5 n4 c5, Value.map r8, Value.map r9, .int .i64 x5] 103) → R (.tuple #[]) w28)) ∧ PX X'4 X)) ∧ PX X'2 X) ∧ ((b0 == 23) = false → ((b0 == 22) = true → w24.heap[a]? = some (.cells #[.slice a3 n2 c3, Value.map r4, Value.map r5, .int .i64 x2] 103) → ∃ R6 X'5, CallsX E.P 109 #[.pointer (some ⟨a, 0, none⟩), .bool ((↑b3l : Int) == 0)] w24 R6 X'5 ∧ (∀ v9 w211, R6 v9 w211 → ∃ (v10 : Value), v9 = v10 ∧ ∃ S5, Upd w24 w211 S5 ∧ Away [id] S5 ∧ ∃ a6 n5, ∃ c6 r10, ∃ r11 x6, w211.heap[a]? = some (.cells #[.slice a6 n5 c6, Value.map r10, Value.map r11, .int .i64 x6] 103) ∧ 4 = 4 ∧ I1 a6 n5 c6 r10 r11 x6 w211) ∧ PX X'5 X) ∧ ((b0 == 22) = false → ((b0 == 24) = true → w24.heap[a]? = some (.cells #[.slice a3 n2 c3, Value.map r4, Value.map r5, .int .i64 x2] 103) → ∃ R7 X'6, CallsX E.P 109 #[.pointer (some ⟨a, 0, none⟩), .bool ((↑b3l : Int) == 1)] w24 R7 X'6 ∧ (∀ v11 w213, R7 v11 w213 → ∃ (v12 : Value), v11 = v12 ∧ ∃ S6, Upd w24 w213 S6 ∧ Away [id] S6 ∧ ∃ a7 n6, ∃ c7 r12, ∃ r13 x7, w213.heap[a]? = some (.cells #[.slice a7 n6 c7, Value.map r12, Value.map r13, .int .i64 x7] 103) ∧ 4 = 4 ∧ I1 a7 n6 c7 r12 r13 x7 w213) ∧ PX X'6 X) ∧ ((b0 == 24) = false → ((b0 == 25) = true → I1 a3 n2 c3 r4 r5 x2 w24) ∧ ((b0 == 25) = false → w24.heap[a]? = some (.cells #[.slice a3 n2 c3, Value.map r4, Value.map r5, .int .i64 x2] 103) → ∃ R8 X'7, CallsX E.P 109 #[.pointer (some ⟨a, 0, none⟩), .bool false] w24 R8 X'7 ∧ (∀ v13 w215, R8 v13 w215 → ∃ (v14 : Value), v13 = v14 ∧ ∃ S7, Upd w24 w215 S7 ∧ Away [id] S7 ∧ ∃ a8 n7, ∃ c8 r14, ∃ r15 x8, w215.heap[a]? = some (.cells #[.slice a8 n7 c8, Value.map r14, Value.map r15, .int .i64 x8] 103) ∧ 4 = 4 ∧ I1 a8 n7 c8 r14 r15 x8 w215) ∧ PX X'7 X))))) ∧ ∀ (jk1 : Nat → Value) (a9 : Option Addr) (n8 c9 : Nat) (r16 r17 : Option Nat) (x9 : Int) (w217 : World), I1 a9 n8 c9 r16 r17 x9 w217 → w217.heap[a]? = some (.cells #[.slice a9 n8 c9, Value.map r16, Value.map r17, .int .i64 x9] 103) → ∃ R9 X'8, CallsX E.P 109 #[.pointer (some ⟨a, 0, none⟩), .bool (strEq b2 (ByteArray.mk #[]))] w217 R9 X'8 ∧ (∀ v15 w218, R9 v15 w218 → ∃ (v16 : Value), v15 = v16 ∧ ∃ S8, Upd w217 w218 S8 ∧ Away [id] S8 ∧ ∃ a10 n9, ∃ c10 r18, ∃ r19 x10, w218.heap[a]? = some (.cells #[.slice a10 n9 c10, Value.map r18, Value.map r19, .int .i64 x10] 103) ∧ 4 = 4 ∧ ∃ (I2 : Int → Option Addr → Nat → Nat → Option Nat → Option Nat → Int → World → Prop), ∃ (m : Int → Option Addr → Nat → Nat → Option Nat → Option Nat → Int → Nat), I2 0 a10 n9 c10 r18 r19 x10 w218 ∧ ∀ (jk2 : Nat → Value) (x11 : Int) (a11 : Option Addr) (n10 c11 : Nat) (r20 r21 : Option Nat) (x12 : Int) (w219 : World), I2 x11 a11 n10 c11 r20 r21 x12 w219 → (decide (x11 < (↑b3l : Int)) = true → (0 ≤ x11 ∧ x11 < (↑b3l : Int)) ∧ ∃ ad, b3 = some ad ∧ ∃ x13 x14, ∃ x15 a12, ∃ n11 c12, CellsIn w219 (Addr.add ad (Int.toNat x11 * 4)) [.int .i64 x13, .int .i64 x14, .string x15, .slice a12 n11 c12] ∧ ∀ id1, w219.heap.size ≤ id1 → ∀ w12, Upd w219 w12 (setOf []) → id1 < w12.heap.size → w12.heap[a]? = some (.cells #[.slice a11 n10 c11, Value.map r20, Value.map r21, .int .i64 x12] 103) → ∃ R10 X'9, CallsX E.P 137 #[.pointer (some ⟨a, 0, none⟩), .agg #[.int .i64 x13, .int .i64 x14, .string x15, .slice a12 n11 c12], .int .i64 3, .int .i64 c, .int .i64 d] w12 R10 X'9 ∧ (∀ v17 w220, R10 v17 w220 → ∃ (v18 : Value), v17 = v18 ∧ ∃ S9, Upd w12 w220 S9 ∧ Away [id, id1] S9 ∧ ∃ a13 n12, ∃ c13 r22, ∃ r23 x16, w220.heap[a]? = some (.cells #[.slice a13 n12 c13, Value.map r22, Value.map r23, .int .i64 x16] 103) ∧ 4 = 4 ∧ I2 (w64 (x11 + 1)) a13 n12 c13 r22 r23 x16 w220 ∧ m (w64 (x11 + 1)) a13 n12 c13 r22 r23 x16 < m x11 a11 n10 c11 r20 r21 x12) ∧ PX X'9 X) ∧ (decide (x11 < (↑b3l : Int)) = false → w219.heap[a]? = some (.cells #[.slice a11 n10 c11, Value.map r20, Value.map r21, .int .i64 x12] 103) → R (.tuple #[]) w219)) ∧ PX X'8 X
 ) : CallsX E.P 149 #[.pointer (some ⟨a, 0, none⟩), .agg #[.int .i64 b0, .int .i64 b1, .string b2, .slice b3 b3l b3c], .int .i64 c, .int .i64 d] w R X :=
  calls_vc E_ok ⟨[(14, ⟨[(72, .int .i64)], [(0, 0, .slc), (0, 1, .map), (0, 2, .map), (0, 3, .int .i64)]⟩)], [(3, ⟨[], [(0, 0, .slc), (0, 1, .map), (0, 2, .map), (0, 3, .int .i64)]⟩), (12, ⟨[], [(0, 0, .slc), (0, 1, .map), (0, 2, .map), (0, 3, .int .i64)]⟩)]⟩ (f := 149) Tryz.func149 rfl [(.pointer (some ⟨a, 0, none⟩), .ptr 0 0), (.agg #[.int .i64 b0, .int .i64 b1, .string b2, .slice b3 b3l b3c], .no), (.int .i64 c, .no), (.int .i64 d, .no)] [⟨a, 103, false, [⟨.slice a0 a0l a0c, .no, 0⟩, ⟨.map a1, .no, 0⟩, ⟨.map a2, .no, 0⟩, ⟨.int .i64 a3, .no, 0⟩]⟩] (bls1 ha) nod1 (plain_of rfl) (shs_of ⟨rfl, trivial, trivial, trivial, trivial⟩) h (by kernel_rfl)
theorem vc156 {a : ByteArray} {w : World} {R : Value → World → Prop} {X : ContX}  (h : 
 ∃ R1, RunsTo E.P (Instr.range 9 (.string a)) w R1 ∧ ∀ v w2, R1 v w2 → ∃ (v1 : Value), v = v1 ∧ ∃ S, Upd w w2 S ∧ Away [] S ∧ ∃ (I : Nat → World → Prop), ∃ n0, I n0 w2 ∧ ∀ (n : Nat) (jk : Nat → Value) (w21 : World), I n w21 → ∃ R2, RunsTo E.P (Instr.next v1 true 0) w21 R2 ∧ ∀ v2 w22, R2 v2 w22 → ∃ S1, Upd w21 w22 S1 ∧ Away [] S1 ∧ (v2 = .tuple #[.bool false] ∧ (false = true → False) ∧ (false = false → (decide ((↑(ByteArray.size a) : Int) ≥ 1) = true → (decide ((↑(ByteArray.size a) : Int) ≤ 12) = true → ∃ R3 X', CallsX E.P 159 #[.string a] w22 R3 X' ∧ (∀ v3 w23, R3 v3 w23 → ∃ x, v3 = .bool x ∧ ∃ S2, Upd w22 w23 S2 ∧ Away [] S2 ∧ R (.bool !x) w23) ∧ PX X' X) ∧ (decide ((↑(ByteArray.size a) : Int) ≤ 12) = false → R (.bool false) w22)) ∧ (decide ((↑(ByteArray.size a) : Int) ≥ 1) = false → R (.bool false) w22)) ∨ ∃ i r, v2 = .tuple #[.bool true, .int .i64 i, Value.int IntKind.i32 r] ∧ (true = true → ∃ R4 X'1, CallsX E.P 158 #[Value.int IntKind.i32 r] w22 R4 X'1 ∧ (∀ v4 w25, R4 v4 w25 → ∃ x1, v4 = .int .i64 x1 ∧ ∃ S3, Upd w22 w25 S3 ∧ Away [] S3 ∧ ((x1 != 3) = true → ((i == 0) = true → R (.bool false) w25) ∧ ((i == 0) = false → ((x1 != 2) = true → ((x1 != 5) = true → R (.bool false) w25) ∧ ((x1 != 5) = false → ∃ n2, I n2 w25 ∧ n2 < n)) ∧ ((x1 != 2) = false → ∃ n21, I n21 w25 ∧ n21 < n))) ∧ ((x1 != 3) = false → ∃ n22, I n22 w25 ∧ n22 < n)) ∧ PX X'1 X) ∧ (true = false → (decide ((↑(ByteArray.size a) : Int) ≥ 1) = true → (decide ((↑(ByteArray.size a) : Int) ≤ 12) = true → ∃ R5 X'2, CallsX E.P 159 #[.string a] w22 R5 X'2 ∧ (∀ v5 w27, R5 v5 w27 → ∃ x2, v5 = .bool x2 ∧ ∃ S4, Upd w22 w27 S4 ∧ Away [] S4 ∧ R (.bool !x2) w27) ∧ PX X'2 X) ∧ (decide ((↑(ByteArray.size a) : Int) ≤ 12) = false → R (.bool false) w22)) ∧ (decide ((↑(ByteArray.size a) : Int) ≥ 1) = false → R (.bool false) w22)))
 ) : CallsX E.P 156 #[.string a] w R X :=
  calls_vc E_ok ⟨[(2, ⟨[], []⟩), (200002, ⟨[], []⟩)], []⟩ (f := 156) Tryz.func156 rfl [(.string a, .no)] [] (bls0) nod0 (plain_of rfl) (shs_of ⟨trivial, trivial⟩) h (by kernel_rfl)
theorem vc158 {a : Int} {w : World} {R : Value → World → Prop} {X : ContX}  (h : 
 (decide (a ≥ 48) = true → (decide (a ≤ 57) = true → R (.int .i64 2) w) ∧ (decide (a ≤ 57) = false → (decide (a ≥ 97) = true → (decide (a ≤ 122) = true → R (.int .i64 3) w) ∧ (decide (a ≤ 122) = false → (decide (a ≥ 65) = true → (decide (a ≤ 90) = true → R (.int .i64 4) w) ∧ (decide (a ≤ 90) = false → ((a == 95) = true → R (.int .i64 5) w) ∧ ((a == 95) = false → ((a == 32) = true → R (.int .i64 1) w) ∧ ((a == 32) = false → ((a == 9) = true → R (.int .i64 1) w) ∧ ((a == 9) = false → ((a == 10) = true → R (.int .i64 1) w) ∧ ((a == 10) = false → ((a == 13) = true → R (.int .i64 1) w) ∧ ((a == 13) = false → (decide (a < 128) = true → ∃ R1 X', CallsX E.P 161 #[.string (ByteArray.mk #[40, 41, 123, 125, 44, 58, 64, 43, 45, 42, 47, 37, 61, 60, 33]), Value.int IntKind.i32 a] w R1 X' ∧ (∀ v w2, R1 v w2 → ∃ x, v = .bool x ∧ ∃ S, Upd w w2 S ∧ Away [] S ∧ (x = true → R (.int .i64 6) w2) ∧ (x = false → R (.int .i64 0) w2)) ∧ PX X' X) ∧ (decide (a < 128) = false → R (.int .i64 0) w)))))))) ∧ (decide (a ≥ 65) = false → ((a == 95) = true → R (.int .i64 5) w) ∧ ((a == 95) = false → ((a == 32) = true → R (.int .i64 1) w) ∧ ((a == 32) = false → ((a == 9) = true → R (.int .i64 1) w) ∧ ((a == 9) = false → ((a == 10) = true → R (.int .i64 1) w) ∧ ((a == 10) = false → ((a == 13) = true → R (.int .i64 1) w) ∧ ((a == 13) = false → (decide (a < 128) = true → ∃ R2 X'1, CallsX E.P 161 #[.string (ByteArray.mk #[40, 41, 123, 125, 44, 58, 64, 43, 45, 42, 47, 37, 61, 60, 33]), Value.int IntKind.i32 a] w R2 X'1 ∧ (∀ v1 w22, R2 v1 w22 → ∃ x1, v1 = .bool x1 ∧ ∃ S1, Upd w w22 S1 ∧ Away [] S1 ∧ (x1 = true → R (.int .i64 6) w22) ∧ (x1 = false → R (.int .i64 0) w22)) ∧ PX X'1 X) ∧ (decide (a < 128) = false → R (.int .i64 0) w))))))))) ∧ (decide (a ≥ 97) = false → (decide (a ≥ 65) = true → (decide (a ≤ 90) = true → R (.int .i64 4) w) ∧ (decide (a ≤ 90) = false → ((a == 95) = true → R (.int .i64 5) w) ∧ ((a == 95) = false → ((a == 32) = true → R (.int .i64 1) w) ∧ ((a == 32) = false → ((a == 9) = true → R (.int .i64 1) w) ∧ ((a == 9) = false → ((a == 10) = true → R (.int .i64 1) w) ∧ ((a == 10) = false → ((a == 13) = true → R (.int .i64 1) w) ∧ ((a == 13) = false → (decide (a < 128) = true → ∃ R3 X'2, CallsX E.P 161 #[.string (ByteArray.mk #[40, 41, 123, 125, 44, 58, 64, 43, 45, 42, 47, 37, 61, 60, 33]), Value.int IntKind.i32 a] w R3 X'2 ∧ (∀ v2 w24, R3 v2 w24 → ∃ x2, v2 = .bool x2 ∧ ∃ S2, Upd w w24 S2 ∧ Away [] S2 ∧ (x2 = true → R (.int .i64 6) w24) ∧ (x2 = false → R (.int .i64 0) w24)) ∧ PX X'2 X) ∧ (decide (a < 128) = false → R (.int .i64 0) w)))))))) ∧ (decide (a ≥ 65) = false → ((a == 95) = true → R (.int .i64 5) w) ∧ ((a == 95) = false → ((a == 32) = true → R (.int .i64 1) w) ∧ ((a == 32) = false → ((a == 9) = true → R (.int .i64 1) w) ∧ ((a == 9) = false → ((a == 10) = true → R (.int .i64 1) w) ∧ ((a == 10) = false → ((a == 13) = true → R (.int .i64 1) w) ∧ ((a == 13) = false → (decide (a < 128) = true → ∃ R4 X'3, CallsX E.P 161 #[.string (ByteArray.mk #[40, 41, 123, 125, 44, 58, 64, 43, 45, 42, 47, 37, 61, 60, 33]), Value.int IntKind.i32 a] w R4 X'3 ∧ (∀ v3 w26, R4 v3 w26 → ∃ x3, v3 = .bool x3 ∧ ∃ S3, Upd w w26 S3 ∧ Away [] S3 ∧ (x3 = true → R (.int .i64 6) w26) ∧ (x3 = false → R (.int .i64 0) w26)) ∧ PX X'3 X) ∧ (decide (a < 128) = false → R (.int .i64 0) w)))))))))) ∧ (decide (a ≥ 48) = false → (decide (a ≥ 97) = true → (decide (a ≤ 122) = true → R (.int .i64 3) w) ∧ (decide (a ≤ 122) = false → (decide (a ≥ 65) = true → (decide (a ≤ 90) = true → R (.int .i64 4) w) ∧ (decide (a ≤ 90) = false → ((a == 95) = true → R (.int .i64 5) w) ∧ ((a == 95) = false → ((a == 32) = true → R (.int .i64 1) w) ∧ ((a == 32) = false → ((a == 9) = true → R (.int .i64 1) w) ∧ ((a == 9) = false → ((a == 10) = true → R (.int .i64 1) w) ∧ ((a == 10) = false → ((a == 13) = true → R (.int .i64 1) w) ∧ ((a == 13) = false → (decide (a < 128) = true → ∃ R5 X'4, CallsX E.P 161 #[.string (ByteArray.mk #[40, 41, 123, 125, 44, 58, 64, 43, 45, 42, 47, 37, 61, 60, 33]), Value.int IntKind.i32 a] w R5 X'4 ∧ (∀ v4 w28, R5 v4 w28 → ∃ x4, v4 = .bool x4 ∧ ∃ S4, Upd w w28 S4 ∧ Away [] S4 ∧ (x4 = true → R (.int .i64 6) w28) ∧ (x4 = false → R (.int .i64 0) w28)) ∧ PX X'4 X) ∧ (decide (a < 128) = false → R (.int .i64 0) w)))))))) ∧ (decide (a ≥ 65) = false → ((a == 95) = true → R (.int .i64 5) w) ∧ ((a == 95) = false → ((a == 32) = true → R (.int .i64 1) w) ∧ ((a == 32) = false → ((a == 9) = true → R (.int .i64 1) w) ∧ ((a == 9) = false → ((a == 10) = true → R (.int .i64 1) w) ∧ ((a == 10) = false → ((a == 13) = true → R (.int .i64 1) w) ∧ ((a == 13) = false → (decide (a < 128) = true → ∃ R6 X'5, CallsX E.P 161 #[.string (ByteArray.mk #[40, 41, 123, 125, 44, 58, 64, 43, 45, 42, 47, 37, 61, 60, 33]), Value.int IntKind.i32 a] w R6 X'5 ∧ (∀ v5 w210, R6 v5 w210 → ∃ x5, v5 = .bool x5 ∧ ∃ S5, Upd w w210 S5 ∧ Away [] S5 ∧ (x5 = true → R (.int .i64 6) w210) ∧ (x5 = false → R (.int .i64 0) w210)) ∧ PX X'5 X) ∧ (decide (a < 128) = false → R (.int .i64 0) w))))))))) ∧ (decide (a ≥ 97) = false → (decide (a ≥ 65) = true → (decide (a ≤ 90) = true → R (.int .i64 4) w) ∧ (decide (a ≤ 90) = false → ((a == 95) = true → R (.int .i64 5) w) ∧ ((a == 95) = false → ((a == 32) = true → R (.int .i64 1) w) ∧ ((a == 32) = false → ((a == 9) = true → R (.int .i64 1) w) ∧ ((a == 9) = false → ((a == 10) = true → R (.int .i64 1) w) ∧ ((a == 10) = false → ((a == 13) = true → R (.int .i64 1) w) ∧ ((a == 13) = false → (decide (a < 128) = true → ∃ R7 X'6, CallsX E.P 161 #[.string (ByteArray.mk #[40, 41, 123, 125, 44, 58, 64, 43, 45, 42, 47, 37, 61, 60, 33]), Value.int IntKind.i32 a] w R7 X'6 ∧ (∀ v6 w212, R7 v6 w212 → ∃ x6, v6 = .bool x6 ∧ ∃ S6, Upd w w212 S6 ∧ Away [] S6 ∧ (x6 = true → R (.int .i64 6) w212) ∧ (x6 = false → R (.int .i64 0) w212)) ∧ PX X'6 X) ∧ (decide (a < 128) = false → R (.int .i64 0) w)))))))) ∧ (decide (a ≥ 65) = false → ((a == 95) = true → R (.int .i64 5) w) ∧ ((a == 95) = false → ((a == 32) = true → R (.int .i64 1) w) ∧ ((a == 32) = false → ((a == 9) = true → R (.int .i64 1) w) ∧ ((a == 9) = false → ((a == 10) = true → R (.int .i64 1) w) ∧ ((a == 10) = false → ((a == 13) = true → R (.int .i64 1) w) ∧ ((a == 13) = false → (decide (a < 128) = true → ∃ R8 X'7, CallsX E.P 161 #[.string (ByteArray.mk #[40, 41, 123, 125, 44, 58, 64, 43, 45, 42, 47, 37, 61, 60, 33]), Value.int IntKind.i32 a] w R8 X'7 ∧ (∀ v7 w214, R8 v7 w214 → ∃ x7, v7 = .bool x7 ∧ ∃ S7, Upd w w214 S7 ∧ Away [] S7 ∧ (x7 = true → R (.int .i64 6) w214) ∧ (x7 = false → R (.int .i64 0) w214)) ∧ PX X'7 X) ∧ (decide (a < 128) = false → R (.int .i64 0) w)))))))))
 ) : CallsX E.P 158 #[.int .i32 a] w R X :=
  calls_vc E_ok ⟨[], []⟩ (f := 158) Tryz.func158 rfl [(.int .i32 a, .no)] [] (bls0) nod0 (plain_of rfl) (shs_of ⟨trivial, trivial⟩) h (by kernel_rfl)
theorem vc159 {a : ByteArray} {w : World} {R : Value → World → Prop} {X : ContX}  (h : 
 ∀ id, w.heap.size ≤ id → ∀ w1, Upd w w1 (setOf []) → id < w1.heap.size → w1.heap[id]? = some (.cells #[.string (ByteArray.mk #[97, 108, 108]), .string (ByteArray.mk #[97, 110, 100]), .string (ByteArray.mk #[97, 114, 111, 117, 110, 100]), .string (ByteArray.mk #[98, 108, 111, 99, 107]), .string (ByteArray.mk #[98, 111, 116, 116, 108, 101, 110, 101, 99, 107]), .string (ByteArray.mk #[99, 111, 110, 110, 101, 99, 116, 101, 100]), .string (ByteArray.mk #[99, 111, 117, 110, 116]), .string (ByteArray.mk #[100, 101, 103, 114, 101, 101]), .string (ByteArray.mk #[101, 108, 115, 101]), .string (ByteArray.mk #[102, 97, 108, 115, 101]), .string (ByteArray.mk #[105, 102]), .string (ByteArray.mk #[105, 110]), .string (ByteArray.mk #[108, 101, 97, 115, 116]), .string (ByteArray.mk #[109, 97, 120]), .string (ByteArray.mk #[109, 105, 110]), .string (ByteArray.mk #[109, 111, 115, 116]), .string (ByteArray.mk #[110, 111, 116]), .string (ByteArray.mk #[111, 114]), .string (ByteArray.mk #[114, 101, 112]), .string (ByteArray.mk #[115, 105, 122, 101]), .string (ByteArray.mk #[115, 111, 109, 101]), .string (ByteArray.mk #[115, 117, 109]), .string (ByteArray.mk #[116, 104, 101, 110]), .string (ByteArray.mk #[116, 111, 116, 97, 108]), .string (ByteArray.mk #[116, 114, 117, 101]), .string (ByteArray.mk #[118, 97, 108, 117, 101]), .string (ByteArray.mk #[118, 101, 114, 116, 105, 99, 101, 115])] 9) → ∃ R1 X', CallsX E.P 162 #[.slice (some ⟨id, 0, none⟩) 27 27, .string a] w1 R1 X' ∧ (∀ v w2, R1 v w2 → ∃ x x1, v = .tuple #[.int .i64 x, .bool x1] ∧ ∃ S, Upd w1 w2 S ∧ Away [id] S ∧ (w2.heap[id]? = some (.cells #[.string (ByteArray.mk #[97, 108, 108]), .string (ByteArray.mk #[97, 110, 100]), .string (ByteArray.mk #[97, 114, 111, 117, 110, 100]), .string (ByteArray.mk #[98, 108, 111, 99, 107]), .string (ByteArray.mk #[98, 111, 116, 116, 108, 101, 110, 101, 99, 107]), .string (ByteArray.mk #[99, 111, 110, 110, 101, 99, 116, 101, 100]), .string (ByteArray.mk #[99, 111, 117, 110, 116]), .string (ByteArray.mk #[100, 101, 103, 114, 101, 101]), .string (ByteArray.mk #[101, 108, 115, 101]), .string (ByteArray.mk #[102, 97, 108, 115, 101]), .string (ByteArray.mk #[105, 102]), .string (ByteArray.mk #[105, 110]), .string (ByteArray.mk #[108, 101, 97, 115, 116]), .string (ByteArray.mk #[109, 97, 120]), .string (ByteArray.mk #[109, 105, 110]), .string (ByteArray.mk #[109, 111, 115, 116]), .string (ByteArray.mk #[110, 111, 116]), .string (ByteArray.mk #[111, 114]), .string (ByteArray.mk #[114, 101, 112]), .string (ByteArray.mk #[115, 105, 122, 101]), .string (ByteArray.mk #[115, 111, 109, 101]), .string (ByteArray.mk #[115, 117, 109]), .string (ByteArray.mk #[116, 104, 101, 110]), .string (ByteArray.mk #[116, 111, 116, 97, 108]), .string (ByteArray.mk #[116, 114, 117, 101]), .string (ByteArray.mk #[118, 97, 108, 117, 101]), .string (ByteArray.mk #[118, 101, 114, 116, 105, 99, 101, 115])] 9) → R (.bool x1) w2)) ∧ PX X' X
 ) : CallsX E.P 159 #[.string a] w R X :=
  calls_vc E_ok ⟨[], []⟩ (f := 159) Tryz.func159 rfl [(.string a, .no)] [] (bls0) nod0 (plain_of rfl) (shs_of ⟨trivial, trivial⟩) h (by kernel_rfl)
theorem vc162 {a : Option Addr} {al ac : Nat} {b : ByteArray} {w : World} {R : Value → World → Prop} {X : ContX}  (h : 
 ∃ (I : Int → Int → World → Prop), ∃ (m : Int → Int → Nat), I 0 (↑al : Int) w ∧ ∀ (jk : Nat → Value) (x x1 : Int) (w2 : World), I x x1 w2 → (decide (x < x1) = true → (0 ≤ w64 (IntKind.wrap IntKind.u64 (w64 (x + x1)) / 2) ∧ w64 (IntKind.wrap IntKind.u64 (w64 (x + x1)) / 2) < (↑al : Int)) ∧ ∃ ad, a = some ad ∧ ∃ x2, CellsIn w2 (Addr.add ad (Int.toNat (w64 (IntKind.wrap IntKind.u64 (w64 (x + x1)) / 2)) * 1)) [.string x2] ∧ ∃ R1 X', CallsX E.P 164 #[.string x2, .string b] w2 R1 X' ∧ (∀ v w21, R1 v w21 → ∃ x3, v = .bool x3 ∧ ∃ S, Upd w2 w21 S ∧ Away [] S ∧ (x3 = true → I (w64 (w64 (IntKind.wrap IntKind.u64 (w64 (x + x1)) / 2) + 1)) x1 w21 ∧ m (w64 (w64 (IntKind.wrap IntKind.u64 (w64 (x + x1)) / 2) + 1)) x1 < m x x1) ∧ (x3 = false → I x (w64 (IntKind.wrap IntKind.u64 (w64 (x + x1)) / 2)) w21 ∧ m x (w64 (IntKind.wrap IntKind.u64 (w64 (x + x1)) / 2)) < m x x1)) ∧ PX X' X) ∧ (decide (x < x1) = false → (decide (x < (↑al : Int)) = true → (0 ≤ x ∧ x < (↑al : Int)) ∧ ∃ ad1, a = some ad1 ∧ ∃ x4, CellsIn w2 (Addr.add ad1 (Int.toNat x * 1)) [.string x4] ∧ (strEq x4 b = true → R (.tuple #[.int .i64 x, .bool true]) w2) ∧ (strEq x4 b = false → (0 ≤ x ∧ x < (↑al : Int)) ∧ ∃ ad2, a = some ad2 ∧ ∃ x5, CellsIn w2 (Addr.add ad2 (Int.toNat x * 1)) [.string x5] ∧ ∃ R2 X'1, CallsX E.P 165 #[.string x5] w2 R2 X'1 ∧ (∀ v1 w23, R2 v1 w23 → ∃ x6, v1 = .bool x6 ∧ ∃ S1, Upd w2 w23 S1 ∧ Away [] S1 ∧ (x6 = true → ∃ R3 X'2, CallsX E.P 165 #[.string b] w23 R3 X'2 ∧ (∀ v2 w24, R3 v2 w24 → ∃ x7, v2 = .bool x7 ∧ ∃ S2, Upd w23 w24 S2 ∧ Away [] S2 ∧ R (.tuple #[.int .i64 x, .bool x7]) w24) ∧ PX X'2 X) ∧ (x6 = false → R (.tuple #[.int .i64 x, .bool false]) w23)) ∧ PX X'1 X)) ∧ (decide (x < (↑al : Int)) = false → R (.tuple #[.int .i64 x, .bool false]) w2))
 ) : CallsX E.P 162 #[.slice a al ac, .string b] w R X :=
  calls_vc E_ok ⟨[(3, ⟨[(7, .int .i64), (8, .int .i64)], []⟩)], []⟩ (f := 162) Tryz.func162 rfl [(.slice a al ac, .no), (.string b, .no)] [] (bls0) nod0 (plain_of rfl) (shs_of ⟨trivial, trivial, trivial⟩) h (by kernel_rfl)
theorem vc164 {a b : ByteArray} {w : World} {R : Value → World → Prop} {X : ContX}  (h : 
 ∃ R1 X', CallsX E.P 170 #[.string a] w R1 X' ∧ (∀ v w2, R1 v w2 → ∃ x, v = .bool x ∧ ∃ S, Upd w w2 S ∧ Away [] S ∧ (x = true → ∃ R2 X'1, CallsX E.P 170 #[.string b] w2 R2 X'1 ∧ (∀ v1 w21, R2 v1 w21 → ∃ x1, v1 = .bool x1 ∧ ∃ S1, Upd w2 w21 S1 ∧ Away [] S1 ∧ ((!x1) = true → R (.bool true) w21) ∧ ((!x1) = false → R (.bool (strLt a b)) w21)) ∧ PX X'1 X) ∧ (x = false → R (.bool (strLt a b)) w2)) ∧ PX X' X
 ) : CallsX E.P 164 #[.string a, .string b] w R X :=
  calls_vc E_ok ⟨[], []⟩ (f := 164) Tryz.func164 rfl [(.string a, .no), (.string b, .no)] [] (bls0) nod0 (plain_of rfl) (shs_of ⟨trivial, trivial, trivial⟩) h (by kernel_rfl)
theorem vc165 {a : ByteArray} {w : World} {R : Value → World → Prop} {X : ContX}  (h : 
 R (.bool !strEq a a) w
 ) : CallsX E.P 165 #[.string a] w R X :=
  calls_vc E_ok ⟨[], []⟩ (f := 165) Tryz.func165 rfl [(.string a, .no)] [] (bls0) nod0 (plain_of rfl) (shs_of ⟨trivial, trivial⟩) h (by kernel_rfl)
theorem vc170 {a : ByteArray} {w : World} {R : Value → World → Prop} {X : ContX}  (h : 
 R (.bool !strEq a a) w
 ) : CallsX E.P 170 #[.string a] w R X :=
  calls_vc E_ok ⟨[], []⟩ (f := 170) Tryz.func170 rfl [(.string a, .no)] [] (bls0) nod0 (plain_of rfl) (shs_of ⟨trivial, trivial⟩) h (by kernel_rfl)
end
end Go.Vx.Tryz
namespace Go.Proofs
def Tryz.lays151_ren : Go.Shelf.Ren := ⟨fun | 151 => 161 | 152 => 163 | 137 => 166 | 119 => 167 | 224 => 168 | 225 => 169 | 217 => 171 | 266 => 172 | n => n, fun | 9 => 9 | 21 => 21 | 4 => 4 | 3 => 3 | 5 => 5 | 0 => 0 | 46 => 144 | n => n, fun n => n⟩
theorem Tryz.lays151 : Lays.n151 Tryz.prog Tryz.lays151_ren := { mixed := by kernel_rfl, f119 := Tryz.func167.trans (congrArg some (by kernel_rfl)), f137 := Tryz.func166.trans (congrArg some (by kernel_rfl)), f151 := Tryz.func161.trans (congrArg some (by kernel_rfl)), f152 := Tryz.func163.trans (congrArg some (by kernel_rfl)), f217 := Tryz.func171.trans (congrArg some (by kernel_rfl)), f224 := Tryz.func168.trans (congrArg some (by kernel_rfl)), f225 := Tryz.func169.trans (congrArg some (by kernel_rfl)), f266 := Tryz.func172.trans (congrArg some (by kernel_rfl)), t0 := Tryz.underlying0, a0 := Tryz.isAgg0, z0 := Tryz.sizeOf0, v0 := Tryz.zeroValue0, t3 := Tryz.underlying3, a3 := Tryz.isAgg3, z3 := Tryz.sizeOf3, v3 := Tryz.zeroValue3, t4 := Tryz.underlying4, a4 := Tryz.isAgg4, z4 := Tryz.sizeOf4, v4 := Tryz.zeroValue4, t5 := Tryz.underlying5, a5 := Tryz.isAgg5, z5 := Tryz.sizeOf5, v5 := Tryz.zeroValue5, t9 := Tryz.underlying9, a9 := Tryz.isAgg9, z9 := Tryz.sizeOf9, v9 := Tryz.zeroValue9, t21 := Tryz.underlying21, a21 := Tryz.isAgg21, z21 := Tryz.sizeOf21, v21 := Tryz.zeroValue21, t46 := Tryz.underlying144, a46 := Tryz.isAgg144, z46 := Tryz.sizeOf144, v46 := Tryz.zeroValue144 }
end Go.Proofs
namespace Go.Vx
open Go
section
theorem of_calls {P : Program} {f : Nat} {args : Array Value} {w : World} {Q : Ending → World → Prop} {R : Value → World → Prop} (h : Calls P f args w Q) (k : ∀ e w', Q e w' → ∃ v, e = .returned v ∧ R v w') : CallsX P f args w R never := by
  exact ⟨h.mono fun e w' hq => by obtain ⟨v, rfl, hr⟩ := k e w' hq; exact hr⟩
end
end Go.Vx
