/- Texts of the walk, gathered. -/
import Derived.Test.YtingeadhfbcacaaGreatDoorMs1
import Derived.MapKept
set_option linter.unusedSimpArgs false
set_option linter.unusedVariables false
namespace Go.Vx.Tryz
open Go Go.Vx Go.Proofs
set_option maxRecDepth 100000
variable {w : World} {R : Value → World → Prop} {X : ContX}
theorem vc54 {a : ByteArray} {b : Int}  (h : 
 nB w fun id => (0 ≤ b ∧ b < (↑(ByteArray.size a) : Int)) ∧ fL w [] fun w1 => id < w1.heap.size → cB 60 #[Value.int IntKind.u8 (byteAt a b)] w1 [id] X fun x w2 => dB x (cI 61 #[.string a, .int .i64 b] w2 [id] X fun x1 w21 => ∃ x2, Sem.run E.P (Instr.sliceAt 9 (.string a) (some (.int .i64 b)) (some (.int .i64 x1)) none) w21 = Result.ok (.string x2) w21 ∧ ∃ R3 X'2, CallsX E.P 62 #[.string x2] w21 R3 X'2 ∧ (∀ v2 w22, R3 v2 w22 → ∃ x3 x4, v2 = .tuple #[.int .i64 x3, .bool x4] ∧ ∃ S2, Upd w21 w22 S2 ∧ Away [id] S2 ∧ dB (!x4) (fL w22 [id] fun w11 => R (.tuple #[.agg #[.int .i64 0, .int .i64 0, .string (ByteArray.mk #[]), .int .i64 0], .int .i64 0, .int .i64 111]) w11) (fL w22 [id] fun w12 => R (.tuple #[.agg #[.int .i64 1, .int .i64 x3, .string (ByteArray.mk #[]), .int .i64 b], .int .i64 x1, .int .i64 0]) w12)) ∧ PX X'2 X) (cB 63 #[Value.int IntKind.u8 (byteAt a b)] w2 [id] X fun x5 w25 => dB x5 (cI 61 #[.string a, .int .i64 b] w25 [id] X fun x6 w26 => ∃ x7, Sem.run E.P (Instr.sliceAt 9 (.string a) (some (.int .i64 b)) (some (.int .i64 x6)) none) w26 = Result.ok (.string x7) w26 ∧ cB 65 #[.string x7] w26 [id] X fun x8 w27 => dB x8 (fL w27 [id] fun w13 => R (.tuple #[.agg #[.int .i64 3, .int .i64 0, .string x7, .int .i64 b], .int .i64 x6, .int .i64 0]) w13) (cB 66 #[.string x7] w27 [id] X fun x9 w28 => dB (!x9) (fL w28 [id] fun w14 => R (.tuple #[.agg #[.int .i64 0, .int .i64 0, .string (ByteArray.mk #[]), .int .i64 0], .int .i64 0, .int .i64 112]) w14) (fL w28 [id] fun w15 => R (.tuple #[.agg #[.int .i64 2, .int .i64 0, .string x7, .int .i64 b], .int .i64 x6, .int .i64 0]) w15))) (cB 64 #[Value.int IntKind.u8 (byteAt a b)] w25 [id] X fun x10 w212 => dB x10 (cI 61 #[.string a, .int .i64 b] w212 [id] X fun x11 w213 => ∃ x12, Sem.run E.P (Instr.sliceAt 9 (.string a) (some (.int .i64 b)) (some (.int .i64 x11)) none) w213 = Result.ok (.string x12) w213 ∧ cB 65 #[.string x12] w213 [id] X fun x13 w214 => dB x13 (fL w214 [id] fun w16 => R (.tuple #[.agg #[.int .i64 3, .int .i64 0, .string x12, .int .i64 b], .int .i64 x11, .int .i64 0]) w16) (cB 66 #[.string x12] w214 [id] X fun x14 w215 => dB (!x14) (fL w215 [id] fun w17 => R (.tuple #[.agg #[.int .i64 0, .int .i64 0, .string (ByteArray.mk #[]), .int .i64 0], .int .i64 0, .int .i64 112]) w17) (fL w215 [id] fun w18 => R (.tuple #[.agg #[.int .i64 2, .int .i64 0, .string x12, .int .i64 b], .int .i64 x11, .int .i64 0]) w18))) (∃ x15, Sem.run E.P (Instr.sliceAt 9 (.string a) (some (.int .i64 b)) none none) w212 = Result.ok (.string x15) w212 ∧ cT 67 #[.string x15] w212 [id] X fun x16 w219 => dB (strEq x16 (ByteArray.mk #[])) (fL w219 [id] fun w19 => R (.tuple #[.agg #[.int .i64 0, .int .i64 0, .string (ByteArray.mk #[]), .int .i64 0], .int .i64 0, .int .i64 110]) w19) (fL w219 [id] fun w110 => R (.tuple #[.agg #[.int .i64 4, .int .i64 0, .string x16, .int .i64 b], .int .i64 (w64 (b + (↑(ByteArray.size x16) : Int))), .int .i64 0]) w110))))
 ) : CallsX E.P 43 #[.string a, .int .i64 b] w R X :=
  calls_vc E_ok ⟨[], []⟩ (f := 43) Tryz.func43 rfl [(.string a, .no), (.int .i64 b, .no)] [] (bls0) nod0 (plain_of rfl) (shs_of ⟨trivial, trivial, trivial⟩) h (by kernel_rfl)
theorem vc81 {a : ByteArray} {b : Int}  (h : 
 (0 ≤ b ∧ b < (↑(ByteArray.size a) : Int)) ∧ cB 60 #[Value.int IntKind.u8 (byteAt a b)] w [] X fun x w2 => dB x (∃ (I : Int → World → Prop), ∃ (m : Int → Nat), I b w2 ∧ ∀ (jk : Nat → Value) (x1 : Int) (w21 : World), I x1 w21 → dB (decide (x1 < (↑(ByteArray.size a) : Int))) ((0 ≤ x1 ∧ x1 < (↑(ByteArray.size a) : Int)) ∧ cB 60 #[Value.int IntKind.u8 (byteAt a x1)] w21 [] X fun x2 w22 => dB x2 (I (w64 (x1 + 1)) w22 ∧ m (w64 (x1 + 1)) < m x1) (R (.int .i64 x1) w22)) (R (.int .i64 x1) w21)) (∃ (I1 : Int → World → Prop), ∃ (m1 : Int → Nat), I1 b w2 ∧ ∀ (jk1 : Nat → Value) (x3 : Int) (w24 : World), I1 x3 w24 → dB (decide (x3 < (↑(ByteArray.size a) : Int))) ((0 ≤ x3 ∧ x3 < (↑(ByteArray.size a) : Int)) ∧ cB 63 #[Value.int IntKind.u8 (byteAt a x3)] w24 [] X fun x4 w25 => dB x4 (I1 (w64 (x3 + 1)) w25 ∧ m1 (w64 (x3 + 1)) < m1 x3) ((0 ≤ x3 ∧ x3 < (↑(ByteArray.size a) : Int)) ∧ cB 64 #[Value.int IntKind.u8 (byteAt a x3)] w25 [] X fun x5 w26 => dB x5 (I1 (w64 (x3 + 1)) w26 ∧ m1 (w64 (x3 + 1)) < m1 x3) ((0 ≤ x3 ∧ x3 < (↑(ByteArray.size a) : Int)) ∧ cB 60 #[Value.int IntKind.u8 (byteAt a x3)] w26 [] X fun x6 w27 => dB x6 (I1 (w64 (x3 + 1)) w27 ∧ m1 (w64 (x3 + 1)) < m1 x3) ((0 ≤ x3 ∧ x3 < (↑(ByteArray.size a) : Int)) ∧ dB (byteAt a x3 == 95) (I1 (w64 (x3 + 1)) w27 ∧ m1 (w64 (x3 + 1)) < m1 x3) (R (.int .i64 x3) w27))))) (R (.int .i64 x3) w24))
 ) : CallsX E.P 61 #[.string a, .int .i64 b] w R X :=
  calls_vc E_ok ⟨[(2, ⟨[(1, .int .i64)], []⟩), (5, ⟨[(1, .int .i64)], []⟩)], []⟩ (f := 61) Tryz.func61 rfl [(.string a, .no), (.int .i64 b, .no)] [] (bls0) nod0 (plain_of rfl) (shs_of ⟨trivial, trivial, trivial⟩) h (by kernel_rfl)
theorem vc82 {a : ByteArray}  (h : 
 dB (decide ((↑(ByteArray.size a) : Int) > 19)) (R (.tuple #[.int .i64 0, .bool false]) w) (dB (decide ((↑(ByteArray.size a) : Int) > 1)) (((0 : Int) ≤ 0 ∧ 0 < (↑(ByteArray.size a) : Int)) ∧ dB (byteAt a 0 == 48) (R (.tuple #[.int .i64 0, .bool false]) w) (∃ (I : Int → Int → World → Prop), ∃ (m : Int → Int → Nat), I 0 0 w ∧ ∀ (jk : Nat → Value) (x x1 : Int) (w2 : World), I x x1 w2 → dB (decide (x1 < (↑(ByteArray.size a) : Int))) ((0 ≤ x1 ∧ x1 < (↑(ByteArray.size a) : Int)) ∧ dB (decide (x > w64 (Int.tdiv (w64 (9223372036854775807 - w64 (w64 (byteAt a x1) - 48))) 10))) (R (.tuple #[.int .i64 0, .bool false]) w2) (I (w64 (w64 (10 * x) + w64 (w64 (byteAt a x1) - 48))) (w64 (x1 + 1)) w2 ∧ m (w64 (w64 (10 * x) + w64 (w64 (byteAt a x1) - 48))) (w64 (x1 + 1)) < m x x1)) (R (.tuple #[.int .i64 x, .bool true]) w2))) (∃ (I1 : Int → Int → World → Prop), ∃ (m1 : Int → Int → Nat), I1 0 0 w ∧ ∀ (jk1 : Nat → Value) (x2 x3 : Int) (w21 : World), I1 x2 x3 w21 → dB (decide (x3 < (↑(ByteArray.size a) : Int))) ((0 ≤ x3 ∧ x3 < (↑(ByteArray.size a) : Int)) ∧ dB (decide (x2 > w64 (Int.tdiv (w64 (9223372036854775807 - w64 (w64 (byteAt a x3) - 48))) 10))) (R (.tuple #[.int .i64 0, .bool false]) w21) (I1 (w64 (w64 (10 * x2) + w64 (w64 (byteAt a x3) - 48))) (w64 (x3 + 1)) w21 ∧ m1 (w64 (w64 (10 * x2) + w64 (w64 (byteAt a x3) - 48))) (w64 (x3 + 1)) < m1 x2 x3)) (R (.tuple #[.int .i64 x2, .bool true]) w21)))
 ) : CallsX E.P 62 #[.string a] w R X :=
  calls_vc E_ok ⟨[(5, ⟨[(4, .int .i64), (5, .int .i64)], []⟩)], []⟩ (f := 62) Tryz.func62 rfl [(.string a, .no)] [] (bls0) nod0 (plain_of rfl) (shs_of ⟨trivial, trivial⟩) h (by kernel_rfl)
theorem vc87 {a : ByteArray}  (h : 
 dB (decide ((↑(ByteArray.size a) : Int) > 1)) (∃ x, Sem.run E.P (Instr.sliceAt 9 (.string a) none (some (.int .i64 2)) none) w = Result.ok (.string x) w ∧ dB (strEq x (ByteArray.mk #[33, 61])) (∃ x1, Sem.run E.P (Instr.sliceAt 9 (.string a) none (some (.int .i64 2)) none) w = Result.ok (.string x1) w ∧ R (.string x1) w) (∃ x2, Sem.run E.P (Instr.sliceAt 9 (.string a) none (some (.int .i64 2)) none) w = Result.ok (.string x2) w ∧ dB (strEq x2 (ByteArray.mk #[60, 61])) (∃ x3, Sem.run E.P (Instr.sliceAt 9 (.string a) none (some (.int .i64 2)) none) w = Result.ok (.string x3) w ∧ R (.string x3) w) (∃ (I : Int → World → Prop), ∃ (m : Int → Nat), I 0 w ∧ ∀ (jk : Nat → Value) (x4 : Int) (w2 : World), I x4 w2 → dB (decide (x4 < (↑14 : Int))) ((0 ≤ x4 ∧ x4 < (↑14 : Int)) ∧ ((0 : Int) ≤ 0 ∧ 0 < (↑(ByteArray.size a) : Int)) ∧ dB (byteAt (ByteArray.mk #[40, 41, 123, 125, 44, 58, 64, 43, 45, 42, 47, 37, 61, 60]) x4 == byteAt a 0) (fL w2 [] fun w1 => ∃ x5, Sem.run E.P (Instr.sliceAt 9 (.string a) none (some (.int .i64 1)) none) w1 = Result.ok (.string x5) w1 ∧ R (.string x5) w1) (fL w2 [] fun w11 => I (w64 (x4 + 1)) w11 ∧ m (w64 (x4 + 1)) < m x4)) (R (.string (ByteArray.mk #[])) w2)))) (∃ (I1 : Int → World → Prop), ∃ (m1 : Int → Nat), I1 0 w ∧ ∀ (jk1 : Nat → Value) (x6 : Int) (w21 : World), I1 x6 w21 → dB (decide (x6 < (↑14 : Int))) ((0 ≤ x6 ∧ x6 < (↑14 : Int)) ∧ ((0 : Int) ≤ 0 ∧ 0 < (↑(ByteArray.size a) : Int)) ∧ dB (byteAt (ByteArray.mk #[40, 41, 123, 125, 44, 58, 64, 43, 45, 42, 47, 37, 61, 60]) x6 == byteAt a 0) (fL w21 [] fun w12 => ∃ x7, Sem.run E.P (Instr.sliceAt 9 (.string a) none (some (.int .i64 1)) none) w12 = Result.ok (.string x7) w12 ∧ R (.string x7) w12) (fL w21 [] fun w13 => I1 (w64 (x6 + 1)) w13 ∧ m1 (w64 (x6 + 1)) < m1 x6)) (R (.string (ByteArray.mk #[])) w21))
 ) : CallsX E.P 67 #[.string a] w R X :=
  calls_vc E_ok ⟨[(5, ⟨[(4, .int .i64)], []⟩)], []⟩ (f := 67) Tryz.func67 rfl [(.string a, .no)] [] (bls0) nod0 (plain_of rfl) (shs_of ⟨trivial, trivial⟩) h (by kernel_rfl)
theorem vc37 {a : ByteArray}  (h : 
 dB (decide ((↑(ByteArray.size a) : Int) > 2000)) (R (.tuple #[.slice none 0 0, .int .i64 113, .int .i64 0]) w) (∃ (I : Option Addr → Nat → Nat → Int → World → Prop), ∃ (m : Option Addr → Nat → Nat → Int → Nat), I none 0 0 0 w ∧ ∀ (jk : Nat → Value) (a1 : Option Addr) (n c : Nat) (x : Int) (w2 : World), I a1 n c x w2 → dB (decide (x < (↑(ByteArray.size a) : Int))) ((0 ≤ x ∧ x < (↑(ByteArray.size a) : Int)) ∧ cB 42 #[Value.int IntKind.u8 (byteAt a x)] w2 [] X fun x1 w21 => dB x1 (I a1 n c (w64 (x + 1)) w21 ∧ m a1 n c (w64 (x + 1)) < m a1 n c x) (∃ R2 X'1, CallsX E.P 43 #[.string a, .int .i64 x] w21 R2 X'1 ∧ (∀ v1 w22, R2 v1 w22 → ∃ x2 x3, ∃ x4 x5, ∃ x6 x7, v1 = .tuple #[.agg #[.int .i64 x2, .int .i64 x3, .string x4, .int .i64 x5], .int .i64 x6, .int .i64 x7] ∧ ∃ S1, Upd w21 w22 S1 ∧ Away [] S1 ∧ nB w22 fun id => dB (x7 != 0) (fL w22 [] fun w1 => id < w1.heap.size → R (.tuple #[.slice none 0 0, .int .i64 x7, .int .i64 x]) w1) (nB w22 fun id1 => fL w22 [] fun w11 => id < w11.heap.size → id1 < w11.heap.size → hA w11 id1 #[.int .i64 x2, .int .i64 x3, .string x4, .int .i64 x5] 65 → ∃ R3, RunsTo E.P (Builtin.append_ #[57, 57] 57 #[.slice a1 n c, .slice (some ⟨id1, 0, none⟩) 1 1]) w11 R3 ∧ ∀ v2 w23, R3 v2 w23 → ∃ a2 n1 c1, v2 = .slice a2 n1 c1 ∧ ∃ S2, Upd w11 w23 S2 ∧ Away [id, id1] S2 ∧ (hA w23 id1 #[.int .i64 x2, .int .i64 x3, .string x4, .int .i64 x5] 65 → I a2 n1 c1 x6 w23 ∧ m a2 n1 c1 x6 < m a1 n c x))) ∧ PX X'1 X)) (nB w2 fun id2 => fL w2 [] fun w12 => id2 < w12.heap.size → hA w12 id2 #[.int .i64 0, .int .i64 0, .string (ByteArray.mk #[]), .int .i64 (↑(ByteArray.size a) : Int)] 65 → ∃ R4, RunsTo E.P (Builtin.append_ #[57, 57] 57 #[.slice a1 n c, .slice (some ⟨id2, 0, none⟩) 1 1]) w12 R4 ∧ ∀ v3 w26, R4 v3 w26 → ∃ a3 n2 c2, v3 = .slice a3 n2 c2 ∧ ∃ S3, Upd w12 w26 S3 ∧ Away [id2] S3 ∧ (hA w26 id2 #[.int .i64 0, .int .i64 0, .string (ByteArray.mk #[]), .int .i64 (↑(ByteArray.size a) : Int)] 65 → R (.tuple #[.slice a3 n2 c2, .int .i64 0, .int .i64 0]) w26)))
 ) : CallsX E.P 27 #[.string a] w R X :=
  calls_vc E_ok ⟨[(5, ⟨[(5, .slc), (6, .int .i64)], []⟩)], []⟩ (f := 27) Tryz.func27 rfl [(.string a, .no)] [] (bls0) nod0 (plain_of rfl) (shs_of ⟨trivial, trivial⟩) h (by kernel_rfl)
end Go.Vx.Tryz
namespace Go.Vx
open Go
section
def testB (t : Nat) (v a : Int) : Bool :=
  match t with
  | 95 => true
  | 96 => v == 0 || v == 1
  | 97 => decide (v ≥ 0)
  | 98 => decide (v ≥ 0) && decide (v < a)
  | 99 => v == 0
  | _ => decide (v ≥ 4) && decide (v ≤ 9)
inductive Shp where
  | plain (kids of gives : Int) (t : Nat)
  | other (kids : Int) (t : Nat)
  | none
def shapeF (k v : Int) : Shp :=
  if k == 1 then .plain 0 0 1 95 else if k == 2 then .plain 0 0 2 96 else if k == 3 then .plain 0 0 3 97 else if k == 5 then .plain 0 0 3 98
  else if k == 6 then .plain 1 1 1 99 else if k == 7 then .plain 1 2 2 99
  else if k == 8 then .plain 2 1 1 99 else if k == 9 then .plain 2 1 1 99 else if k == 10 then .plain 2 1 1 99 else if k == 11 then .plain 2 1 1 99 else if k == 12 then .plain 2 1 1 99
  else if k == 15 then .plain 2 1 2 99 else if k == 16 then .plain 2 1 2 99 else if k == 17 then .plain 2 2 2 99 else if k == 18 then .plain 2 2 2 99
  else if k == 13 then .other 2 100 else if k == 14 then .other 2 100 else if k == 19 then .other 3 101
  else if k == 20 then (if v == 1 then .plain 2 3 2 95 else if v == 2 then .plain 2 3 2 95 else if v == 3 then .plain 2 3 1 95 else if v == 10 then .plain 1 3 3 95 else .plain 1 3 1 102)
  else if k == 21 then .other 2 103 else if k == 26 then .other 1 104 else .none
def ofL (r : Option (Int × WS)) (k : Int) : Option WS := match r with | some (j, s1) => if j == k then some s1 else none | none => none
def lookAll (kf : WS → Nd → Option (Int × WS)) (k : Int) : WS → List Nd → Option WS
  | st, [] => some st
  | st, x :: l => (ofL (kf st x) k).bind fun s1 => lookAll kf k s1 l
def plainL (kf : WS → Nd → Option (Int × WS)) (kids of gives : Int) (t : Bool) (st : WS) (s : ByteArray) (l : List Nd) : Option (Int × WS) :=
  if (l.length : Int) == kids && strEq s (ByteArray.mk #[]) && t then (lookAll kf of st l).map fun s1 => (gives, s1) else none
def setLk (kf : WS → Nd → Option (Int × WS)) (st : WS) : Nd → Option WS
  | .mk k v s l =>
    if !(decide (w64 (st.parts + 1) ≤ 4096) && v == 0) then none
    else if k == 23 then (if isNameB s && (l.length : Int) == 0 then some st.inc else none)
    else if (if k == 22 then (l.length : Int) == 0 else if k == 24 then (l.length : Int) == 1 else k == 25) && strEq s (ByteArray.mk #[]) then lookAll kf 3 st.inc l else none
def alikeL (kf : WS → Nd → Option (Int × WS)) (st : WS) (v : Int) (l : List Nd) : Option (Int × WS) :=
  if v == 0 then (kf st (l.getD 0 nd0)).bind fun p => (ofL (kf p.2 (l.getD 1 nd0)) p.1).map fun s2 => (2, s2) else none
def choiceL (kf : WS → Nd → Option (Int × WS)) (st : WS) (v : Int) (l : List Nd) : Option (Int × WS) :=
  if v == 0 then (ofL (kf st (l.getD 0 nd0)) 2).bind fun s1 => (kf s1 (l.getD 1 nd0)).bind fun p => (ofL (kf p.2 (l.getD 2 nd0)) p.1).map fun s3 => (p.1, s3) else none
def quantL (kf : Int → Int → WS → Nd → Option (Int × WS)) (st : WS) (v : Int) (x y : Nd) (a q : Int) : Option (Int × WS) :=
  if decide (v ≥ 1) && decide (v ≤ 6) && decide (q < 4) then
    (setLk (kf a (w64 (q + 1))) st x).bind fun s1 => (ofL (kf (w64 (a + 1)) (w64 (q + 1)) s1 y) (if decide (v ≤ 3) then 2 else 1)).map fun s2 => ((if decide (v ≤ 2) then 2 else 1), s2)
  else none
def fitsB (st : WS) (v a : Int) (x : Nd) : Bool :=
  match st.ks.getD v.toNat none with
  | none => true
  | some y => sameNd y x && (st.ts.getD v.toNat 0 == a || !roundsN y)
def cellL (cells : List Int) (kf : WS → Nd → Option (Int × WS)) (st : WS) (v : Int) (x : Nd) (a : Int) : Option (Int × WS) :=
  if decide (v ≥ 0) && decide (v < (cells.length : Int)) && decide (cells.getD v.toNat 0 ≤ a) then
    (kf st x).bind fun p => if decide (hangs a x ≤ cells.getD v.toNat 0) && fitsB p.2 v a x then some (cellOut p v a x) else none
  else none
def lookK (cells : List Int) : Nat → Int → Int → WS → Nd → Option (Int × WS)
  | 0, _, _, _, _ => none
  | f + 1, a, q, st, .mk k v s l =>
    if !(decide (w64 (st.parts + 1) ≤ 4096)) then none else
    match shapeF k v with
    | .plain kids of gives t => plainL (lookK cells f a q) kids of gives (testB t v a) st.inc s l
    | .other kids t =>
      if (l.length : Int) == kids && strEq s (ByteArray.mk #[]) then
        if t = 100 then alikeL (lookK cells f a q) st.inc v l else if t = 101 then choiceL (lookK cells f a q) st.inc v l
        else if t = 103 then quantL (lookK cells f) st.inc v (l.getD 0 nd0) (l.getD 1 nd0) a q
        else cellL cells (lookK cells f a q) st.inc v (l.getD 0 nd0) a
      else none
    | .none => none
def planKind (p : Pl) : Int :=
  if decide ((p.cells.length : Int) > 256) then 0 else if cellsBad p.cells then 0 else
  match lookK p.cells p.root.size 0 0 ⟨0, List.replicate p.cells.length none, List.replicate p.cells.length 0, true⟩ p.root with
  | some r => r.1
  | none => 0
end
section
open Go
theorem byteAt_get! (s : ByteArray) (j : Nat) : byteAt s (j : Int) = ((s.get! j).toNat : Int) := by
  have hj : Int.toNat (j : Int) = j := by omega
  simp only [byteAt, hj]
  congr 2
theorem decode_low {s : ByteArray} {i : Nat} (h : (s.get! i).toNat < 128) : Utf8.decode s i = ((s.get! i).toNat, 1) := by
  unfold Utf8.decode
  simp [h]
theorem decode_high {s : ByteArray} {i : Nat} (h : 128 ≤ (s.get! i).toNat) : 128 ≤ (Utf8.decode s i).1 ∧ 1 ≤ (Utf8.decode s i).2 := by
  unfold Utf8.decode
  simp only [Nat.add_zero]
  have h' : ¬ ((s.get! i).toNat < 128) := by omega
  rw [if_neg h']
  split
  · split <;> simp [Utf8.runeError] <;> omega
  · split
    · split
      · rename_i hc; simp only [Bool.and_eq_true, decide_eq_true_eq, ge_iff_le] at hc; simp; omega
      · simp [Utf8.runeError]
    · split
      · split
        · rename_i hc; simp only [Bool.and_eq_true, decide_eq_true_eq, ge_iff_le] at hc; simp; omega
        · simp [Utf8.runeError]
      · simp [Utf8.runeError]
theorem decode_class (s : ByteArray) (i : Nat) : smallB ((Utf8.decode s i).1 : Int) = smallB (byteAt s i) ∧ digitB ((Utf8.decode s i).1 : Int) = digitB (byteAt s i) ∧ (((Utf8.decode s i).1 : Int) == 95) = (byteAt s i == 95) ∧ 1 ≤ (Utf8.decode s i).2 ∧
    ((smallB (byteAt s i) = true ∨ digitB (byteAt s i) = true ∨ (byteAt s i == 95) = true) → (Utf8.decode s i).2 = 1) := by
  rw [byteAt_get!]
  by_cases h : (s.get! i).toNat < 128
  · rw [decode_low h]; exact ⟨rfl, rfl, rfl, Nat.le_refl _, fun _ => rfl⟩
  · obtain ⟨h1, h2⟩ := decode_high (s := s) (i := i) (by omega)
    have e : ∀ n : Nat, 128 ≤ n → smallB (n : Int) = false ∧ digitB (n : Int) = false ∧ ((n : Int) == 95) = false := fun n hn => by
      simp only [smallB, digitB, Bool.and_eq_false_iff, decide_eq_false_iff_not, beq_eq_false_iff_ne, ge_iff_le, Int.not_le, ne_eq]
      omega
    obtain ⟨a1, a2, a3⟩ := e _ h1
    obtain ⟨b1, b2, b3⟩ := e (s.get! i).toNat (by omega)
    rw [a1, a2, a3, b1, b2, b3]
    exact ⟨rfl, rfl, rfl, h2, fun h => by rcases h with h | h | h <;> cases h⟩
def okName (s : ByteArray) : Bool := match bytesL s with | [] => true | c :: l => smallB c && nameL l
theorem isName_eq (s : ByteArray) : isNameB s = (decide ((s.size : Int) ≥ 1) && (decide ((s.size : Int) ≤ 12) && (okName s && !wordIn s wordsL))) := by
  unfold isNameB okName
  have hl := bytesL_len s
  by_cases h1 : (s.size : Int) < 1
  · have : ¬ ((s.size : Int) ≥ 1) := by omega
    simp [h1, this]
  · have h1' : (s.size : Int) ≥ 1 := by omega
    by_cases h2 : (s.size : Int) > 12
    · have : ¬ ((s.size : Int) ≤ 12) := by omega
      simp [h1, h2, this]
    · have h2' : (s.size : Int) ≤ 12 := by omega
      have h0 : 0 < (bytesL s).length := by omega
      have hb := byteAt_get (s := s) (j := 0) h0
      cases hL : bytesL s with
      | nil => rw [hL] at h0; simp at h0
      | cons c l =>
        have hb0 : byteAt s 0 = c := by
          have := hb; simp only [hL, List.getElem_cons_zero] at this; exact this
        simp only [h1, h1', h2, h2', decide_true, decide_false, Bool.false_eq_true, if_false, Bool.true_and, hb0]
        cases hc : smallB c <;> simp [nameL, hc]
theorem okName_step {s : ByteArray} {p : Nat} (hp : p < s.size) (h : p = 0 ∨ okName s = nameL ((bytesL s).drop p)) (hg : smallB (byteAt s p) = true ∨ (p ≠ 0 ∧ (digitB (byteAt s p) = true ∨ (byteAt s p == 95) = true))) :
    okName s = nameL ((bytesL s).drop (p + 1)) := by
  have hl : p < (bytesL s).length := by rw [← bytesL_len]; exact hp
  have hb := byteAt_get hl
  rw [hb] at hg
  rcases h with rfl | h
  · rcases hg with hg | ⟨hg, _⟩
    · unfold okName
      cases hL : bytesL s with
      | nil => rw [hL] at hl; simp at hl
      | cons c l =>
        simp only [hL, List.getElem_cons_zero] at hg
        simp [hg]
    · exact absurd rfl hg
  · rw [h, List.drop_eq_getElem_cons hl, nameL]
    rcases hg with hg | ⟨_, hg | hg⟩
    · simp [hg]
    · simp [hg]
    · have : (smallB (bytesL s)[p] || digitB (bytesL s)[p] || (bytesL s)[p] == 95) = true := by rw [hg]; simp
      rw [if_pos this]
theorem okName_end {s : ByteArray} {p : Nat} (hp : s.size ≤ p) (h : p = 0 ∨ okName s = nameL ((bytesL s).drop p)) : okName s = true := by
  rcases h with rfl | h
  · unfold okName
    have : bytesL s = [] := List.length_eq_zero_iff.1 (by rw [← bytesL_len]; omega)
    rw [this]
  · rw [h, List.drop_eq_nil_of_le (by rw [← bytesL_len]; exact hp)]; rfl
theorem okName_bad {s : ByteArray} {p : Nat} (hp : p < s.size) (h : p = 0 ∨ okName s = nameL ((bytesL s).drop p)) (hg : smallB (byteAt s p) = false) (h2 : p = 0 ∨ (digitB (byteAt s p) = false ∧ (byteAt s p == 95) = false)) : okName s = false := by
  have hl : p < (bytesL s).length := by rw [← bytesL_len]; exact hp
  have hb := byteAt_get hl
  rw [hb] at hg h2
  by_cases hp0 : p = 0
  · subst hp0
    unfold okName
    cases hL : bytesL s with
    | nil => rw [hL] at hl; simp at hl
    | cons c l =>
      simp only [hL, List.getElem_cons_zero] at hg
      simp [hg]
  · rcases h with h | h
    · exact absurd h hp0
    · rcases h2 with h2 | ⟨h2, h3⟩
      · exact absurd h2 hp0
      · rw [h, List.drop_eq_getElem_cons hl, nameL, hg, h2, h3]; rfl
/-! The order of texts. -/
theorem lt_irrefl' : ∀ (l : List UInt8), Op.bytesLess l l = false
  | [] => rfl
  | c :: l => by simp [Op.bytesLess, lt_irrefl' l]
theorem lt_trans' : ∀ (a b c : List UInt8), Op.bytesLess a b = true → Op.bytesLess b c = true → Op.bytesLess a c = true
  | [], [], c, h, _ => by simp [Op.bytesLess] at h
  | [], b :: bs, [], _, h => by simp [Op.bytesLess] at h
  | [], b :: bs, c :: cs, _, _ => rfl
  | a :: az, [], c, h, _ => by simp [Op.bytesLess] at h
  | a :: az, b :: bs, [], _, h => by simp [Op.bytesLess] at h
  | a :: az, b :: bs, c :: cs, h, k => by
    simp only [Op.bytesLess, Bool.or_eq_true, Bool.and_eq_true, decide_eq_true_eq, beq_iff_eq] at h k ⊢
    rcases h with h | ⟨rfl, h⟩
    · rcases k with k | ⟨rfl, k⟩
      · exact .inl (UInt8.lt_trans h k)
      · exact .inl h
    · rcases k with k | ⟨rfl, k⟩
      · exact .inl k
      · exact .inr ⟨rfl, lt_trans' az bs cs h k⟩
theorem strLt_trans {a b c : ByteArray} (h : strLt a b = true) (k : strLt b c = true) : strLt a c = true := lt_trans' _ _ _ h k
theorem strEq_refl (s : ByteArray) : strEq s s = true := by simp [strEq]
theorem strEq_toList {a b : ByteArray} (h : strEq a b = true) : a.toList = b.toList := by simpa [strEq] using h
theorem words_sorted : ∀ (i j : Nat) (hi : i < wordsL.length) (hj : j < wordsL.length), i < j → strLt wordsL[i] wordsL[j] = true := by
  have key : wordsL.Pairwise (fun a b => strLt a b = true) := by decide +kernel
  exact fun i j hi hj hij => List.pairwise_iff_getElem.1 key i j hi hj hij
theorem wordIn_get {a : ByteArray} : ∀ {l : List ByteArray} {i : Nat} (hi : i < l.length), strEq l[i] a = true → wordIn a l = true
  | x :: l, 0, _, h => by simp [wordIn]; exact .inl h
  | x :: l, i + 1, hi, h => by
    simp only [wordIn]
    split
    · rfl
    · exact wordIn_get (l := l) (by simpa using hi) h
theorem wordIn_no {a : ByteArray} : ∀ {l : List ByteArray}, (∀ i (hi : i < l.length), strEq l[i] a = false) → wordIn a l = false
  | [], _ => rfl
  | x :: l, h => by
    have h0 := h 0 (by simp)
    simp only [List.getElem_cons_zero] at h0
    simp only [wordIn, h0, Bool.false_eq_true, if_false]
    exact wordIn_no (fun i hi => h (i + 1) (by simpa using hi))
def Halved (a : ByteArray) (lo hi : Nat) : Prop := lo ≤ hi ∧ hi ≤ wordsL.length ∧ (∀ i (h : i < wordsL.length), i < lo → strLt wordsL[i] a = true) ∧ ∀ i (h : i < wordsL.length), hi ≤ i → strLt wordsL[i] a = false
theorem Halved.up {a : ByteArray} {lo hi m : Nat} (h : Halved a lo hi) (h1 : lo ≤ m) (h2 : m < hi) (hm : m < wordsL.length) (hs : strLt wordsL[m] a = true) : Halved a (m + 1) hi := by
  refine ⟨by omega, h.2.1, fun i hi' hlt => ?_, h.2.2.2⟩
  by_cases he : i = m
  · subst he; exact hs
  · exact strLt_trans (words_sorted i m hi' hm (by omega)) hs
theorem Halved.down {a : ByteArray} {lo hi m : Nat} (h : Halved a lo hi) (h1 : lo ≤ m) (h2 : m < hi) (hm : m < wordsL.length) (hs : strLt wordsL[m] a = false) : Halved a lo m := by
  refine ⟨h1, by omega, h.2.2.1, fun i hi' hle => ?_⟩
  by_cases he : i = m
  · subst he; exact hs
  · cases hq : strLt wordsL[i] a with
    | false => rfl
    | true => rw [strLt_trans (words_sorted m i hm hi' (by omega)) hq] at hs; cases hs
theorem ne_of_lt {x a : ByteArray} (h : strLt x a = true) : strEq x a = false := by
  cases hq : strEq x a with
  | false => rfl
  | true =>
    have := strEq_toList hq
    simp only [strLt, this, lt_irrefl'] at h; cases h
theorem Halved.done {a : ByteArray} {lo : Nat} (h : Halved a lo lo) : wordIn a wordsL = if hl : lo < wordsL.length then strEq wordsL[lo] a else false := by
  have rest : ∀ i (hi : i < wordsL.length), i ≠ lo → strEq wordsL[i] a = false := fun i hi hne => by
    rcases Nat.lt_or_ge i lo with hlt | hge
    · exact ne_of_lt (h.2.2.1 i hi hlt)
    · cases hq : strEq wordsL[i] a with
      | false => rfl
      | true =>
        have hll : lo < wordsL.length := by omega
        have h1 := words_sorted lo i hll hi (by omega)
        have h2 := h.2.2.2 lo hll (Nat.le_refl _)
        have := strEq_toList hq
        simp only [strLt, this] at h1 h2
        rw [h1] at h2; cases h2
  by_cases hl : lo < wordsL.length
  · rw [dif_pos hl]
    cases hq : strEq wordsL[lo] a with
    | true => exact wordIn_get hl hq
    | false =>
      apply wordIn_no
      intro i hi
      by_cases he : i = lo
      · subst he; exact hq
      · exact rest i hi he
  · rw [dif_neg hl]
    exact wordIn_no fun i hi => rest i hi (by omega)
end
section
open Go
structure Tok where
  kind : Int
  n : Int
  text : ByteArray
  at_ : Int
def tokE (t : Tok) : List Value := [.int .i64 t.kind, .int .i64 t.n, .string t.text, .int .i64 t.at_]
def tokRel : Rel Tok 4 := flatRel tokE (fun _ => rfl) (fun x u hu => by
  simp only [tokE, List.mem_cons, List.not_mem_nil, or_false] at hu
  rcases hu with rfl | rfl | rfl | rfl <;> rfl)
def wordB (c : Int) : Bool := smallB c || greatB c || digitB c || c == 95
def endsW (p : Int → Bool) (s : ByteArray) : Nat → Nat → Nat
  | 0, i => i
  | f + 1, i => if p (byteAt s i) then endsW p s f (i + 1) else i
theorem endsW_le (p : Int → Bool) (s : ByteArray) : ∀ (f i : Nat), i ≤ endsW p s f i ∧ endsW p s f i ≤ i + f
  | 0, i => ⟨Nat.le_refl _, Nat.le_refl _⟩
  | f + 1, i => by
    rw [endsW]
    split
    · have := endsW_le p s f (i + 1); omega
    · omega
def endsF (s : ByteArray) (i : Nat) : Nat := if digitB (byteAt s i) then endsW digitB s (s.size - i) i else endsW wordB s (s.size - i) i
theorem endsF_le {s : ByteArray} {i : Nat} (h : i < s.size) : i ≤ endsF s i ∧ endsF s i ≤ s.size := by
  unfold endsF; split
  · have := endsW_le digitB s (s.size - i) i; omega
  · have := endsW_le wordB s (s.size - i) i; omega
theorem endsF_gt {s : ByteArray} {i : Nat} (h : i < s.size) (hp : digitB (byteAt s i) = true ∨ smallB (byteAt s i) = true ∨ greatB (byteAt s i) = true) : i < endsF s i := by
  have e : s.size - i = (s.size - i - 1) + 1 := by omega
  unfold endsF
  split
  · rename_i hd
    rw [e, endsW, if_pos hd]
    have := endsW_le digitB s (s.size - i - 1) (i + 1); omega
  · rename_i hd
    have hw : wordB (byteAt s i) = true := by
      unfold wordB
      rcases hp with hp | hp | hp
      · exact absurd hp hd
      · simp [hp]
      · simp [hp]
    rw [e, endsW, if_pos hw]
    have := endsW_le wordB s (s.size - i - 1) (i + 1); omega
def numW (s : ByteArray) : Nat → Int → Nat → Option Int
  | 0, n, _ => some n
  | f + 1, n, i =>
    if decide (n > w64 (Int.tdiv (w64 (9223372036854775807 - w64 (w64 (byteAt s i) - 48))) 10)) then none
    else numW s f (w64 (w64 (10 * n) + w64 (w64 (byteAt s i) - 48))) (i + 1)
def numF (s : ByteArray) : Option Int :=
  if decide ((s.size : Int) > 19) then none else if decide ((s.size : Int) > 1) && byteAt s 0 == 48 then none else numW s s.size 0 0
def signsB : ByteArray := ByteArray.mk #[40, 41, 123, 125, 44, 58, 64, 43, 45, 42, 47, 37, 61, 60]
def signIn (c : Int) : List Int → Bool
  | [] => false
  | x :: l => if x == c then true else signIn c l
def signF (s : ByteArray) : ByteArray :=
  if decide ((s.size : Int) > 1) && (strEq (s.extract 0 2) (ByteArray.mk #[33, 61]) || strEq (s.extract 0 2) (ByteArray.mk #[60, 61])) then s.extract 0 2
  else if signIn (byteAt s 0) (bytesL signsB) then s.extract 0 1 else ByteArray.mk #[]
def tok0 : Tok := ⟨0, 0, ByteArray.mk #[], 0⟩
def tokF (s : ByteArray) (i : Nat) : Tok × Nat × Int :=
  if digitB (byteAt s i) then
    match numF (s.extract i (endsF s i)) with
    | none => (tok0, 0, 111)
    | some n => (⟨1, n, ByteArray.mk #[], i⟩, endsF s i, 0)
  else if smallB (byteAt s i) || greatB (byteAt s i) then
    if wordIn (s.extract i (endsF s i)) wordsL then (⟨3, 0, s.extract i (endsF s i), i⟩, endsF s i, 0)
    else if isNameB (s.extract i (endsF s i)) then (⟨2, 0, s.extract i (endsF s i), i⟩, endsF s i, 0) else (tok0, 0, 112)
  else if strEq (signF (s.extract i s.size)) (ByteArray.mk #[]) then (tok0, 0, 110) else (⟨4, 0, signF (s.extract i s.size), i⟩, i + (signF (s.extract i s.size)).size, 0)
theorem signF_le (s : ByteArray) : (signF s).size ≤ s.size := by
  unfold signF
  split
  · rw [ByteArray.size_extract]; omega
  · split
    · rw [ByteArray.size_extract]; omega
    · exact Nat.zero_le _
theorem tokF_next {s : ByteArray} {i : Nat} (h : i < s.size) (he : (tokF s i).2.2 = 0) : i < (tokF s i).2.1 ∧ (tokF s i).2.1 ≤ s.size := by
  unfold tokF at he ⊢
  have h1 := endsF_le h
  split
  · rename_i hd
    rw [if_pos hd] at he
    have h2 := endsF_gt h (.inl hd)
    cases e : numF (s.extract i (endsF s i)) with
    | none => rw [e] at he; simp at he
    | some n => exact ⟨h2, h1.2⟩
  · rename_i hd
    rw [if_neg hd] at he
    split
    · rename_i hs
      rw [if_pos hs] at he
      have h2 := endsF_gt h (.inr (by simpa using hs))
      split
      · exact ⟨h2, h1.2⟩
      · rename_i hw
        rw [if_neg hw] at he
        split
        · exact ⟨h2, h1.2⟩
        · rename_i hn
          rw [if_neg hn] at he; simp at he
    · rename_i hs
      rw [if_neg hs] at he
      split
      · rename_i hz
        rw [if_pos hz] at he; simp at he
      · rename_i hz
        have hle := signF_le (s.extract i s.size)
        rw [ByteArray.size_extract] at hle
        have hne : (signF (s.extract i s.size)).size ≠ 0 := fun e => hz (by
          have : signF (s.extract i s.size) = ByteArray.mk #[] := by
            apply ByteArray.ext
            exact Array.eq_empty_of_size_eq_zero e
          rw [this]; exact strEq_refl _)
        dsimp only
        omega
def scanL (s : ByteArray) : Nat → Nat → List Tok → List Tok × Int × Int
  | 0, _, acc => (acc ++ [⟨0, 0, ByteArray.mk #[], s.size⟩], 0, 0)
  | f + 1, i, acc =>
    if decide ((i : Int) < (s.size : Int)) then
      if blankB (byteAt s i) then scanL s f (i + 1) acc
      else if (tokF s i).2.2 != 0 then ([], (tokF s i).2.2, i) else scanL s f (tokF s i).2.1 (acc ++ [(tokF s i).1])
    else (acc ++ [⟨0, 0, ByteArray.mk #[], s.size⟩], 0, 0)
def scanF (s : ByteArray) : List Tok × Int × Int := if decide ((s.size : Int) > 2000) then ([], 113, 0) else scanL s s.size 0 []
end
end Go.Vx
namespace Go.Vx.Tryz
open Go Go.Vx Go.Proofs
theorem sub2 (s : ByteArray) (l h : Nat) (h1 : l ≤ h) (h2 : h ≤ s.size) {w : World} : Sem.run E.P (Instr.sliceAt 9 (.string s) (some (.int .i64 (l : Int))) (some (.int .i64 (h : Int))) none) w = .ok (.string (s.extract l h)) w := by
  have hu := run_underlying (P := E.P) (Tryz.underlying9) w
  have h3 : l ≤ h := h1
  simp [Instr.sliceAt, Instr.slice, hu, Instr.sliceBounds, Instr.sliceBound, asIntOf, h1, h2]
theorem subTo (s : ByteArray) (h : Nat) (h2 : h ≤ s.size) {w : World} : Sem.run E.P (Instr.sliceAt 9 (.string s) none (some (.int .i64 (h : Int))) none) w = .ok (.string (s.extract 0 h)) w := by
  have hu := run_underlying (P := E.P) (Tryz.underlying9) w
  simp [Instr.sliceAt, Instr.slice, hu, Instr.sliceBounds, Instr.sliceBound, asIntOf, h2]
theorem subFrom (s : ByteArray) (l : Nat) (h2 : l ≤ s.size) {w : World} : Sem.run E.P (Instr.sliceAt 9 (.string s) (some (.int .i64 (l : Int))) none none) w = .ok (.string (s.extract l s.size)) w := by
  have hu := run_underlying (P := E.P) (Tryz.underlying9) w
  simp [Instr.sliceAt, Instr.slice, hu, Instr.sliceBounds, Instr.sliceBound, asIntOf, h2]
theorem ends_c (s : ByteArray) (b : Nat) (hb : b < s.size) (hs : s.size < 2 ^ 48) {w : World} : CallsX E.P 61 #[.string s, .int .i64 (b : Int)] w (IsV (.int .i64 ((endsF s b : Nat) : Int)) w) never := by
  have wrap : ∀ {p : Int → Bool} {j : Nat}, j < s.size → p (byteAt s j) = true → endsW p s (s.size - (j + 1)) (j + 1) = endsW p s (s.size - j) j := fun {p j} hj hp => by
    rw [show s.size - j = (s.size - (j + 1)) + 1 by omega, endsW, if_pos hp]
  have stop : ∀ {p : Int → Bool} {j : Nat}, j < s.size → p (byteAt s j) = false → endsW p s (s.size - j) j = j := fun {p j} hj hp => by
    rw [show s.size - j = (s.size - (j + 1)) + 1 by omega, endsW, if_neg (by rw [hp]; exact Bool.false_ne_true)]
  have last : ∀ {p : Int → Bool} {j : Nat}, ¬ j < s.size → endsW p s (s.size - j) j = j := fun {p j} hj => by
    rw [show s.size - j = 0 by omega, endsW]
  have hsm : ∀ {j : Nat}, j < s.size → w64 ((j : Int) + 1) = ((j + 1 : Nat) : Int) := fun {j} hj => w64_succ (by omega)
  refine vc81 ⟨⟨by omega, by omega⟩, callB (digit_c _) fun w2 hE2 => ⟨fun hd => ?_, fun hd => ?_⟩⟩
  · have he : endsF s b = endsW digitB s (s.size - b) b := by unfold endsF; rw [if_pos hd]
    refine ⟨fun x w3 => ∃ j : Nat, x = j ∧ j ≤ s.size ∧ endsW digitB s (s.size - j) j = endsF s b ∧ Ext w w3, fun x => ((s.size : Int) - x).toNat, ⟨b, rfl, by omega, he.symm, hE2⟩, ?_⟩
    rintro _ x w3 ⟨j, rfl, hj, hg, hE3⟩
    refine ⟨fun hlt => ?_, fun hlt => ?_⟩
    · have hlt : j < s.size := by simpa using hlt
      refine ⟨⟨by omega, by omega⟩, callB (digit_c _) fun w4 hE4 => ⟨fun h2 => ⟨⟨j + 1, hsm hlt, hlt, by rw [wrap hlt h2, hg], hE3.trans hE4⟩, ?_⟩, fun h2 => ⟨by rw [← hg, stop hlt h2], hE3.trans hE4⟩⟩⟩
      rw [hsm hlt]; exact mea_succ hlt
    · have hlt : ¬ j < s.size := by simpa using hlt
      exact ⟨by rw [← hg, last hlt], hE3⟩
  · have he : endsF s b = endsW wordB s (s.size - b) b := by unfold endsF; rw [if_neg (by rw [hd]; exact Bool.false_ne_true)]
    refine ⟨fun x w3 => ∃ j : Nat, x = j ∧ j ≤ s.size ∧ endsW wordB s (s.size - j) j = endsF s b ∧ Ext w w3, fun x => ((s.size : Int) - x).toNat, ⟨b, rfl, by omega, he.symm, hE2⟩, ?_⟩
    rintro _ x w3 ⟨j, rfl, hj, hg, hE3⟩
    refine ⟨fun hlt => ?_, fun hlt => ?_⟩
    · have hlt : j < s.size := by simpa using hlt
      have hin : (0 : Int) ≤ (j : Int) ∧ (j : Int) < (s.size : Int) := ⟨by omega, by omega⟩
      have go : ∀ {w4 : World}, Ext w3 w4 → wordB (byteAt s j) = true → (∃ j' : Nat, w64 ((j : Int) + 1) = j' ∧ j' ≤ s.size ∧ endsW wordB s (s.size - j') j' = endsF s b ∧ Ext w w4) ∧ ((s.size : Int) - w64 ((j : Int) + 1)).toNat < ((s.size : Int) - (j : Int)).toNat := fun {w4} hE4 h2 =>
        ⟨⟨j + 1, hsm hlt, hlt, by rw [wrap hlt h2, hg], hE3.trans hE4⟩, by rw [hsm hlt]; exact mea_succ hlt⟩
      refine ⟨hin, callB (small_c _) fun w4 hE4 => ⟨fun h2 => go hE4 (by unfold wordB; rw [h2]; rfl), fun h2 => ⟨hin, callB (great_c _) fun w5 hE5 => ⟨fun h3 => go (hE4.trans hE5) (by unfold wordB; rw [h3]; simp), fun h3 => ⟨hin, callB (digit_c _) fun w6 hE6 => ⟨fun h4 => go ((hE4.trans hE5).trans hE6) (by unfold wordB; rw [h4]; simp), fun h4 => ⟨hin, fun h5 => go ((hE4.trans hE5).trans hE6) (by unfold wordB; rw [h5]; simp), fun h5 => ⟨?_, ((hE3.trans hE4).trans hE5).trans hE6⟩⟩⟩⟩⟩⟩⟩⟩
      rw [← hg, stop hlt (by unfold wordB; rw [h2, h3, h4, h5]; rfl)]
    · have hlt : ¬ j < s.size := by simpa using hlt
      exact ⟨by rw [← hg, last hlt], hE3⟩
def numV : Option Int → Value
  | none => .tuple #[.int .i64 0, .bool false]
  | some n => .tuple #[.int .i64 n, .bool true]
theorem number_c (s : ByteArray) {w : World} : CallsX E.P 62 #[.string s] w (IsV (numV (numF s)) w) never := by
  have r := Upd.refl w no
  have stepW : ∀ {n : Int} {j : Nat}, j < s.size → numW s (s.size - j) n j = if decide (n > w64 (Int.tdiv (w64 (9223372036854775807 - w64 (w64 (byteAt s j) - 48))) 10)) then none else numW s (s.size - (j + 1)) (w64 (w64 (10 * n) + w64 (w64 (byteAt s j) - 48))) (j + 1) := fun {n j} hj => by
    rw [show s.size - j = (s.size - (j + 1)) + 1 by omega, numW]
  have last : ∀ {n : Int} {j : Nat}, ¬ j < s.size → numW s (s.size - j) n j = some n := fun {n j} hj => by
    rw [show s.size - j = 0 by omega, numW]
  refine vc82 ⟨fun h1 => ⟨by unfold numF; rw [if_pos h1]; rfl, r⟩, fun h1 => ?_⟩
  have hsz : s.size ≤ 19 := by simp at h1; omega
  have body : ∀ (_ : numF s = numW s (s.size - 0) 0 0), ∃ (I : Int → Int → World → Prop) (m : Int → Int → Nat), I 0 0 w ∧
      ∀ (_ : Nat → Value) (x x1 : Int) (w2 : World), I x x1 w2 → (decide (x1 < (s.size : Int)) = true → ((0 : Int) ≤ x1 ∧ x1 < (s.size : Int)) ∧ (decide (x > w64 (Int.tdiv (w64 (9223372036854775807 - w64 (w64 (byteAt s x1) - 48))) 10)) = true → IsV (numV (numF s)) w (.tuple #[.int .i64 0, .bool false]) w2) ∧
        (decide (x > w64 (Int.tdiv (w64 (9223372036854775807 - w64 (w64 (byteAt s x1) - 48))) 10)) = false → I (w64 (w64 (10 * x) + w64 (w64 (byteAt s x1) - 48))) (w64 (x1 + 1)) w2 ∧ m (w64 (w64 (10 * x) + w64 (w64 (byteAt s x1) - 48))) (w64 (x1 + 1)) < m x x1)) ∧
        (decide (x1 < (s.size : Int)) = false → IsV (numV (numF s)) w (.tuple #[.int .i64 x, .bool true]) w2) := fun hn => by
    refine ⟨fun x x1 w2 => ∃ j : Nat, x1 = j ∧ j ≤ s.size ∧ numW s (s.size - j) x j = numF s ∧ Ext w w2, fun _ x1 => ((s.size : Int) - x1).toNat, ⟨0, rfl, by omega, hn.symm, r⟩, ?_⟩
    rintro _ x x1 w2 ⟨j, rfl, hj, hg, hE⟩
    refine ⟨fun hlt => ?_, fun hlt => ?_⟩
    · have hlt : j < s.size := by simpa using hlt
      rw [stepW hlt] at hg
      refine ⟨⟨by omega, by omega⟩, fun h2 => ⟨by rw [if_pos h2] at hg; rw [← hg]; rfl, hE⟩, fun h2 => ?_⟩
      rw [if_neg (by rw [h2]; exact Bool.false_ne_true)] at hg
      refine ⟨⟨j + 1, w64_succ (by omega), hlt, hg, hE⟩, ?_⟩
      dsimp only
      rw [w64_succ (by omega)]; exact mea_succ hlt
    · have hlt : ¬ j < s.size := by simpa using hlt
      rw [last hlt] at hg
      exact ⟨by rw [← hg]; rfl, hE⟩
  refine ⟨fun h2 => ⟨⟨by omega, by simp at h2; omega⟩, fun h3 => ⟨by unfold numF; rw [if_neg (by rw [h1]; exact Bool.false_ne_true), h2, h3]; rfl, r⟩, fun h3 => body ?_⟩, fun h2 => body ?_⟩
  · unfold numF; rw [if_neg (by rw [h1]; exact Bool.false_ne_true), h2, h3]; rfl
  · unfold numF; rw [if_neg (by rw [h1]; exact Bool.false_ne_true), h2]; rfl
theorem sign_c (s : ByteArray) (h0 : 0 < s.size) {w : World} : CallsX E.P 67 #[.string s] w (IsV (.string (signF s)) w) never := by
  have r := Upd.refl w no
  have body : ∀ {w1 : World} (_ : Ext w w1) (_ : signF s = if signIn (byteAt s 0) (bytesL signsB) then s.extract 0 1 else ByteArray.mk #[]), ∃ (I : Int → World → Prop) (m : Int → Nat), I 0 w1 ∧
      ∀ (_ : Nat → Value) (x : Int) (w2 : World), I x w2 → (decide (x < 14) = true → ((0 : Int) ≤ x ∧ x < 14) ∧ ((0 : Int) ≤ 0 ∧ (0 : Int) < (s.size : Int)) ∧
        ((byteAt signsB x == byteAt s 0) = true → ∀ w3, Upd w2 w3 (setOf []) → ∃ y, Sem.run E.P (Instr.sliceAt 9 (.string s) none (some (.int .i64 1)) none) w3 = .ok (.string y) w3 ∧ IsV (.string (signF s)) w (.string y) w3) ∧
        ((byteAt signsB x == byteAt s 0) = false → ∀ w3, Upd w2 w3 (setOf []) → I (w64 (x + 1)) w3 ∧ m (w64 (x + 1)) < m x)) ∧
        (decide (x < 14) = false → IsV (.string (signF s)) w (.string (ByteArray.mk #[])) w2) := fun {w1} hE1 hs => by
    refine loop0 (kids := bytesL signsB) (l := 14) rfl (by omega) hE1 (fun _ => signIn (byteAt s 0)) (fun I m j w2 hj hg hE2 k => ?_) (fun w2 hg hE2 => ?_)
    · have hj14 : j < 14 := hj
      rw [signIn] at hg
      have hb := byteAt_get (s := signsB) hj
      refine ⟨⟨by omega, by omega⟩, ⟨by omega, by omega⟩, fun h2 w3 hU3 => ⟨_, subTo s 1 h0, ?_, Ext.trans hE2 hU3⟩, fun h2 w3 hU3 => k _ ?_ (Ext.trans hE2 hU3)⟩
      · rw [hs, ← hg, if_pos (by rw [← hb, if_pos h2])]
      · rw [← hg, if_neg (by rw [← hb, h2]; exact Bool.false_ne_true)]
    · refine ⟨?_, hE2⟩
      rw [hs, ← hg]; rfl
  refine vc87 ⟨fun h1 => ?_, fun h1 => body r ?_⟩
  · have h2 : 2 ≤ s.size := by simp at h1; omega
    refine ⟨_, subTo s 2 h2, fun e1 => ⟨_, subTo s 2 h2, ?_, r⟩, fun e1 => ⟨_, subTo s 2 h2, fun e2 => ⟨_, subTo s 2 h2, ?_, r⟩, fun e2 => body r ?_⟩⟩
    · unfold signF; rw [h1, e1]; rfl
    · unfold signF; rw [h1, e1, e2]; rfl
    · unfold signF; rw [h1, e1, e2]; rfl
  · unfold signF; rw [h1]; rfl
def tokV (r : Tok × Nat × Int) : Value := .tuple #[.agg #[.int .i64 r.1.kind, .int .i64 r.1.n, .string r.1.text, .int .i64 r.1.at_], .int .i64 (r.2.1 : Int), .int .i64 r.2.2]
theorem token_c (s : ByteArray) (b : Nat) (hb : b < s.size) (hs : s.size < 2 ^ 30) {w : World} : CallsX E.P 43 #[.string s, .int .i64 (b : Int)] w (IsV (tokV (tokF s b)) w) never := by
  refine vc54 ?_
  intro id hid
  have hin : (0 : Int) ≤ (b : Int) ∧ (b : Int) < (s.size : Int) := ⟨by omega, by omega⟩
  have hle := endsF_le hb
  have fin : ∀ {w1 w2 : World} {v : Value}, Ext w w1 → Upd w1 w2 (setOf [id]) → tokV (tokF s b) = v → IsV (tokV (tokF s b)) w v w2 := fun hE hU hv => ⟨hv.symm, Upd.step hE hU fun x hx => by simp only [setOf, no, or_false] at hx; omega⟩
  refine ⟨hin, fun w1 hE1 _ => callB (digit_c _) fun w2 hE2 => ⟨fun hd => ?_, fun hd => ?_⟩⟩
  · have hE02 : Ext w w2 := Ext.trans hE1 hE2
    refine callI (ends_c s b hb (by omega)) fun w3 hE3 => ⟨_, sub2 s b (endsF s b) hle.1 hle.2, ?_⟩
    refine ⟨_, _, number_c _, ?_, never_any⟩
    rintro v w4 ⟨rfl, hE4⟩
    have hE04 := (hE02.trans hE3).trans hE4
    cases hn : numF (s.extract b (endsF s b)) with
    | none => exact ⟨0, false, rfl, no, hE4, Away.no _, fun _ w5 hU5 => fin hE04 hU5 (by unfold tokF; rw [if_pos hd, hn]; rfl), fun h => nomatch h⟩
    | some n => exact ⟨n, true, rfl, no, hE4, Away.no _, (fun h => nomatch h), fun _ w5 hU5 => fin hE04 hU5 (by unfold tokF; rw [if_pos hd, hn]; rfl)⟩
  · have hE02 : Ext w w2 := Ext.trans hE1 hE2
    have hd' : ¬ digitB (byteAt s b) = true := by rw [hd]; exact Bool.false_ne_true
    have word : ∀ {w3 : World} {X : ContX}, Ext w w3 → (smallB (byteAt s b) || greatB (byteAt s b)) = true →
        ∃ (R2 : Value → World → Prop) (X' : ContX), CallsX E.P 61 #[.string s, .int .i64 (b : Int)] w3 R2 X' ∧ (∀ (v4 : Value) (w26 : World), R2 v4 w26 → ∃ x6, v4 = .int .i64 x6 ∧ ∃ S, Upd w3 w26 S ∧ Away [id] S ∧ ∃ x7, Sem.run E.P (Instr.sliceAt 9 (.string s) (some (.int .i64 (b : Int))) (some (.int .i64 x6)) none) w26 = .ok (.string x7) w26 ∧
          ∃ (R3 : Value → World → Prop) (X'2 : ContX), CallsX E.P 65 #[.string x7] w26 R3 X'2 ∧ (∀ (v5 : Value) (w27 : World), R3 v5 w27 → ∃ x8, v5 = .bool x8 ∧ ∃ S, Upd w26 w27 S ∧ Away [id] S ∧
            (x8 = true → ∀ w13, Upd w27 w13 (setOf [id]) → IsV (tokV (tokF s b)) w (.tuple #[.agg #[.int .i64 3, .int .i64 0, .string x7, .int .i64 (b : Int)], .int .i64 x6, .int .i64 0]) w13) ∧
            (x8 = false → ∃ (R4 : Value → World → Prop) (X'3 : ContX), CallsX E.P 66 #[.string x7] w27 R4 X'3 ∧ (∀ (v6 : Value) (w28 : World), R4 v6 w28 → ∃ x9, v6 = .bool x9 ∧ ∃ S, Upd w27 w28 S ∧ Away [id] S ∧
              ((!x9) = true → ∀ w14, Upd w28 w14 (setOf [id]) → IsV (tokV (tokF s b)) w (.tuple #[.agg #[.int .i64 0, .int .i64 0, .string (ByteArray.mk #[]), .int .i64 0], .int .i64 0, .int .i64 112]) w14) ∧
              ((!x9) = false → ∀ w15, Upd w28 w15 (setOf [id]) → IsV (tokV (tokF s b)) w (.tuple #[.agg #[.int .i64 2, .int .i64 0, .string x7, .int .i64 (b : Int)], .int .i64 x6, .int .i64 0]) w15)) ∧ ∀ ch w2, X'3 ch w2 → X ch w2)) ∧ ∀ ch w2, X'2 ch w2 → X ch w2) ∧ ∀ ch w2, X' ch w2 → X ch w2 := by
      intro w3 X hE03 hsg
      refine callI (ends_c s b hb (by omega)) fun w4 hE4 => ⟨_, sub2 s b (endsF s b) hle.1 hle.2, ?_⟩
      refine callB (word_c _) fun w5 hE5 => ⟨fun hw w6 hU6 => fin ((hE03.trans hE4).trans hE5) hU6 ?_, fun hw => callB (isName_c _) fun w6 hE6 => ⟨fun hn w7 hU7 => fin (((hE03.trans hE4).trans hE5).trans hE6) hU7 ?_, fun hn w7 hU7 => fin (((hE03.trans hE4).trans hE5).trans hE6) hU7 ?_⟩⟩
      · unfold tokF; rw [if_neg hd', if_pos hsg, if_pos hw]; rfl
      · unfold tokF; rw [if_neg hd', if_pos hsg, if_neg (by rw [hw]; exact Bool.false_ne_true), if_neg (by simpa using hn)]; rfl
      · unfold tokF; rw [if_neg hd', if_pos hsg, if_neg (by rw [hw]; exact Bool.false_ne_true), if_pos (by simpa using hn)]; rfl
    refine callB (small_c _) fun w3 hE3 => ⟨fun h1 => word (hE02.trans hE3) (by rw [h1]; rfl), fun h1 => callB (great_c _) fun w4 hE4 => ⟨fun h2 => word ((hE02.trans hE3).trans hE4) (by rw [h2]; simp), fun h2 => ?_⟩⟩
    have hsg : ¬ (smallB (byteAt s b) || greatB (byteAt s b)) = true := by rw [h1, h2]; exact Bool.false_ne_true
    have hz : 0 < (s.extract b s.size).size := by rw [ByteArray.size_extract]; omega
    have hle2 := signF_le (s.extract b s.size)
    rw [ByteArray.size_extract] at hle2
    refine ⟨_, subFrom s b (by omega), ⟨_, _, sign_c _ hz, ?_, never_any⟩⟩
    rintro v w5 ⟨rfl, hE5⟩
    have hE05 := ((hE02.trans hE3).trans hE4).trans hE5
    refine ⟨_, rfl, no, hE5, Away.no _, fun h3 w6 hU6 => fin hE05 hU6 ?_, fun h3 w6 hU6 => fin hE05 hU6 ?_⟩
    · unfold tokF; rw [if_neg hd', if_neg hsg, if_pos h3]; rfl
    · unfold tokF; rw [if_neg hd', if_neg hsg, if_neg (by rw [h3]; exact Bool.false_ne_true)]
      have hw : w64 ((b : Int) + ((signF (s.extract b s.size)).size : Int)) = ((b + (signF (s.extract b s.size)).size : Nat) : Int) := by rw [w64_id (by omega) (by omega)]; omega
      rw [hw]; rfl
theorem sl57 : SlT E.P 57 65 4 40 := SlT.of (by kernel_rfl) (by omega) (by omega)
def ScanR (w : World) (r : List Tok × Int × Int) : Value → World → Prop := fun v w' => ∃ A l c, v = .tuple #[.slice A l c, .int .i64 r.2.1, .int .i64 r.2.2] ∧ RowIn w' (Rng w.heap.size w'.heap.size) 4 A l c (r.1.map tokE) ∧ Ext w w'
theorem scan_c (s : ByteArray) {w : World} : CallsX E.P 27 #[.string s] w (ScanR w (scanF s)) never := by
  have nil : ∀ {w2 : World}, RowIn w2 (Rng w.heap.size w2.heap.size) 4 none 0 0 (([] : List Tok).map tokE) := fun {w2} => ⟨rfl, Nat.le_refl _, by omega, by simp, fun h => absurd rfl h⟩
  refine vc37 ⟨fun h1 => ⟨none, 0, 0, by unfold scanF; rw [if_pos h1], by unfold scanF; rw [if_pos h1]; exact nil, Upd.refl _ _⟩, fun h1 => ?_⟩
  have hsz : s.size ≤ 2000 := by simp at h1; omega
  have hres : scanF s = scanL s s.size 0 [] := by unfold scanF; rw [if_neg (by rw [h1]; exact Bool.false_ne_true)]
  generalize scanF s = res at hres
  refine ⟨fun A n c x w2 => ∃ (j f : Nat) (ts : List Tok), x = j ∧ j ≤ s.size ∧ s.size ≤ f + j ∧ ts.length ≤ j ∧ scanL s f j ts = res ∧ RowB tokRel 65 w2 true w.heap.size w2.heap.size no no ts A n c ∧ Ext w w2, fun _ _ _ x => ((s.size : Int) - x).toNat,
    ⟨0, s.size, [], rfl, by omega, by omega, by simp, hres.symm, RowB.nil (fun _ h => h.elim) (Nat.le_refl _), Upd.refl _ _⟩, ?_⟩
  rintro _ A n c x w2 ⟨j, f, ts, rfl, hj, hf, hts, hg, hB, hE2⟩
  have hnl := hB.len
  have hs2 := hE2.size
  have hsm : ∀ {i : Nat}, i < s.size → w64 ((i : Int) + 1) = ((i + 1 : Nat) : Int) := fun {i} hi => w64_succ (by omega)
  refine ⟨fun hlt => ?_, fun hlt => ?_⟩
  · have hlt' : j < s.size := by simpa using hlt
    obtain ⟨f, rfl⟩ : ∃ g, f = g + 1 := ⟨f - 1, by omega⟩
    rw [scanL, if_pos hlt] at hg
    refine ⟨⟨by omega, by omega⟩, callB (blank_c _) fun w3 hE3 => ⟨fun hb => ?_, fun hb => ?_⟩⟩
    · rw [if_pos hb] at hg
      refine ⟨⟨j + 1, f, ts, hsm hlt', by omega, by omega, by omega, hg, (RowB.ext hB hE3).re hE3.size (Nat.le_refl _) (fun x hx => .inl hx), hE2.trans hE3⟩, ?_⟩
      dsimp only
      rw [hsm hlt']; exact mea_succ hlt'
    · rw [if_neg (by rw [hb]; exact Bool.false_ne_true)] at hg
      have hE03 := hE2.trans hE3
      refine ⟨_, _, token_c s j hlt' (by omega), ?_, never_any⟩
      rintro v w4 ⟨rfl, hE4⟩
      generalize htk : tokF s j = tk at hg
      obtain ⟨t, nx, e⟩ := tk
      refine ⟨_, _, _, _, _, _, rfl, no, hE4, Away.no _, fun id hid => ⟨fun he w5 hE5 _ => ?_, fun he id1 hid1 w5 hE5 _ hi1 hh5 => ?_⟩⟩
      · rw [if_pos he] at hg
        exact ⟨none, 0, 0, by rw [← hg], by rw [← hg]; exact nil, (hE03.trans hE4).trans hE5⟩
      · rw [if_neg (by rw [he]; exact Bool.false_ne_true)] at hg
        have he0 : (tokF s j).2.2 = 0 := by rw [htk]; simpa using he
        have hnx := tokF_next hlt' he0
        rw [htk] at hnx
        dsimp only at hnx
        have hE05 := (hE03.trans hE4).trans hE5
        have hB5 := RowB.ext hB ((hE3.trans hE4).trans hE5)
        have hs5 : w2.heap.size ≤ w5.heap.size := ((hE3.trans hE4).trans hE5).size
        have hs4 := hE4.size
        have hs3 := hE3.size
        refine pushVC (RowB.push (x := t) (cs := tokE t) (Fk := no) sl57 hB5 rfl (fun _ h => h.elim) (Upd.refl _ _) (fun _ h => h.elim) hh5 (by omega)) (away_of fun i hi hS => ?_) ?_
        · have := hB.blk hS
          simp only [List.mem_cons, List.not_mem_nil, or_false] at hi
          omega
        intro A' c' w6 ⟨hB6, _⟩ hU6 hh6
        refine ⟨⟨nx, f, ts ++ [t], rfl, hnx.2, by omega, by simp; omega, hg, hB6, Upd.step hE05 hU6 fun x hx => by have := hB.blk hx; omega⟩, ?_⟩
        dsimp only
        omega
  · have hlt' : ¬ j < s.size := by simpa using hlt
    intro id2 hid2 w5 hE5 hi2 hh5
    have hg2 : res = (ts ++ [⟨0, 0, ByteArray.mk #[], s.size⟩], 0, 0) := by
      rw [← hg]
      cases f with
      | zero => rw [scanL]
      | succ f => rw [scanL, if_neg (by rw [hlt]; exact Bool.false_ne_true)]
    have hs5 : w2.heap.size ≤ w5.heap.size := Upd.size hE5
    have hB5 := RowB.ext hB hE5
    refine pushVC (RowB.push (x := (⟨0, 0, ByteArray.mk #[], s.size⟩ : Tok)) (cs := tokE ⟨0, 0, ByteArray.mk #[], s.size⟩) (Fk := no) sl57 hB5 rfl (fun _ h => h.elim) (Upd.refl _ _) (fun _ h => h.elim) hh5 (by omega)) (away_of fun i hi hS => ?_) ?_
    · have := hB.blk hS
      simp only [List.mem_cons, List.not_mem_nil, or_false] at hi
      omega
    intro A' c' w6 ⟨hB6, _⟩ hU6 hh6
    have hD := RowB.done (c' := c') (o := false) (E := no) (RowB.unown hB6) (by omega) (.inr ⟨rfl, rfl⟩)
    refine ⟨A', n + 1, c', by rw [hg2], ?_, Upd.step (hE2.trans hE5) hU6 fun x hx => by have := hB.blk hx; omega⟩
    rw [hg2]
    exact (flat_of hD).mono fun x hx => by
      rcases hx with ⟨_, h⟩ | h
      · exact h.elim
      · exact ⟨h.1, h.2.1⟩
end Go.Vx.Tryz
namespace Go.Vx.Tryz
open Go Go.Vx Go.Proofs
set_option maxRecDepth 100000
variable {w : World} {R : Value → World → Prop} {X : ContX}
theorem vc113   (h : 
 nB w fun id => fL w [] fun w1 => id < w1.heap.size → hA w1 id #[.string (ByteArray.mk #[99, 111, 110, 110, 101, 99, 116, 101, 100]), .string (ByteArray.mk #[98, 108, 111, 99, 107]), .string (ByteArray.mk #[98, 111, 116, 116, 108, 101, 110, 101, 99, 107]), .string (ByteArray.mk #[115, 105, 122, 101]), .string (ByteArray.mk #[116, 111, 116, 97, 108]), .string (ByteArray.mk #[108, 101, 97, 115, 116]), .string (ByteArray.mk #[109, 111, 115, 116]), .string (ByteArray.mk #[118, 97, 108, 117, 101]), .string (ByteArray.mk #[100, 101, 103, 114, 101, 101]), .string (ByteArray.mk #[114, 101, 112])] 9 → R (.slice (some ⟨id, 0, none⟩) 10 10) w1
 ) : CallsX E.P 84 #[] w R X :=
  calls_vc E_ok ⟨[], []⟩ (f := 84) Tryz.func84 rfl [] [] (bls0) nod0 (plain_of rfl) (shs_of trivial) h (by kernel_rfl)
theorem vc114   (h : 
 nB w fun id => fL w [] fun w1 => id < w1.heap.size → hA w1 id #[.string (ByteArray.mk #[97, 108, 108]), .string (ByteArray.mk #[115, 111, 109, 101]), .string (ByteArray.mk #[99, 111, 117, 110, 116]), .string (ByteArray.mk #[115, 117, 109]), .string (ByteArray.mk #[109, 105, 110]), .string (ByteArray.mk #[109, 97, 120])] 9 → R (.slice (some ⟨id, 0, none⟩) 6 6) w1
 ) : CallsX E.P 85 #[] w R X :=
  calls_vc E_ok ⟨[], []⟩ (f := 85) Tryz.func85 rfl [] [] (bls0) nod0 (plain_of rfl) (shs_of trivial) h (by kernel_rfl)
theorem vc88 {a : Nat} {a0 : Option Addr} {a0l a0c : Nat} {a1 a2 a3 a4 a5 : Int} {b : ByteArray} (ha : w.heap[a]? = some (.cells #[.slice a0 a0l a0c, .int .i64 a1, .int .i64 a2, .int .i64 a3, .int .i64 a4, .int .i64 a5] 62 (0, 0))) (h : 
 iX a1 a0l a0 fun ad => fL w [] fun w1 => ∃ x x1, ∃ x2 x3, CellsIn w1 (Addr.add ad (Int.toNat a1 * 4)) [.int .i64 x, .int .i64 x1, .string x2, .int .i64 x3] ∧ nB w1 fun id => dB (a4 == 0) (dB (x == 3) (fL w1 [] fun w11 => id < w11.heap.size → hA w11 a #[.slice a0 a0l a0c, .int .i64 a1, .int .i64 a2, .int .i64 a3, .int .i64 a4, .int .i64 a5] 62 → R (.bool (strEq x2 b)) w11) (dB (x == 4) (fL w1 [] fun w12 => id < w12.heap.size → hA w12 a #[.slice a0 a0l a0c, .int .i64 a1, .int .i64 a2, .int .i64 a3, .int .i64 a4, .int .i64 a5] 62 → R (.bool (strEq x2 b)) w12) (fL w1 [] fun w13 => id < w13.heap.size → hA w13 a #[.slice a0 a0l a0c, .int .i64 a1, .int .i64 a2, .int .i64 a3, .int .i64 a4, .int .i64 a5] 62 → R (.bool false) w13))) (fL w1 [] fun w14 => id < w14.heap.size → hA w14 a #[.slice a0 a0l a0c, .int .i64 a1, .int .i64 a2, .int .i64 a3, .int .i64 a4, .int .i64 a5] 62 → R (.bool false) w14)
 ) : CallsX E.P 68 #[.pointer (some ⟨a, 0, none⟩), .string b] w R X :=
  calls_vc E_ok ⟨[], []⟩ (f := 68) Tryz.func68 rfl [(.pointer (some ⟨a, 0, none⟩), .ptr 0 0), (.string b, .no)] [⟨a, 62, false, [⟨.slice a0 a0l a0c, .no, 0⟩, ⟨.int .i64 a1, .no, 0⟩, ⟨.int .i64 a2, .no, 0⟩, ⟨.int .i64 a3, .no, 0⟩, ⟨.int .i64 a4, .no, 0⟩, ⟨.int .i64 a5, .no, 0⟩]⟩] (bls1 ha) nod1 (plain_of rfl) (shs_of ⟨rfl, trivial, trivial⟩) h (by kernel_rfl)
theorem vc39 {a : Nat} {a0 : Option Addr} {a0l a0c : Nat} {a1 a2 a3 a4 a5 b : Int} (ha : w.heap[a]? = some (.cells #[.slice a0 a0l a0c, .int .i64 a1, .int .i64 a2, .int .i64 a3, .int .i64 a4, .int .i64 a5] 62 (0, 0))) (h : 
 dB (a4 == 0) (iX a1 a0l a0 fun ad => fL w [a] fun w1 => lI w1 (Addr.add (Addr.add ad (Int.toNat a1 * 4)) 3) fun x => fL w1 [a] fun w11 => hA w11 a #[.slice a0 a0l a0c, .int .i64 a1, .int .i64 a2, .int .i64 a3, .int .i64 b, .int .i64 x] 62 → R (.tuple #[]) w11) (hA w a #[.slice a0 a0l a0c, .int .i64 a1, .int .i64 a2, .int .i64 a3, .int .i64 a4, .int .i64 a5] 62 → R (.tuple #[]) w)
 ) : CallsX E.P 29 #[.pointer (some ⟨a, 0, none⟩), .int .i64 b] w R X :=
  calls_vc E_ok ⟨[], []⟩ (f := 29) Tryz.func29 rfl [(.pointer (some ⟨a, 0, none⟩), .ptr 0 0), (.int .i64 b, .no)] [⟨a, 62, false, [⟨.slice a0 a0l a0c, .no, 0⟩, ⟨.int .i64 a1, .no, 0⟩, ⟨.int .i64 a2, .no, 0⟩, ⟨.int .i64 a3, .no, 0⟩, ⟨.int .i64 a4, .no, 0⟩, ⟨.int .i64 a5, .no, 0⟩]⟩] (bls1 ha) nod1 (plain_of rfl) (shs_of ⟨rfl, trivial, trivial⟩) h (by kernel_rfl)
theorem vc138 {a : Nat} {a0 : Option Addr} {a0l a0c : Nat} {a1 a2 a3 a4 a5 : Int} {b : ByteArray} (ha : w.heap[a]? = some (.cells #[.slice a0 a0l a0c, .int .i64 a1, .int .i64 a2, .int .i64 a3, .int .i64 a4, .int .i64 a5] 62 (0, 0))) (h : 
 hA w a #[.slice a0 a0l a0c, .int .i64 a1, .int .i64 a2, .int .i64 a3, .int .i64 a4, .int .i64 a5] 62 → cB 68 #[.pointer (some ⟨a, 0, none⟩), .string b] w [] X fun x w2 => ∃ a1 n, ∃ c x1, ∃ x2 x3, ∃ x4 x5, hA w2 a #[.slice a1 n c, .int .i64 x1, .int .i64 x2, .int .i64 x3, .int .i64 x4, .int .i64 x5] 62 ∧ 6 = 6 ∧ dB (!x) (hA w2 a #[.slice a1 n c, .int .i64 x1, .int .i64 x2, .int .i64 x3, .int .i64 x4, .int .i64 x5] 62 → cU 29 #[.pointer (some ⟨a, 0, none⟩), .int .i64 120] w2 [] X fun v2 w21 => ∃ a2 n1, ∃ c1 x6, ∃ x7 x8, ∃ x9 x10, hA w21 a #[.slice a2 n1 c1, .int .i64 x6, .int .i64 x7, .int .i64 x8, .int .i64 x9, .int .i64 x10] 62 ∧ 6 = 6 ∧ (hA w21 a #[.slice a2 n1 c1, .int .i64 x6, .int .i64 x7, .int .i64 x8, .int .i64 x9, .int .i64 x10] 62 → R (.tuple #[]) w21)) (fL w2 [a] fun w1 => hA w1 a #[.slice a1 n c, .int .i64 (w64 (x1 + 1)), .int .i64 x2, .int .i64 x3, .int .i64 x4, .int .i64 x5] 62 → R (.tuple #[]) w1)
 ) : CallsX E.P 108 #[.pointer (some ⟨a, 0, none⟩), .string b] w R X :=
  calls_vc E_ok ⟨[], []⟩ (f := 108) Tryz.func108 rfl [(.pointer (some ⟨a, 0, none⟩), .ptr 0 0), (.string b, .no)] [⟨a, 62, false, [⟨.slice a0 a0l a0c, .no, 0⟩, ⟨.int .i64 a1, .no, 0⟩, ⟨.int .i64 a2, .no, 0⟩, ⟨.int .i64 a3, .no, 0⟩, ⟨.int .i64 a4, .no, 0⟩, ⟨.int .i64 a5, .no, 0⟩]⟩] (bls1 ha) nod1 (plain_of rfl) (shs_of ⟨rfl, trivial, trivial⟩) h (by kernel_rfl)
theorem vc89 {a : Nat} {a0 : Option Addr} {a0l a0c : Nat} {a1 a2 a3 a4 a5 : Int} (ha : w.heap[a]? = some (.cells #[.slice a0 a0l a0c, .int .i64 a1, .int .i64 a2, .int .i64 a3, .int .i64 a4, .int .i64 a5] 62 (0, 0))) (h : 
 dB (a2 == 64) (hA w a #[.slice a0 a0l a0c, .int .i64 a1, .int .i64 a2, .int .i64 a3, .int .i64 a4, .int .i64 a5] 62 → cU 29 #[.pointer (some ⟨a, 0, none⟩), .int .i64 121] w [] X fun v1 w2 => ∃ a1 n, ∃ c x, ∃ x1 x2, ∃ x3 x4, hA w2 a #[.slice a1 n c, .int .i64 x, .int .i64 x1, .int .i64 x2, .int .i64 x3, .int .i64 x4] 62 ∧ 6 = 6 ∧ (hA w2 a #[.slice a1 n c, .int .i64 x, .int .i64 x1, .int .i64 x2, .int .i64 x3, .int .i64 x4] 62 → R (.tuple #[]) w2)) (fL w [a] fun w1 => hA w1 a #[.slice a0 a0l a0c, .int .i64 (w64 (a1 + 1)), .int .i64 (w64 (a2 + 1)), .int .i64 a3, .int .i64 a4, .int .i64 a5] 62 → R (.tuple #[]) w1)
 ) : CallsX E.P 69 #[.pointer (some ⟨a, 0, none⟩)] w R X :=
  calls_vc E_ok ⟨[], []⟩ (f := 69) Tryz.func69 rfl [(.pointer (some ⟨a, 0, none⟩), .ptr 0 0)] [⟨a, 62, false, [⟨.slice a0 a0l a0c, .no, 0⟩, ⟨.int .i64 a1, .no, 0⟩, ⟨.int .i64 a2, .no, 0⟩, ⟨.int .i64 a3, .no, 0⟩, ⟨.int .i64 a4, .no, 0⟩, ⟨.int .i64 a5, .no, 0⟩]⟩] (bls1 ha) nod1 (plain_of rfl) (shs_of ⟨rfl, trivial⟩) h (by kernel_rfl)
theorem vc115 {a : Nat} {a0 : Option Addr} {a0l a0c : Nat} {a1 a2 a3 a4 a5 : Int} {b : ByteArray} (ha : w.heap[a]? = some (.cells #[.slice a0 a0l a0c, .int .i64 a1, .int .i64 a2, .int .i64 a3, .int .i64 a4, .int .i64 a5] 62 (0, 0))) (h : 
 hA w a #[.slice a0 a0l a0c, .int .i64 a1, .int .i64 a2, .int .i64 a3, .int .i64 a4, .int .i64 a5] 62 → cB 68 #[.pointer (some ⟨a, 0, none⟩), .string b] w [] X fun x w2 => ∃ a1 n, ∃ c x1, ∃ x2 x3, ∃ x4 x5, hA w2 a #[.slice a1 n c, .int .i64 x1, .int .i64 x2, .int .i64 x3, .int .i64 x4, .int .i64 x5] 62 ∧ 6 = 6 ∧ dB (!x) (hA w2 a #[.slice a1 n c, .int .i64 x1, .int .i64 x2, .int .i64 x3, .int .i64 x4, .int .i64 x5] 62 → cU 29 #[.pointer (some ⟨a, 0, none⟩), .int .i64 120] w2 [] X fun v2 w21 => ∃ a2 n1, ∃ c1 x6, ∃ x7 x8, ∃ x9 x10, hA w21 a #[.slice a2 n1 c1, .int .i64 x6, .int .i64 x7, .int .i64 x8, .int .i64 x9, .int .i64 x10] 62 ∧ 6 = 6 ∧ (hA w21 a #[.slice a2 n1 c1, .int .i64 x6, .int .i64 x7, .int .i64 x8, .int .i64 x9, .int .i64 x10] 62 → R (.tuple #[]) w21)) (hA w2 a #[.slice a1 n c, .int .i64 x1, .int .i64 x2, .int .i64 x3, .int .i64 x4, .int .i64 x5] 62 → cU 69 #[.pointer (some ⟨a, 0, none⟩)] w2 [] X fun v4 w23 => ∃ a3 n2, ∃ c2 x11, ∃ x12 x13, ∃ x14 x15, hA w23 a #[.slice a3 n2 c2, .int .i64 x11, .int .i64 x12, .int .i64 x13, .int .i64 x14, .int .i64 x15] 62 ∧ 6 = 6 ∧ (hA w23 a #[.slice a3 n2 c2, .int .i64 x11, .int .i64 x12, .int .i64 x13, .int .i64 x14, .int .i64 x15] 62 → R (.tuple #[]) w23))
 ) : CallsX E.P 86 #[.pointer (some ⟨a, 0, none⟩), .string b] w R X :=
  calls_vc E_ok ⟨[], []⟩ (f := 86) Tryz.func86 rfl [(.pointer (some ⟨a, 0, none⟩), .ptr 0 0), (.string b, .no)] [⟨a, 62, false, [⟨.slice a0 a0l a0c, .no, 0⟩, ⟨.int .i64 a1, .no, 0⟩, ⟨.int .i64 a2, .no, 0⟩, ⟨.int .i64 a3, .no, 0⟩, ⟨.int .i64 a4, .no, 0⟩, ⟨.int .i64 a5, .no, 0⟩]⟩] (bls1 ha) nod1 (plain_of rfl) (shs_of ⟨rfl, trivial, trivial⟩) h (by kernel_rfl)
theorem vc116 {a : Nat} {a0 : Option Addr} {a0l a0c : Nat} {a1 a2 a3 a4 a5 : Int} {b : ByteArray} (ha : w.heap[a]? = some (.cells #[.slice a0 a0l a0c, .int .i64 a1, .int .i64 a2, .int .i64 a3, .int .i64 a4, .int .i64 a5] 62 (0, 0))) (h : 
 hA w a #[.slice a0 a0l a0c, .int .i64 a1, .int .i64 a2, .int .i64 a3, .int .i64 a4, .int .i64 a5] 62 → cU 108 #[.pointer (some ⟨a, 0, none⟩), .string b] w [] X fun v1 w2 => ∃ a1 n, ∃ c x, ∃ x1 x2, ∃ x3 x4, hA w2 a #[.slice a1 n c, .int .i64 x, .int .i64 x1, .int .i64 x2, .int .i64 x3, .int .i64 x4] 62 ∧ 6 = 6 ∧ fL w2 [a] fun w1 => hA w1 a #[.slice a1 n c, .int .i64 x, .int .i64 (w64 (x1 - 1)), .int .i64 x2, .int .i64 x3, .int .i64 x4] 62 → R (.tuple #[]) w1
 ) : CallsX E.P 87 #[.pointer (some ⟨a, 0, none⟩), .string b] w R X :=
  calls_vc E_ok ⟨[], []⟩ (f := 87) Tryz.func87 rfl [(.pointer (some ⟨a, 0, none⟩), .ptr 0 0), (.string b, .no)] [⟨a, 62, false, [⟨.slice a0 a0l a0c, .no, 0⟩, ⟨.int .i64 a1, .no, 0⟩, ⟨.int .i64 a2, .no, 0⟩, ⟨.int .i64 a3, .no, 0⟩, ⟨.int .i64 a4, .no, 0⟩, ⟨.int .i64 a5, .no, 0⟩]⟩] (bls1 ha) nod1 (plain_of rfl) (shs_of ⟨rfl, trivial, trivial⟩) h (by kernel_rfl)
theorem vc58 {a : Nat} {a0 : Option Addr} {a0l a0c : Nat} {a1 a2 a3 a4 a5 : Int} {b : Option Addr} {bl bc : Nat} (ha : w.heap[a]? = some (.cells #[.slice a0 a0l a0c, .int .i64 a1, .int .i64 a2, .int .i64 a3, .int .i64 a4, .int .i64 a5] 62 (0, 0))) (h : 
 ∃ (I : Int → Option Addr → Nat → Nat → Int → Int → Int → Int → Int → World → Prop), ∃ (m : Int → Option Addr → Nat → Nat → Int → Int → Int → Int → Int → Nat), I 0 a0 a0l a0c a1 a2 a3 a4 a5 w ∧ ∀ (jk : Nat → Value) (x : Int) (a1 : Option Addr) (n c : Nat) (x1 x2 x3 x4 x5 : Int) (w2 : World), I x a1 n c x1 x2 x3 x4 x5 w2 → dB (decide (x < (↑bl : Int))) (iX x bl b fun ad => lT w2 (Addr.add ad (Int.toNat x * 1)) fun x6 => hA w2 a #[.slice a1 n c, .int .i64 x1, .int .i64 x2, .int .i64 x3, .int .i64 x4, .int .i64 x5] 62 → cB 68 #[.pointer (some ⟨a, 0, none⟩), .string x6] w2 [] X fun x7 w21 => ∃ a2 n1, ∃ c1 x8, ∃ x9 x10, ∃ x11 x12, hA w21 a #[.slice a2 n1 c1, .int .i64 x8, .int .i64 x9, .int .i64 x10, .int .i64 x11, .int .i64 x12] 62 ∧ 6 = 6 ∧ dB x7 (hA w21 a #[.slice a2 n1 c1, .int .i64 x8, .int .i64 x9, .int .i64 x10, .int .i64 x11, .int .i64 x12] 62 → R (.int .i64 x) w21) (I (w64 (x + 1)) a2 n1 c1 x8 x9 x10 x11 x12 w21 ∧ m (w64 (x + 1)) a2 n1 c1 x8 x9 x10 x11 x12 < m x a1 n c x1 x2 x3 x4 x5)) (hA w2 a #[.slice a1 n c, .int .i64 x1, .int .i64 x2, .int .i64 x3, .int .i64 x4, .int .i64 x5] 62 → R (.int .i64 (-1)) w2)
 ) : CallsX E.P 47 #[.pointer (some ⟨a, 0, none⟩), .slice b bl bc] w R X :=
  calls_vc E_ok ⟨[(2, ⟨[(5, .int .i64)], [(0, 0, .slc), (0, 1, .int .i64), (0, 2, .int .i64), (0, 3, .int .i64), (0, 4, .int .i64), (0, 5, .int .i64)]⟩)], []⟩ (f := 47) Tryz.func47 rfl [(.pointer (some ⟨a, 0, none⟩), .ptr 0 0), (.slice b bl bc, .no)] [⟨a, 62, false, [⟨.slice a0 a0l a0c, .no, 0⟩, ⟨.int .i64 a1, .no, 0⟩, ⟨.int .i64 a2, .no, 0⟩, ⟨.int .i64 a3, .no, 0⟩, ⟨.int .i64 a4, .no, 0⟩, ⟨.int .i64 a5, .no, 0⟩]⟩] (bls1 ha) nod1 (plain_of rfl) (shs_of ⟨rfl, trivial, trivial⟩) h (by kernel_rfl)
theorem vc57 {a : Int}  (h : 
 dB (a == 1) (nB w fun id => nB w fun id1 => fL w [] fun w1 => id < w1.heap.size → id1 < w1.heap.size → hA w1 id #[.string (ByteArray.mk #[111, 114])] 9 → hA w1 id1 #[.int .i64 18] 3 → R (.tuple #[.slice (some ⟨id, 0, none⟩) 1 1, .slice (some ⟨id1, 0, none⟩) 1 1]) w1) (dB (a == 2) (nB w fun id2 => nB w fun id3 => fL w [] fun w11 => id2 < w11.heap.size → id3 < w11.heap.size → hA w11 id2 #[.string (ByteArray.mk #[97, 110, 100])] 9 → hA w11 id3 #[.int .i64 17] 3 → R (.tuple #[.slice (some ⟨id2, 0, none⟩) 1 1, .slice (some ⟨id3, 0, none⟩) 1 1]) w11) (dB (a == 4) (nB w fun id4 => nB w fun id5 => fL w [] fun w12 => id4 < w12.heap.size → id5 < w12.heap.size → hA w12 id4 #[.string (ByteArray.mk #[61]), .string (ByteArray.mk #[33, 61]), .string (ByteArray.mk #[60, 61]), .string (ByteArray.mk #[60])] 9 → hA w12 id5 #[.int .i64 13, .int .i64 14, .int .i64 16, .int .i64 15] 3 → R (.tuple #[.slice (some ⟨id4, 0, none⟩) 4 4, .slice (some ⟨id5, 0, none⟩) 4 4]) w12) (dB (a == 5) (nB w fun id6 => nB w fun id7 => fL w [] fun w13 => id6 < w13.heap.size → id7 < w13.heap.size → hA w13 id6 #[.string (ByteArray.mk #[43]), .string (ByteArray.mk #[45])] 9 → hA w13 id7 #[.int .i64 8, .int .i64 9] 3 → R (.tuple #[.slice (some ⟨id6, 0, none⟩) 2 2, .slice (some ⟨id7, 0, none⟩) 2 2]) w13) (nB w fun id8 => nB w fun id9 => fL w [] fun w14 => id8 < w14.heap.size → id9 < w14.heap.size → hA w14 id8 #[.string (ByteArray.mk #[42]), .string (ByteArray.mk #[47]), .string (ByteArray.mk #[37])] 9 → hA w14 id9 #[.int .i64 10, .int .i64 11, .int .i64 12] 3 → R (.tuple #[.slice (some ⟨id8, 0, none⟩) 3 3, .slice (some ⟨id9, 0, none⟩) 3 3]) w14))))
 ) : CallsX E.P 46 #[.int .i64 a] w R X :=
  calls_vc E_ok ⟨[], []⟩ (f := 46) Tryz.func46 rfl [(.int .i64 a, .no)] [] (bls0) nod0 (plain_of rfl) (shs_of ⟨trivial, trivial⟩) h (by kernel_rfl)
theorem vc59 {a b c0 c1 : Int} {c2 : ByteArray} {c3 : Option Addr} {c3l c3c : Nat} {c4 d0 d1 : Int} {d2 : ByteArray} {d3 : Option Addr} {d3l d3c : Nat} {d4 : Int}  (h : 
 nB w fun id => nB w fun id1 => nB w fun id2 => nB w fun id3 => fL w [] fun w1 => id < w1.heap.size → id1 < w1.heap.size → id2 < w1.heap.size → id3 < w1.heap.size → hA w1 id3 #[.int .i64 c0, .int .i64 c1, .string c2, .slice c3 c3l c3c, .int .i64 c4, .int .i64 d0, .int .i64 d1, .string d2, .slice d3 d3l d3c, .int .i64 d4] 44 → R (.agg #[.int .i64 a, .int .i64 0, .string (ByteArray.mk #[]), .slice (some ⟨id3, 0, none⟩) 2 2, .int .i64 b]) w1
 ) : CallsX E.P 48 #[.int .i64 a, .int .i64 b, Ae c0 c1 c2 c3 c3l c3c c4, Ae d0 d1 d2 d3 d3l d3c d4] w R X :=
  calls_vc E_ok ⟨[], []⟩ (f := 48) Tryz.func48 rfl [(.int .i64 a, .no), (.int .i64 b, .no), (Ae c0 c1 c2 c3 c3l c3c c4, .no), (Ae d0 d1 d2 d3 d3l d3c d4, .no)] [] (bls0) nod0 (plain_of rfl) (shs_of ⟨trivial, trivial, trivial, trivial, trivial⟩) h (by kernel_rfl)
theorem vc55 {a : Nat} {a0 : Option Addr} {a0l a0c : Nat} {a1 a2 a3 a4 a5 : Int} (ha : w.heap[a]? = some (.cells #[.slice a0 a0l a0c, .int .i64 a1, .int .i64 a2, .int .i64 a3, .int .i64 a4, .int .i64 a5] 62 (0, 0))) (h : 
 nB w fun id => fL w [] fun w1 => id < w1.heap.size → hA w1 a #[.slice a0 a0l a0c, .int .i64 a1, .int .i64 a2, .int .i64 a3, .int .i64 a4, .int .i64 a5] 62 → cB 68 #[.pointer (some ⟨a, 0, none⟩), .string (ByteArray.mk #[110, 111, 116])] w1 [id] X fun x w2 => ∃ a1 n, ∃ c x1, ∃ x2 x3, ∃ x4 x5, hA w2 a #[.slice a1 n c, .int .i64 x1, .int .i64 x2, .int .i64 x3, .int .i64 x4, .int .i64 x5] 62 ∧ 6 = 6 ∧ dB (!x) (hA w2 a #[.slice a1 n c, .int .i64 x1, .int .i64 x2, .int .i64 x3, .int .i64 x4, .int .i64 x5] 62 → cE 28 #[.pointer (some ⟨a, 0, none⟩), .int .i64 4] w2 [id] X fun x6 x7 x8 a2 n1 c1 x9 w21 => ∃ a3 n2, ∃ c2 x10, ∃ x11 x12, ∃ x13 x14, hA w21 a #[.slice a3 n2 c2, .int .i64 x10, .int .i64 x11, .int .i64 x12, .int .i64 x13, .int .i64 x14] 62 ∧ 6 = 6 ∧ fL w21 [id] fun w11 => hA w11 a #[.slice a3 n2 c2, .int .i64 x10, .int .i64 x11, .int .i64 x12, .int .i64 x13, .int .i64 x14] 62 → R (Ae x6 x7 x8 a2 n1 c1 x9) w11) (iX x1 n a1 fun ad => fL w2 [] fun w12 => lI w12 (Addr.add (Addr.add ad (Int.toNat x1 * 4)) 3) fun x15 => hA w12 a #[.slice a1 n c, .int .i64 x1, .int .i64 x2, .int .i64 x3, .int .i64 x4, .int .i64 x5] 62 → cU 69 #[.pointer (some ⟨a, 0, none⟩)] w12 [id] X fun v3 w23 => ∃ a4 n3, ∃ c3 x16, ∃ x17 x18, ∃ x19 x20, hA w23 a #[.slice a4 n3 c3, .int .i64 x16, .int .i64 x17, .int .i64 x18, .int .i64 x19, .int .i64 x20] 62 ∧ 6 = 6 ∧ (hA w23 a #[.slice a4 n3 c3, .int .i64 x16, .int .i64 x17, .int .i64 x18, .int .i64 x19, .int .i64 x20] 62 → cE 28 #[.pointer (some ⟨a, 0, none⟩), .int .i64 3] w23 [id] X fun x21 x22 x23 a5 n4 c4 x24 w24 => ∃ a6 n5, ∃ c5 x25, ∃ x26 x27, ∃ x28 x29, hA w24 a #[.slice a6 n5 c5, .int .i64 x25, .int .i64 x26, .int .i64 x27, .int .i64 x28, .int .i64 x29] 62 ∧ 6 = 6 ∧ nB w24 fun id1 => nB w24 fun id2 => fL w24 [id, a] fun w13 => id1 < w13.heap.size → id2 < w13.heap.size → hA w13 a #[.slice a6 n5 c5, .int .i64 x25, .int .i64 (w64 (x26 - 1)), .int .i64 x27, .int .i64 x28, .int .i64 x29] 62 → hA w13 id2 #[.int .i64 x21, .int .i64 x22, .string x23, .slice a5 n4 c4, .int .i64 x24] 44 → R (.agg #[.int .i64 7, .int .i64 0, .string (ByteArray.mk #[]), .slice (some ⟨id2, 0, none⟩) 1 1, .int .i64 x15]) w13))
 ) : CallsX E.P 44 #[.pointer (some ⟨a, 0, none⟩)] w R X :=
  calls_vc E_ok ⟨[], []⟩ (f := 44) Tryz.func44 rfl [(.pointer (some ⟨a, 0, none⟩), .ptr 0 0)] [⟨a, 62, false, [⟨.slice a0 a0l a0c, .no, 0⟩, ⟨.int .i64 a1, .no, 0⟩, ⟨.int .i64 a2, .no, 0⟩, ⟨.int .i64 a3, .no, 0⟩, ⟨.int .i64 a4, .no, 0⟩, ⟨.int .i64 a5, .no, 0⟩]⟩] (bls1 ha) nod1 (plain_of rfl) (shs_of ⟨rfl, trivial⟩) h (by kernel_rfl)
theorem vc56 {a : Nat} {a0 : Option Addr} {a0l a0c : Nat} {a1 a2 a3 a4 a5 : Int} (ha : w.heap[a]? = some (.cells #[.slice a0 a0l a0c, .int .i64 a1, .int .i64 a2, .int .i64 a3, .int .i64 a4, .int .i64 a5] 62 (0, 0))) (h : 
 nB w fun id => fL w [] fun w1 => id < w1.heap.size → hA w1 a #[.slice a0 a0l a0c, .int .i64 a1, .int .i64 a2, .int .i64 a3, .int .i64 a4, .int .i64 a5] 62 → cB 68 #[.pointer (some ⟨a, 0, none⟩), .string (ByteArray.mk #[45])] w1 [id] X fun x w2 => ∃ a1 n, ∃ c x1, ∃ x2 x3, ∃ x4 x5, hA w2 a #[.slice a1 n c, .int .i64 x1, .int .i64 x2, .int .i64 x3, .int .i64 x4, .int .i64 x5] 62 ∧ 6 = 6 ∧ dB (!x) (hA w2 a #[.slice a1 n c, .int .i64 x1, .int .i64 x2, .int .i64 x3, .int .i64 x4, .int .i64 x5] 62 → cE 70 #[.pointer (some ⟨a, 0, none⟩)] w2 [id] X fun x6 x7 x8 a2 n1 c1 x9 w21 => ∃ a3 n2, ∃ c2 x10, ∃ x11 x12, ∃ x13 x14, hA w21 a #[.slice a3 n2 c2, .int .i64 x10, .int .i64 x11, .int .i64 x12, .int .i64 x13, .int .i64 x14] 62 ∧ 6 = 6 ∧ fL w21 [id] fun w11 => hA w11 a #[.slice a3 n2 c2, .int .i64 x10, .int .i64 x11, .int .i64 x12, .int .i64 x13, .int .i64 x14] 62 → R (Ae x6 x7 x8 a2 n1 c1 x9) w11) (iX x1 n a1 fun ad => fL w2 [] fun w12 => lI w12 (Addr.add (Addr.add ad (Int.toNat x1 * 4)) 3) fun x15 => hA w12 a #[.slice a1 n c, .int .i64 x1, .int .i64 x2, .int .i64 x3, .int .i64 x4, .int .i64 x5] 62 → cU 69 #[.pointer (some ⟨a, 0, none⟩)] w12 [id] X fun v3 w23 => ∃ a4 n3, ∃ c3 x16, ∃ x17 x18, ∃ x19 x20, hA w23 a #[.slice a4 n3 c3, .int .i64 x16, .int .i64 x17, .int .i64 x18, .int .i64 x19, .int .i64 x20] 62 ∧ 6 = 6 ∧ (hA w23 a #[.slice a4 n3 c3, .int .i64 x16, .int .i64 x17, .int .i64 x18, .int .i64 x19, .int .i64 x20] 62 → cE 28 #[.pointer (some ⟨a, 0, none⟩), .int .i64 7] w23 [id] X fun x21 x22 x23 a5 n4 c4 x24 w24 => ∃ a6 n5, ∃ c5 x25, ∃ x26 x27, ∃ x28 x29, hA w24 a #[.slice a6 n5 c5, .int .i64 x25, .int .i64 x26, .int .i64 x27, .int .i64 x28, .int .i64 x29] 62 ∧ 6 = 6 ∧ nB w24 fun id1 => nB w24 fun id2 => fL w24 [id, a] fun w13 => id1 < w13.heap.size → id2 < w13.heap.size → hA w13 a #[.slice a6 n5 c5, .int .i64 x25, .int .i64 (w64 (x26 - 1)), .int .i64 x27, .int .i64 x28, .int .i64 x29] 62 → hA w13 id2 #[.int .i64 x21, .int .i64 x22, .string x23, .slice a5 n4 c4, .int .i64 x24] 44 → R (.agg #[.int .i64 6, .int .i64 0, .string (ByteArray.mk #[]), .slice (some ⟨id2, 0, none⟩) 1 1, .int .i64 x15]) w13))
 ) : CallsX E.P 45 #[.pointer (some ⟨a, 0, none⟩)] w R X :=
  calls_vc E_ok ⟨[], []⟩ (f := 45) Tryz.func45 rfl [(.pointer (some ⟨a, 0, none⟩), .ptr 0 0)] [⟨a, 62, false, [⟨.slice a0 a0l a0c, .no, 0⟩, ⟨.int .i64 a1, .no, 0⟩, ⟨.int .i64 a2, .no, 0⟩, ⟨.int .i64 a3, .no, 0⟩, ⟨.int .i64 a4, .no, 0⟩, ⟨.int .i64 a5, .no, 0⟩]⟩] (bls1 ha) nod1 (plain_of rfl) (shs_of ⟨rfl, trivial⟩) h (by kernel_rfl)
theorem vc90 {a : Nat} {a0 : Option Addr} {a0l a0c : Nat} {a1 a2 a3 a4 a5 : Int} (ha : w.heap[a]? = some (.cells #[.slice a0 a0l a0c, .int .i64 a1, .int .i64 a2, .int .i64 a3, .int .i64 a4, .int .i64 a5] 62 (0, 0))) (h : 
 nB w fun id => dB (a4 != 0) (fL w [] fun w1 => id < w1.heap.size → hA w1 a #[.slice a0 a0l a0c, .int .i64 a1, .int .i64 a2, .int .i64 a3, .int .i64 a4, .int .i64 a5] 62 → R (Ae 0 0 (ByteArray.mk #[]) none 0 0 0) w1) (iX a1 a0l a0 fun ad => fL w [] fun w11 => id < w11.heap.size → ∃ x x1, ∃ x2 x3, CellsIn w11 (Addr.add ad (Int.toNat a1 * 4)) [.int .i64 x, .int .i64 x1, .string x2, .int .i64 x3] ∧ nB w11 fun id1 => fL w11 [] fun w12 => id1 < w12.heap.size → cS 84 #[] w12 [a, id, id1] X fun a1_1 n c w2 => hA w2 a #[.slice a0 a0l a0c, .int .i64 a1, .int .i64 a2, .int .i64 a3, .int .i64 a4, .int .i64 a5] 62 → cI 47 #[.pointer (some ⟨a, 0, none⟩), .slice a1_1 n c] w2 [id, id1] X fun x4 w21 => ∃ a2 n1, ∃ c1 x5, ∃ x6 x7, ∃ x8 x9, hA w21 a #[.slice a2 n1 c1, .int .i64 x5, .int .i64 x6, .int .i64 x7, .int .i64 x8, .int .i64 x9] 62 ∧ 6 = 6 ∧ cS 85 #[] w21 [a, id, id1] X fun a3 n2 c2 w22 => hA w22 a #[.slice a2 n1 c1, .int .i64 x5, .int .i64 x6, .int .i64 x7, .int .i64 x8, .int .i64 x9] 62 → cI 47 #[.pointer (some ⟨a, 0, none⟩), .slice a3 n2 c2] w22 [id, id1] X fun x10 w23 => ∃ a4 n3, ∃ c3 x11, ∃ x12 x13, ∃ x14 x15, hA w23 a #[.slice a4 n3 c3, .int .i64 x11, .int .i64 x12, .int .i64 x13, .int .i64 x14, .int .i64 x15] 62 ∧ 6 = 6 ∧ nB w23 fun id2 => fL w23 [] fun w13 => id2 < w13.heap.size → hA w13 a #[.slice a4 n3 c3, .int .i64 x11, .int .i64 x12, .int .i64 x13, .int .i64 x14, .int .i64 x15] 62 → hA w13 id2 #[.string (ByteArray.mk #[102, 97, 108, 115, 101]), .string (ByteArray.mk #[116, 114, 117, 101])] 9 → cI 47 #[.pointer (some ⟨a, 0, none⟩), .slice (some ⟨id2, 0, none⟩) 2 2] w13 [id, id1, id2] X fun x16 w24 => ∃ a5 n4, ∃ c4 x17, ∃ x18 x19, ∃ x20 x21, hA w24 a #[.slice a5 n4 c4, .int .i64 x17, .int .i64 x18, .int .i64 x19, .int .i64 x20, .int .i64 x21] 62 ∧ 6 = 6 ∧ nB w24 fun id3 => fL w24 [] fun w14 => id3 < w14.heap.size → hA w14 a #[.slice a5 n4 c4, .int .i64 x17, .int .i64 x18, .int .i64 x19, .int .i64 x20, .int .i64 x21] 62 → hA w14 id2 #[.string (ByteArray.mk #[102, 97, 108, 115, 101]), .string (ByteArray.mk #[116, 114, 117, 101])] 9 → hA w14 id3 #[.string (ByteArray.mk #[64]), .string (ByteArray.mk #[40]), .string (ByteArray.mk #[105, 102])] 9 → cI 47 #[.pointer (some ⟨a, 0, none⟩), .slice (some ⟨id3, 0, none⟩) 3 3] w14 [id, id1, id2, id3] X fun x22 w25 => ∃ a6 n5, ∃ c5 x23, ∃ x24 x25, ∃ x26 x27, hA w25 a #[.slice a6 n5 c5, .int .i64 x23, .int .i64 x24, .int .i64 x25, .int .i64 x26, .int .i64 x27] 62 ∧ 6 = 6 ∧ dB (x == 1) (fL w25 [id, a] fun w15 => hA w15 a #[.slice a6 n5 c5, .int .i64 (w64 (x23 + 1)), .int .i64 x24, .int .i64 x25, .int .i64 x26, .int .i64 x27] 62 → hA w15 id2 #[.string (ByteArray.mk #[102, 97, 108, 115, 101]), .string (ByteArray.mk #[116, 114, 117, 101])] 9 → hA w15 id3 #[.string (ByteArray.mk #[64]), .string (ByteArray.mk #[40]), .string (ByteArray.mk #[105, 102])] 9 → R (Ae 1 x1 (ByteArray.mk #[]) none 0 0 x3) w15) (dB (x == 2) (fL w25 [id, a] fun w16 => hA w16 a #[.slice a6 n5 c5, .int .i64 (w64 (x23 + 1)), .int .i64 x24, .int .i64 x25, .int .i64 x26, .int .i64 x27] 62 → hA w16 id2 #[.string (ByteArray.mk #[102, 97, 108, 115, 101]), .string (ByteArray.mk #[116, 114, 117, 101])] 9 → hA w16 id3 #[.string (ByteArray.mk #[64]), .string (ByteArray.mk #[40]), .string (ByteArray.mk #[105, 102])] 9 → R (Ae 4 0 x2 none 0 0 x3) w16) (dB (decide (x16 ≥ 0)) (fL w25 [id, a] fun w17 => hA w17 a #[.slice a6 n5 c5, .int .i64 (w64 (x23 + 1)), .int .i64 x24, .int .i64 x25, .int .i64 x26, .int .i64 x27] 62 → hA w17 id2 #[.string (ByteArray.mk #[102, 97, 108, 115, 101]), .string (ByteArray.mk #[116, 114, 117, 101])] 9 → hA w17 id3 #[.string (ByteArray.mk #[64]), .string (ByteArray.mk #[40]), .string (ByteArray.mk #[105, 102])] 9 → R (Ae 2 x16 (ByteArray.mk #[]) none 0 0 x3) w17) (dB (x22 == 0) (iX (w64 (x23 + 1)) n5 a6 fun ad1 => fL w25 [a] fun w18 => hA w18 id2 #[.string (ByteArray.mk #[102, 97, 108, 115, 101]), .string (ByteArray.mk #[116, 114, 117, 101])] 9 → hA w18 id3 #[.string (ByteArray.mk #[64]), .string (ByteArray.mk #[40]), .string (ByteArray.mk #[105, 102])] 9 → ∃ x28 x29, ∃ x30 x31, CellsIn w18 (Addr.add ad1 (Int.toNat (w64 (x23 + 1)) * 4)) [.int .i64 x28, .int .i64 x29, .string x30, .int .i64 x31] ∧ nB w18 fun id4 => dB (x28 != 1) (fL w18 [] fun w19 => id4 < w19.heap.size → hA w19 a #[.slice a6 n5 c5, .int .i64 (w64 (x23 + 1)), .int .i64 x24, .int .i64 x25, .int .i64 x26, .int .i64 x27] 62 → hA w19 id2 #[.string (ByteArray.mk #[102, 97, 108, 115, 101]), .string (ByteArray.mk #[116, 114, 117, 101])] 9 → hA w19 id3 #[.string (ByteArray.mk #[64]), .string (ByteArray.mk #[40]), .string (ByteArray.mk #[105, 102])] 9 → cU 29 #[.pointer (some ⟨a, 0, none⟩), .int .i64 120] w19 [id, id1, id2, id3, id4] X fun v7 w26 => ∃ a7 n6, ∃ c6 x32, ∃ x33 x34, ∃ x35 x36, hA w26 a #[.slice a7 n6 c6, .int .i64 x32, .int .i64 x33, .int .i64 x34, .int .i64 x35, .int .i64 x36] 62 ∧ 6 = 6 ∧ fL w26 [id] fun w110 => hA w110 a #[.slice a7 n6 c6, .int .i64 x32, .int .i64 x33, .int .i64 x34, .int .i64 x35, .int .i64 x36] 62 → hA w110 id2 #[.string (ByteArray.mk #[102, 97, 108, 115, 101]), .string (ByteArray.mk #[116, 114, 117, 101])] 9 → hA w110 id3 #[.string (ByteArray.mk #[64]), .string (ByteArray.mk #[40]), .string (ByteArray.mk #[105, 102])] 9 → R (Ae 0 0 (ByteArray.mk #[]) none 0 0 0) w110) (fL w18 [id, a] fun w111 => id4 < w111.heap.size → hA w111 a #[.slice a6 n5 c5, .int .i64 (w64 (w64 (x23 + 1) + 1)), .int .i64 x24, .int .i64 x25, .int .i64 x26, .int .i64 x27] 62 → hA w111 id2 #[.string (ByteArray.mk #[102, 97, 108, 115, 101]), .string (ByteArray.mk #[116, 114, 117, 101])] 9 → hA w111 id3 #[.string (ByteArray.mk #[64]), .string (ByteArray.mk #[40]), .string (ByteArray.mk #[105, 102])] 9 → R (Ae 3 x29 (ByteArray.mk #[]) none 0 0 x3) w111)) (dB (x22 == 1) (hA w25 a #[.slice a6 n5 c5, .int .i64 x23, .int .i64 x24, .int .i64 x25, .int .i64 x26, .int .i64 x27] 62 → hA w25 id2 #[.string (ByteArray.mk #[102, 97, 108, 115, 101]), .string (ByteArray.mk #[116, 114, 117, 101])] 9 → hA w25 id3 #[.string (ByteArray.mk #[64]), .string (ByteArray.mk #[40]), .string (ByteArray.mk #[105, 102])] 9 → cU 86 #[.pointer (some ⟨a, 0, none⟩), .string (ByteArray.mk #[40])] w25 [id, id1, id2, id3] X fun v9 w28 => ∃ a8 n7, ∃ c7 x37, ∃ x38 x39, ∃ x40 x41, hA w28 a #[.slice a8 n7 c7, .int .i64 x37, .int .i64 x38, .int .i64 x39, .int .i64 x40, .int .i64 x41] 62 ∧ 6 = 6 ∧ (hA w28 a #[.slice a8 n7 c7, .int .i64 x37, .int .i64 x38, .int .i64 x39, .int .i64 x40, .int .i64 x41] 62 → hA w28 id2 #[.string (ByteArray.mk #[102, 97, 108, 115, 101]), .string (ByteArray.mk #[116, 114, 117, 101])] 9 → hA w28 id3 #[.string (ByteArray.mk #[64]), .string (ByteArray.mk #[40]), .string (ByteArray.mk #[105, 102])] 9 → cE 28 #[.pointer (some ⟨a, 0, none⟩), .int .i64 1] w28 [id, id1, id2, id3] X fun x42 x43 x44 a9 n8 c8 x45 w29 => ∃ a10 n9, ∃ c9 x46, ∃ x47 x48, ∃ x49 x50, hA w29 a #[.slice a10 n9 c9, .int .i64 x46, .int .i64 x47, .int .i64 x48, .int .i64 x49, .int .i64 x50] 62 ∧ 6 = 6 ∧ nB w29 fun id5 => fL w29 [] fun w112 => id5 < w112.heap.size → hA w112 a #[.slice a10 n9 c9, .int .i64 x46, .int .i64 x47, .int .i64 x48, .int .i64 x49, .int .i64 x50] 62 → hA w112 id2 #[.string (ByteArray.mk #[102, 97, 108, 115, 101]), .string (ByteArray.mk #[116, 114, 117, 101])] 9 → hA w112 id3 #[.string (ByteArray.mk #[64]), .string (ByteArray.mk #[40]), .string (ByteArray.mk #[105, 102])] 9 → cU 87 #[.pointer (some ⟨a, 0, none⟩), .string (ByteArray.mk #[41])] w112 [id, id1, id2, id3, id5] X fun v12 w210 => ∃ a11 n10, ∃ c10 x51, ∃ x52 x53, ∃ x54 x55, hA w210 a #[.slice a11 n10 c10, .int .i64 x51, .int .i64 x52, .int .i64 x53, .int .i64 x54, .int .i64 x55] 62 ∧ 6 = 6 ∧ fL w210 [id] fun w113 => hA w113 a #[.slice a11 n10 c10, .int .i64 x51, .int .i64 x52, .int .i64 x53, .int .i64 x54, .int .i64 x55] 62 → hA w113 id2 #[.string (ByteArray.mk #[102, 97, 108, 115, 101]), .string (ByteArray.mk #[116, 114, 117, 101])] 9 → hA w113 id3 #[.string (ByteArray.mk #[64]), .string (ByteArray.mk #[40]), .string (ByteArray.mk #[105, 102])] 9 → R (Ae x42 x43 x44 a9 n8 c8 x45) w113)) (dB (x22 == 2) (hA w25 a #[.slice a6 n5 c5, .int .i64 x23, .int .i64 x24, .int .i64 x25, .int .i64 x26, .int .i64 x27] 62 → hA w25 id2 #[.string (ByteArray.mk #[102, 97, 108, 115, 101]), .string (ByteArray.mk #[116, 114, 117, 101])] 9 → hA w25 id3 #[.string (ByteArray.mk #[64]), .string (ByteArray.mk #[40]), .string (ByteArray.mk #[105, 102])] 9 → cE 88 #[.pointer (some ⟨a, 0, none⟩), .int .i64 x3] w25 [id, id1, id2, id3] X fun x56 x57 x58 a12 n11 c11 x59 w214 => ∃ a13 n12, ∃ c12 x60, ∃ x61 x62, ∃ x63 x64, hA w214 a #[.slice a13 n12 c12, .int .i64 x60, .int .i64 x61, .int .i64 x62, .int .i64 x63, .int .i64 x64] 62 ∧ 6 = 6 ∧ fL w214 [id] fun w114 => hA w114 a #[.slice a13 n12 c12, .int .i64 x60, .int .i64 x61, .int .i64 x62, .int .i64 x63, .int .i64 x64] 62 → hA w114 id2 #[.string (ByteArray.mk #[102, 97, 108, 115, 101]), .string (ByteArray.mk #[116, 114, 117, 101])] 9 → hA w114 id3 #[.string (ByteArray.mk #[64]), .string (ByteArray.mk #[40]), .string (ByteArray.mk #[105, 102])] 9 → R (Ae x56 x57 x58 a12 n11 c11 x59) w114) (dB (decide (x4 ≥ 0)) (hA w25 a #[.slice a6 n5 c5, .int .i64 x23, .int .i64 x24, .int .i64 x25, .int .i64 x26, .int .i64 x27] 62 → hA w25 id2 #[.string (ByteArray.mk #[102, 97, 108, 115, 101]), .string (ByteArray.mk #[116, 114, 117, 101])] 9 → hA w25 id3 #[.string (ByteArray.mk #[64]), .string (ByteArray.mk #[40]), .string (ByteArray.mk #[105, 102])] 9 → cE 89 #[.pointer (some ⟨a, 0, none⟩), .int .i64 x4, .int .i64 x3] w25 [id, id1, id2, id3] X fun x65 x66 x67 a14 n13 c13 x68 w216 => ∃ a15 n14, ∃ c14 x69, ∃ x70 x71, ∃ x72 x73, hA w216 a #[.slice a15 n14 c14, .int .i64 x69, .int .i64 x70, .int .i64 x71, .int .i64 x72, .int .i64 x73] 62 ∧ 6 = 6 ∧ fL w216 [id] fun w115 => hA w115 a #[.slice a15 n14 c14, .int .i64 x69, .int .i64 x70, .int .i64 x71, .int .i64 x72, .int .i64 x73] 62 → hA w115 id2 #[.string (ByteArray.mk #[102, 97, 108, 115, 101]), .string (ByteArray.mk #[116, 114, 117, 101])] 9 → hA w115 id3 #[.string (ByteArray.mk #[64]), .string (ByteArray.mk #[40]), .string (ByteArray.mk #[105, 102])] 9 → R (Ae x65 x66 x67 a14 n13 c13 x68) w115) (dB (decide (x10 ≥ 0)) (hA w25 a #[.slice a6 n5 c5, .int .i64 x23, .int .i64 x24, .int .i64 x25, .int .i64 x26, .int .i64 x27] 62 → hA w25 id2 #[.string (ByteArray.mk #[102, 97, 108, 115, 101]), .string (ByteArray.mk #[116, 114, 117, 101])] 9 → hA w25 id3 #[.string (ByteArray.mk #[64]), .string (ByteArray.mk #[40]), .string (ByteArray.mk #[105, 102])] 9 → cE 90 #[.pointer (some ⟨a, 0, none⟩), .int .i64 x10, .int .i64 x3] w25 [id, id1, id2, id3] X fun x74 x75 x76 a16 n15 c15 x77 w218 => ∃ a17 n16, ∃ c16 x78, ∃ x79 x80, ∃ x81 x82, hA w218 a #[.slice a17 n16 c16, .int .i64 x78, .int .i64 x79, .int .i64 x80, .int .i64 x81, .int .i64 x82] 62 ∧ 6 = 6 ∧ fL w218 [id] fun w116 => hA w116 a #[.slice a17 n16 c16, .int .i64 x78, .int .i64 x79, .int .i64 x80, .int .i64 x81, .int .i64 x82] 62 → hA w116 id2 #[.string (ByteArray.mk #[102, 97, 108, 115, 101]), .string (ByteArray.mk #[116, 114, 117, 101])] 9 → hA w116 id3 #[.string (ByteArray.mk #[64]), .string (ByteArray.mk #[40]), .string (ByteArray.mk #[105, 102])] 9 → R (Ae x74 x75 x76 a16 n15 c15 x77) w116) (hA w25 a #[.slice a6 n5 c5, .int .i64 x23, .int .i64 x24, .int .i64 x25, .int .i64 x26, .int .i64 x27] 62 → hA w25 id2 #[.string (ByteArray.mk #[102, 97, 108, 115, 101]), .string (ByteArray.mk #[116, 114, 117, 101])] 9 → hA w25 id3 #[.string (ByteArray.mk #[64]), .string (ByteArray.mk #[40]), .string (ByteArray.mk #[105, 102])] 9 → cU 29 #[.pointer (some ⟨a, 0, none⟩), .int .i64 120] w25 [id, id1, id2, id3] X fun v17 w220 => ∃ a18 n17, ∃ c17 x83, ∃ x84 x85, ∃ x86 x87, hA w220 a #[.slice a18 n17 c17, .int .i64 x83, .int .i64 x84, .int .i64 x85, .int .i64 x86, .int .i64 x87] 62 ∧ 6 = 6 ∧ fL w220 [id] fun w117 => hA w117 a #[.slice a18 n17 c17, .int .i64 x83, .int .i64 x84, .int .i64 x85, .int .i64 x86, .int .i64 x87] 62 → hA w117 id2 #[.string (ByteArray.mk #[102, 97, 108, 115, 101]), .string (ByteArray.mk #[116, 114, 117, 101])] 9 → hA w117 id3 #[.string (ByteArray.mk #[64]), .string (ByteArray.mk #[40]), .string (ByteArray.mk #[105, 102])] 9 → R (Ae 0 0 (ByteArray.mk #[]) none 0 0 0) w117)))))))))
 ) : CallsX E.P 70 #[.pointer (some ⟨a, 0, none⟩)] w R X :=
  calls_vc E_ok ⟨[], []⟩ (f := 70) Tryz.func70 rfl [(.pointer (some ⟨a, 0, none⟩), .ptr 0 0)] [⟨a, 62, false, [⟨.slice a0 a0l a0c, .no, 0⟩, ⟨.int .i64 a1, .no, 0⟩, ⟨.int .i64 a2, .no, 0⟩, ⟨.int .i64 a3, .no, 0⟩, ⟨.int .i64 a4, .no, 0⟩, ⟨.int .i64 a5, .no, 0⟩]⟩] (bls1 ha) nod1 (plain_of rfl) (shs_of ⟨rfl, trivial⟩) h (by kernel_rfl)
theorem vc117 {a : Nat} {a0 : Option Addr} {a0l a0c : Nat} {a1 a2 a3 a4 a5 b : Int} (ha : w.heap[a]? = some (.cells #[.slice a0 a0l a0c, .int .i64 a1, .int .i64 a2, .int .i64 a3, .int .i64 a4, .int .i64 a5] 62 (0, 0))) (h : 
 nB w fun id => fL w [] fun w1 => id < w1.heap.size → hA w1 a #[.slice a0 a0l a0c, .int .i64 a1, .int .i64 a2, .int .i64 a3, .int .i64 a4, .int .i64 a5] 62 → cU 69 #[.pointer (some ⟨a, 0, none⟩)] w1 [id] X fun v1 w2 => ∃ a1 n, ∃ c x, ∃ x1 x2, ∃ x3 x4, hA w2 a #[.slice a1 n c, .int .i64 x, .int .i64 x1, .int .i64 x2, .int .i64 x3, .int .i64 x4] 62 ∧ 6 = 6 ∧ (hA w2 a #[.slice a1 n c, .int .i64 x, .int .i64 x1, .int .i64 x2, .int .i64 x3, .int .i64 x4] 62 → cE 28 #[.pointer (some ⟨a, 0, none⟩), .int .i64 1] w2 [id] X fun x5 x6 x7 a2 n1 c1 x8 w21 => ∃ a3 n2, ∃ c2 x9, ∃ x10 x11, ∃ x12 x13, hA w21 a #[.slice a3 n2 c2, .int .i64 x9, .int .i64 x10, .int .i64 x11, .int .i64 x12, .int .i64 x13] 62 ∧ 6 = 6 ∧ nB w21 fun id1 => fL w21 [] fun w11 => id1 < w11.heap.size → hA w11 a #[.slice a3 n2 c2, .int .i64 x9, .int .i64 x10, .int .i64 x11, .int .i64 x12, .int .i64 x13] 62 → cU 108 #[.pointer (some ⟨a, 0, none⟩), .string (ByteArray.mk #[116, 104, 101, 110])] w11 [id, id1] X fun v4 w22 => ∃ a4 n3, ∃ c3 x14, ∃ x15 x16, ∃ x17 x18, hA w22 a #[.slice a4 n3 c3, .int .i64 x14, .int .i64 x15, .int .i64 x16, .int .i64 x17, .int .i64 x18] 62 ∧ 6 = 6 ∧ (hA w22 a #[.slice a4 n3 c3, .int .i64 x14, .int .i64 x15, .int .i64 x16, .int .i64 x17, .int .i64 x18] 62 → cE 28 #[.pointer (some ⟨a, 0, none⟩), .int .i64 1] w22 [id, id1] X fun x19 x20 x21 a5 n4 c4 x22 w23 => ∃ a6 n5, ∃ c5 x23, ∃ x24 x25, ∃ x26 x27, hA w23 a #[.slice a6 n5 c5, .int .i64 x23, .int .i64 x24, .int .i64 x25, .int .i64 x26, .int .i64 x27] 62 ∧ 6 = 6 ∧ nB w23 fun id2 => fL w23 [] fun w12 => id2 < w12.heap.size → hA w12 a #[.slice a6 n5 c5, .int .i64 x23, .int .i64 x24, .int .i64 x25, .int .i64 x26, .int .i64 x27] 62 → cU 108 #[.pointer (some ⟨a, 0, none⟩), .string (ByteArray.mk #[101, 108, 115, 101])] w12 [id, id1, id2] X fun v7 w24 => ∃ a7 n6, ∃ c6 x28, ∃ x29 x30, ∃ x31 x32, hA w24 a #[.slice a7 n6 c6, .int .i64 x28, .int .i64 x29, .int .i64 x30, .int .i64 x31, .int .i64 x32] 62 ∧ 6 = 6 ∧ (hA w24 a #[.slice a7 n6 c6, .int .i64 x28, .int .i64 x29, .int .i64 x30, .int .i64 x31, .int .i64 x32] 62 → cE 28 #[.pointer (some ⟨a, 0, none⟩), .int .i64 1] w24 [id, id1, id2] X fun x33 x34 x35 a8 n7 c7 x36 w25 => ∃ a9 n8, ∃ c8 x37, ∃ x38 x39, ∃ x40 x41, hA w25 a #[.slice a9 n8 c8, .int .i64 x37, .int .i64 x38, .int .i64 x39, .int .i64 x40, .int .i64 x41] 62 ∧ 6 = 6 ∧ nB w25 fun id3 => nB w25 fun id4 => fL w25 [id, a] fun w13 => id3 < w13.heap.size → id4 < w13.heap.size → hA w13 a #[.slice a9 n8 c8, .int .i64 x37, .int .i64 (w64 (x38 - 1)), .int .i64 x39, .int .i64 x40, .int .i64 x41] 62 → hA w13 id4 #[.int .i64 x5, .int .i64 x6, .string x7, .slice a2 n1 c1, .int .i64 x8, .int .i64 x19, .int .i64 x20, .string x21, .slice a5 n4 c4, .int .i64 x22, .int .i64 x33, .int .i64 x34, .string x35, .slice a8 n7 c7, .int .i64 x36] 44 → R (.agg #[.int .i64 19, .int .i64 0, .string (ByteArray.mk #[]), .slice (some ⟨id4, 0, none⟩) 3 3, .int .i64 b]) w13)))
 ) : CallsX E.P 88 #[.pointer (some ⟨a, 0, none⟩), .int .i64 b] w R X :=
  calls_vc E_ok ⟨[], []⟩ (f := 88) Tryz.func88 rfl [(.pointer (some ⟨a, 0, none⟩), .ptr 0 0), (.int .i64 b, .no)] [⟨a, 62, false, [⟨.slice a0 a0l a0c, .no, 0⟩, ⟨.int .i64 a1, .no, 0⟩, ⟨.int .i64 a2, .no, 0⟩, ⟨.int .i64 a3, .no, 0⟩, ⟨.int .i64 a4, .no, 0⟩, ⟨.int .i64 a5, .no, 0⟩]⟩] (bls1 ha) nod1 (plain_of rfl) (shs_of ⟨rfl, trivial, trivial⟩) h (by kernel_rfl)
theorem vc118 {a : Nat} {a0 : Option Addr} {a0l a0c : Nat} {a1 a2 a3 a4 a5 b c : Int} (ha : w.heap[a]? = some (.cells #[.slice a0 a0l a0c, .int .i64 a1, .int .i64 a2, .int .i64 a3, .int .i64 a4, .int .i64 a5] 62 (0, 0))) (h : 
 nB w fun id => fL w [a] fun w1 => id < w1.heap.size → hA w1 a #[.slice a0 a0l a0c, .int .i64 (w64 (a1 + 1)), .int .i64 a2, .int .i64 a3, .int .i64 a4, .int .i64 a5] 62 → cU 86 #[.pointer (some ⟨a, 0, none⟩), .string (ByteArray.mk #[40])] w1 [id] X fun v1 w2 => ∃ a1 n, ∃ c1 x, ∃ x1 x2, ∃ x3 x4, hA w2 a #[.slice a1 n c1, .int .i64 x, .int .i64 x1, .int .i64 x2, .int .i64 x3, .int .i64 x4] 62 ∧ 6 = 6 ∧ (hA w2 a #[.slice a1 n c1, .int .i64 x, .int .i64 x1, .int .i64 x2, .int .i64 x3, .int .i64 x4] 62 → cE 28 #[.pointer (some ⟨a, 0, none⟩), .int .i64 1] w2 [id] X fun x5 x6 x7 a2 n1 c2 x8 w21 => ∃ a3 n2, ∃ c3 x9, ∃ x10 x11, ∃ x12 x13, hA w21 a #[.slice a3 n2 c3, .int .i64 x9, .int .i64 x10, .int .i64 x11, .int .i64 x12, .int .i64 x13] 62 ∧ 6 = 6 ∧ nB w21 fun id1 => dB (decide (b < 3)) (fL w21 [] fun w11 => id1 < w11.heap.size → hA w11 a #[.slice a3 n2 c3, .int .i64 x9, .int .i64 x10, .int .i64 x11, .int .i64 x12, .int .i64 x13] 62 → hA w11 id1 #[.int .i64 x5, .int .i64 x6, .string x7, .slice a2 n1 c2, .int .i64 x8] 44 → cU 108 #[.pointer (some ⟨a, 0, none⟩), .string (ByteArray.mk #[44])] w11 [id, id1] X fun v4 w22 => ∃ a4 n3, ∃ c4 x14, ∃ x15 x16, ∃ x17 x18, hA w22 a #[.slice a4 n3 c4, .int .i64 x14, .int .i64 x15, .int .i64 x16, .int .i64 x17, .int .i64 x18] 62 ∧ 6 = 6 ∧ (hA w22 a #[.slice a4 n3 c4, .int .i64 x14, .int .i64 x15, .int .i64 x16, .int .i64 x17, .int .i64 x18] 62 → hA w22 id1 #[.int .i64 x5, .int .i64 x6, .string x7, .slice a2 n1 c2, .int .i64 x8] 44 → cE 28 #[.pointer (some ⟨a, 0, none⟩), .int .i64 1] w22 [id, id1] X fun x19 x20 x21 a5 n4 c5 x22 w23 => ∃ a6 n5, ∃ c6 x23, ∃ x24 x25, ∃ x26 x27, hA w23 a #[.slice a6 n5 c6, .int .i64 x23, .int .i64 x24, .int .i64 x25, .int .i64 x26, .int .i64 x27] 62 ∧ 6 = 6 ∧ nB w23 fun id2 => fL w23 [] fun w12 => id2 < w12.heap.size → hA w12 id1 #[.int .i64 x5, .int .i64 x6, .string x7, .slice a2 n1 c2, .int .i64 x8] 44 → hA w12 id2 #[.int .i64 x19, .int .i64 x20, .string x21, .slice a5 n4 c5, .int .i64 x22] 44 → ∃ R5, RunsTo E.P (Builtin.append_ #[42, 42] 42 #[.slice (some ⟨id1, 0, none⟩) 1 1, .slice (some ⟨id2, 0, none⟩) 1 1]) w12 R5 ∧ ∀ v6 w24, R5 v6 w24 → ∃ a7 n6 c7, v6 = .slice a7 n6 c7 ∧ ∃ S4, Upd w12 w24 S4 ∧ Away [a, id, id1, id2] S4 ∧ (hA w24 a #[.slice a6 n5 c6, .int .i64 x23, .int .i64 x24, .int .i64 x25, .int .i64 x26, .int .i64 x27] 62 → hA w24 id1 #[.int .i64 x5, .int .i64 x6, .string x7, .slice a2 n1 c2, .int .i64 x8] 44 → hA w24 id2 #[.int .i64 x19, .int .i64 x20, .string x21, .slice a5 n4 c5, .int .i64 x22] 44 → cU 87 #[.pointer (some ⟨a, 0, none⟩), .string (ByteArray.mk #[41])] w24 [id, id1, id2] X fun v8 w25 => ∃ a8 n7, ∃ c8 x28, ∃ x29 x30, ∃ x31 x32, hA w25 a #[.slice a8 n7 c8, .int .i64 x28, .int .i64 x29, .int .i64 x30, .int .i64 x31, .int .i64 x32] 62 ∧ 6 = 6 ∧ fL w25 [id] fun w13 => hA w13 a #[.slice a8 n7 c8, .int .i64 x28, .int .i64 x29, .int .i64 x30, .int .i64 x31, .int .i64 x32] 62 → hA w13 id1 #[.int .i64 x5, .int .i64 x6, .string x7, .slice a2 n1 c2, .int .i64 x8] 44 → hA w13 id2 #[.int .i64 x19, .int .i64 x20, .string x21, .slice a5 n4 c5, .int .i64 x22] 44 → R (Ae 20 (w64 (b + 1)) (ByteArray.mk #[]) a7 n6 c7 c) w13))) (fL w21 [] fun w14 => id1 < w14.heap.size → hA w14 a #[.slice a3 n2 c3, .int .i64 x9, .int .i64 x10, .int .i64 x11, .int .i64 x12, .int .i64 x13] 62 → hA w14 id1 #[.int .i64 x5, .int .i64 x6, .string x7, .slice a2 n1 c2, .int .i64 x8] 44 → cU 87 #[.pointer (some ⟨a, 0, none⟩), .string (ByteArray.mk #[41])] w14 [id, id1] X fun v10 w29 => ∃ a9 n8, ∃ c9 x33, ∃ x34 x35, ∃ x36 x37, hA w29 a #[.slice a9 n8 c9, .int .i64 x33, .int .i64 x34, .int .i64 x35, .int .i64 x36, .int .i64 x37] 62 ∧ 6 = 6 ∧ fL w29 [id] fun w15 => hA w15 a #[.slice a9 n8 c9, .int .i64 x33, .int .i64 x34, .int .i64 x35, .int .i64 x36, .int .i64 x37] 62 → hA w15 id1 #[.int .i64 x5, .int .i64 x6, .string x7, .slice a2 n1 c2, .int .i64 x8] 44 → R (.agg #[.int .i64 20, .int .i64 (w64 (b + 1)), .string (ByteArray.mk #[]), .slice (some ⟨id1, 0, none⟩) 1 1, .int .i64 c]) w15))
 ) : CallsX E.P 89 #[.pointer (some ⟨a, 0, none⟩), .int .i64 b, .int .i64 c] w R X :=
  calls_vc E_ok ⟨[], []⟩ (f := 89) Tryz.func89 rfl [(.pointer (some ⟨a, 0, none⟩), .ptr 0 0), (.int .i64 b, .no), (.int .i64 c, .no)] [⟨a, 62, false, [⟨.slice a0 a0l a0c, .no, 0⟩, ⟨.int .i64 a1, .no, 0⟩, ⟨.int .i64 a2, .no, 0⟩, ⟨.int .i64 a3, .no, 0⟩, ⟨.int .i64 a4, .no, 0⟩, ⟨.int .i64 a5, .no, 0⟩]⟩] (bls1 ha) nod1 (plain_of rfl) (shs_of ⟨rfl, trivial, trivial, trivial⟩) h (by kernel_rfl)
theorem vc119 {a : Nat} {a0 : Option Addr} {a0l a0c : Nat} {a1 a2 a3 a4 a5 b c : Int} (ha : w.heap[a]? = some (.cells #[.slice a0 a0l a0c, .int .i64 a1, .int .i64 a2, .int .i64 a3, .int .i64 a4, .int .i64 a5] 62 (0, 0))) (h : 
 nB w fun id => dB (a2 == 64) (fL w [] fun w1 => id < w1.heap.size → hA w1 a #[.slice a0 a0l a0c, .int .i64 a1, .int .i64 a2, .int .i64 a3, .int .i64 a4, .int .i64 a5] 62 → cU 29 #[.pointer (some ⟨a, 0, none⟩), .int .i64 121] w1 [id] X fun v1 w2 => ∃ a1 n, ∃ c1 x, ∃ x1 x2, ∃ x3 x4, hA w2 a #[.slice a1 n c1, .int .i64 x, .int .i64 x1, .int .i64 x2, .int .i64 x3, .int .i64 x4] 62 ∧ 6 = 6 ∧ fL w2 [id] fun w11 => hA w11 a #[.slice a1 n c1, .int .i64 x, .int .i64 x1, .int .i64 x2, .int .i64 x3, .int .i64 x4] 62 → R (Ae 0 0 (ByteArray.mk #[]) none 0 0 0) w11) (dB (a3 == 4) (fL w [] fun w12 => id < w12.heap.size → hA w12 a #[.slice a0 a0l a0c, .int .i64 a1, .int .i64 a2, .int .i64 a3, .int .i64 a4, .int .i64 a5] 62 → cU 29 #[.pointer (some ⟨a, 0, none⟩), .int .i64 121] w12 [id] X fun v3 w22 => ∃ a2 n1, ∃ c2 x5, ∃ x6 x7, ∃ x8 x9, hA w22 a #[.slice a2 n1 c2, .int .i64 x5, .int .i64 x6, .int .i64 x7, .int .i64 x8, .int .i64 x9] 62 ∧ 6 = 6 ∧ fL w22 [id] fun w13 => hA w13 a #[.slice a2 n1 c2, .int .i64 x5, .int .i64 x6, .int .i64 x7, .int .i64 x8, .int .i64 x9] 62 → R (Ae 0 0 (ByteArray.mk #[]) none 0 0 0) w13) (fL w [a] fun w14 => id < w14.heap.size → hA w14 a #[.slice a0 a0l a0c, .int .i64 a1, .int .i64 a2, .int .i64 (w64 (a3 + 1)), .int .i64 a4, .int .i64 a5] 62 → cU 69 #[.pointer (some ⟨a, 0, none⟩)] w14 [id] X fun v5 w24 => ∃ a3 n2, ∃ c3 x10, ∃ x11 x12, ∃ x13 x14, hA w24 a #[.slice a3 n2 c3, .int .i64 x10, .int .i64 x11, .int .i64 x12, .int .i64 x13, .int .i64 x14] 62 ∧ 6 = 6 ∧ iX x10 n2 a3 fun ad => fL w24 [] fun w15 => ∃ x15 x16, ∃ x17 x18, CellsIn w15 (Addr.add ad (Int.toNat x10 * 4)) [.int .i64 x15, .int .i64 x16, .string x17, .int .i64 x18] ∧ nB w15 fun id1 => dB (x15 != 2) (fL w15 [] fun w16 => id1 < w16.heap.size → hA w16 a #[.slice a3 n2 c3, .int .i64 x10, .int .i64 x11, .int .i64 x12, .int .i64 x13, .int .i64 x14] 62 → cU 29 #[.pointer (some ⟨a, 0, none⟩), .int .i64 120] w16 [id, id1] X fun v7 w25 => ∃ a4 n3, ∃ c4 x19, ∃ x20 x21, ∃ x22 x23, hA w25 a #[.slice a4 n3 c4, .int .i64 x19, .int .i64 x20, .int .i64 x21, .int .i64 x22, .int .i64 x23] 62 ∧ 6 = 6 ∧ fL w25 [id] fun w17 => hA w17 a #[.slice a4 n3 c4, .int .i64 x19, .int .i64 x20, .int .i64 x21, .int .i64 x22, .int .i64 x23] 62 → R (Ae 0 0 (ByteArray.mk #[]) none 0 0 0) w17) (fL w15 [a] fun w18 => id1 < w18.heap.size → hA w18 a #[.slice a3 n2 c3, .int .i64 (w64 (x10 + 1)), .int .i64 x11, .int .i64 x12, .int .i64 x13, .int .i64 x14] 62 → cU 108 #[.pointer (some ⟨a, 0, none⟩), .string (ByteArray.mk #[105, 110])] w18 [id, id1] X fun v9 w27 => ∃ a5 n4, ∃ c5 x24, ∃ x25 x26, ∃ x27 x28, hA w27 a #[.slice a5 n4 c5, .int .i64 x24, .int .i64 x25, .int .i64 x26, .int .i64 x27, .int .i64 x28] 62 ∧ 6 = 6 ∧ (hA w27 a #[.slice a5 n4 c5, .int .i64 x24, .int .i64 x25, .int .i64 x26, .int .i64 x27, .int .i64 x28] 62 → cE 109 #[.pointer (some ⟨a, 0, none⟩)] w27 [id, id1] X fun x29 x30 x31 a6 n5 c6 x32 w28 => ∃ a7 n6, ∃ c7 x33, ∃ x34 x35, ∃ x36 x37, hA w28 a #[.slice a7 n6 c7, .int .i64 x33, .int .i64 x34, .int .i64 x35, .int .i64 x36, .int .i64 x37] 62 ∧ 6 = 6 ∧ nB w28 fun id2 => fL w28 [] fun w19 => id2 < w19.heap.size → hA w19 a #[.slice a7 n6 c7, .int .i64 x33, .int .i64 x34, .int .i64 x35, .int .i64 x36, .int .i64 x37] 62 → cU 108 #[.pointer (some ⟨a, 0, none⟩), .string (ByteArray.mk #[58])] w19 [id, id1, id2] X fun v12 w29 => ∃ a8 n7, ∃ c8 x38, ∃ x39 x40, ∃ x41 x42, hA w29 a #[.slice a8 n7 c8, .int .i64 x38, .int .i64 x39, .int .i64 x40, .int .i64 x41, .int .i64 x42] 62 ∧ 6 = 6 ∧ (hA w29 a #[.slice a8 n7 c8, .int .i64 x38, .int .i64 x39, .int .i64 x40, .int .i64 x41, .int .i64 x42] 62 → cE 28 #[.pointer (some ⟨a, 0, none⟩), .int .i64 1] w29 [id, id1, id2] X fun x43 x44 x45 a9 n8 c9 x46 w210 => ∃ a10 n9, ∃ c10 x47, ∃ x48 x49, ∃ x50 x51, hA w210 a #[.slice a10 n9 c10, .int .i64 x47, .int .i64 x48, .int .i64 x49, .int .i64 x50, .int .i64 x51] 62 ∧ 6 = 6 ∧ nB w210 fun id3 => nB w210 fun id4 => fL w210 [id, a] fun w110 => id3 < w110.heap.size → id4 < w110.heap.size → hA w110 a #[.slice a10 n9 c10, .int .i64 x47, .int .i64 (w64 (x48 - 1)), .int .i64 (w64 (x49 - 1)), .int .i64 x50, .int .i64 x51] 62 → hA w110 id4 #[.int .i64 x29, .int .i64 x30, .string x31, .slice a6 n5 c6, .int .i64 x32, .int .i64 x43, .int .i64 x44, .string x45, .slice a9 n8 c9, .int .i64 x46] 44 → R (.agg #[.int .i64 21, .int .i64 (w64 (b + 1)), .string x17, .slice (some ⟨id4, 0, none⟩) 2 2, .int .i64 c]) w110)))))
 ) : CallsX E.P 90 #[.pointer (some ⟨a, 0, none⟩), .int .i64 b, .int .i64 c] w R X :=
  calls_vc E_ok ⟨[], []⟩ (f := 90) Tryz.func90 rfl [(.pointer (some ⟨a, 0, none⟩), .ptr 0 0), (.int .i64 b, .no), (.int .i64 c, .no)] [⟨a, 62, false, [⟨.slice a0 a0l a0c, .no, 0⟩, ⟨.int .i64 a1, .no, 0⟩, ⟨.int .i64 a2, .no, 0⟩, ⟨.int .i64 a3, .no, 0⟩, ⟨.int .i64 a4, .no, 0⟩, ⟨.int .i64 a5, .no, 0⟩]⟩] (bls1 ha) nod1 (plain_of rfl) (shs_of ⟨rfl, trivial, trivial, trivial⟩) h (by kernel_rfl)
theorem vc139 {a : Nat} {a0 : Option Addr} {a0l a0c : Nat} {a1 a2 a3 a4 a5 : Int} (ha : w.heap[a]? = some (.cells #[.slice a0 a0l a0c, .int .i64 a1, .int .i64 a2, .int .i64 a3, .int .i64 a4, .int .i64 a5] 62 (0, 0))) (h : 
 nB w fun id => dB (a4 != 0) (fL w [] fun w1 => id < w1.heap.size → hA w1 a #[.slice a0 a0l a0c, .int .i64 a1, .int .i64 a2, .int .i64 a3, .int .i64 a4, .int .i64 a5] 62 → R (Ae 0 0 (ByteArray.mk #[]) none 0 0 0) w1) (iX a1 a0l a0 fun ad => fL w [] fun w11 => id < w11.heap.size → ∃ x x1, ∃ x2 x3, CellsIn w11 (Addr.add ad (Int.toNat a1 * 4)) [.int .i64 x, .int .i64 x1, .string x2, .int .i64 x3] ∧ nB w11 fun id1 => nB w11 fun id2 => fL w11 [] fun w12 => id1 < w12.heap.size → id2 < w12.heap.size → hA w12 a #[.slice a0 a0l a0c, .int .i64 a1, .int .i64 a2, .int .i64 a3, .int .i64 a4, .int .i64 a5] 62 → hA w12 id2 #[.string (ByteArray.mk #[118, 101, 114, 116, 105, 99, 101, 115]), .string (ByteArray.mk #[97, 114, 111, 117, 110, 100]), .string (ByteArray.mk #[123])] 9 → cI 47 #[.pointer (some ⟨a, 0, none⟩), .slice (some ⟨id2, 0, none⟩) 3 3] w12 [id, id1, id2] X fun x4 w2 => ∃ a1 n, ∃ c x5, ∃ x6 x7, ∃ x8 x9, hA w2 a #[.slice a1 n c, .int .i64 x5, .int .i64 x6, .int .i64 x7, .int .i64 x8, .int .i64 x9] 62 ∧ 6 = 6 ∧ dB (x4 == 0) (fL w2 [id, a] fun w13 => hA w13 a #[.slice a1 n c, .int .i64 (w64 (x5 + 1)), .int .i64 x6, .int .i64 x7, .int .i64 x8, .int .i64 x9] 62 → hA w13 id2 #[.string (ByteArray.mk #[118, 101, 114, 116, 105, 99, 101, 115]), .string (ByteArray.mk #[97, 114, 111, 117, 110, 100]), .string (ByteArray.mk #[123])] 9 → R (Ae 22 0 (ByteArray.mk #[]) none 0 0 x3) w13) (dB (x4 == 1) (fL w2 [a] fun w14 => hA w14 a #[.slice a1 n c, .int .i64 (w64 (x5 + 1)), .int .i64 x6, .int .i64 x7, .int .i64 x8, .int .i64 x9] 62 → hA w14 id2 #[.string (ByteArray.mk #[118, 101, 114, 116, 105, 99, 101, 115]), .string (ByteArray.mk #[97, 114, 111, 117, 110, 100]), .string (ByteArray.mk #[123])] 9 → cU 86 #[.pointer (some ⟨a, 0, none⟩), .string (ByteArray.mk #[40])] w14 [id, id1, id2] X fun v2 w21 => ∃ a2 n1, ∃ c1 x10, ∃ x11 x12, ∃ x13 x14, hA w21 a #[.slice a2 n1 c1, .int .i64 x10, .int .i64 x11, .int .i64 x12, .int .i64 x13, .int .i64 x14] 62 ∧ 6 = 6 ∧ (hA w21 a #[.slice a2 n1 c1, .int .i64 x10, .int .i64 x11, .int .i64 x12, .int .i64 x13, .int .i64 x14] 62 → hA w21 id2 #[.string (ByteArray.mk #[118, 101, 114, 116, 105, 99, 101, 115]), .string (ByteArray.mk #[97, 114, 111, 117, 110, 100]), .string (ByteArray.mk #[123])] 9 → cE 28 #[.pointer (some ⟨a, 0, none⟩), .int .i64 1] w21 [id, id1, id2] X fun x15 x16 x17 a3 n2 c2 x18 w22 => ∃ a4 n3, ∃ c3 x19, ∃ x20 x21, ∃ x22 x23, hA w22 a #[.slice a4 n3 c3, .int .i64 x19, .int .i64 x20, .int .i64 x21, .int .i64 x22, .int .i64 x23] 62 ∧ 6 = 6 ∧ nB w22 fun id3 => fL w22 [] fun w15 => id3 < w15.heap.size → hA w15 a #[.slice a4 n3 c3, .int .i64 x19, .int .i64 x20, .int .i64 x21, .int .i64 x22, .int .i64 x23] 62 → hA w15 id2 #[.string (ByteArray.mk #[118, 101, 114, 116, 105, 99, 101, 115]), .string (ByteArray.mk #[97, 114, 111, 117, 110, 100]), .string (ByteArray.mk #[123])] 9 → cU 87 #[.pointer (some ⟨a, 0, none⟩), .string (ByteArray.mk #[41])] w15 [id, id1, id2, id3] X fun v5 w23 => ∃ a5 n4, ∃ c4 x24, ∃ x25 x26, ∃ x27 x28, hA w23 a #[.slice a5 n4 c4, .int .i64 x24, .int .i64 x25, .int .i64 x26, .int .i64 x27, .int .i64 x28] 62 ∧ 6 = 6 ∧ nB w23 fun id4 => fL w23 [id] fun w16 => id4 < w16.heap.size → hA w16 a #[.slice a5 n4 c4, .int .i64 x24, .int .i64 x25, .int .i64 x26, .int .i64 x27, .int .i64 x28] 62 → hA w16 id2 #[.string (ByteArray.mk #[118, 101, 114, 116, 105, 99, 101, 115]), .string (ByteArray.mk #[97, 114, 111, 117, 110, 100]), .string (ByteArray.mk #[123])] 9 → hA w16 id4 #[.int .i64 x15, .int .i64 x16, .string x17, .slice a3 n2 c2, .int .i64 x18] 44 → R (.agg #[.int .i64 24, .int .i64 0, .string (ByteArray.mk #[]), .slice (some ⟨id4, 0, none⟩) 1 1, .int .i64 x3]) w16)) (dB (x4 == 2) (hA w2 a #[.slice a1 n c, .int .i64 x5, .int .i64 x6, .int .i64 x7, .int .i64 x8, .int .i64 x9] 62 → hA w2 id2 #[.string (ByteArray.mk #[118, 101, 114, 116, 105, 99, 101, 115]), .string (ByteArray.mk #[97, 114, 111, 117, 110, 100]), .string (ByteArray.mk #[123])] 9 → cE 123 #[.pointer (some ⟨a, 0, none⟩), .int .i64 x3] w2 [id, id1, id2] X fun x29 x30 x31 a6 n5 c5 x32 w27 => ∃ a7 n6, ∃ c6 x33, ∃ x34 x35, ∃ x36 x37, hA w27 a #[.slice a7 n6 c6, .int .i64 x33, .int .i64 x34, .int .i64 x35, .int .i64 x36, .int .i64 x37] 62 ∧ 6 = 6 ∧ fL w27 [id] fun w17 => hA w17 a #[.slice a7 n6 c6, .int .i64 x33, .int .i64 x34, .int .i64 x35, .int .i64 x36, .int .i64 x37] 62 → hA w17 id2 #[.string (ByteArray.mk #[118, 101, 114, 116, 105, 99, 101, 115]), .string (ByteArray.mk #[97, 114, 111, 117, 110, 100]), .string (ByteArray.mk #[123])] 9 → R (Ae x29 x30 x31 a6 n5 c5 x32) w17) (dB (x == 2) (fL w2 [id, a] fun w18 => hA w18 a #[.slice a1 n c, .int .i64 (w64 (x5 + 1)), .int .i64 x6, .int .i64 x7, .int .i64 x8, .int .i64 x9] 62 → hA w18 id2 #[.string (ByteArray.mk #[118, 101, 114, 116, 105, 99, 101, 115]), .string (ByteArray.mk #[97, 114, 111, 117, 110, 100]), .string (ByteArray.mk #[123])] 9 → R (Ae 23 0 x2 none 0 0 x3) w18) (hA w2 a #[.slice a1 n c, .int .i64 x5, .int .i64 x6, .int .i64 x7, .int .i64 x8, .int .i64 x9] 62 → hA w2 id2 #[.string (ByteArray.mk #[118, 101, 114, 116, 105, 99, 101, 115]), .string (ByteArray.mk #[97, 114, 111, 117, 110, 100]), .string (ByteArray.mk #[123])] 9 → cU 29 #[.pointer (some ⟨a, 0, none⟩), .int .i64 120] w2 [id, id1, id2] X fun v8 w29 => ∃ a8 n7, ∃ c7 x38, ∃ x39 x40, ∃ x41 x42, hA w29 a #[.slice a8 n7 c7, .int .i64 x38, .int .i64 x39, .int .i64 x40, .int .i64 x41, .int .i64 x42] 62 ∧ 6 = 6 ∧ fL w29 [id] fun w19 => hA w19 a #[.slice a8 n7 c7, .int .i64 x38, .int .i64 x39, .int .i64 x40, .int .i64 x41, .int .i64 x42] 62 → hA w19 id2 #[.string (ByteArray.mk #[118, 101, 114, 116, 105, 99, 101, 115]), .string (ByteArray.mk #[97, 114, 111, 117, 110, 100]), .string (ByteArray.mk #[123])] 9 → R (Ae 0 0 (ByteArray.mk #[]) none 0 0 0) w19)))))
 ) : CallsX E.P 109 #[.pointer (some ⟨a, 0, none⟩)] w R X :=
  calls_vc E_ok ⟨[], []⟩ (f := 109) Tryz.func109 rfl [(.pointer (some ⟨a, 0, none⟩), .ptr 0 0)] [⟨a, 62, false, [⟨.slice a0 a0l a0c, .no, 0⟩, ⟨.int .i64 a1, .no, 0⟩, ⟨.int .i64 a2, .no, 0⟩, ⟨.int .i64 a3, .no, 0⟩, ⟨.int .i64 a4, .no, 0⟩, ⟨.int .i64 a5, .no, 0⟩]⟩] (bls1 ha) nod1 (plain_of rfl) (shs_of ⟨rfl, trivial⟩) h (by kernel_rfl)
theorem vc38 {a : Nat} {a0 : Option Addr} {a0l a0c : Nat} {a1 a2 a3 a4 a5 b : Int} (ha : w.heap[a]? = some (.cells #[.slice a0 a0l a0c, .int .i64 a1, .int .i64 a2, .int .i64 a3, .int .i64 a4, .int .i64 a5] 62 (0, 0))) (h : 
 nB w fun id => dB (a4 != 0) (fL w [] fun w1 => id < w1.heap.size → hA w1 a #[.slice a0 a0l a0c, .int .i64 a1, .int .i64 a2, .int .i64 a3, .int .i64 a4, .int .i64 a5] 62 → R (Ae 0 0 (ByteArray.mk #[]) none 0 0 0) w1) (dB (b == 3) (fL w [] fun w11 => id < w11.heap.size → hA w11 a #[.slice a0 a0l a0c, .int .i64 a1, .int .i64 a2, .int .i64 a3, .int .i64 a4, .int .i64 a5] 62 → cE 44 #[.pointer (some ⟨a, 0, none⟩)] w11 [id] X fun x x1 x2 a1 n c x3 w2 => ∃ a2 n1, ∃ c1 x4, ∃ x5 x6, ∃ x7 x8, hA w2 a #[.slice a2 n1 c1, .int .i64 x4, .int .i64 x5, .int .i64 x6, .int .i64 x7, .int .i64 x8] 62 ∧ 6 = 6 ∧ fL w2 [id] fun w12 => hA w12 a #[.slice a2 n1 c1, .int .i64 x4, .int .i64 x5, .int .i64 x6, .int .i64 x7, .int .i64 x8] 62 → R (Ae x x1 x2 a1 n c x3) w12) (dB (b == 7) (fL w [] fun w13 => id < w13.heap.size → hA w13 a #[.slice a0 a0l a0c, .int .i64 a1, .int .i64 a2, .int .i64 a3, .int .i64 a4, .int .i64 a5] 62 → cE 45 #[.pointer (some ⟨a, 0, none⟩)] w13 [id] X fun x9 x10 x11 a3 n2 c2 x12 w22 => ∃ a4 n3, ∃ c3 x13, ∃ x14 x15, ∃ x16 x17, hA w22 a #[.slice a4 n3 c3, .int .i64 x13, .int .i64 x14, .int .i64 x15, .int .i64 x16, .int .i64 x17] 62 ∧ 6 = 6 ∧ fL w22 [id] fun w14 => hA w14 a #[.slice a4 n3 c3, .int .i64 x13, .int .i64 x14, .int .i64 x15, .int .i64 x16, .int .i64 x17] 62 → R (Ae x9 x10 x11 a3 n2 c2 x12) w14) (fL w [] fun w15 => id < w15.heap.size → ∃ R3 X'2, CallsX E.P 46 #[.int .i64 b] w15 R3 X'2 ∧ (∀ v2 w24, R3 v2 w24 → ∃ a5_1 n4, ∃ c4 a6, ∃ n5 c5, v2 = .tuple #[.slice a5_1 n4 c4, .slice a6 n5 c5] ∧ ∃ S2, Upd w15 w24 S2 ∧ Away [a, id] S2 ∧ (hA w24 a #[.slice a0 a0l a0c, .int .i64 a1, .int .i64 a2, .int .i64 a3, .int .i64 a4, .int .i64 a5] 62 → cE 28 #[.pointer (some ⟨a, 0, none⟩), .int .i64 (w64 (b + 1))] w24 [id] X fun x18 x19 x20 a7 n6 c6 x21 w25 => ∃ a8 n7, ∃ c7 x22, ∃ x23 x24, ∃ x25 x26, hA w25 a #[.slice a8 n7 c7, .int .i64 x22, .int .i64 x23, .int .i64 x24, .int .i64 x25, .int .i64 x26] 62 ∧ 6 = 6 ∧ nB w25 fun id1 => fL w25 [] fun w16 => id1 < w16.heap.size → hA w16 a #[.slice a8 n7 c7, .int .i64 x22, .int .i64 x23, .int .i64 x24, .int .i64 x25, .int .i64 x26] 62 → cI 47 #[.pointer (some ⟨a, 0, none⟩), .slice a5_1 n4 c4] w16 [id, id1] X fun x27 w26 => ∃ a9 n8, ∃ c8 x28, ∃ x29 x30, ∃ x31 x32, hA w26 a #[.slice a9 n8 c8, .int .i64 x28, .int .i64 x29, .int .i64 x30, .int .i64 x31, .int .i64 x32] 62 ∧ 6 = 6 ∧ ∃ (I : Nat → Int → Option Addr → Nat → Nat → Int → Int → Int → Int → Int → Int → Int → ByteArray → Option Addr → Nat → Nat → Int → World → Prop), ∃ n0, I n0 x27 a9 n8 c8 x28 x29 x30 x31 x32 x18 x19 x20 a7 n6 c6 x21 w26 ∧ ∀ (n9 : Nat) (jk : Nat → Value) (x33 : Int) (a10 : Option Addr) (n10 c9 : Nat) (x34 x35 x36 x37 x38 x39 x40 : Int) (x41 : ByteArray) (a11 : Option Addr) (n11 c10 : Nat) (x42 : Int) (w27 : World), I n9 x33 a10 n10 c9 x34 x35 x36 x37 x38 x39 x40 x41 a11 n11 c10 x42 w27 → dB (decide (x33 ≥ 0)) (dB (x37 == 0) (iX x34 n10 a10 fun ad => fL w27 [] fun w17 => lI w17 (Addr.add (Addr.add ad (Int.toNat x34 * 4)) 3) fun x43 => fL w17 [a] fun w18 => hA w18 a #[.slice a10 n10 c9, .int .i64 (w64 (x34 + 1)), .int .i64 x35, .int .i64 x36, .int .i64 x37, .int .i64 x38] 62 → cE 28 #[.pointer (some ⟨a, 0, none⟩), .int .i64 (w64 (b + 1))] w18 [id, id1] X fun x44 x45 x46 a12 n12 c11 x47 w28 => ∃ a13 n13, ∃ c12 x48, ∃ x49 x50, ∃ x51 x52, hA w28 a #[.slice a13 n13 c12, .int .i64 x48, .int .i64 x49, .int .i64 x50, .int .i64 x51, .int .i64 x52] 62 ∧ 6 = 6 ∧ nB w28 fun id2 => iX x33 n5 a6 fun ad1 => fL w28 [] fun w19 => id2 < w19.heap.size → lI w19 (Addr.add ad1 (Int.toNat x33 * 1)) fun x53 => cE 48 #[.int .i64 x53, .int .i64 x43, Ae x39 x40 x41 a11 n11 c10 x42, Ae x44 x45 x46 a12 n12 c11 x47] w19 [a, id, id1, id2] X fun x54 x55 x56 a14 n14 c13 x57 w29 => fL w29 [id1] fun w110 => hA w110 a #[.slice a13 n13 c12, .int .i64 x48, .int .i64 x49, .int .i64 x50, .int .i64 x51, .int .i64 x52] 62 → cI 47 #[.pointer (some ⟨a, 0, none⟩), .slice a5_1 n4 c4] w110 [id, id1, id2] X fun x58 w210 => ∃ a15 n15, ∃ c14 x59, ∃ x60 x61, ∃ x62 x63, hA w210 a #[.slice a15 n15 c14, .int .i64 x59, .int .i64 x60, .int .i64 x61, .int .i64 x62, .int .i64 x63] 62 ∧ 6 = 6 ∧ dB (b == 4) (fL w210 [id] fun w111 => hA w111 a #[.slice a15 n15 c14, .int .i64 x59, .int .i64 x60, .int .i64 x61, .int .i64 x62, .int .i64 x63] 62 → R (Ae x54 x55 x56 a14 n14 c13 x57) w111) (∃ n2, I n2 x58 a15 n15 c14 x59 x60 x61 x62 x63 x54 x55 x56 a14 n14 c13 x57 w210 ∧ n2 < n9)) (fL w27 [id] fun w112 => hA w112 a #[.slice a10 n10 c9, .int .i64 x34, .int .i64 x35, .int .i64 x36, .int .i64 x37, .int .i64 x38] 62 → R (Ae x39 x40 x41 a11 n11 c10 x42) w112)) (fL w27 [id] fun w113 => hA w113 a #[.slice a10 n10 c9, .int .i64 x34, .int .i64 x35, .int .i64 x36, .int .i64 x37, .int .i64 x38] 62 → R (Ae x39 x40 x41 a11 n11 c10 x42) w113))) ∧ PX X'2 X)))
 ) : CallsX E.P 28 #[.pointer (some ⟨a, 0, none⟩), .int .i64 b] w R X :=
  calls_vc E_ok ⟨[(10, ⟨[(8, .int .i64)], [(0, 0, .slc), (0, 1, .int .i64), (0, 2, .int .i64), (0, 3, .int .i64), (0, 4, .int .i64), (0, 5, .int .i64), (2, 0, .int .i64), (2, 1, .int .i64), (2, 2, .str), (2, 3, .slc), (2, 4, .int .i64)]⟩), (200010, ⟨[], []⟩)], []⟩ (f := 28) Tryz.func28 rfl [(.pointer (some ⟨a, 0, none⟩), .ptr 0 0), (.int .i64 b, .no)] [⟨a, 62, false, [⟨.slice a0 a0l a0c, .no, 0⟩, ⟨.int .i64 a1, .no, 0⟩, ⟨.int .i64 a2, .no, 0⟩, ⟨.int .i64 a3, .no, 0⟩, ⟨.int .i64 a4, .no, 0⟩, ⟨.int .i64 a5, .no, 0⟩]⟩] (bls1 ha) nod1 (plain_of rfl) (shs_of ⟨rfl, trivial, trivial⟩) h (by kernel_rfl)
theorem vc152 {a : Nat} {a0 : Option Addr} {a0l a0c : Nat} {a1 a2 a3 a4 a5 b : Int} (ha : w.heap[a]? = some (.cells #[.slice a0 a0l a0c, .int .i64 a1, .int .i64 a2, .int .i64 a3, .int .i64 a4, .int .i64 a5] 62 (0, 0))) (h : 
 nB w fun id => nB w fun id1 => fL w [] fun w1 => id < w1.heap.size → id1 < w1.heap.size → hA w1 a #[.slice a0 a0l a0c, .int .i64 a1, .int .i64 a2, .int .i64 a3, .int .i64 a4, .int .i64 a5] 62 → cU 86 #[.pointer (some ⟨a, 0, none⟩), .string (ByteArray.mk #[123])] w1 [id, id1] X fun v1 w2 => ∃ a1 n, ∃ c x, ∃ x1 x2, ∃ x3 x4, hA w2 a #[.slice a1 n c, .int .i64 x, .int .i64 x1, .int .i64 x2, .int .i64 x3, .int .i64 x4] 62 ∧ 6 = 6 ∧ (hA w2 a #[.slice a1 n c, .int .i64 x, .int .i64 x1, .int .i64 x2, .int .i64 x3, .int .i64 x4] 62 → cB 68 #[.pointer (some ⟨a, 0, none⟩), .string (ByteArray.mk #[125])] w2 [id, id1] X fun x5 w21 => ∃ a2 n1, ∃ c1 x6, ∃ x7 x8, ∃ x9 x10, hA w21 a #[.slice a2 n1 c1, .int .i64 x6, .int .i64 x7, .int .i64 x8, .int .i64 x9, .int .i64 x10] 62 ∧ 6 = 6 ∧ ∃ (I : Nat → Bool → Option Addr → Nat → Nat → Int → Int → Int → Int → Int → Option Addr → Nat → Nat → World → Prop), ∃ n0, I n0 x5 a2 n1 c1 x6 x7 x8 x9 x10 none 0 0 w21 ∧ ∀ (n2 : Nat) (jk : Nat → Value) (x11 : Bool) (a3 : Option Addr) (n3 c2 : Nat) (x12 x13 x14 x15 x16 : Int) (a4 : Option Addr) (n4 c3 : Nat) (w22 : World), I n2 x11 a3 n3 c2 x12 x13 x14 x15 x16 a4 n4 c3 w22 → dB (!x11) (dB (x15 == 0) (fL w22 [] fun w11 => hA w11 a #[.slice a3 n3 c2, .int .i64 x12, .int .i64 x13, .int .i64 x14, .int .i64 x15, .int .i64 x16] 62 → cE 28 #[.pointer (some ⟨a, 0, none⟩), .int .i64 1] w11 [id, id1] X fun x17 x18 x19 a5 n5 c4 x20 w23 => ∃ a6 n6, ∃ c5 x21, ∃ x22 x23, ∃ x24 x25, hA w23 a #[.slice a6 n6 c5, .int .i64 x21, .int .i64 x22, .int .i64 x23, .int .i64 x24, .int .i64 x25] 62 ∧ 6 = 6 ∧ nB w23 fun id2 => fL w23 [] fun w12 => id2 < w12.heap.size → hA w12 id2 #[.int .i64 x17, .int .i64 x18, .string x19, .slice a5 n5 c4, .int .i64 x20] 44 → ∃ R4, RunsTo E.P (Builtin.append_ #[42, 42] 42 #[.slice a4 n4 c3, .slice (some ⟨id2, 0, none⟩) 1 1]) w12 R4 ∧ ∀ v4 w24, R4 v4 w24 → ∃ a7 n7 c6, v4 = .slice a7 n7 c6 ∧ ∃ S3, Upd w12 w24 S3 ∧ Away [a, id, id1, id2] S3 ∧ fL w24 [id1] fun w13 => hA w13 a #[.slice a6 n6 c5, .int .i64 x21, .int .i64 x22, .int .i64 x23, .int .i64 x24, .int .i64 x25] 62 → hA w13 id2 #[.int .i64 x17, .int .i64 x18, .string x19, .slice a5 n5 c4, .int .i64 x20] 44 → cB 68 #[.pointer (some ⟨a, 0, none⟩), .string (ByteArray.mk #[125])] w13 [id, id1, id2] X fun x26 w25 => ∃ a8 n8, ∃ c7 x27, ∃ x28 x29, ∃ x30 x31, hA w25 a #[.slice a8 n8 c7, .int .i64 x27, .int .i64 x28, .int .i64 x29, .int .i64 x30, .int .i64 x31] 62 ∧ 6 = 6 ∧ dB (!x26) (hA w25 a #[.slice a8 n8 c7, .int .i64 x27, .int .i64 x28, .int .i64 x29, .int .i64 x30, .int .i64 x31] 62 → hA w25 id2 #[.int .i64 x17, .int .i64 x18, .string x19, .slice a5 n5 c4, .int .i64 x20] 44 → cU 108 #[.pointer (some ⟨a, 0, none⟩), .string (ByteArray.mk #[44])] w25 [id, id1, id2] X fun v7 w26 => ∃ a9 n9, ∃ c8 x32, ∃ x33 x34, ∃ x35 x36, hA w26 a #[.slice a9 n9 c8, .int .i64 x32, .int .i64 x33, .int .i64 x34, .int .i64 x35, .int .i64 x36] 62 ∧ 6 = 6 ∧ (hA w26 id2 #[.int .i64 x17, .int .i64 x18, .string x19, .slice a5 n5 c4, .int .i64 x20] 44 → ∃ n2_1, I n2_1 x26 a9 n9 c8 x32 x33 x34 x35 x36 a7 n7 c6 w26 ∧ n2_1 < n2)) (hA w25 id2 #[.int .i64 x17, .int .i64 x18, .string x19, .slice a5 n5 c4, .int .i64 x20] 44 → ∃ n21, I n21 x26 a8 n8 c7 x27 x28 x29 x30 x31 a7 n7 c6 w25 ∧ n21 < n2)) (hA w22 a #[.slice a3 n3 c2, .int .i64 x12, .int .i64 x13, .int .i64 x14, .int .i64 x15, .int .i64 x16] 62 → cU 87 #[.pointer (some ⟨a, 0, none⟩), .string (ByteArray.mk #[125])] w22 [id, id1] X fun v9 w210 => ∃ a10 n10, ∃ c9 x37, ∃ x38 x39, ∃ x40 x41, hA w210 a #[.slice a10 n10 c9, .int .i64 x37, .int .i64 x38, .int .i64 x39, .int .i64 x40, .int .i64 x41] 62 ∧ 6 = 6 ∧ fL w210 [id] fun w14 => hA w14 a #[.slice a10 n10 c9, .int .i64 x37, .int .i64 x38, .int .i64 x39, .int .i64 x40, .int .i64 x41] 62 → R (Ae 25 0 (ByteArray.mk #[]) a4 n4 c3 b) w14)) (hA w22 a #[.slice a3 n3 c2, .int .i64 x12, .int .i64 x13, .int .i64 x14, .int .i64 x15, .int .i64 x16] 62 → cU 87 #[.pointer (some ⟨a, 0, none⟩), .string (ByteArray.mk #[125])] w22 [id, id1] X fun v11 w212 => ∃ a11 n11, ∃ c10 x42, ∃ x43 x44, ∃ x45 x46, hA w212 a #[.slice a11 n11 c10, .int .i64 x42, .int .i64 x43, .int .i64 x44, .int .i64 x45, .int .i64 x46] 62 ∧ 6 = 6 ∧ fL w212 [id] fun w15 => hA w15 a #[.slice a11 n11 c10, .int .i64 x42, .int .i64 x43, .int .i64 x44, .int .i64 x45, .int .i64 x46] 62 → R (Ae 25 0 (ByteArray.mk #[]) a4 n4 c3 b) w15))
 ) : CallsX E.P 123 #[.pointer (some ⟨a, 0, none⟩), .int .i64 b] w R X :=
  calls_vc E_ok ⟨[(4, ⟨[(6, .bool)], [(0, 0, .slc), (0, 1, .int .i64), (0, 2, .int .i64), (0, 3, .int .i64), (0, 4, .int .i64), (0, 5, .int .i64), (2, 3, .slc)]⟩), (200004, ⟨[], []⟩)], []⟩ (f := 123) Tryz.func123 rfl [(.pointer (some ⟨a, 0, none⟩), .ptr 0 0), (.int .i64 b, .no)] [⟨a, 62, false, [⟨.slice a0 a0l a0c, .no, 0⟩, ⟨.int .i64 a1, .no, 0⟩, ⟨.int .i64 a2, .no, 0⟩, ⟨.int .i64 a3, .no, 0⟩, ⟨.int .i64 a4, .no, 0⟩, ⟨.int .i64 a5, .no, 0⟩]⟩] (bls1 ha) nod1 (plain_of rfl) (shs_of ⟨rfl, trivial, trivial⟩) h (by kernel_rfl)
end Go.Vx.Tryz
namespace Go.Vx
open Go
section
def S3 (b g h : Nat) : Nat → Prop := fun x => x = b ∨ x = g ∨ x = h
def Fw (b g h : Nat) : Nat → Prop := fun x => ¬ S3 b g h x
def EntR (w : World) (F : Nat → Prop) : Option Nd → Value → Prop
  | none, v => v = .slice none 0 0
  | some x, v => ∃ A, v = .slice A 1 1 ∧ NdsR w F [x] A 1 1
structure MemW (w : World) (b g h : Nat) (zs : List Int) (C : Option Addr) (cc : Nat) (ks : List (Option Nd)) (ts : List Int) : Prop where
  hc : IntsR w (Fw b g h) zs C zs.length cc
  hk : ∃ cur : Array Value, w.heap[g]? = some (.cells cur 22 (0, 0)) ∧ cur.size = zs.length ∧ ∀ (i : Nat) (x : Option Nd), ks[i]? = some x → ∃ v, cur[i]? = some v ∧ EntR w (Fw b g h) x v
  ht : w.heap[h]? = some (.cells (ts.map (Value.int .i64)).toArray 3 (0, 0))
  kl : ks.length = zs.length
  tl : ts.length = zs.length
  bg : b ≠ g
  bh : b ≠ h
  gh : g ≠ h
theorem EntR.upd {w w' : World} {F S : Nat → Prop} {x : Option Nd} {v : Value} (h : EntR w F x v) (k : Upd w w' S) (hs : ∀ b, F b → ¬ S b) : EntR w' F x v := by
  cases x with
  | none => exact h
  | some x => obtain ⟨A, e, hA⟩ := h; exact ⟨A, e, hA.upd k hs⟩
section
variable {w w' : World} {b g h : Nat} {zs : List Int} {C : Option Addr} {cc : Nat} {ks : List (Option Nd)} {ts : List Int} {S : Nat → Prop}
theorem MemW.upd (m : MemW w b g h zs C cc ks ts) (k : Upd w w' S) (hs : ∀ x, S x → x = b ∨ w.heap.size ≤ x) : MemW w' b g h zs C cc ks ts := by
  obtain ⟨h1, ⟨cur, h2, h3, h4⟩, h5, h6, h7, h8, h9, h10⟩ := m
  refine ⟨RowIn.upd' h1 k fun x hx hlt hS => ?_, ⟨cur, (k.keep g (lt_of_get h2) (fun hS => ?_)).trans h2, h3, fun i x hx => ?_⟩, (k.keep h (lt_of_get h5) (fun hS => ?_)).trans h5, h6, h7, h8, h9, h10⟩
  · rcases hs x hS with e | e
    · exact hx (.inl e)
    · omega
  · rcases hs g hS with e | e
    · exact h8 e.symm
    · have := lt_of_get h2; omega
  · obtain ⟨v, hv, he⟩ := h4 i x hx
    refine ⟨v, hv, ?_⟩
    cases x with
    | none => exact he
    | some x =>
      obtain ⟨A, e, hA⟩ := he
      refine ⟨A, e, NdsG.upd' hA k fun x hx hlt hS => ?_⟩
      rcases hs x hS with e | e
      · exact hx (.inl e)
      · omega
  · rcases hs h hS with e | e
    · exact h9 e.symm
    · have := lt_of_get h5; omega
theorem MemW.lt (m : MemW w b g h zs C cc ks ts) : g < w.heap.size ∧ h < w.heap.size := by
  obtain ⟨h1, ⟨cur, h2, h3, h4⟩, h5, _⟩ := m
  exact ⟨lt_of_get h2, lt_of_get h5⟩
end
theorem upd_s3 {w w' : World} {b g h : Nat} (k : Upd w w' (setOf [b])) : Upd w w' (S3 b g h) :=
  ⟨k.os, k.tape, k.output, k.size, fun x hx hS => k.keep x hx fun h => by simp only [setOf, no, or_false] at h; exact hS (.inl h)⟩
theorem ext_s3 {w w' : World} {b g h : Nat} (k : Ext w w') : Upd w w' (S3 b g h) := k.trans''
theorem upd_b {b : Nat} {w : World} : ∀ x, setOf [b] x → x = b ∨ w.heap.size ≤ x := fun x hx => by simp only [setOf, no, or_false] at hx; exact .inl hx
theorem Upd.t3 {w w1 w2 : World} {b g h : Nat} (k : Upd w w1 (S3 b g h)) (k2 : Upd w1 w2 (S3 b g h)) : Upd w w2 (S3 b g h) := k.trans' k2 (fun _ h => h)
theorem NdsG.s3 {w w' : World} {b g h : Nat} {kids : List Nd} {A : Option Addr} {l c : Nat} (q : NdsR w (Fw b g h) kids A l c) (k : Upd w w' (S3 b g h)) : NdsR w' (Fw b g h) kids A l c := q.upd k (fun _ h => h)
theorem away_s3 {b g h top : Nat} {ids : List Nat} (h1 : b < top) (h2 : g < top) (h3 : h < top) (hi : ∀ i ∈ ids, top ≤ i) : Away ids (S3 b g h) := away_of fun i hm hS => by
  have := hi i hm
  rcases hS with e | e | e <;> omega
section
variable {P : Program} {f : Nat} {args : Array Value} {w : World} {X : ContX} {ids : List Nat} {b g h : Nat} {zs : List Int} {C : Option Addr} {cc : Nat} {st : WS}
end
end
section
open Go
section
variable {P : Program} {w : World} {b g h : Nat} {zs : List Int} {C : Option Addr} {cc : Nat} {ks : List (Option Nd)} {ts : List Int}
theorem MemW.setK {t sz : Nat} (T : SlT P t 22 1 sz) (m : MemW w b g h zs C cc ks ts) {j : Nat} (hj : j < zs.length) {x : Nd} {id : Nat} (hx : NdsR w (Fw b g h) [x] (some ⟨id, 0, none⟩) 1 1) :
    RunsU P (Instr.storeAt 22 (.pointer (some ⟨g, j, none⟩)) (.slice (some ⟨id, 0, none⟩) 1 1)) w (fun w' => MemW w' b g h zs C cc (ks.set j (some x)) ts ∧ Upd w w' (fun x => x = g) ∧ w'.heap.size = w.heap.size) := by
  obtain ⟨h1, ⟨cur, h2, h3, h4⟩, h5, h6, h7, h8, h9, h10⟩ := m
  obtain ⟨w', hr, q1, q2, q3⟩ := store_at T (o := j) (v := .slice (some ⟨id, 0, none⟩) 1 1) (vs := [.slice (some ⟨id, 0, none⟩) 1 1]) h2 rfl rfl (by omega) rfl
  have hF : ∀ x, Fw b g h x → ¬ (x = g) := fun x hx e => hx (.inr (.inl e))
  refine ⟨w', hr, ⟨RowIn.upd h1 q3 hF, ⟨_, q1, by simp [setAt_length]; omega, fun i y hy => ?_⟩, by rw [q3.keep h (lt_of_get h5) (fun e => h10 e.symm)]; exact h5, by simpa using h6, h7, h8, h9, h10⟩, q3, q2⟩
  have hil := (List.getElem?_eq_some_iff.1 hy).1
  simp only [List.length_set] at hil
  by_cases hij : j = i
  · subst hij
    rw [List.getElem?_set_self (by omega)] at hy
    cases hy
    refine ⟨_, ?_, _, rfl, hx.upd q3 hF⟩
    have e : setAt cur.toList j [Value.slice (some ⟨id, 0, none⟩) 1 1] = cur.toList.set j (.slice (some ⟨id, 0, none⟩) 1 1) := rfl
    rw [e, List.getElem?_toArray, List.getElem?_set_self (by rw [Array.length_toList]; omega)]
  · rw [List.getElem?_set_ne hij] at hy
    obtain ⟨v, hv, he⟩ := h4 i y hy
    refine ⟨v, ?_, he.upd q3 hF⟩
    have := setAt_get [Value.slice (some ⟨id, 0, none⟩) 1 1] cur.toList j i (by simp; omega)
    rw [List.getElem?_toArray, this, Array.getElem?_toList, hv]
end
end
section
open Go Go.MapKept
def entOf (p : Int × Value × Nat) : MapEntry := ⟨.int .i64 p.1, p.2.1, p.2.2⟩
def findP (k : Int) : List (Int × Value × Nat) → Nat → Option (Nat × Value)
  | [], _ => none
  | p :: ps, i => if k == p.1 then some (i, p.2.1) else findP k ps (i + 1)
theorem findNow_int (k : Int) : ∀ (ps : List (Int × Value × Nat)) (i : Nat), Instr.findNow (.int .i64) (.int .i64 k) (ps.map entOf) i = some (findP k ps i)
  | [], _ => rfl
  | p :: ps, i => by
    simp only [List.map_cons, Instr.findNow, entOf, Instr.sameNow, findP, if_true]
    cases k == p.1 with
    | true => rfl
    | false => exact findNow_int k ps (i + 1)
def MapF (w : World) (r : Nat) (f : Int → Option Value) : Prop :=
  ∃ (ps : List (Int × Value × Nat)) (clock : Nat), w.heap[r]? = some (.map (ps.map entOf).toArray clock) ∧ ∀ k i, (findP k ps i).map (·.2) = f k
theorem MapF.lt {w : World} {r : Nat} {f : Int → Option Value} (h : MapF w r f) : r < w.heap.size := by
  obtain ⟨ps, c, h, _⟩ := h; exact lt_of_get h
theorem MapF.upd {w w' : World} {r : Nat} {f : Int → Option Value} {S : Nat → Prop} (h : MapF w r f) (k : Upd w w' S) (hs : ¬ S r) : MapF w' r f := by
  obtain ⟨ps, c, h1, h2⟩ := h
  exact ⟨ps, c, by rw [k.keep r (lt_of_get h1) hs]; exact h1, h2⟩
structure MapT (P : Program) (t kt et : Nat) (zv : Value) : Prop where
  ht : P.underlying t = some (.map kt et)
  hk : P.underlying kt = some (.int .i64)
  hz : ∀ w, (zeroValue et).run P w = .ok zv w
theorem run_check {P : Program} {kt : Nat} {w : World} {e : Bool} {k : Int} (hk : P.underlying kt = some (.int .i64)) : (Instr.checkKey e 10000 kt (.int .i64 k)).run P w = .ok () w := by
  show (Instr.checkKey e (Nat.succ 9999) kt (.int .i64 k)).run P w = .ok () w
  rw [Instr.checkKey]
  simp only [Sem.run_bind, run_underlying hk, Result.andThen_ok]
  rfl
theorem run_find {P : Program} {kt : Nat} {w : World} {k : Int} {ps : List (Int × Value × Nat)} (hk : P.underlying kt = some (.int .i64)) : (Instr.findKey kt (.int .i64 k) (ps.map entOf)).run P w = .ok (findP k ps 0) w := by
  simp [Instr.findKey, run_underlying hk, findNow_int]
theorem run_get_map {P : Program} {w : World} {r : Nat} {es : Array MapEntry} {c : Nat} (h : w.heap[r]? = some (.map es c)) : (getObj r).run P w = .ok (.map es c) w := by
  simp [getObj, Sem.run, h]
theorem MapF.look {P : Program} {t kt et : Nat} {zv : Value} (T : MapT P t kt et zv) {w : World} {r : Nat} {f : Int → Option Value} (h : MapF w r f) (k : Int) :
    Sem.run P (Instr.lookup t (.map (some r)) (.int .i64 k) true) w = .ok (match f k with | some v => .tuple #[v, .bool true] | none => .tuple #[zv, .bool false]) w := by
  obtain ⟨ps, c, h1, h2⟩ := h
  have hf := h2 k 0
  have hz := T.hz w
  simp only [Instr.lookup, Sem.run_bind, run_underlying T.ht, Result.andThen_ok, run_get_map h1, Sem.run_pure, run_check T.hk, List.toList_toArray, run_find T.hk]
  cases hq : findP k ps 0 with
  | none =>
    rw [hq] at hf
    rw [← hf]
    simp [hz]
  | some p =>
    rw [hq] at hf
    rw [← hf]
    simp
theorem MapF.lookV {P : Program} {t kt et : Nat} {zv : Value} (T : MapT P t kt et zv) {w : World} {r : Nat} {f : Int → Option Value} (h : MapF w r f) (k : Int) :
    Sem.run P (Instr.lookup t (.map (some r)) (.int .i64 k) false) w = .ok ((f k).getD zv) w := by
  obtain ⟨ps, c, h1, h2⟩ := h
  have hf := h2 k 0
  have hz := T.hz w
  simp only [Instr.lookup, Sem.run_bind, run_underlying T.ht, Result.andThen_ok, run_get_map h1, Sem.run_pure, run_check T.hk, List.toList_toArray, run_find T.hk]
  cases hq : findP k ps 0 with
  | none =>
    rw [hq] at hf
    rw [← hf]
    simp [hz]
  | some p =>
    rw [hq] at hf
    rw [← hf]
    simp
theorem findP_set (k : Int) (v : Value) (k' : Int) : ∀ (ps : List (Int × Value × Nat)) (i j : Nat) (v0 : Value), findP k ps i = some (i + j, v0) → ∀ n, findP k' (ps.modify j fun p => (k, v, p.2.2)) n = if k' = k then (findP k ps i).map (fun q => (q.1 - i + n, v)) else findP k' ps n
  | [], i, j, v0, h, n => by simp [findP] at h
  | p :: ps, i, 0, v0, h, n => by
    simp only [findP] at h
    split at h
    · rename_i hk
      have hk : k = p.1 := by simpa using hk
      simp only [List.modify_zero_cons, findP]
      by_cases hkk : k' = k
      · subst hkk; simp [hk, findP]
      · have h1 : (k' == k) = false := by simpa using hkk
        have h2 : (k' == p.1) = false := by simp; omega
        simp [hkk, h1, h2]
    · exfalso
      have : ∀ (ps : List (Int × Value × Nat)) (m : Nat), m > i → findP k ps m ≠ some (i + 0, v0) := by
        intro ps
        induction ps with
        | nil => intro m _ h; simp [findP] at h
        | cons q ps ih =>
          intro m hm h
          simp only [findP] at h
          split at h
          · simp at h; omega
          · exact ih (m + 1) (by omega) h
      exact this ps (i + 1) (by omega) h
  | p :: ps, i, j + 1, v0, h, n => by
    simp only [findP] at h
    split at h
    · simp at h
    · rename_i hk
      have ih := findP_set k v k' ps (i + 1) j v0 (by rw [h]; congr 2; omega) (n + 1)
      simp only [List.modify_succ_cons, findP]
      have hk1 : (k == p.1) = false := by simpa using hk
      by_cases hkk : k' = k
      · subst hkk
        simp only [hk1, Bool.false_eq_true, if_false, if_true] at ih ⊢
        rw [ih, h]
        simp; omega
      · simp only [hkk, if_false] at ih ⊢
        rw [ih]
theorem findP_push (k : Int) (v : Value) (c : Nat) (k' : Int) : ∀ (ps : List (Int × Value × Nat)) (i : Nat), findP k ps i = none → ∀ n, (findP k' (ps ++ [(k, v, c)]) n).map (·.2) = if k' = k then some v else (findP k' ps n).map (·.2)
  | [], i, _, n => by
    by_cases hkk : k' = k
    · subst hkk; simp [findP]
    · have h1 : (k' == k) = false := by simpa using hkk
      simp [findP, hkk, h1]
  | p :: ps, i, h, n => by
    simp only [findP] at h
    split at h
    · cases h
    · rename_i hk
      have ih := findP_push k v c k' ps (i + 1) h (n + 1)
      simp only [List.cons_append, findP]
      by_cases hkp : (k' == p.1) = true
      · have hne : k' ≠ k := fun e => hk (by rw [← e]; exact hkp)
        simp [hkp, hne]
      · simp only [hkp, Bool.false_eq_true, if_false]; exact ih
theorem findP_lt (k : Int) : ∀ (ps : List (Int × Value × Nat)) (i : Nat) {j : Nat} {v : Value}, findP k ps i = some (i + j, v) → j < ps.length
  | [], i, j, v, h => by simp [findP] at h
  | p :: ps, i, j, v, h => by
    simp only [findP] at h
    split at h
    · simp at h; simp; omega
    · cases j with
      | zero => simp
      | succ j =>
        have := findP_lt k ps (i + 1) (j := j) (v := v) (by rw [h]; congr 2; omega)
        simp; omega
theorem findP_key (k : Int) : ∀ (ps : List (Int × Value × Nat)) (i : Nat) {j : Nat} {v : Value}, findP k ps i = some (i + j, v) → ∀ (hj : j < ps.length), k = ps[j].1
  | [], i, j, v, h, _ => by simp [findP] at h
  | p :: ps, i, j, v, h, hj => by
    simp only [findP] at h
    split at h
    · rename_i hk
      have : j = 0 := by simp at h; omega
      subst this
      simpa using hk
    · cases j with
      | zero =>
        exfalso
        have : ∀ (ps : List (Int × Value × Nat)) (m : Nat), m > i → findP k ps m ≠ some (i + 0, v) := by
          intro ps
          induction ps with
          | nil => intro m _ h; simp [findP] at h
          | cons q ps ih =>
            intro m hm h
            simp only [findP] at h
            split at h
            · simp at h; omega
            · exact ih (m + 1) (by omega) h
        exact this ps (i + 1) (by omega) h
      | succ j =>
        have := findP_key k ps (i + 1) (j := j) (v := v) (by rw [h]; congr 2; omega) (by simpa using hj)
        simpa using this
theorem map_modify_ent {k : Int} {v : Value} : ∀ (ps : List (Int × Value × Nat)) (j : Nat), (ps.map entOf).modify j (fun e => { e with key := .int .i64 k, val := v }) = (ps.modify j fun p => (k, v, p.2.2)).map entOf
  | [], j => by simp
  | p :: ps, 0 => by simp [entOf]
  | p :: ps, j + 1 => by simp [map_modify_ent ps j]
theorem MapF.set {P : Program} {t kt et : Nat} {zv : Value} (T : MapT P t kt et zv) {w : World} {r : Nat} {f : Int → Option Value} (h : MapF w r f) (k : Int) (v : Value) :
    RunsU P (Instr.mapUpdate t (.map (some r)) (.int .i64 k) v) w (fun w' => MapF w' r (fun k' => if k' = k then some v else f k') ∧ Upd w w' (fun x => x = r) ∧ w'.heap.size = w.heap.size) := by
  obtain ⟨ps, c, h1, h2⟩ := h
  have hlt := lt_of_get h1
  have up : ∀ o : Obj, Upd w { w with heap := w.heap.setIfInBounds r o } (fun x => x = r) := fun o => ⟨rfl, rfl, rfl, by simp, fun k hk hS => by simp [Array.getElem?_setIfInBounds_ne (fun e => hS e.symm)]⟩
  have hset : ∀ o : Obj, (setObj r o).run P w = .ok () { w with heap := w.heap.setIfInBounds r o } := fun o => run_setObj_map o h1
  cases hq : findP k ps 0 with
  | none =>
    refine ⟨_, ?_, ⟨ps ++ [(k, v, c)], c + 1, ?_, fun k' i => ?_⟩, up (.map ((ps.map entOf).toArray.push (entOf (k, v, c))) (c + 1)), by simp⟩
    · simp only [Instr.mapUpdate, Sem.run_bind, run_underlying T.ht, Result.andThen_ok, run_get_map h1, run_check T.hk, run_find T.hk, hq]
      exact hset _
    · simp [hlt]
    · rw [findP_push k v c k' ps 0 hq i, h2]
  | some p =>
    obtain ⟨j, v0⟩ := p
    have hset2 := findP_set k v
    refine ⟨_, ?_, ⟨ps.modify j fun p => (k, v, p.2.2), c, ?_, fun k' i => ?_⟩, up (.map ((ps.map entOf).toArray.modify j fun e => { e with key := .int .i64 k, val := v }) c), by simp⟩
    · simp only [Instr.mapUpdate, Sem.run_bind, run_underlying T.ht, Result.andThen_ok, run_get_map h1, run_check T.hk, run_find T.hk, hq]
      have hj : j < ps.length := findP_lt k ps 0 (by rw [Nat.zero_add]; exact hq)
      have hkk : ((((ps.map entOf).toArray[j]?).map (·.key)).getD (.int .i64 k)) = .int .i64 k := by
        rw [List.getElem?_toArray, List.getElem?_map, List.getElem?_eq_getElem hj]
        exact congrArg (Value.int .i64) (findP_key k ps 0 (by simpa using hq) hj).symm
      rw [hkk]
      have hst : (Instr.keyThatStays (.int .i64 k) (.int .i64 k)).run P w = .ok (.int .i64 k) w := by
        have hsb : Instr.sameBits 10000 (.int .i64 k) (.int .i64 k) = true := by simp [Instr.sameBits]
        simp [Instr.keyThatStays, hsb]
      rw [hst, Result.andThen_ok]
      exact hset _
    · have he : ((ps.map entOf).toArray.modify j fun e => { e with key := .int .i64 k, val := v }) = ((ps.modify j fun p => (k, v, p.2.2)).map entOf).toArray := by
        rw [List.modify_toArray, map_modify_ent]
      rw [he]; simp [hlt]
    · rw [findP_set k v k' ps 0 j v0 (by rw [Nat.zero_add]; exact hq) i]
      by_cases hkk : k' = k
      · simp [hkk, hq]
      · simp [hkk, h2]
end
section
open Go
inductive Ex where
  | mk (k n : Int) (s : ByteArray) (kids : List Ex) (at_ : Int)
def Ex.k : Ex → Int | .mk k _ _ _ _ => k
def Ex.n : Ex → Int | .mk _ n _ _ _ => n
def Ex.s : Ex → ByteArray | .mk _ _ s _ _ => s
def Ex.kids : Ex → List Ex | .mk _ _ _ l _ => l
def Ex.at_ : Ex → Int | .mk _ _ _ _ t => t
mutual
def Ex.size : Ex → Nat
  | .mk _ _ _ l _ => 1 + Ex.sizes l
def Ex.sizes : List Ex → Nat
  | [] => 0
  | x :: l => x.size + Ex.sizes l
end
theorem Ex.size_lt {n : Ex} : ∀ {l : List Ex}, n ∈ l → n.size ≤ Ex.sizes l
  | x :: l, h => by
    rcases List.mem_cons.1 h with rfl | h
    · simp [Ex.sizes]
    · have := Ex.size_lt h; simp only [Ex.sizes]; omega
inductive ExR (w : World) : (Nat → Prop) → Ex → List Value → Prop
  | mk (F : Nat → Prop) (k n : Int) (s : ByteArray) (kids : List Ex) (t : Int) (A : Option Addr) (l c : Nat) (rows : List (List Value)) (Fs : Nat → Nat → Prop) :
      RowIn w F 5 A l c rows → rows.length = kids.length →
      (∀ (i : Nat) (x : Ex), kids[i]? = some x → ExR w (Fs i) x (rows.getD i [])) →
      (∀ i b, i < kids.length → Fs i b → F b) →
      ExR w F (.mk k n s kids t) [.int .i64 k, .int .i64 n, .string s, .slice A l c, .int .i64 t]
def ExsR (w : World) (F : Nat → Prop) (kids : List Ex) (A : Option Addr) (l c : Nat) : Prop :=
  ∃ (rows : List (List Value)) (Fs : Nat → Nat → Prop), RowIn w F 5 A l c rows ∧ rows.length = kids.length ∧ (∀ (i : Nat) (x : Ex), kids[i]? = some x → ExR w (Fs i) x (rows.getD i [])) ∧
    (∀ i b, i < kids.length → Fs i b → F b)
def exV (n : Ex) (A : Option Addr) (l c : Nat) : List Value := [.int .i64 n.k, .int .i64 n.n, .string n.s, .slice A l c, .int .i64 n.at_]
abbrev exA (n : Ex) (A : Option Addr) (l c : Nat) : Value := .agg #[.int .i64 n.k, .int .i64 n.n, .string n.s, .slice A l c, .int .i64 n.at_]
theorem ExR.kids {w : World} {F : Nat → Prop} {n : Ex} {cs : List Value} (h : ExR w F n cs) : ∃ A l c, cs = exV n A l c ∧ ExsR w F n.kids A l c := by
  cases h with
  | mk F k n s kids t A l c rows Fs h1 h2 h3 h4 => exact ⟨A, l, c, rfl, rows, Fs, h1, h2, h3, h4⟩
theorem ExsR.node {w : World} {F : Nat → Prop} {n : Ex} {A : Option Addr} {l c : Nat} (h : ExsR w F n.kids A l c) : ExR w F n (exV n A l c) := by
  obtain ⟨rows, Fs, h1, h2, h3, h4⟩ := h
  cases n with
  | mk k n s kids t => exact .mk F k n s kids t A l c rows Fs h1 h2 h3 h4
theorem ExR.upd' {w w' : World} {F S : Nat → Prop} {n : Ex} {cs : List Value} (h : ExR w F n cs) (k : Upd w w' S) (hs : ∀ b, F b → b < w.heap.size → ¬ S b) : ExR w' F n cs := by
  induction h with
  | mk F k0 n s kids t A l c rows Fs hr hl hk hF ih =>
    exact .mk _ _ _ _ _ _ _ _ _ rows Fs (hr.upd' k hs) hl (fun i x hx => ih i x hx (fun b hb => hs b (hF i b (List.getElem?_eq_some_iff.1 hx).1 hb))) hF
theorem ExR.mono {w : World} {F G : Nat → Prop} {n : Ex} {cs : List Value} (h : ExR w F n cs) (hs : ∀ b, F b → G b) : ExR w G n cs := by
  cases h with
  | mk F k0 n s kids t A l c rows Fs hr hl hk hF => exact .mk _ _ _ _ _ _ _ _ _ rows Fs (hr.mono hs) hl hk (fun i b hi hb => hs _ (hF i b hi hb))
theorem ExsR.upd' {w w' : World} {F S : Nat → Prop} {kids : List Ex} {A : Option Addr} {l c : Nat} (h : ExsR w F kids A l c) (k : Upd w w' S) (hs : ∀ b, F b → b < w.heap.size → ¬ S b) : ExsR w' F kids A l c := by
  obtain ⟨A', l', c', e, h'⟩ := ((ExsR.node (n := .mk 0 0 ByteArray.empty kids 0) h).upd' k hs).kids
  simp only [exV, List.cons.injEq, Value.slice.injEq, true_and, and_true] at e
  obtain ⟨rfl, rfl, rfl⟩ := e
  exact h'
theorem ExsR.ext {w w' : World} {F : Nat → Prop} {kids : List Ex} {A : Option Addr} {l c : Nat} (h : ExsR w F kids A l c) (k : Ext w w') : ExsR w' F kids A l c := h.upd' k (fun _ _ _ h => h)
theorem ExsR.mono {w : World} {F G : Nat → Prop} {kids : List Ex} {A : Option Addr} {l c : Nat} (h : ExsR w F kids A l c) (hs : ∀ b, F b → G b) : ExsR w G kids A l c := by
  obtain ⟨rows, Fs, h1, h2, h3, h4⟩ := h
  exact ⟨rows, Fs, h1.mono hs, h2, h3, fun i b hi hb => hs _ (h4 i b hi hb)⟩
theorem ExsR.len {w : World} {F : Nat → Prop} {kids : List Ex} {A : Option Addr} {l c : Nat} (h : ExsR w F kids A l c) : l = kids.length := by
  obtain ⟨rows, Fs, h1, h2, _⟩ := h
  exact h1.len.trans h2
theorem ExsR.lt {w : World} {F : Nat → Prop} {kids : List Ex} {A : Option Addr} {l c : Nat} (h : ExsR w F kids A l c) : l < 2 ^ 48 := by
  obtain ⟨rows, Fs, h1, _⟩ := h
  exact h1.lt
theorem ExsR.nil {w : World} {F : Nat → Prop} : ExsR w F [] none 0 0 := ⟨[], fun _ _ => False, ⟨rfl, Nat.le_refl _, by omega, by simp, fun h => absurd rfl h⟩, rfl, by simp, by simp⟩
theorem ExsR.idx {w : World} {F : Nat → Prop} {kids : List Ex} {A : Option Addr} {l c : Nat} (h : ExsR w F kids A l c) {j : Nat} (hj : j < kids.length) {K : Addr → Prop} (k : ∀ ad, A = some ad → K ad) :
    (0 ≤ (j : Int) ∧ (j : Int) < (l : Int)) ∧ ∃ ad, A = some ad ∧ K ad := by
  have hl := h.len
  obtain ⟨rows, Fs, h1, h2, _⟩ := h
  obtain ⟨ad, r, e, _⟩ := h1.get (j : Int) (by omega) (by omega)
  exact ⟨by omega, ad, e, k ad e⟩
theorem ExsR.get {w : World} {F : Nat → Prop} {kids : List Ex} {A : Option Addr} {l c : Nat} (h : ExsR w F kids A l c) {ad : Addr} (ha : A = some ad) {j : Nat} (hj : j < kids.length) :
    ∃ A1 l1 c1, CellsIn w (ad.add (Int.toNat (j : Int) * 5)) (exV kids[j] A1 l1 c1) ∧ ExsR w F kids[j].kids A1 l1 c1 := by
  have hl := h.len
  obtain ⟨rows, Fs, h1, h2, h3, h4⟩ := h
  obtain ⟨ad', r, e, hr, _, hc⟩ := h1.get (j : Int) (by omega) (by omega)
  rw [ha] at e; cases e
  have hn : Int.toNat (j : Int) = j := by omega
  rw [hn] at hr hc ⊢
  have hk := h3 j kids[j] (List.getElem?_eq_getElem hj)
  rw [List.getD_eq_getElem?_getD, hr, Option.getD_some] at hk
  obtain ⟨A1, l1, c1, rfl, hk2⟩ := hk.kids
  exact ⟨A1, l1, c1, hc, hk2.mono (fun b hb => h4 j b hj hb)⟩
theorem ExsR.cell {w : World} {F : Nat → Prop} {kids : List Ex} {A : Option Addr} {l c : Nat} (h : ExsR w F kids A l c) {ad : Addr} (ha : A = some ad) {j : Nat} (hj : j < kids.length)
    {K : Int → Int → ByteArray → Option Addr → Nat → Nat → Int → Prop} (k : ∀ A1 l1 c1, ExsR w F kids[j].kids A1 l1 c1 → K kids[j].k kids[j].n kids[j].s A1 l1 c1 kids[j].at_) :
    ∃ x2 x3, ∃ x4 a, ∃ n c, ∃ x5, CellsIn w (ad.add (Int.toNat (j : Int) * 5)) [.int .i64 x2, .int .i64 x3, .string x4, .slice a n c, .int .i64 x5] ∧ K x2 x3 x4 a n c x5 := by
  obtain ⟨A1, l1, c1, h1, h2⟩ := h.get ha hj
  exact ⟨_, _, _, _, _, _, _, h1, k _ _ _ h2⟩
def exRel : Rel Ex 5 where
  K := fun w F n cs => ExR w F n cs
  upd := fun h k hs => ExR.upd' h k (fun b hb _ => hs b hb)
  len := fun h => by obtain ⟨A, l, c, rfl, _⟩ := ExR.kids h; rfl
  one := fun h u hu => by
    obtain ⟨A, l, c, rfl, _⟩ := ExR.kids h
    simp only [exV, List.mem_cons, List.not_mem_nil, or_false] at hu
    rcases hu with rfl | rfl | rfl | rfl | rfl <;> rfl
theorem exs_of {w : World} {ty : Nat} {F : Nat → Prop} {kids : List Ex} {A : Option Addr} {l c : Nat} (h : RowsG exRel ty w false F kids A l c) : ExsR w F kids A l c := by
  obtain ⟨rows, Fs, h1, h2, h3, h4, _⟩ := h
  exact ⟨rows, Fs, h1, h2, h3, h4⟩
theorem lit_row {w : World} {F : Nat → Prop} {z ty id : Nat} {rows : List (List Value)} (h : w.heap[id]? = some (.cells rows.flatten.toArray ty (0, 0))) (hz : ∀ r ∈ rows, r.length = z) (hF : F id) (hl : rows.length < 2 ^ 48) :
    RowIn w F z (some ⟨id, 0, none⟩) rows.length rows.length rows := by
  refine ⟨rfl, Nat.le_refl _, hl, hz, fun hne => ⟨⟨id, 0, none⟩, rfl, hF, fun i r hr => ⟨fun j u hj => ?_⟩⟩⟩
  have := flatten_get hz hr hj
  rw [add_plain, add_plain, Nat.zero_add]
  simp only [World.cell?, h]
  simpa using this
theorem exs_lit {w : World} {F : Nat → Prop} {ty id : Nat} {kids : List Ex} {As : List (Option Addr × Nat × Nat)} (hl : As.length = kids.length)
    (h : w.heap[id]? = some (.cells ((kids.zip As).map fun p => exV p.1 p.2.1 p.2.2.1 p.2.2.2).flatten.toArray ty (0, 0))) (hF : F id) (hb : kids.length < 2 ^ 48)
    (hk : ∀ (i : Nat) (x : Ex) (a : Option Addr × Nat × Nat), kids[i]? = some x → As[i]? = some a → ExsR w F x.kids a.1 a.2.1 a.2.2) : ExsR w F kids (some ⟨id, 0, none⟩) kids.length kids.length := by
  have hlen : ((kids.zip As).map fun p => exV p.1 p.2.1 p.2.2.1 p.2.2.2).length = kids.length := by simp [hl]
  have hr := lit_row (F := F) (z := 5) h (fun r hr => by obtain ⟨p, _, rfl⟩ := List.mem_map.1 hr; rfl) hF (by rw [hlen]; exact hb)
  rw [hlen] at hr
  refine ⟨_, fun _ => F, hr, hlen, fun i x hx => ?_, fun _ _ _ h => h⟩
  have hi := (List.getElem?_eq_some_iff.1 hx).1
  have ha : As[i]? = some As[i] := List.getElem?_eq_getElem (by omega)
  have hzip : (kids.zip As)[i]? = some (x, As[i]) := by rw [List.getElem?_zip_eq_some]; exact ⟨hx, ha⟩
  rw [List.getD_eq_getElem?_getD, List.getElem?_map, hzip]
  exact (hk i x As[i] hx ha).node
end
section
open Go
structure RS where
  at_ : Nat
  open_ : Int
  quants : Int
  e : Int
  place : Int
def tokAt (ts : List Tok) (i : Nat) : Tok := ts.getD i tok0
def isF (ts : List Tok) (st : RS) (s : ByteArray) : Bool := st.e == 0 && ((tokAt ts st.at_).kind == 3 || (tokAt ts st.at_).kind == 4) && strEq (tokAt ts st.at_).text s
def failsF (ts : List Tok) (st : RS) (e : Int) : RS := if st.e == 0 then { st with e := e, place := (tokAt ts st.at_).at_ } else st
def RS.next (st : RS) : RS := { st with at_ := st.at_ + 1 }
def RS.shut (st : RS) : RS := { st with open_ := w64 (st.open_ - 1) }
def takesF (ts : List Tok) (st : RS) (s : ByteArray) : RS := if isF ts st s then st.next else failsF ts st 120
def opensF (ts : List Tok) (st : RS) : RS := if st.open_ == 64 then failsF ts st 121 else { st with open_ := w64 (st.open_ + 1), at_ := st.at_ + 1 }
def bracketF (ts : List Tok) (st : RS) (s : ByteArray) : RS := if isF ts st s then opensF ts st else failsF ts st 120
def closesF (ts : List Tok) (st : RS) (s : ByteArray) : RS := (takesF ts st s).shut
def amongL (ts : List Tok) (st : RS) : Nat → List ByteArray → Int
  | _, [] => -1
  | i, x :: l => if isF ts st x then i else amongL ts st (i + 1) l
def amongF (ts : List Tok) (st : RS) (l : List ByteArray) : Int := amongL ts st 0 l
def signsL (r : Int) : List ByteArray := if r == 1 then [(ByteArray.mk #[111, 114])] else if r == 2 then [(ByteArray.mk #[97, 110, 100])] else if r == 4 then [(ByteArray.mk #[61]), (ByteArray.mk #[33, 61]), (ByteArray.mk #[60, 61]), (ByteArray.mk #[60])] else if r == 5 then [(ByteArray.mk #[43]), (ByteArray.mk #[45])] else [(ByteArray.mk #[42]), (ByteArray.mk #[47]), (ByteArray.mk #[37])]
def kindsL (r : Int) : List Int := if r == 1 then [18] else if r == 2 then [17] else if r == 4 then [13, 14, 16, 15] else if r == 5 then [8, 9] else [10, 11, 12]
def callsL : List ByteArray := [(ByteArray.mk #[99, 111, 110, 110, 101, 99, 116, 101, 100]), (ByteArray.mk #[98, 108, 111, 99, 107]), (ByteArray.mk #[98, 111, 116, 116, 108, 101, 110, 101, 99, 107]), (ByteArray.mk #[115, 105, 122, 101]), (ByteArray.mk #[116, 111, 116, 97, 108]), (ByteArray.mk #[108, 101, 97, 115, 116]), (ByteArray.mk #[109, 111, 115, 116]), (ByteArray.mk #[118, 97, 108, 117, 101]), (ByteArray.mk #[100, 101, 103, 114, 101, 101]), (ByteArray.mk #[114, 101, 112])]
def quantsL : List ByteArray := [(ByteArray.mk #[97, 108, 108]), (ByteArray.mk #[115, 111, 109, 101]), (ByteArray.mk #[99, 111, 117, 110, 116]), (ByteArray.mk #[115, 117, 109]), (ByteArray.mk #[109, 105, 110]), (ByteArray.mk #[109, 97, 120])]
def truthL : List ByteArray := [(ByteArray.mk #[102, 97, 108, 115, 101]), (ByteArray.mk #[116, 114, 117, 101])]
def whichL : List ByteArray := [(ByteArray.mk #[64]), (ByteArray.mk #[40]), (ByteArray.mk #[105, 102])]
def setsL : List ByteArray := [(ByteArray.mk #[118, 101, 114, 116, 105, 99, 101, 115]), (ByteArray.mk #[97, 114, 111, 117, 110, 100]), (ByteArray.mk #[123])]
def ex0 : Ex := .mk 0 0 (ByteArray.mk #[]) [] 0
inductive Cl where
  | row (r : Int)
  | loop (r k : Int) (a : Ex)
  | not
  | unary
  | atom
  | choice (t : Int)
  | call (i t : Int)
  | quant (i t : Int)
  | set
  | list (t : Int)
  | more (t : Int) (en : Bool) (acc : List Ex)
def rd (ts : List Tok) : Nat → Cl → RS → Option (Ex × RS)
  | 0, _, _ => none
  | f + 1, .row r, st =>
    if st.e != 0 then some (ex0, st) else if r == 3 then rd ts f .not st else if r == 7 then rd ts f .unary st
    else (rd ts f (.row (w64 (r + 1))) st).bind fun p => rd ts f (.loop r (amongF ts p.2 (signsL r)) p.1) p.2
  | f + 1, .loop r k a, st =>
    if decide (k ≥ 0) && st.e == 0 then
      (rd ts f (.row (w64 (r + 1))) st.next).bind fun p =>
        if r == 4 then some (.mk ((kindsL r).getD k.toNat 0) 0 (ByteArray.mk #[]) [a, p.1] (tokAt ts st.at_).at_, p.2)
        else rd ts f (.loop r (amongF ts p.2 (signsL r)) (.mk ((kindsL r).getD k.toNat 0) 0 (ByteArray.mk #[]) [a, p.1] (tokAt ts st.at_).at_)) p.2
    else some (a, st)
  | f + 1, .not, st =>
    if !isF ts st (ByteArray.mk #[110, 111, 116]) then rd ts f (.row 4) st
    else (rd ts f (.row 3) (opensF ts st)).map fun p => (.mk 7 0 (ByteArray.mk #[]) [p.1] (tokAt ts st.at_).at_, p.2.shut)
  | f + 1, .unary, st =>
    if !isF ts st (ByteArray.mk #[45]) then rd ts f .atom st
    else (rd ts f (.row 7) (opensF ts st)).map fun p => (.mk 6 0 (ByteArray.mk #[]) [p.1] (tokAt ts st.at_).at_, p.2.shut)
  | f + 1, .atom, st =>
    if st.e != 0 then some (ex0, st)
    else if (tokAt ts st.at_).kind == 1 then some (.mk 1 (tokAt ts st.at_).n (ByteArray.mk #[]) [] (tokAt ts st.at_).at_, st.next)
    else if (tokAt ts st.at_).kind == 2 then some (.mk 4 0 (tokAt ts st.at_).text [] (tokAt ts st.at_).at_, st.next)
    else if decide (amongF ts st truthL ≥ 0) then some (.mk 2 (amongF ts st truthL) (ByteArray.mk #[]) [] (tokAt ts st.at_).at_, st.next)
    else if amongF ts st whichL == 0 then
      if (tokAt ts (st.at_ + 1)).kind != 1 then some (ex0, failsF ts st.next 120) else some (.mk 3 (tokAt ts (st.at_ + 1)).n (ByteArray.mk #[]) [] (tokAt ts st.at_).at_, st.next.next)
    else if amongF ts st whichL == 1 then (rd ts f (.row 1) (bracketF ts st (ByteArray.mk #[40]))).map fun p => (p.1, closesF ts p.2 (ByteArray.mk #[41]))
    else if amongF ts st whichL == 2 then rd ts f (.choice (tokAt ts st.at_).at_) st
    else if decide (amongF ts st callsL ≥ 0) then rd ts f (.call (amongF ts st callsL) (tokAt ts st.at_).at_) st
    else if decide (amongF ts st quantsL ≥ 0) then rd ts f (.quant (amongF ts st quantsL) (tokAt ts st.at_).at_) st
    else some (ex0, failsF ts st 120)
  | f + 1, .choice t, st =>
    (rd ts f (.row 1) (opensF ts st)).bind fun a => (rd ts f (.row 1) (takesF ts a.2 (ByteArray.mk #[116, 104, 101, 110]))).bind fun b => (rd ts f (.row 1) (takesF ts b.2 (ByteArray.mk #[101, 108, 115, 101]))).map fun c =>
      (.mk 19 0 (ByteArray.mk #[]) [a.1, b.1, c.1] t, c.2.shut)
  | f + 1, .call i t, st =>
    (rd ts f (.row 1) (bracketF ts st.next (ByteArray.mk #[40]))).bind fun a =>
      if decide (i < 3) then (rd ts f (.row 1) (takesF ts a.2 (ByteArray.mk #[44]))).map fun b => (.mk 20 (w64 (i + 1)) (ByteArray.mk #[]) [a.1, b.1] t, closesF ts b.2 (ByteArray.mk #[41]))
      else some (.mk 20 (w64 (i + 1)) (ByteArray.mk #[]) [a.1] t, closesF ts a.2 (ByteArray.mk #[41]))
  | f + 1, .quant i t, st =>
    if st.open_ == 64 then some (ex0, failsF ts st 121) else if st.quants == 4 then some (ex0, failsF ts st 121)
    else if (tokAt ts (opensF ts { st with quants := w64 (st.quants + 1) }).at_).kind != 2 then some (ex0, failsF ts (opensF ts { st with quants := w64 (st.quants + 1) }) 120)
    else (rd ts f .set (takesF ts (opensF ts { st with quants := w64 (st.quants + 1) }).next (ByteArray.mk #[105, 110]))).bind fun s => (rd ts f (.row 1) (takesF ts s.2 (ByteArray.mk #[58]))).map fun b =>
      (.mk 21 (w64 (i + 1)) (tokAt ts (opensF ts { st with quants := w64 (st.quants + 1) }).at_).text [s.1, b.1] t, { b.2.shut with quants := w64 (b.2.quants - 1) })
  | f + 1, .set, st =>
    if st.e != 0 then some (ex0, st)
    else if amongF ts st setsL == 0 then some (.mk 22 0 (ByteArray.mk #[]) [] (tokAt ts st.at_).at_, st.next)
    else if amongF ts st setsL == 1 then (rd ts f (.row 1) (bracketF ts st.next (ByteArray.mk #[40]))).map fun a => (.mk 24 0 (ByteArray.mk #[]) [a.1] (tokAt ts st.at_).at_, closesF ts a.2 (ByteArray.mk #[41]))
    else if amongF ts st setsL == 2 then rd ts f (.list (tokAt ts st.at_).at_) st
    else if (tokAt ts st.at_).kind == 2 then some (.mk 23 0 (tokAt ts st.at_).text [] (tokAt ts st.at_).at_, st.next)
    else some (ex0, failsF ts st 120)
  | f + 1, .list t, st => rd ts f (.more t (isF ts (bracketF ts st (ByteArray.mk #[123])) (ByteArray.mk #[125])) []) (bracketF ts st (ByteArray.mk #[123]))
  | f + 1, .more t en acc, st =>
    if !en && st.e == 0 then
      (rd ts f (.row 1) st).bind fun p => rd ts f (.more t (isF ts p.2 (ByteArray.mk #[125])) (acc ++ [p.1])) (if isF ts p.2 (ByteArray.mk #[125]) then p.2 else takesF ts p.2 (ByteArray.mk #[44]))
    else some (.mk 25 0 (ByteArray.mk #[]) acc t, closesF ts st (ByteArray.mk #[125]))
def parseL (ts : List Tok) (f : Nat) : Option (Ex × Int × Int) :=
  (rd ts f (.row 1) ⟨0, 0, 0, 0, 0⟩).map fun p =>
    let s := if p.2.e == 0 then if (tokAt ts p.2.at_).kind != 0 then failsF ts p.2 120 else p.2 else p.2
    if s.e != 0 then (ex0, s.e, s.place) else (p.1, 0, 0)
def parseF (s : ByteArray) (f : Nat) : Option (Ex × Int × Int) := if (scanF s).2.1 != 0 then some (ex0, (scanF s).2.1, (scanF s).2.2) else parseL (scanF s).1 f
end
section
open Go
def NB (b : Nat) : Nat → Prop := fun x => x < b
def OB (b : Nat) : Nat → Prop := fun x => x = b
structure RdW (w : World) (b : Nat) (ts : List Tok) (A : Option Addr) (c : Nat) (st : RS) : Prop where
  hh : w.heap[b]? = some (.cells #[.slice A ts.length c, .int .i64 st.at_, .int .i64 st.open_, .int .i64 st.quants, .int .i64 st.e, .int .i64 st.place] 62 (0, 0))
  ht : RowIn w (NB b) 4 A ts.length c (ts.map tokE)
  lt : st.at_ < ts.length
def Ended (ts : List Tok) : Prop := (tokAt ts (ts.length - 1)).kind = 0
theorem next_lt {ts : List Tok} (h : Ended ts) {i : Nat} (hi : i < ts.length) (hk : (tokAt ts i).kind ≠ 0) : i + 1 < ts.length := by
  by_cases e : i = ts.length - 1
  · rw [e] at hk; exact absurd h hk
  · omega
section
variable {w w' : World} {b : Nat} {ts : List Tok} {A : Option Addr} {c : Nat} {st st' : RS}
theorem RdW.blt (q : RdW w b ts A c st) : b < w.heap.size := lt_of_get q.hh
theorem RdW.sm (q : RdW w b ts A c st) : ts.length < 2 ^ 48 := q.ht.lt
theorem RdW.ext (q : RdW w b ts A c st) (k : Ext w w') : RdW w' b ts A c st :=
  ⟨by rw [k.keep b q.blt (fun h => h)]; exact q.hh, q.ht.upd' k (fun _ _ _ h => h), q.lt⟩
theorem RdW.putS {S : Nat → Prop} (q : RdW w b ts A c st) (k : Upd w w' S) (hS : ∀ x, S x → b ≤ x) (hh : w'.heap[b]? = some (.cells #[.slice A ts.length c, .int .i64 st'.at_, .int .i64 st'.open_, .int .i64 st'.quants, .int .i64 st'.e, .int .i64 st'.place] 62 (0, 0)))
    (hl : st'.at_ < ts.length) : RdW w' b ts A c st' :=
  ⟨hh, q.ht.upd' k (fun x hx hlt hs => by have := hS x hs; have hx : x < b := hx; omega), hl⟩
theorem RdW.put (q : RdW w b ts A c st) (k : Upd w w' (setOf [b])) (hh : w'.heap[b]? = some (.cells #[.slice A ts.length c, .int .i64 st'.at_, .int .i64 st'.open_, .int .i64 st'.quants, .int .i64 st'.e, .int .i64 st'.place] 62 (0, 0)))
    (hl : st'.at_ < ts.length) : RdW w' b ts A c st' := q.putS k (fun x hx => by simp only [setOf, no, or_false] at hx; omega) hh hl
theorem RdW.same (q : RdW w b ts A c st) (k : Ext w w') (hh : w'.heap[b]? = some (.cells #[.slice A ts.length c, .int .i64 st'.at_, .int .i64 st'.open_, .int .i64 st'.quants, .int .i64 st'.e, .int .i64 st'.place] 62 (0, 0)))
    (hl : st'.at_ < ts.length) : RdW w' b ts A c st' := ⟨hh, (q.ext k).ht, hl⟩
theorem RdW.idx (q : RdW w b ts A c st) {i : Nat} (hi : i < ts.length) {K : Addr → Prop} (k : ∀ ad, A = some ad → K ad) : ((0 : Int) ≤ (i : Int) ∧ (i : Int) < (ts.length : Int)) ∧ ∃ ad, A = some ad ∧ K ad := by
  obtain ⟨ad, r, e, _⟩ := q.ht.get (i : Int) (by omega) (by omega)
  exact ⟨by omega, ad, e, k ad e⟩
theorem tok_get {F : Nat → Prop} (ht : RowIn w F 4 A ts.length c (ts.map tokE)) {ad : Addr} (ha : A = some ad) {i : Nat} (hi : i < ts.length) : CellsIn w (ad.add (Int.toNat (i : Int) * 4)) (tokE (tokAt ts i)) := by
  obtain ⟨ad', r, e, hr, _, hc⟩ := ht.get (i : Int) (by omega) (by omega)
  rw [ha] at e; cases e
  have hn : Int.toNat (i : Int) = i := by omega
  rw [hn, List.getElem?_map, List.getElem?_eq_getElem hi] at hr
  cases hr
  have : tokAt ts i = ts[i] := by rw [tokAt, List.getD_eq_getElem?_getD, List.getElem?_eq_getElem hi]; rfl
  rw [this]; exact hc
theorem tok_cell {F : Nat → Prop} (ht : RowIn w F 4 A ts.length c (ts.map tokE)) {ad : Addr} (ha : A = some ad) {i : Nat} (hi : i < ts.length) {K : Int → Int → ByteArray → Int → Prop}
    (k : K (tokAt ts i).kind (tokAt ts i).n (tokAt ts i).text (tokAt ts i).at_) : ∃ x x1, ∃ x2 x3, CellsIn w (ad.add (Int.toNat (i : Int) * 4)) [.int .i64 x, .int .i64 x1, .string x2, .int .i64 x3] ∧ K x x1 x2 x3 :=
  ⟨_, _, _, _, tok_get ht ha hi, k⟩
theorem cells_at {p : Addr} {cs : List Value} (h : CellsIn w p cs) {j : Nat} {u : Value} (hu : cs[j]? = some u) : CellsIn w (p.add j) [u] := by
  refine ⟨fun i v hi => ?_⟩
  cases i with
  | zero =>
    simp at hi; subst hi
    have := h.out j u hu
    rw [add_zero_addr]; exact this
  | succ i => simp at hi
theorem tok_at {F : Nat → Prop} (ht : RowIn w F 4 A ts.length c (ts.map tokE)) {ad : Addr} (ha : A = some ad) {i : Nat} (hi : i < ts.length) {K : Int → Prop} (k : K (tokAt ts i).at_) : ∃ x, CellsIn w ((ad.add (Int.toNat (i : Int) * 4)).add 3) [.int .i64 x] ∧ K x :=
  ⟨_, cells_at (tok_get ht ha hi) rfl, k⟩
theorem tok_kind {F : Nat → Prop} (ht : RowIn w F 4 A ts.length c (ts.map tokE)) {ad : Addr} (ha : A = some ad) {i : Nat} (hi : i < ts.length) {K : Int → Prop} (k : K (tokAt ts i).kind) : ∃ x, CellsIn w ((ad.add (Int.toNat (i : Int) * 4)).add 0) [.int .i64 x] ∧ K x :=
  ⟨_, cells_at (tok_get ht ha hi) rfl, k⟩
end
theorem tree_keep {w w' : World} {lo hi : Nat} {kids : List Ex} {A : Option Addr} {l c : Nat} {S : Nat → Prop} (q : ExsR w (Rng lo hi) kids A l c) (k : Upd w w' S) (hS : ∀ x, S x → x < lo ∨ hi ≤ x) : ExsR w' (Rng lo hi) kids A l c :=
  q.upd' k fun x hx _ hs => by have := hS x hs; have := hx.1; have := hx.2; omega
theorem rng_mono {w : World} {lo hi lo' hi' : Nat} {kids : List Ex} {A : Option Addr} {l c : Nat} (q : ExsR w (Rng lo hi) kids A l c) (h1 : lo' ≤ lo) (h2 : hi ≤ hi') : ExsR w (Rng lo' hi') kids A l c :=
  q.mono fun x hx => ⟨by have := hx.1; omega, by have := hx.2; omega⟩
def RdU (b : Nat) (ts : List Tok) (A : Option Addr) (c : Nat) (w : World) (s : RS) : Value → World → Prop := fun v w' => v = .tuple #[] ∧ RdW w' b ts A c s ∧ Upd w w' (OB b)
def RdB (b : Nat) (ts : List Tok) (A : Option Addr) (c : Nat) (w : World) (x : Bool) (s : RS) : Value → World → Prop := fun v w' => v = .bool x ∧ RdW w' b ts A c s ∧ Ext w w'
def RdI (b : Nat) (ts : List Tok) (A : Option Addr) (c : Nat) (w : World) (x : Int) (s : RS) : Value → World → Prop := fun v w' => v = .int .i64 x ∧ RdW w' b ts A c s ∧ Ext w w'
def RdX (b : Nat) (ts : List Tok) (A : Option Addr) (c : Nat) (w : World) (r : Ex × RS) : Value → World → Prop :=
  fun v w' => ∃ A1 l1 c1, v = exA r.1 A1 l1 c1 ∧ ExsR w' (Rng w.heap.size w'.heap.size) r.1.kids A1 l1 c1 ∧ RdW w' b ts A c r.2 ∧ Upd w w' (OB b)
theorem ext_ob {w w' : World} {b : Nat} (k : Ext w w') : Upd w w' (OB b) := k.trans''
theorem upd_ob {w w' : World} {b : Nat} (k : Upd w w' (setOf [b])) : Upd w w' (OB b) := Upd.mono k fun x hx => by simp only [setOf, no, or_false] at hx; exact hx
theorem Upd.tb {w w1 w2 : World} {b : Nat} (k : Upd w w1 (OB b)) (k2 : Upd w1 w2 (OB b)) : Upd w w2 (OB b) := k.trans' k2 (fun _ h => h)
theorem Upd.tf {w w1 w2 : World} {b : Nat} {S : Nat → Prop} (k : Upd w w1 (OB b)) (k2 : Upd w1 w2 S) (hS : ∀ x, S x → x = b ∨ w.heap.size ≤ x) : Upd w w2 (OB b) :=
  ⟨k2.os.trans k.os, k2.tape.trans k.tape, k2.output.trans k.output, Nat.le_trans k.size k2.size, fun x hx hn => by
    rw [k2.keep x (Nat.lt_of_lt_of_le hx k.size) (fun hs => by rcases hS x hs with h | h; exact hn h; omega), k.keep x hx hn]⟩
theorem away_ob {b top : Nat} {ids : List Nat} (h1 : b < top) (hi : ∀ i ∈ ids, top ≤ i) : Away ids (OB b) := away_of fun i hm hS => by have := hi i hm; have hS : i = b := hS; omega
theorem rdx_done {b : Nat} {ts : List Tok} {A : Option Addr} {c : Nat} {w w1 w2 : World} {S : Nat → Prop} {st s' : RS} {x : Ex} {A1 : Option Addr} {l1 c1 : Nat} (q : RdW w1 b ts A c st) (hlo : b < w.heap.size) (k : Upd w w1 (OB b)) (k2 : Upd w1 w2 S) (hS : ∀ y, S y → y = b ∨ w.heap.size ≤ y)
    (hh : w2.heap[b]? = some (.cells #[.slice A ts.length c, .int .i64 s'.at_, .int .i64 s'.open_, .int .i64 s'.quants, .int .i64 s'.e, .int .i64 s'.place] 62 (0, 0))) (hl : s'.at_ < ts.length) (hx : ExsR w2 (Rng w.heap.size w2.heap.size) x.kids A1 l1 c1) : RdX b ts A c w (x, s') (exA x A1 l1 c1) w2 :=
  ⟨A1, l1, c1, rfl, hx, q.putS k2 (fun y hy => by rcases hS y hy with h | h <;> omega) hh hl, k.tf k2 hS⟩
section
variable {P : Program} {f : Nat} {args : Array Value} {w : World} {ids : List Nat} {b : Nat} {ts : List Tok} {A : Option Addr} {c : Nat} {X : ContX}
theorem callRU {s : RS} (hc : CallsX P f args w (RdU b ts A c w s) never) (haw : Away ids (OB b)) {K : Option Addr → Nat → Nat → Int → Int → Int → Int → Int → World → Prop}
    (k : ∀ w2, RdW w2 b ts A c s → Upd w w2 (OB b) → K A ts.length c s.at_ s.open_ s.quants s.e s.place w2) :
    ∃ (R : Value → World → Prop) (X' : ContX), CallsX P f args w R X' ∧ (∀ v w2, R v w2 → ∃ y : Value, v = y ∧ ∃ S, Upd w w2 S ∧ Away ids S ∧ ∃ a1 n c1 x x1 x2 x3 x4,
      w2.heap[b]? = some (Obj.cells #[.slice a1 n c1, .int .i64 x, .int .i64 x1, .int .i64 x2, .int .i64 x3, .int .i64 x4] 62) ∧ 6 = 6 ∧ K a1 n c1 x x1 x2 x3 x4 w2) ∧ ∀ ch w2, X' ch w2 → X ch w2 :=
  ⟨_, _, hc, fun v w2 ⟨_, hw, hU⟩ => ⟨v, rfl, _, hU, haw, _, _, _, _, _, _, _, _, hw.hh, rfl, k w2 hw hU⟩, never_any⟩
theorem callRB {x : Bool} {s : RS} (hc : CallsX P f args w (RdB b ts A c w x s) never) {K : Bool → Option Addr → Nat → Nat → Int → Int → Int → Int → Int → World → Prop}
    (k : ∀ w2, RdW w2 b ts A c s → Ext w w2 → K x A ts.length c s.at_ s.open_ s.quants s.e s.place w2) :
    ∃ (R : Value → World → Prop) (X' : ContX), CallsX P f args w R X' ∧ (∀ v w2, R v w2 → ∃ y, v = .bool y ∧ ∃ S, Upd w w2 S ∧ Away ids S ∧ ∃ a1 n c1 x x1 x2 x3 x4,
      w2.heap[b]? = some (Obj.cells #[.slice a1 n c1, .int .i64 x, .int .i64 x1, .int .i64 x2, .int .i64 x3, .int .i64 x4] 62) ∧ 6 = 6 ∧ K y a1 n c1 x x1 x2 x3 x4 w2) ∧ ∀ ch w2, X' ch w2 → X ch w2 :=
  ⟨_, _, hc, fun _ w2 ⟨hv, hw, hE⟩ => ⟨x, hv, no, hE, Away.no _, _, _, _, _, _, _, _, _, hw.hh, rfl, k w2 hw hE⟩, never_any⟩
theorem callRI {x : Int} {s : RS} (hc : CallsX P f args w (RdI b ts A c w x s) never) {K : Int → Option Addr → Nat → Nat → Int → Int → Int → Int → Int → World → Prop}
    (k : ∀ w2, RdW w2 b ts A c s → Ext w w2 → K x A ts.length c s.at_ s.open_ s.quants s.e s.place w2) :
    ∃ (R : Value → World → Prop) (X' : ContX), CallsX P f args w R X' ∧ (∀ v w2, R v w2 → ∃ y, v = .int .i64 y ∧ ∃ S, Upd w w2 S ∧ Away ids S ∧ ∃ a1 n c1 x x1 x2 x3 x4,
      w2.heap[b]? = some (Obj.cells #[.slice a1 n c1, .int .i64 x, .int .i64 x1, .int .i64 x2, .int .i64 x3, .int .i64 x4] 62) ∧ 6 = 6 ∧ K y a1 n c1 x x1 x2 x3 x4 w2) ∧ ∀ ch w2, X' ch w2 → X ch w2 :=
  ⟨_, _, hc, fun _ w2 ⟨hv, hw, hE⟩ => ⟨x, hv, no, hE, Away.no _, _, _, _, _, _, _, _, _, hw.hh, rfl, k w2 hw hE⟩, never_any⟩
theorem callRX {r : Ex × RS} (hc : CallsX P f args w (RdX b ts A c w r) never) (haw : Away ids (OB b)) {K : Int → Int → ByteArray → Option Addr → Nat → Nat → Int → Option Addr → Nat → Nat → Int → Int → Int → Int → Int → World → Prop}
    (k : ∀ A1 l1 c1 w2, ExsR w2 (Rng w.heap.size w2.heap.size) r.1.kids A1 l1 c1 → RdW w2 b ts A c r.2 → Upd w w2 (OB b) → K r.1.k r.1.n r.1.s A1 l1 c1 r.1.at_ A ts.length c r.2.at_ r.2.open_ r.2.quants r.2.e r.2.place w2) :
    ∃ (R : Value → World → Prop) (X' : ContX), CallsX P f args w R X' ∧ (∀ v w2, R v w2 → ∃ y1 y2 y3 y4 y5 y6 y7, v = .agg #[.int .i64 y1, .int .i64 y2, .string y3, .slice y4 y5 y6, .int .i64 y7] ∧ ∃ S, Upd w w2 S ∧ Away ids S ∧ ∃ a1 n c1 x x1 x2 x3 x4,
      w2.heap[b]? = some (Obj.cells #[.slice a1 n c1, .int .i64 x, .int .i64 x1, .int .i64 x2, .int .i64 x3, .int .i64 x4] 62) ∧ 6 = 6 ∧ K y1 y2 y3 y4 y5 y6 y7 a1 n c1 x x1 x2 x3 x4 w2) ∧ ∀ ch w2, X' ch w2 → X ch w2 :=
  ⟨_, _, hc, fun _ w2 ⟨_, _, _, hv, hx, hw, hU⟩ => ⟨_, _, _, _, _, _, _, hv, _, hU, haw, _, _, _, _, _, _, _, _, hw.hh, rfl, k _ _ _ w2 hx hw hU⟩, never_any⟩
end
theorem append_ex {P : Program} {t sz tx : Nat} (T : SlT P t 44 5 sz) {w : World} {F : Nat → Prop} {id1 id2 ty1 ty2 : Nat} {x y : Ex} {A B : Option Addr} {l c l2 c2 : Nat} (h1 : w.heap[id1]? = some (.cells (exV x A l c).toArray ty1 (0, 0))) (h2 : w.heap[id2]? = some (.cells (exV y B l2 c2).toArray ty2 (0, 0)))
    (hx : ExsR w F x.kids A l c) (hy : ExsR w F y.kids B l2 c2) :
    RunsTo P (Builtin.append_ #[t, t] tx #[.slice (some ⟨id1, 0, none⟩) 1 1, .slice (some ⟨id2, 0, none⟩) 1 1]) w (fun v w' => ∃ A' c', v = .slice A' 2 c' ∧ ExsR w' (fun z => F z ∨ Rng w.heap.size w'.heap.size z) [x, y] A' 2 c' ∧ Ext w w') := by
  obtain ⟨ht, ⟨i, zv, hi, hz, hsz, hby, hzs⟩, hpos, hsm⟩ := T
  obtain ⟨v', w', hr, ho, hg⟩ := run_append_arg_grows (P := P) w t tx 44 i zv 5 sz ht hi hz hsz hby hzs hpos ⟨id1, 0, none⟩ 1 1 (exV x A l c) rfl (cells_new h1).out ⟨id2, 0, none⟩ 1 1 (exV y B l2 c2) rfl (cells_new h2).out (by omega) (by simp only [maxLen]; omega) (by omega)
  have hE : Ext w w' := ⟨hg.os, hg.tape, hg.output, hg.size, fun k hk _ => hg.block k hk (fun h => nomatch h)⟩
  rcases ho.2 with ⟨rfl, h0⟩ | ⟨g, cap, cur, rfl, hgb, hh, hn, hm, hcs, htk⟩
  · omega
  · have hr2 := owns_row (F := fun z => F z ∨ Rng w.heap.size w'.heap.size z) (rows := [exV x A l c, exV y B l2 c2]) (z := 5) (l := 2) ho (by simp [exV]) rfl (by omega) (fun b hb => by cases hb; exact .inr ⟨hgb, lt_of_get hh⟩)
    refine ⟨_, w', hr, _, _, rfl, ⟨_, fun _ z => F z ∨ Rng w.heap.size w'.heap.size z, hr2, rfl, fun j z hz => ?_, fun _ _ _ h => h⟩, hE⟩
    match j with
    | 0 => simp at hz; subst hz; exact ((hx.ext hE).mono fun _ h => .inl h).node
    | 1 => simp at hz; subst hz; exact ((hy.ext hE).mono fun _ h => .inl h).node
    | j + 2 => simp at hz
end
end Go.Vx
namespace Go.Vx.Tryz
open Go Go.Vx Go.Proofs
variable {b : Nat} {ts : List Tok} {A : Option Addr} {c : Nat}
theorem is_c {w : World} {st : RS} (s : ByteArray) (hw : RdW w b ts A c st) : CallsX E.P 68 #[.pointer (some ⟨b, 0, none⟩), .string s] w (RdB b ts A c w (isF ts st s) st) never := by
  refine vc88 hw.hh (hw.idx hw.lt fun ad ha w1 hE1 => tok_cell (hw.ext hE1).ht ha hw.lt ?_)
  intro id hid
  have fin : ∀ {w2 : World}, Ext w1 w2 → RdW w2 b ts A c st ∧ Ext w w2 := fun hE2 => ⟨(hw.ext hE1).ext hE2, Ext.trans hE1 hE2⟩
  refine ⟨fun e0 => ⟨fun e3 w2 hE2 _ _ => ⟨?_, fin hE2⟩, fun e3 => ⟨fun e4 w2 hE2 _ _ => ⟨?_, fin hE2⟩, fun e4 w2 hE2 _ _ => ⟨?_, fin hE2⟩⟩⟩, fun e0 w2 hE2 _ _ => ⟨?_, fin hE2⟩⟩
  · simp only [isF, e0, e3, Bool.true_or, Bool.true_and]
  · simp only [isF, e0, e3, e4, Bool.false_or, Bool.true_and]
  · simp only [isF, e0, e3, e4, Bool.false_or, Bool.false_and, Bool.and_false]
  · simp only [isF, e0, Bool.false_and]
theorem fails_c {w : World} {st : RS} (e : Int) (hw : RdW w b ts A c st) : CallsX E.P 29 #[.pointer (some ⟨b, 0, none⟩), .int .i64 e] w (RdU b ts A c w (failsF ts st e)) never := by
  refine vc39 hw.hh ⟨fun e0 => hw.idx hw.lt fun ad ha w1 hU1 => tok_at (w := w1) (hw.ht.upd' hU1 fun x hx _ hS => by simp only [setOf, no, or_false] at hS; have hx : x < b := hx; omega) ha hw.lt fun w2 hU2 hh2 => ?_, fun e0 hh => ?_⟩
  · have hU := (upd_ob hU1).tb (upd_ob hU2)
    have hf : failsF ts st e = { st with e := e, place := (tokAt ts st.at_).at_ } := by rw [failsF, if_pos e0]
    rw [hf]
    exact ⟨rfl, hw.putS hU (fun x hx => by have hx : x = b := hx; omega) hh2 hw.lt, hU⟩
  · have hf : failsF ts st e = st := by rw [failsF, if_neg (by rw [e0]; exact Bool.false_ne_true)]
    rw [hf]
    exact ⟨rfl, hw, Upd.refl _ _⟩
theorem isF_kind {st : RS} {s : ByteArray} (h : isF ts st s = true) : (tokAt ts st.at_).kind ≠ 0 := by
  simp only [isF, Bool.and_eq_true, Bool.or_eq_true, beq_iff_eq] at h
  omega
theorem takes_c {w : World} {st : RS} (hE : Ended ts) (s : ByteArray) (hw : RdW w b ts A c st) : CallsX E.P 108 #[.pointer (some ⟨b, 0, none⟩), .string s] w (RdU b ts A c w (takesF ts st s)) never := by
  refine vc138 hw.hh fun hh => callRB (is_c s hw) fun w2 hw2 hE2 => ⟨fun hx hh2 => ?_, fun hx w3 hU3 hh3 => ?_⟩
  · have hx' : isF ts st s = false := by simpa using hx
    refine callRU (fails_c 120 hw2) (away_ob hw2.blt (by simp)) fun w3 hw3 hU3 hh3 => ?_
    rw [takesF, hx']
    exact ⟨rfl, hw3, (ext_ob hE2).tb hU3⟩
  · have hx' : isF ts st s = true := by simpa using hx
    have hl := next_lt hE hw.lt (isF_kind hx')
    have hsm := hw.sm
    rw [w64_succ (by omega)] at hh3
    rw [takesF, if_pos hx']
    exact ⟨rfl, hw2.put (st' := st.next) hU3 hh3 hl, (ext_ob hE2).tb (upd_ob hU3)⟩
theorem opens_c {w : World} {st : RS} (hE : Ended ts) (hk : (tokAt ts st.at_).kind ≠ 0 ∨ st.open_ = 64) (hw : RdW w b ts A c st) : CallsX E.P 69 #[.pointer (some ⟨b, 0, none⟩)] w (RdU b ts A c w (opensF ts st)) never := by
  refine vc89 hw.hh ⟨fun h1 hh => ?_, fun h1 w1 hU1 hh1 => ?_⟩
  · refine callRU (fails_c 121 hw) (away_ob hw.blt (by simp)) fun w3 hw3 hU3 hh3 => ?_
    rw [opensF, if_pos h1]
    exact ⟨rfl, hw3, hU3⟩
  · have hl := next_lt hE hw.lt (by rcases hk with hk | hk; exact hk; rw [hk] at h1; cases h1)
    have hsm := hw.sm
    rw [w64_succ (by omega)] at hh1
    rw [opensF, if_neg (by rw [h1]; exact Bool.false_ne_true)]
    exact ⟨rfl, hw.put (st' := { st with open_ := w64 (st.open_ + 1), at_ := st.at_ + 1 }) hU1 hh1 hl, upd_ob hU1⟩
theorem bracket_c {w : World} {st : RS} (hE : Ended ts) (s : ByteArray) (hw : RdW w b ts A c st) : CallsX E.P 86 #[.pointer (some ⟨b, 0, none⟩), .string s] w (RdU b ts A c w (bracketF ts st s)) never := by
  refine vc115 hw.hh fun hh => callRB (is_c s hw) fun w2 hw2 hE2 => ⟨fun hx hh2 => ?_, fun hx hh2 => ?_⟩
  · have hx' : isF ts st s = false := by simpa using hx
    refine callRU (fails_c 120 hw2) (away_ob hw2.blt (by simp)) fun w3 hw3 hU3 hh3 => ?_
    rw [bracketF, hx']
    exact ⟨rfl, hw3, (ext_ob hE2).tb hU3⟩
  · have hx' : isF ts st s = true := by simpa using hx
    refine callRU (opens_c hE (.inl (isF_kind hx')) hw2) (away_ob hw2.blt (by simp)) fun w3 hw3 hU3 hh3 => ?_
    rw [bracketF, if_pos hx']
    exact ⟨rfl, hw3, (ext_ob hE2).tb hU3⟩
theorem closes_c {w : World} {st : RS} (hE : Ended ts) (s : ByteArray) (hw : RdW w b ts A c st) : CallsX E.P 87 #[.pointer (some ⟨b, 0, none⟩), .string s] w (RdU b ts A c w (closesF ts st s)) never := by
  refine vc116 hw.hh fun hh => callRU (takes_c hE s hw) (away_ob hw.blt (by simp)) fun w2 hw2 hU2 w3 hU3 hh3 => ?_
  exact ⟨rfl, hw2.put (st' := (takesF ts st s).shut) hU3 hh3 hw2.lt, hU2.tb (upd_ob hU3)⟩
def strE (s : ByteArray) : List Value := [.string s]
def StrsR (w : World) (F : Nat → Prop) (l : List ByteArray) (B : Option Addr) (bl bc : Nat) : Prop := RowIn w F 1 B bl bc (l.map strE)
theorem among_c {w : World} {st : RS} {F : Nat → Prop} (l : List ByteArray) {B : Option Addr} {bl bc : Nat} (hw : RdW w b ts A c st) (hl : StrsR w F l B bl bc) :
    CallsX E.P 47 #[.pointer (some ⟨b, 0, none⟩), .slice B bl bc] w (RdI b ts A c w (amongF ts st l) st) never := by
  have hlen : bl = l.length := by simpa using RowIn.len hl
  subst hlen
  have hlt := RowIn.lt hl
  refine vc58 hw.hh ⟨fun x a1 n c1 x1 x2 x3 x4 x5 w2 => ∃ j : Nat, x = j ∧ j ≤ l.length ∧ (A = a1 ∧ n = ts.length ∧ c = c1 ∧ x1 = st.at_ ∧ x2 = st.open_ ∧ x3 = st.quants ∧ x4 = st.e ∧ x5 = st.place) ∧ amongL ts st j (l.drop j) = amongF ts st l ∧ RdW w2 b ts A c st ∧ Ext w w2,
    fun x _ _ _ _ _ _ _ _ => ((l.length : Int) - x).toNat, ⟨0, rfl, Nat.zero_le _, ⟨rfl, rfl, rfl, rfl, rfl, rfl, rfl, rfl⟩, rfl, hw, Upd.refl _ _⟩, ?_⟩
  rintro _ x _ _ _ _ _ _ _ _ w2 ⟨j, rfl, hj, ⟨rfl, rfl, rfl, rfl, rfl, rfl, rfl, rfl⟩, hg, hw2, hE2⟩
  refine ⟨fun hlt2 => ?_, fun hlt2 hh2 => ?_⟩
  · have hjl : j < l.length := by simpa using hlt2
    rw [drop_cons hjl, amongL] at hg
    obtain ⟨ad, r, e, hr, _, hc⟩ := (RowIn.upd' hl hE2 (fun _ _ _ h => h)).get (j : Int) (by omega) (by omega)
    have hn : Int.toNat (j : Int) = j := by omega
    rw [hn, List.getElem?_map, List.getElem?_eq_getElem hjl] at hr
    cases hr
    refine ⟨⟨by omega, by omega⟩, ad, e, _, hc, fun hh2 => callRB (is_c _ hw2) fun w3 hw3 hE3 => ⟨fun hx hh3 => ?_, fun hx => ?_⟩⟩
    · rw [if_pos hx] at hg
      exact ⟨by rw [← hg], hw3, hE2.trans hE3⟩
    · rw [if_neg (by rw [hx]; exact Bool.false_ne_true)] at hg
      refine ⟨⟨j + 1, w64_succ (by omega), hjl, ⟨rfl, rfl, rfl, rfl, rfl, rfl, rfl, rfl⟩, hg, hw3, hE2.trans hE3⟩, ?_⟩
      dsimp only
      rw [w64_succ (by omega)]; exact mea_succ hjl
  · have hjl : ¬ j < l.length := by simpa using hlt2
    rw [List.drop_eq_nil_of_le (by omega), amongL] at hg
    exact ⟨by rw [← hg], hw2, hE2⟩
theorem amongL_lt (ts : List Tok) (st : RS) : ∀ (l : List ByteArray) (i : Nat), amongL ts st i l < i + l.length ∧ (amongL ts st i l ≥ 0 → (tokAt ts st.at_).kind ≠ 0 ∧ st.e = 0)
  | [], i => ⟨by simp [amongL]; omega, fun h => by simp [amongL] at h⟩
  | x :: l, i => by
    rw [amongL]
    split
    · rename_i h
      refine ⟨by simp; omega, fun _ => ⟨isF_kind h, ?_⟩⟩
      simp only [isF, Bool.and_eq_true, beq_iff_eq] at h
      exact h.1.1
    · have := amongL_lt ts st l (i + 1)
      exact ⟨by simp at this ⊢; omega, this.2⟩
theorem str_flat : ∀ (l : List ByteArray), (l.map strE).flatten = l.map Value.string
  | [] => rfl
  | x :: l => by rw [List.map_cons, List.flatten_cons, str_flat l]; rfl
theorem lit_strs {w : World} {F : Nat → Prop} {id ty : Nat} {l : List ByteArray} (h : w.heap[id]? = some (.cells (l.map Value.string).toArray ty (0, 0))) (hF : F id) (hl : l.length < 2 ^ 48) : StrsR w F l (some ⟨id, 0, none⟩) l.length l.length := by
  have := lit_row (w := w) (F := F) (z := 1) (rows := l.map strE) (id := id) (ty := ty) (by rw [str_flat]; exact h) (fun r hr => by obtain ⟨x, _, rfl⟩ := List.mem_map.1 hr; rfl) hF (by simpa using hl)
  rw [List.length_map] at this
  exact this
theorem lit_ints {w : World} {F : Nat → Prop} {id ty : Nat} {l : List Int} (h : w.heap[id]? = some (.cells (l.map (Value.int .i64)).toArray ty (0, 0))) (hF : F id) (hl : l.length < 2 ^ 48) : IntsR w F l (some ⟨id, 0, none⟩) l.length l.length := by
  have hf : ∀ (l : List Int), (l.map fun z => [Value.int .i64 z]).flatten = l.map (Value.int .i64) := fun l => by
    induction l with
    | nil => rfl
    | cons x l ih => rw [List.map_cons, List.flatten_cons, ih]; rfl
  have := lit_row (w := w) (F := F) (z := 1) (rows := l.map fun z => [Value.int .i64 z]) (id := id) (ty := ty) (by rw [hf]; exact h) (fun r hr => by obtain ⟨x, _, rfl⟩ := List.mem_map.1 hr; rfl) hF (by simpa using hl)
  rw [List.length_map] at this
  exact this
def SgR (w : World) (r : Int) : Value → World → Prop := fun v w' => ∃ B bl bc D dl dc, v = .tuple #[.slice B bl bc, .slice D dl dc] ∧ StrsR w' (Rng w.heap.size w'.heap.size) (signsL r) B bl bc ∧ IntsR w' (Rng w.heap.size w'.heap.size) (kindsL r) D dl dc ∧ Ext w w'
theorem signs_c (r : Int) {w : World} : CallsX E.P 46 #[.int .i64 r] w (SgR w r) never := by
  have go : ∀ {id id1 : Nat} {w1 : World} (l : List ByteArray) (z : List Int), w.heap.size ≤ id → w.heap.size ≤ id1 → Ext w w1 → id < w1.heap.size → id1 < w1.heap.size → l.length < 2 ^ 48 → z.length < 2 ^ 48 → w1.heap[id]? = some (.cells (l.map Value.string).toArray 9 (0, 0)) → w1.heap[id1]? = some (.cells (z.map (Value.int .i64)).toArray 3 (0, 0)) → signsL r = l → kindsL r = z →
      SgR w r (.tuple #[.slice (some ⟨id, 0, none⟩) l.length l.length, .slice (some ⟨id1, 0, none⟩) z.length z.length]) w1 := fun l z h1 h2 hE h3 h4 hl hz h5 h6 e1 e2 =>
    ⟨_, _, _, _, _, _, rfl, by rw [e1]; exact lit_strs h5 ⟨h1, h3⟩ hl, by rw [e2]; exact lit_ints h6 ⟨h2, h4⟩ hz, hE⟩
  refine vc57 ⟨fun e id hid id1 hid1 w1 hE h1 h2 h3 h4 => go (signsL 1) (kindsL 1) hid hid1 hE h1 h2 (by decide) (by decide) h3 h4 (by rw [eq_of_beq e]) (by rw [eq_of_beq e]), fun c1 => ⟨fun e id hid id1 hid1 w1 hE h1 h2 h3 h4 => go (signsL 2) (kindsL 2) hid hid1 hE h1 h2 (by decide) (by decide) h3 h4 (by rw [eq_of_beq e]) (by rw [eq_of_beq e]),
    fun c2 => ⟨fun e id hid id1 hid1 w1 hE h1 h2 h3 h4 => go (signsL 4) (kindsL 4) hid hid1 hE h1 h2 (by decide) (by decide) h3 h4 (by rw [eq_of_beq e]) (by rw [eq_of_beq e]), fun c4 => ⟨fun e id hid id1 hid1 w1 hE h1 h2 h3 h4 => go (signsL 5) (kindsL 5) hid hid1 hE h1 h2 (by decide) (by decide) h3 h4 (by rw [eq_of_beq e]) (by rw [eq_of_beq e]),
    fun c5 id hid id1 hid1 w1 hE h1 h2 h3 h4 => go (signsL 6) (kindsL 6) hid hid1 hE h1 h2 (by decide) (by decide) h3 h4 (by unfold signsL; rw [c1, c2, c4, c5]; rfl) (by unfold kindsL; rw [c1, c2, c4, c5]; rfl)⟩⟩⟩⟩
def ExN (w : World) (F : Nat → Prop) (x : Ex) : Value → World → Prop := fun v w' => ∃ A l c, v = exA x A l c ∧ ExsR w' (fun z => F z ∨ Rng w.heap.size w'.heap.size z) x.kids A l c ∧ Ext w w'
theorem lit1 {w : World} {F : Nat → Prop} {id ty : Nat} {x : Ex} {A : Option Addr} {l c : Nat} (h : w.heap[id]? = some (.cells #[.int .i64 x.k, .int .i64 x.n, .string x.s, .slice A l c, .int .i64 x.at_] ty (0, 0))) (hF : F id) (hx : ExsR w F x.kids A l c) : ExsR w F [x] (some ⟨id, 0, none⟩) 1 1 :=
  exs_lit (kids := [x]) (As := [(A, l, c)]) rfl h hF (by simp) fun i y a hy ha => by
    match i with
    | 0 => simp at hy ha; subst hy ha; exact hx
    | i + 1 => simp at hy
theorem lit2 {w : World} {F : Nat → Prop} {id ty : Nat} {x y : Ex} {A B : Option Addr} {l c l2 c2 : Nat} (h : w.heap[id]? = some (.cells #[.int .i64 x.k, .int .i64 x.n, .string x.s, .slice A l c, .int .i64 x.at_, .int .i64 y.k, .int .i64 y.n, .string y.s, .slice B l2 c2, .int .i64 y.at_] ty (0, 0))) (hF : F id)
    (hx : ExsR w F x.kids A l c) (hy : ExsR w F y.kids B l2 c2) : ExsR w F [x, y] (some ⟨id, 0, none⟩) 2 2 :=
  exs_lit (kids := [x, y]) (As := [(A, l, c), (B, l2, c2)]) rfl h hF (by simp) fun i z a hz ha => by
    match i with
    | 0 => simp at hz ha; subst hz ha; exact hx
    | 1 => simp at hz ha; subst hz ha; exact hy
    | i + 2 => simp at hz
theorem lit3 {w : World} {F : Nat → Prop} {id ty : Nat} {x y u : Ex} {A B D : Option Addr} {l c l2 c2 l3 c3 : Nat} (h : w.heap[id]? = some (.cells #[.int .i64 x.k, .int .i64 x.n, .string x.s, .slice A l c, .int .i64 x.at_, .int .i64 y.k, .int .i64 y.n, .string y.s, .slice B l2 c2, .int .i64 y.at_, .int .i64 u.k, .int .i64 u.n, .string u.s, .slice D l3 c3, .int .i64 u.at_] ty (0, 0))) (hF : F id)
    (hx : ExsR w F x.kids A l c) (hy : ExsR w F y.kids B l2 c2) (hu : ExsR w F u.kids D l3 c3) : ExsR w F [x, y, u] (some ⟨id, 0, none⟩) 3 3 :=
  exs_lit (kids := [x, y, u]) (As := [(A, l, c), (B, l2, c2), (D, l3, c3)]) rfl h hF (by simp) fun i z a hz ha => by
    match i with
    | 0 => simp at hz ha; subst hz ha; exact hx
    | 1 => simp at hz ha; subst hz ha; exact hy
    | 2 => simp at hz ha; subst hz ha; exact hu
    | i + 3 => simp at hz
theorem two_c (k t : Int) (x y : Ex) {w : World} {F : Nat → Prop} {A B : Option Addr} {l c l2 c2 : Nat} (hx : ExsR w F x.kids A l c) (hy : ExsR w F y.kids B l2 c2) :
    CallsX E.P 48 #[.int .i64 k, .int .i64 t, exA x A l c, exA y B l2 c2] w (ExN w F (.mk k 0 (ByteArray.mk #[]) [x, y] t)) never := by
  refine vc59 ?_
  intro id hid id1 hid1 id2 hid2 id3 hid3 w1 hE h1 h2 h3 h4 hh
  refine ⟨some ⟨id3, 0, none⟩, 2, 2, rfl, ?_, hE⟩
  exact lit2 hh (.inr ⟨hid3, h4⟩) ((hx.ext hE).mono fun z hz => .inl hz) ((hy.ext hE).mono fun z hz => .inl hz)
theorem calls_c {w : World} : CallsX E.P 84 #[] w (fun v w' => ∃ B bl bc, v = .slice B bl bc ∧ StrsR w' (Rng w.heap.size w'.heap.size) callsL B bl bc ∧ Ext w w') never := by
  refine vc113 ?_
  intro id hid w1 hE h1 hh
  exact ⟨_, _, _, rfl, lit_strs (l := callsL) hh ⟨hid, h1⟩ (by decide), hE⟩
theorem quants_c {w : World} : CallsX E.P 85 #[] w (fun v w' => ∃ B bl bc, v = .slice B bl bc ∧ StrsR w' (Rng w.heap.size w'.heap.size) quantsL B bl bc ∧ Ext w w') never := by
  refine vc114 ?_
  intro id hid w1 hE h1 hh
  exact ⟨_, _, _, rfl, lit_strs (l := quantsL) hh ⟨hid, h1⟩ (by decide), hE⟩
end Go.Vx.Tryz
namespace Go.Vx
open Go
section
def Sim : Option (Int × WS) → Int × WS → Prop
  | some p, r => r = p ∧ p.2.ok = true
  | none, r => r.2.ok = false
def SimS : Option WS → WS → Prop
  | some p, r => r = p ∧ p.ok = true
  | none, r => r.ok = false
theorem mustW_bad {r : Int × WS} {k : Int} (h : r.2.ok = false) : (mustW r k).ok = false := by
  unfold mustW; split
  · rfl
  · exact h
theorem kindW_bad (cells : List Int) : ∀ (f : Nat) (a q : Int) (st : WS) (n : Nd), st.ok = false → (kindW cells f a q st n).2.ok = false
  | 0, _, _, _, _, h => h
  | f + 1, a, q, st, .mk k v s l, h => by rw [kindW, h]; rfl
theorem allW_bad {kf : WS → Nd → Int × WS} (hb : ∀ st n, st.ok = false → (kf st n).2.ok = false) (k : Int) : ∀ (l : List Nd) (st : WS), st.ok = false → (allW kf k st l).ok = false
  | [], _, h => h
  | x :: l, st, h => allW_bad hb k l _ (mustW_bad (hb st x h))
theorem setL_bad {kf : WS → Nd → Int × WS} : ∀ (l : List Nd) (st : WS), st.ok = false → (setL kf st l).ok = false
  | [], _, h => h
  | x :: l, st, h => by rw [setL, h]; exact h
theorem Sim.of {o : Option (Int × WS)} {r : Int × WS} (h : Sim o r) (k : Int) : SimS (ofL o k) (mustW r k) := by
  cases o with
  | none => exact mustW_bad h
  | some p =>
    obtain ⟨rfl, h⟩ := h
    obtain ⟨j, s⟩ := r
    by_cases e : j = k
    · subst e; simp only [ofL, mustW, BEq.rfl, bne_self_eq_false, if_true, Bool.false_eq_true, if_false]; exact ⟨rfl, h⟩
    · have e2 : (j == k) = false := by simpa using e
      have e3 : (j != k) = true := by simpa using e
      simp only [ofL, mustW, e2, e3, if_true, Bool.false_eq_true, if_false]; rfl
theorem look_all {kf : WS → Nd → Option (Int × WS)} {kw : WS → Nd → Int × WS} (hb : ∀ st n, st.ok = false → (kw st n).2.ok = false) (k : Int) : ∀ (l : List Nd) (st : WS), (∀ x ∈ l, ∀ st, st.ok = true → Sim (kf st x) (kw st x)) → st.ok = true → SimS (lookAll kf k st l) (allW kw k st l)
  | [], st, _, h => ⟨rfl, h⟩
  | x :: l, st, hs, h => by
    have h1 := (hs x (by simp) st h).of k
    rw [lookAll, allW]
    cases e : ofL (kf st x) k with
    | none => rw [e] at h1; exact allW_bad hb k l _ h1
    | some s1 =>
      rw [e] at h1; obtain ⟨h1, h2⟩ := h1
      rw [h1]
      exact look_all hb k l s1 (fun y hy => hs y (by simp [hy])) h2
theorem look_set {kf : WS → Nd → Option (Int × WS)} {kw : WS → Nd → Int × WS} : ∀ (l : List Nd) (st : WS), (∀ x ∈ l, ∀ st, st.ok = true → Sim (kf st x) (kw st x)) → st.ok = true → SimS (lookAll kf 3 st l) (setL kw st l)
  | [], st, _, h => ⟨rfl, h⟩
  | x :: l, st, hs, h => by
    have h1 := (hs x (by simp) st h).of 3
    rw [lookAll, setL, if_pos h]
    cases e : ofL (kf st x) 3 with
    | none => rw [e] at h1; exact setL_bad l _ h1
    | some s1 =>
      rw [e] at h1; obtain ⟨h1, h2⟩ := h1
      rw [h1]
      exact look_set l s1 (fun y hy => hs y (by simp [hy])) h2
theorem set_sim {kf : WS → Nd → Option (Int × WS)} {kw : WS → Nd → Int × WS} (n : Nd) (st : WS) (hs : ∀ x ∈ n.kids, ∀ st, st.ok = true → Sim (kf st x) (kw st x)) (h : st.ok = true) : SimS (setLk kf st n) (setW kw st n) := by
  obtain ⟨k, v, s, l⟩ := n
  rw [setLk, setW]
  have hl : st.inc.ok = true := h
  have hall := look_set l st.inc hs hl
  by_cases hp : w64 (st.parts + 1) ≤ 4096
  · have hp2 : ¬ (w64 (st.parts + 1) > 4096) := by omega
    simp only [hp, hp2, decide_true, decide_false, Bool.true_and, Bool.false_eq_true, if_false]
    by_cases hv : (v == 0) = true
    · simp only [hv, Bool.not_true, Bool.false_eq_true, if_false]
      by_cases h23 : k = 23
      · subst h23
        simp only [BEq.rfl, if_true, formB, hv, Bool.true_and, show decide ((23 : Int) < 22) = false from rfl, show decide ((23 : Int) > 25) = false from rfl, Bool.false_eq_true, if_false,
          show ((23 : Int) == 1) = false from rfl, show ((23 : Int) == 2) = false from rfl, show ((23 : Int) == 3) = false from rfl, show ((23 : Int) == 5) = false from rfl, show ((23 : Int) == 6) = false from rfl, show ((23 : Int) == 7) = false from rfl, show ((23 : Int) == 24) = false from rfl, show ((23 : Int) == 8) = false from rfl, show ((23 : Int) == 9) = false from rfl, show ((23 : Int) == 10) = false from rfl, show ((23 : Int) == 11) = false from rfl, show ((23 : Int) == 12) = false from rfl, show ((23 : Int) == 13) = false from rfl, show ((23 : Int) == 14) = false from rfl, show ((23 : Int) == 15) = false from rfl, show ((23 : Int) == 16) = false from rfl, show ((23 : Int) == 17) = false from rfl, show ((23 : Int) == 18) = false from rfl, show ((23 : Int) == 19) = false from rfl, show ((23 : Int) == 20) = false from rfl, show ((23 : Int) == 21) = false from rfl, show ((23 : Int) == 22) = false from rfl, Bool.or_self]
        cases hn : isNameB s
        · simp only [Bool.false_and, Bool.and_false, Bool.false_eq_true, if_false, Bool.not_false, if_true]; rfl
        · simp only [Bool.true_and, Bool.and_true]
          cases hz : ((l.length : Int) == 0)
          · simp only [Bool.false_eq_true, if_false, Bool.not_false, if_true]; rfl
          · simp only [Bool.not_true, Bool.false_eq_true, if_false, if_true]
            have : l = [] := List.length_eq_zero_iff.1 (by simpa using hz)
            subst this
            exact ⟨rfl, hl⟩
      · have e23 : (k == 23) = false := by simpa using h23
        have key : formB k v s l.length = true ∨ formB k v s l.length = false := by cases formB k v s l.length <;> simp
        have main : ∀ t : Bool, formB k v s l.length = (t && strEq s (ByteArray.mk #[])) → SimS (if (t && strEq s (ByteArray.mk #[])) = true then lookAll kf 3 st.inc l else none) (if (!formB k v s l.length) = true then st.inc.bad else setL kw st.inc l) := fun t ht => by
          rw [ht]
          cases t && strEq s (ByteArray.mk #[])
          · rfl
          · exact hall
        simp only [e23, Bool.false_eq_true, if_false]
        by_cases h22 : k = 22
        · subst h22; simp only [BEq.rfl, if_true, decide_eq_true_eq, show ¬ ((22 : Int) < 22) by omega, show ¬ ((22 : Int) > 25) by omega, if_false]
          exact main _ (by simp [formB, hv, Bool.and_comm])
        · have e22 : (k == 22) = false := by simpa using h22
          simp only [e22, Bool.false_eq_true, if_false]
          by_cases h24 : k = 24
          · subst h24; simp only [BEq.rfl, if_true, decide_eq_true_eq, show ¬ ((24 : Int) < 22) by omega, show ¬ ((24 : Int) > 25) by omega, if_false]
            exact main _ (by simp [formB, hv, Bool.and_comm])
          · have e24 : (k == 24) = false := by simpa using h24
            simp only [e24, Bool.false_eq_true, if_false]
            by_cases h25 : k = 25
            · subst h25; simp only [BEq.rfl, decide_eq_true_eq, show ¬ ((25 : Int) < 22) by omega, show ¬ ((25 : Int) > 25) by omega, if_false]
              exact main true (by simp [formB, hv])
            · have e25 : (k == 25) = false := by simpa using h25
              simp only [e25, Bool.false_and, Bool.false_eq_true, if_false]
              by_cases hlt : k < 22
              · simp only [hlt, decide_true, if_true]; rfl
              · have : k > 25 := by omega
                simp only [hlt, this, decide_true, decide_false, Bool.false_eq_true, if_false, if_true]; rfl
    · have hv : (v == 0) = false := by simpa using hv
      simp only [hv, Bool.not_false, if_true]
      show WS.ok _ = false
      split
      · rfl
      · split
        · rfl
        · rename_i h1 h2
          simp only [decide_eq_true_eq, Int.not_lt] at h1 h2
          have : formB k v s l.length = false := by
            have : k = 22 ∨ k = 23 ∨ k = 24 ∨ k = 25 := by omega
            rcases this with rfl | rfl | rfl | rfl <;> simp [formB, hv]
          rw [this]; rfl
  · have hp2 : w64 (st.parts + 1) > 4096 := by omega
    simp only [hp, hp2, decide_true, decide_false, Bool.false_and, Bool.not_false, if_true]; rfl
mutual
theorem rounds_same : ∀ (x y : Nd), sameNd x y = true → roundsN x = roundsN y
  | .mk k v s l, .mk k2 v2 s2 l2, h => by
    rw [sameNd] at h
    split at h
    · cases h
    · rename_i hk
      have hk : k = k2 := by simpa using hk
      subst hk
      split at h
      · cases h
      · split at h
        · cases h
        · split at h
          · cases h
          · rename_i hl
            have hl2 : (l.length : Int) = l2.length := by simpa using hl
            rw [roundsN, roundsN, rounds_sames l l2 (by omega) h]
theorem rounds_sames : ∀ (l l2 : List Nd), l.length = l2.length → sameNds l l2 = true → roundsL l = roundsL l2
  | [], [], _, _ => rfl
  | [], _ :: _, h, _ => by simp at h
  | _ :: _, [], h, _ => by simp at h
  | x :: l, y :: l2, hl, h => by
    rw [sameNds] at h
    split at h
    · cases h
    · rename_i hx
      rw [roundsL, roundsL, rounds_same x y (by simpa using hx), rounds_sames l l2 (by simpa using hl) h]
end
theorem fit_law (A d d2 : Bool) (t a : Int) (out bad : Int × WS) (hd : A = true → d2 = d) (ho : out.2.ok = true) (hb : bad.2.ok = false) :
    Sim (if (A && (t == a || !d2)) = true then some out else none) (if (!A) = true then bad else if d = true then if (t != a) = true then bad else out else out) := by
  cases A with
  | false => exact hb
  | true =>
    rw [hd rfl]
    by_cases e : t = a
    · subst e; cases d <;> simp [Sim, ho]
    · have e2 : (t == a) = false := by simpa using e
      cases d <;> simp [Sim, ho, hb, e2, e]
theorem cell_sim {cells : List Int} {kf : WS → Nd → Option (Int × WS)} {kw : WS → Nd → Int × WS} {x : Nd} (v a : Int) (st : WS) (hs : Sim (kf st x) (kw st x)) : Sim (cellL cells kf st v x a) (cellW cells kw st v x a) := by
  rw [cellL, cellW]
  by_cases h0 : v < 0
  · have : ¬ (v ≥ 0) := by omega
    simp only [h0, this, decide_true, decide_false, Bool.false_and, Bool.false_eq_true, if_false, if_true]; rfl
  · have h0' : v ≥ 0 := by omega
    by_cases h1 : v < (cells.length : Int)
    · have h1' : ¬ (v ≥ (cells.length : Int)) := by omega
      by_cases h2 : cells.getD v.toNat 0 ≤ a
      · have h2' : ¬ (cells.getD v.toNat 0 > a) := by omega
        simp only [h0, h0', h1, h1', h2, h2', decide_true, decide_false, Bool.true_and, Bool.false_eq_true, if_false, if_true]
        cases e : kf st x with
        | none => rw [e] at hs; rw [Option.bind_none]; show WS.ok _ = false; rw [cellTwo, show (kw st x).2.ok = false from hs]; exact hs
        | some p =>
          rw [e] at hs
          obtain ⟨e1, e2⟩ := hs
          rw [e1, Option.bind_some, cellTwo, e2]
          simp only [Bool.not_true, Bool.false_eq_true, if_false]
          by_cases h3 : hangs a x ≤ cells.getD v.toNat 0
          · have h3' : ¬ (hangs a x > cells.getD v.toNat 0) := by omega
            simp only [h3, h3', decide_true, decide_false, Bool.true_and, Bool.false_eq_true, if_false, fitsB]
            cases e4 : p.2.ks.getD v.toNat none with
            | none => simp only [if_true, cellThr]; exact ⟨rfl, e2⟩
            | some y =>
              simp only [cellThr]
              exact fit_law (sameNd y x) (roundsN x) (roundsN y) _ a (cellOut p v a x) (0, p.2.bad) (rounds_same y x) e2 rfl
          · have h3' : hangs a x > cells.getD v.toNat 0 := by omega
            simp only [h3, h3', decide_true, decide_false, Bool.false_and, Bool.false_eq_true, if_false, if_true]; rfl
      · have h2' : cells.getD v.toNat 0 > a := by omega
        simp only [h0, h0', h1, h1', h2, h2', decide_true, decide_false, Bool.true_and, Bool.and_false, Bool.false_eq_true, if_false, if_true]; rfl
    · have h1' : v ≥ (cells.length : Int) := by omega
      simp only [h0, h0', h1, h1', decide_true, decide_false, Bool.false_and, Bool.and_false, Bool.false_eq_true, if_false, if_true]; rfl
theorem plain_sim {kf : WS → Nd → Option (Int × WS)} {kw : WS → Nd → Int × WS} (hb : ∀ st n, st.ok = false → (kw st n).2.ok = false) {kn of gives : Int} {t fb : Bool} {st : WS} {s : ByteArray} {l : List Nd}
    (hs : ∀ x ∈ l, ∀ st, st.ok = true → Sim (kf st x) (kw st x)) (h : st.ok = true) (hf : fb = ((l.length : Int) == kn && strEq s (ByteArray.mk #[]) && t)) :
    Sim (plainL kf kn of gives t st s l) (if (!fb) = true then (0, st.bad) else (gives, allW kw of st l)) := by
  rw [plainL, ← hf]
  cases fb with
  | false => rfl
  | true =>
    have h1 := look_all hb of l st hs h
    simp only [if_true, Bool.not_true, Bool.false_eq_true, if_false]
    cases e : lookAll kf of st l with
    | none => rw [e] at h1; exact h1
    | some s1 => rw [e] at h1; obtain ⟨h1, h2⟩ := h1; rw [h1]; exact ⟨rfl, h2⟩
theorem leaf_sim {kf : WS → Nd → Option (Int × WS)} {gives : Int} {t u fb : Bool} {st : WS} {s : ByteArray} {l : List Nd} (h : st.ok = true) (hf : (fb && u) = ((l.length : Int) == 0 && strEq s (ByteArray.mk #[]) && t)) :
    Sim (plainL kf 0 0 gives t st s l) (if (!fb) = true then (0, st.bad) else if (!u) = true then (gives, st.bad) else (gives, st)) := by
  rw [plainL, ← hf]
  cases fb with
  | false => rfl
  | true =>
    cases u with
    | false => rfl
    | true =>
      have hl : l = [] := List.length_eq_zero_iff.1 (by
        cases e : ((l.length : Int) == 0) with
        | true => simpa using e
        | false => rw [e] at hf; simp at hf)
      subst hl
      exact ⟨rfl, h⟩
theorem alike_sim {kf : WS → Nd → Option (Int × WS)} {kw : WS → Nd → Int × WS} (hb : ∀ st n, st.ok = false → (kw st n).2.ok = false) {st : WS} {v : Int} {l : List Nd} (h0 : ∀ st, st.ok = true → Sim (kf st (l.getD 0 nd0)) (kw st (l.getD 0 nd0))) (h1 : ∀ st, st.ok = true → Sim (kf st (l.getD 1 nd0)) (kw st (l.getD 1 nd0)))
    (h : st.ok = true) (hv : (v == 0) = true) : Sim (alikeL kf st v l) (2, mustW (kw (kw st (l.getD 0 nd0)).2 (l.getD 1 nd0)) (kw st (l.getD 0 nd0)).1) := by
  rw [alikeL, if_pos hv]
  have e0 := h0 st h
  cases e : kf st (l.getD 0 nd0) with
  | none => rw [e] at e0; exact mustW_bad (hb _ _ e0)
  | some p =>
    rw [e] at e0; obtain ⟨e0, e0'⟩ := e0
    rw [e0, Option.bind_some]
    have e1 := (h1 p.2 e0').of p.1
    cases e2 : ofL (kf p.2 (l.getD 1 nd0)) p.1 with
    | none => rw [e2] at e1; exact e1
    | some s1 => rw [e2] at e1; obtain ⟨e1, e1'⟩ := e1; rw [e1]; exact ⟨rfl, e1'⟩
theorem choice_sim {kf : WS → Nd → Option (Int × WS)} {kw : WS → Nd → Int × WS} (hb : ∀ st n, st.ok = false → (kw st n).2.ok = false) {st : WS} {v : Int} {l : List Nd} (h0 : ∀ st, st.ok = true → Sim (kf st (l.getD 0 nd0)) (kw st (l.getD 0 nd0))) (h1 : ∀ st, st.ok = true → Sim (kf st (l.getD 1 nd0)) (kw st (l.getD 1 nd0)))
    (h2 : ∀ st, st.ok = true → Sim (kf st (l.getD 2 nd0)) (kw st (l.getD 2 nd0))) (h : st.ok = true) (hv : (v == 0) = true) :
    Sim (choiceL kf st v l) ((kw (mustW (kw st (l.getD 0 nd0)) 2) (l.getD 1 nd0)).1, mustW (kw (kw (mustW (kw st (l.getD 0 nd0)) 2) (l.getD 1 nd0)).2 (l.getD 2 nd0)) (kw (mustW (kw st (l.getD 0 nd0)) 2) (l.getD 1 nd0)).1) := by
  rw [choiceL, if_pos hv]
  have e0 := (h0 st h).of 2
  cases e : ofL (kf st (l.getD 0 nd0)) 2 with
  | none => rw [e] at e0; exact mustW_bad (hb _ _ (hb _ _ e0))
  | some s1 =>
    rw [e] at e0; obtain ⟨e0, e0'⟩ := e0
    rw [e0, Option.bind_some]
    have e1 := h1 s1 e0'
    cases e2 : kf s1 (l.getD 1 nd0) with
    | none => rw [e2] at e1; exact mustW_bad (hb _ _ e1)
    | some p =>
      rw [e2] at e1; obtain ⟨e1, e1'⟩ := e1
      rw [e1, Option.bind_some]
      have e3 := (h2 p.2 e1').of p.1
      cases e4 : ofL (kf p.2 (l.getD 2 nd0)) p.1 with
      | none => rw [e4] at e3; exact e3
      | some s3 => rw [e4] at e3; obtain ⟨e3, e3'⟩ := e3; rw [e3]; exact ⟨rfl, e3'⟩
theorem quant_sim {kf : Int → Int → WS → Nd → Option (Int × WS)} {kw : Int → Int → WS → Nd → Int × WS} (hb : ∀ a q st n, st.ok = false → (kw a q st n).2.ok = false) {st : WS} {v a q : Int} {x y : Nd} (hx : q < 4 → ∀ z ∈ x.kids, ∀ st, st.ok = true → Sim (kf a (w64 (q + 1)) st z) (kw a (w64 (q + 1)) st z))
    (hy : q < 4 → ∀ st, st.ok = true → Sim (kf (w64 (a + 1)) (w64 (q + 1)) st y) (kw (w64 (a + 1)) (w64 (q + 1)) st y)) (hq : q ≤ 4) (h : st.ok = true) (h1 : v ≥ 1) (h6 : v ≤ 6) : Sim (quantL kf st v x y a q) (quantW kw st v x y a q) := by
  rw [quantL, quantW]
  by_cases h4 : q = 4
  · subst h4; simp only [show ¬ ((4 : Int) < 4) by omega, decide_false, Bool.and_false, Bool.false_eq_true, if_false, BEq.rfl, if_true]; rfl
  · have hlt : q < 4 := by omega
    have hne : (q == 4) = false := by simpa using h4
    simp only [h1, h6, hlt, hne, decide_true, Bool.and_self, if_true, Bool.false_eq_true, if_false]
    have e0 := set_sim x st (hx hlt) h
    cases e : setLk (kf a (w64 (q + 1))) st x with
    | none => rw [e] at e0; exact mustW_bad (hb _ _ _ _ e0)
    | some s1 =>
      rw [e] at e0; obtain ⟨e0, e0'⟩ := e0
      rw [e0, Option.bind_some]
      have e1 := (hy hlt s1 e0').of (bodyI v)
      unfold bodyI at e1
      unfold bodyI wholeI
      cases e2 : ofL (kf (w64 (a + 1)) (w64 (q + 1)) s1 y) (if decide (v ≤ 3) = true then 2 else 1) with
      | none => rw [e2] at e1; exact e1
      | some s2 => rw [e2] at e1; obtain ⟨e1, e1'⟩ := e1; rw [e1]; exact ⟨rfl, e1'⟩
theorem and3 (a b c : Bool) : (a && b && c) = (c && b && a) := by cases a <;> cases b <;> cases c <;> rfl
theorem iff0 {α : Type} {b : Bool} (h : b = false) {x y : α} : (if b = true then x else y) = y := by rw [h]; rfl
set_option maxHeartbeats 2000000 in
theorem look_sim (cells : List Int) : ∀ (f : Nat) (n : Nd), n.size ≤ f → ∀ (a q : Int) (st : WS), 0 ≤ q → q ≤ 4 → st.ok = true → Sim (lookK cells f a q st n) (kindW cells f a q st n) := by
  intro f
  induction f with
  | zero => intro n hn; cases n with | mk k v s l => simp only [Nd.size] at hn; omega
  | succ f ih =>
    intro n hn a q st hq0 hq h
    obtain ⟨k, v, s, l⟩ := n
    have hsz : Nd.sizes l ≤ f := by simp only [Nd.size] at hn; omega
    have hl : ∀ (a q : Int), 0 ≤ q → q ≤ 4 → ∀ x ∈ l, ∀ st, st.ok = true → Sim (lookK cells f a q st x) (kindW cells f a q st x) := fun a q h0 h4 x hx st hst => ih x (Nat.le_trans (Nd.size_lt hx) hsz) a q st h0 h4 hst
    have hb : ∀ a q st n, st.ok = false → (kindW cells f a q st n).2.ok = false := fun a q st n => kindW_bad cells f a q st n
    have hd : ∀ (i : Nat), i < l.length → ∀ (a q : Int), 0 ≤ q → q ≤ 4 → ∀ st, st.ok = true → Sim (lookK cells f a q st (l.getD i nd0)) (kindW cells f a q st (l.getD i nd0)) := fun i hi a q h0 h4 => hl a q h0 h4 _ (by
      rw [List.getD_eq_getElem?_getD, List.getElem?_eq_getElem hi]; exact List.getElem_mem hi)
    have hi : st.inc.ok = true := h
    rw [lookK, kindW, h]
    simp only [Bool.not_true, Bool.false_eq_true, if_false]
    by_cases hp : w64 (st.parts + 1) ≤ 4096
    · have hp2 : ¬ (w64 (st.parts + 1) > 4096) := by omega
      simp only [hp, hp2, decide_true, decide_false, Bool.not_true, Bool.false_eq_true, if_false]
      have P := fun kn of gives t fb (hf : fb = ((l.length : Int) == kn && strEq s (ByteArray.mk #[]) && t)) => plain_sim (kn := kn) (of := of) (gives := gives) (hb a q) (hl a q hq0 hq) hi hf
      have hlen : ∀ {m : Int} {b : Bool}, ((l.length : Int) == m && b) = true → (l.length : Int) = m := fun e => by simp only [Bool.and_eq_true, beq_iff_eq] at e; exact e.1
      by_cases e1 : k = 1
      · subst e1
        exact leaf_sim (u := true) (gives := 1) (t := testB 95 v a) (fb := strEq s (ByteArray.mk #[]) && (l.length : Int) == 0) hi (by simp only [testB, Bool.and_true]; first | rfl | exact and3 _ _ _ | exact Bool.and_comm _ _)
      by_cases e2 : k = 2
      · subst e2
        exact leaf_sim (u := true) (gives := 2) (t := testB 96 v a) (fb := (v == 0 || v == 1) && strEq s (ByteArray.mk #[]) && (l.length : Int) == 0) hi (by simp only [testB, Bool.and_true]; first | rfl | exact and3 _ _ _ | exact Bool.and_comm _ _)
      by_cases e3 : k = 3
      · subst e3
        exact leaf_sim (u := true) (gives := 3) (t := testB 97 v a) (fb := decide (v ≥ 0) && strEq s (ByteArray.mk #[]) && (l.length : Int) == 0) hi (by simp only [testB, Bool.and_true]; first | rfl | exact and3 _ _ _ | exact Bool.and_comm _ _)
      by_cases e5 : k = 5
      · subst e5
        have := leaf_sim (kf := lookK cells f a q) (u := decide (v < a)) (gives := 3) (t := testB 98 v a) (fb := decide (v ≥ 0) && strEq s (ByteArray.mk #[]) && (l.length : Int) == 0) (s := s) (l := l) hi (by
          simp only [testB]; cases decide (v ≥ 0) <;> cases strEq s (ByteArray.mk #[]) <;> cases ((l.length : Int) == 0) <;> cases decide (v < a) <;> rfl)
        have hge : (!decide (v < a)) = decide (v ≥ a) := by rw [← decide_not]; exact decide_eq_decide.2 (by omega)
        rw [hge] at this
        exact this
      by_cases e6 : k = 6
      · subst e6
        exact P 1 1 1 (v == 0) (v == 0 && strEq s (ByteArray.mk #[]) && (l.length : Int) == 1) (and3 _ _ _)
      by_cases e7 : k = 7
      · subst e7
        exact P 1 2 2 (v == 0) (v == 0 && strEq s (ByteArray.mk #[]) && (l.length : Int) == 1) (and3 _ _ _)
      by_cases e8 : k = 8
      · subst e8
        exact P 2 1 1 (v == 0) (v == 0 && strEq s (ByteArray.mk #[]) && (l.length : Int) == 2) (and3 _ _ _)
      by_cases e9 : k = 9
      · subst e9
        exact P 2 1 1 (v == 0) (v == 0 && strEq s (ByteArray.mk #[]) && (l.length : Int) == 2) (and3 _ _ _)
      by_cases e10 : k = 10
      · subst e10
        exact P 2 1 1 (v == 0) (v == 0 && strEq s (ByteArray.mk #[]) && (l.length : Int) == 2) (and3 _ _ _)
      by_cases e11 : k = 11
      · subst e11
        exact P 2 1 1 (v == 0) (v == 0 && strEq s (ByteArray.mk #[]) && (l.length : Int) == 2) (and3 _ _ _)
      by_cases e12 : k = 12
      · subst e12
        exact P 2 1 1 (v == 0) (v == 0 && strEq s (ByteArray.mk #[]) && (l.length : Int) == 2) (and3 _ _ _)
      by_cases e15 : k = 15
      · subst e15
        exact P 2 1 2 (v == 0) (v == 0 && strEq s (ByteArray.mk #[]) && (l.length : Int) == 2) (and3 _ _ _)
      by_cases e16 : k = 16
      · subst e16
        exact P 2 1 2 (v == 0) (v == 0 && strEq s (ByteArray.mk #[]) && (l.length : Int) == 2) (and3 _ _ _)
      by_cases e17 : k = 17
      · subst e17
        exact P 2 2 2 (v == 0) (v == 0 && strEq s (ByteArray.mk #[]) && (l.length : Int) == 2) (and3 _ _ _)
      by_cases e18 : k = 18
      · subst e18
        exact P 2 2 2 (v == 0) (v == 0 && strEq s (ByteArray.mk #[]) && (l.length : Int) == 2) (and3 _ _ _)
      by_cases e20 : k = 20
      · subst e20
        have key : ∀ (kn g : Int) (t : Nat) (_ : shapeF 20 v = .plain kn 3 g t) (_ : givesI v = g)
            (_ : (decide (v ≥ 1) && decide (v ≤ 3) && (l.length : Int) == 2 || decide (v ≥ 4) && decide (v ≤ 10) && (l.length : Int) == 1) = ((l.length : Int) == kn && testB t v a)),
            Sim (match shapeF 20 v with
              | .plain kids of gives t => plainL (lookK cells f a q) kids of gives (testB t v a) st.inc s l
              | .other kids t =>
                if (l.length : Int) == kids && strEq s (ByteArray.mk #[]) then
                  if t = 100 then alikeL (lookK cells f a q) st.inc v l else if t = 101 then choiceL (lookK cells f a q) st.inc v l
                  else if t = 103 then quantL (lookK cells f) st.inc v (l.getD 0 nd0) (l.getD 1 nd0) a q
                  else cellL cells (lookK cells f a q) st.inc v (l.getD 0 nd0) a
                else none
              | .none => none) (if (!formB 20 v s l.length) = true then (0, st.inc.bad) else (givesI v, allW (kindW cells f a q) 3 st.inc l)) := fun kn g t h1 h2 h3 => by
          rw [h1, h2]
          refine P kn 3 g (testB t v a) _ ?_
          show (strEq s (ByteArray.mk #[]) && (decide (v ≥ 1) && decide (v ≤ 3) && (l.length : Int) == 2 || decide (v ≥ 4) && decide (v ≤ 10) && (l.length : Int) == 1)) = _
          rw [h3]
          cases strEq s (ByteArray.mk #[]) <;> cases ((l.length : Int) == kn) <;> rfl
        by_cases v1 : v = 1
        · subst v1; exact key 2 2 95 rfl rfl (by simp [testB])
        by_cases v2 : v = 2
        · subst v2; exact key 2 2 95 rfl rfl (by simp [testB])
        by_cases v3 : v = 3
        · subst v3; exact key 2 1 95 rfl rfl (by simp [testB])
        by_cases v10 : v = 10
        · subst v10; exact key 1 3 95 rfl rfl (by simp [testB])
        refine key 1 1 102 ?_ ?_ ?_
        · simp [shapeF, v1, v2, v3, v10]
        · simp [givesI, v1, v2, v10]
        · have t1 : (decide (v ≥ 1) && decide (v ≤ 3)) = false := by simp only [Bool.and_eq_false_iff, decide_eq_false_iff_not]; omega
          have t2 : decide (v ≤ 10) = decide (v ≤ 9) := decide_eq_decide.2 (by omega)
          rw [t1, t2, Bool.false_and, Bool.false_or]
          exact Bool.and_comm _ _
      by_cases e13 : k = 13 ∨ k = 14
      · have key : Sim (if ((l.length : Int) == 2 && strEq s (ByteArray.mk #[])) = true then alikeL (lookK cells f a q) st.inc v l else none) (if (!(v == 0 && strEq s (ByteArray.mk #[]) && (l.length : Int) == 2)) = true then (0, st.inc.bad) else (2, mustW (kindW cells f a q (kindW cells f a q st.inc (l.getD 0 nd0)).2 (l.getD 1 nd0)) (kindW cells f a q st.inc (l.getD 0 nd0)).1)) := by
          cases e1 : ((l.length : Int) == 2 && strEq s (ByteArray.mk #[])) with
          | false => rw [and3, e1]; rfl
          | true =>
            have := hlen e1
            cases e2 : (v == 0) with
            | false => simp only [if_true, alikeL, e2, Bool.false_and, Bool.not_false, Bool.false_eq_true, if_false]; rfl
            | true =>
              rw [and3, e1]
              exact alike_sim (hb a q) (hd 0 (by omega) a q hq0 hq) (hd 1 (by omega) a q hq0 hq) hi e2
        rcases e13 with rfl | rfl <;> exact key
      have e13' : k ≠ 13 ∧ k ≠ 14 := ⟨fun e => e13 (.inl e), fun e => e13 (.inr e)⟩
      by_cases e19 : k = 19
      · subst e19
        show Sim (if ((l.length : Int) == 3 && strEq s (ByteArray.mk #[])) = true then choiceL (lookK cells f a q) st.inc v l else none) (if (!(v == 0 && strEq s (ByteArray.mk #[]) && (l.length : Int) == 3)) = true then (0, st.inc.bad) else _)
        cases e1 : ((l.length : Int) == 3 && strEq s (ByteArray.mk #[])) with
        | false => rw [and3, e1]; rfl
        | true =>
          have := hlen e1
          cases e2 : (v == 0) with
          | false => simp only [if_true, choiceL, e2, Bool.false_and, Bool.not_false, Bool.false_eq_true, if_false]; rfl
          | true =>
            rw [and3, e1]
            exact choice_sim (hb a q) (hd 0 (by omega) a q hq0 hq) (hd 1 (by omega) a q hq0 hq) (hd 2 (by omega) a q hq0 hq) hi e2
      by_cases e21 : k = 21
      · subst e21
        show Sim (if ((l.length : Int) == 2 && strEq s (ByteArray.mk #[])) = true then quantL (lookK cells f) st.inc v (l.getD 0 nd0) (l.getD 1 nd0) a q else none) (if (!(decide (v ≥ 1) && decide (v ≤ 6) && strEq s (ByteArray.mk #[]) && (l.length : Int) == 2)) = true then (0, st.inc.bad) else quantW (kindW cells f) st.inc v (l.getD 0 nd0) (l.getD 1 nd0) a q)
        cases e1 : ((l.length : Int) == 2 && strEq s (ByteArray.mk #[])) with
        | false => rw [and3, e1]; rfl
        | true =>
          have := hlen e1
          cases e2 : (decide (v ≥ 1) && decide (v ≤ 6)) with
          | false => simp only [if_true, quantL, e2, Bool.false_and, Bool.not_false, Bool.false_eq_true, if_false]; rfl
          | true =>
            rw [and3, e1]
            simp only [Bool.and_eq_true, decide_eq_true_eq] at e2
            have hw : q < 4 → w64 (q + 1) = q + 1 := fun hlt => by rw [show w64 (q + 1) = IntKind.wrap .i64 (q + 1) from rfl, IntKind.wrap_i64]; omega
            refine quant_sim hb (fun hlt z hz st hst => ?_) (fun hlt => hd 1 (by omega) _ _ (by rw [hw hlt]; omega) (by rw [hw hlt]; omega)) hq hi e2.1 e2.2
            have hx : (l.getD 0 nd0).size ≤ f := by
              rw [List.getD_eq_getElem?_getD, List.getElem?_eq_getElem (show 0 < l.length by omega)]
              exact Nat.le_trans (Nd.size_lt (List.getElem_mem _)) hsz
            have hz2 : z.size ≤ f := by
              generalize l.getD 0 nd0 = x at hx hz
              cases x with | mk k v s l => simp only [Nd.size, Nd.kids] at hx hz; have := Nd.size_lt hz; omega
            exact ih z hz2 _ _ st (by rw [hw hlt]; omega) (by rw [hw hlt]; omega) hst
      by_cases e26 : k = 26
      · subst e26
        show Sim (if ((l.length : Int) == 1 && strEq s (ByteArray.mk #[])) = true then cellL cells (lookK cells f a q) st.inc v (l.getD 0 nd0) a else none) (if (!(strEq s (ByteArray.mk #[]) && (l.length : Int) == 1)) = true then (0, st.inc.bad) else cellW cells (kindW cells f a q) st.inc v (l.getD 0 nd0) a)
        cases e1 : ((l.length : Int) == 1 && strEq s (ByteArray.mk #[])) with
        | false => rw [Bool.and_comm, e1]; rfl
        | true =>
          have := hlen e1
          rw [Bool.and_comm, e1]
          exact cell_sim v a st.inc (hd 0 (by omega) a q hq0 hq st.inc hi)
      have c1 : (k == 1) = false := by simpa using e1
      have c2 : (k == 2) = false := by simpa using e2
      have c3 : (k == 3) = false := by simpa using e3
      have c5 : (k == 5) = false := by simpa using e5
      have c6 : (k == 6) = false := by simpa using e6
      have c7 : (k == 7) = false := by simpa using e7
      have c8 : (k == 8) = false := by simpa using e8
      have c9 : (k == 9) = false := by simpa using e9
      have c10 : (k == 10) = false := by simpa using e10
      have c11 : (k == 11) = false := by simpa using e11
      have c12 : (k == 12) = false := by simpa using e12
      have c15 : (k == 15) = false := by simpa using e15
      have c16 : (k == 16) = false := by simpa using e16
      have c17 : (k == 17) = false := by simpa using e17
      have c18 : (k == 18) = false := by simpa using e18
      have c20 : (k == 20) = false := by simpa using e20
      have c13 : (k == 13) = false := by simpa using e13'.1
      have c14 : (k == 14) = false := by simpa using e13'.2
      have c19 : (k == 19) = false := by simpa using e19
      have c21 : (k == 21) = false := by simpa using e21
      have c26 : (k == 26) = false := by simpa using e26
      have hn : shapeF k v = .none := by unfold shapeF; simp only [c1, c2, c3, c5, c6, c7, c8, c9, c10, c11, c12, c15, c16, c17, c18, c20, c13, c14, c19, c21, c26, Bool.false_eq_true, if_false]
      rw [hn]
      show WS.ok _ = false
      have o1 : (k == 6 || k == 8 || k == 9 || k == 10 || k == 11 || k == 12) = false := by rw [c6, c8, c9, c10, c11, c12]; rfl
      have o2 : (k == 7 || k == 17 || k == 18) = false := by rw [c7, c17, c18]; rfl
      have o3 : (k == 15 || k == 16) = false := by rw [c15, c16]; rfl
      have o4 : (k == 13 || k == 14) = false := by rw [c13, c14]; rfl
      cases formB k v s l.length with
      | false => rfl
      | true => rw [iff0 (b := !true) rfl, iff0 c1, iff0 c2, iff0 c3, iff0 c5, iff0 o1, iff0 o2, iff0 o3, iff0 o4, iff0 c19, iff0 c20, iff0 c21, iff0 c26]; rfl
    · have hp2 : w64 (st.parts + 1) > 4096 := by omega
      simp only [hp, hp2, decide_true, decide_false, Bool.not_false, if_true]; rfl
theorem planKind_eq (p : Pl) : planKind p = refKind p := by
  unfold planKind refKind
  split
  · rfl
  · split
    · rfl
    · have h := look_sim p.cells p.root.size p.root (Nat.le_refl _) 0 0 ⟨0, List.replicate p.cells.length none, List.replicate p.cells.length 0, true⟩ (by omega) (by omega) rfl
      cases e : lookK p.cells p.root.size 0 0 ⟨0, List.replicate p.cells.length none, List.replicate p.cells.length 0, true⟩ p.root with
      | none => rw [e] at h; dsimp only; rw [show (kindW _ _ _ _ _ _).2.ok = false from h]; rfl
      | some r => rw [e] at h; obtain ⟨h1, h2⟩ := h; dsimp only; rw [h1, h2]; rfl
end
section
open Go
mutual
def two : Nd → Bool
  | .mk k _ _ l => k == 26 || ((k != 21 || decide (l.length ≤ 2)) && twoL l)
def twoL : List Nd → Bool
  | [] => true
  | x :: l => two x && twoL l
end
theorem lookAll_each {kf : WS → Nd → Option (Int × WS)} {k : Int} : ∀ {l : List Nd} {st s1 : WS}, lookAll kf k st l = some s1 → ∀ x ∈ l, ∃ st2 r, kf st2 x = some r
  | [], _, _, _, _, hx => by simp at hx
  | y :: l, st, s1, h, x, hx => by
    rw [lookAll] at h
    cases e : kf st y with
    | none => rw [e] at h; simp [ofL] at h
    | some r =>
      rcases List.mem_cons.1 hx with rfl | hx
      · exact ⟨st, r, e⟩
      · cases e2 : ofL (kf st y) k with
        | none => rw [e2] at h; simp at h
        | some s2 => rw [e2] at h; exact lookAll_each h x hx
theorem ofL_some {o : Option (Int × WS)} {k : Int} {s1 : WS} (h : ofL o k = some s1) : ∃ r, o = some r := by
  cases o with
  | none => simp [ofL] at h
  | some r => exact ⟨r, rfl⟩
theorem bind_some' {α β : Type} {o : Option α} {f : α → Option β} {y : β} (h : o.bind f = some y) : ∃ x, o = some x ∧ f x = some y := by
  cases o with
  | none => simp at h
  | some x => exact ⟨x, rfl, h⟩
theorem map_some' {α β : Type} {o : Option α} {f : α → β} {y : β} (h : o.map f = some y) : ∃ x, o = some x ∧ f x = y := by
  cases o with
  | none => simp at h
  | some x => exact ⟨x, rfl, by simpa using h⟩
theorem list1 {α : Type} {l : List α} {d : α} (h : l.length = 1) : ∀ x ∈ l, x = l.getD 0 d := by
  match l, h with
  | [a], _ => simp
theorem list2 {α : Type} {l : List α} {d : α} (h : l.length = 2) : ∀ x ∈ l, x = l.getD 0 d ∨ x = l.getD 1 d := by
  match l, h with
  | [a, b], _ => simp
theorem list3 {α : Type} {l : List α} {d : α} (h : l.length = 3) : ∀ x ∈ l, x = l.getD 0 d ∨ x = l.getD 1 d ∨ x = l.getD 2 d := by
  match l, h with
  | [a, b, c], _ => simp
theorem ite_some {c : Bool} {α : Type} {X : Option α} {y : α} (h : (if c = true then X else none) = some y) : X = some y := by cases c; cases h; exact h
def notOther : Shp → Bool
  | .other _ _ => false
  | _ => true
theorem nother_if {c : Prop} [Decidable c] {x y : Shp} : notOther (if c then x else y) = if c then notOther x else notOther y := by split <;> rfl
mutual
theorem weigh_law : ∀ (n : Nd) (m : Int), 0 ≤ m → m ≤ 20000 → weigh n m = -1 ∨ (weigh n m = m - n.size ∧ (n.size : Int) ≤ m)
  | .mk k v s l, m, h0, h1 => by
    rw [weigh]
    have hw : w64 (m - 1) = m - 1 := by rw [show w64 (m - 1) = IntKind.wrap .i64 (m - 1) from rfl, IntKind.wrap_i64]; omega
    rw [hw]
    rcases weighL_law l (m - 1) (by omega) (by omega) with h | ⟨h, h2⟩
    · exact .inl h
    · right; simp only [Nd.size]; omega
theorem weighL_law : ∀ (l : List Nd) (m : Int), -1 ≤ m → m ≤ 20000 → weighL m l = -1 ∨ (weighL m l = m - Nd.sizes l ∧ (Nd.sizes l : Int) ≤ m)
  | [], m, h0, h1 => by
    rw [weighL]
    by_cases h : m = -1
    · exact .inl h
    · right; simp only [Nd.sizes]; omega
  | x :: l, m, h0, h1 => by
    rw [weighL]
    split
    · rename_i hm
      rcases weigh_law x m hm h1 with h | ⟨h, h2⟩
      · rw [h]
        rcases weighL_law l (-1) (by omega) (by omega) with h | ⟨h3, h4⟩
        · exact .inl h
        · omega
      · rw [h]
        rcases weighL_law l (m - x.size) (by omega) (by omega) with h | ⟨h3, h4⟩
        · exact .inl h
        · right; simp only [Nd.sizes]; omega
    · left; omega
end
theorem light {p : Pl} (h : heavy p = false) : p.root.size ≤ 20000 ∧ p.cells.length ≤ 20000 := by
  unfold heavy at h
  split at h
  · cases h
  · rename_i hc
    rcases weigh_law p.root 20000 (by omega) (by omega) with h1 | ⟨_, h1⟩
    · rw [h1] at h; simp at h
    · omega
theorem strEq_rfl (s : ByteArray) : strEq s s = true := by simp [strEq]
end
end Go.Vx
