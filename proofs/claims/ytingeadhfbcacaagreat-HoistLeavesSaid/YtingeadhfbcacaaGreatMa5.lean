/- Texts of the walk, gathered. -/
import Derived.Test.YtingeadhfbcacaaGreatMa4
import Derived.Test.YtingeadhfbcacaaGreatMa2
import Derived.Test.YtingeadhfbcacaaGreatMa1
import Derived.Test.YtingeadhfbcacaaGreatMa3
import Derived.Laws.MakeOwn
import Derived.WalkKit
import Derived.Defers
import Derived.Recover
import Derived.Tactics2
import Derived.Test.YtingeadhfbcacaaGreatRows
import Derived.ProofKit
import Derived.Deep.Slices
import Derived.SizedLaws
import Derived.Lib.SmallJoins
set_option linter.unusedSimpArgs false
set_option linter.unusedVariables false
namespace Go.Vx.Tryz
open Go Go.Vx Go.Proofs
section
theorem isNaN_c (a : ByteArray) {w : World} : CallsX E.P 170 #[.string a] w (IsV (.bool false) w) never := by
  refine vc170 ?_
  rw [strEq_refl]; exact ⟨rfl, Upd.refl _ _⟩
theorem isNaN2_c (a : ByteArray) {w : World} : CallsX E.P 165 #[.string a] w (IsV (.bool false) w) never := by
  refine vc165 ?_
  rw [strEq_refl]; exact ⟨rfl, Upd.refl _ _⟩
theorem less_c (a b : ByteArray) {w : World} : CallsX E.P 164 #[.string a, .string b] w (IsV (.bool (strLt a b)) w) never := by
  refine vc164 ?_
  exact callB (isNaN_c a) fun w2 hE => ⟨(fun h => nomatch h), fun _ => ⟨rfl, hE⟩⟩
theorem word_row {w : World} {id : Nat} (h : w.heap[id]? = some (.cells (wordsL.map Value.string).toArray 9 (0, 0))) {m : Nat} (hm : m < wordsL.length) {i : Int} (hi : i = (m : Int)) :
    CellsIn w ((⟨id, 0, none⟩ : Addr).add (Int.toNat i * 1)) [.string wordsL[m]] := by
  subst hi
  have := row_cell (j := m) (c := .string wordsL[m]) h (by simp [hm])
  simpa using this
theorem search_c (a : ByteArray) {w : World} {id : Nat} (hh : w.heap[id]? = some (.cells (wordsL.map Value.string).toArray 9 (0, 0))) :
    CallsX E.P 162 #[.slice (some ⟨id, 0, none⟩) 27 27, .string a] w (fun v w' => (∃ x, v = .tuple #[.int .i64 x, .bool (wordIn a wordsL)]) ∧ Ext w w') never := by
  have hL : wordsL.length = 27 := rfl
  have hlt := lt_of_get hh
  refine vc162 ?_
  refine ⟨fun x x1 w2 => ∃ lo hi : Nat, x = lo ∧ x1 = hi ∧ Halved a lo hi ∧ Ext w w2, fun x x1 => (x1 - x).toNat, ⟨0, 27, rfl, rfl, ⟨by omega, by omega, fun i h hl => by omega, fun i h hl => by omega⟩, Upd.refl _ _⟩, ?_⟩
  rintro _ x x1 w2 ⟨lo, hi, rfl, rfl, hH, hE⟩
  have hw2 : w2.heap[id]? = some (.cells (wordsL.map Value.string).toArray 9 (0, 0)) := by rw [hE.keep id hlt (fun h => h)]; exact hh
  have h27 := hH.2.1
  refine ⟨fun hlh => ?_, fun hlh => ?_⟩
  · have hlh : lo < hi := by simpa using hlh
    have hm : w64 (IntKind.wrap .u64 (w64 ((lo : Int) + (hi : Int))) / 2) = (((lo + hi) / 2 : Nat) : Int) := by
      have e1 : w64 ((lo : Int) + (hi : Int)) = ((lo + hi : Nat) : Int) := by rw [w64_id (by omega) (by omega)]; rfl
      have e2 : IntKind.wrap .u64 ((lo + hi : Nat) : Int) = ((lo + hi : Nat) : Int) := by
        simp only [IntKind.wrap, IntKind.bits, IntKind.signed, Bool.false_and, Bool.false_eq_true, if_false]; omega
      rw [e1, e2, w64_id (by omega) (by omega)]; omega
    rw [hm]
    have hmm : (lo + hi) / 2 < wordsL.length := by omega
    refine ⟨by omega, _, rfl, _, word_row hw2 hmm rfl, callB (less_c _ _) fun w3 hE3 => ⟨fun hs => ?_, fun hs => ?_⟩⟩
    · have e3 : w64 ((((lo + hi) / 2 : Nat) : Int) + 1) = (((lo + hi) / 2 + 1 : Nat) : Int) := by rw [w64_id (by omega) (by omega)]; rfl
      rw [e3]
      exact ⟨⟨_, hi, rfl, rfl, hH.up (by omega) (by omega) hmm hs, hE.trans hE3⟩, by dsimp only; omega⟩
    · exact ⟨⟨lo, _, rfl, rfl, hH.down (by omega) (by omega) hmm hs, hE.trans hE3⟩, by dsimp only; omega⟩
  · have hle : ¬ lo < hi := by simpa using hlh
    have : lo = hi := by have := hH.1; omega
    subst this
    have hd := hH.done
    refine ⟨fun h1 => ?_, fun h1 => ?_⟩
    · have h1 : lo < 27 := by simp at h1; omega
      have hll : lo < wordsL.length := by omega
      rw [dif_pos hll] at hd
      refine ⟨by omega, _, rfl, _, word_row hw2 hll rfl, fun he => ⟨⟨_, by rw [hd, he]⟩, hE⟩, fun he => ⟨by omega, _, rfl, _, word_row hw2 hll rfl, ?_⟩⟩
      exact callB (isNaN2_c _) fun w3 hE3 => ⟨(fun h => nomatch h), fun _ => ⟨⟨_, by rw [hd, he]⟩, hE.trans hE3⟩⟩
    · have h1 : ¬ lo < 27 := by simp at h1; omega
      rw [dif_neg (by omega)] at hd
      exact ⟨⟨_, by rw [hd]⟩, hE⟩
theorem isWord_c (a : ByteArray) {w : World} : CallsX E.P 159 #[.string a] w (IsV (.bool (wordIn a wordsL)) w) never := by
  refine vc159 ?_
  intro id hid w1 hE1 hi hh
  refine ⟨_, _, search_c a hh, ?_, never_any⟩
  rintro v w2 ⟨⟨x, rfl⟩, hE2⟩
  exact ⟨_, _, rfl, no, hE2, Away.no _, fun _ => ⟨rfl, hE1.trans hE2⟩⟩
def ClassR (r : Int) (w : World) : Value → World → Prop := fun v w' => ∃ k : Int, v = .int .i64 k ∧ Ext w w' ∧ (k != 3) = !smallB r ∧ (k != 2) = !digitB r ∧ (k != 5) = !(r == 95)
theorem contains_c (s : ByteArray) (r : Int) (h0 : 0 ≤ r) (h1 : r < 128) {w : World} : CallsX E.P 161 #[.string s, .int .i32 r] w (fun v w' => ∃ x : Bool, v = .bool x ∧ Ext w w') never :=
  of_calls (Any.strings_ContainsRune_ascii Tryz.lays151 s r w h0 h1) fun _ _ ⟨he, hw⟩ => ⟨_, he, _, rfl, by rw [hw]; exact Upd.refl _ _⟩
theorem class_c (r : Int) (h0 : 0 ≤ r) {w : World} : CallsX E.P 158 #[.int .i32 r] w (ClassR r w) never := by
  have leaf : ∀ (k : Int) {w2 : World}, Ext w w2 → ((k != 3) = !smallB r) → ((k != 2) = !digitB r) → ((k != 5) = !(r == 95)) → ClassR r w (.int .i64 k) w2 := fun k _ hE a1 a2 a3 => ⟨k, rfl, hE, a1, a2, a3⟩
  have tail : (decide (r ≥ 48) && decide (r ≤ 57)) = false → (decide (r ≥ 97) && decide (r ≤ 122)) = false →
      ((r == 95) = true → ClassR r w (.int .i64 5) w) ∧ ((r == 95) = false → ((r == 32) = true → ClassR r w (.int .i64 1) w) ∧ ((r == 32) = false → ((r == 9) = true → ClassR r w (.int .i64 1) w) ∧ ((r == 9) = false → ((r == 10) = true → ClassR r w (.int .i64 1) w) ∧ ((r == 10) = false → ((r == 13) = true → ClassR r w (.int .i64 1) w) ∧ ((r == 13) = false →
        (decide (r < 128) = true → ∃ (R1 : Value → World → Prop) (X' : ContX), CallsX E.P 161 (#[.string (ByteArray.mk #[40, 41, 123, 125, 44, 58, 64, 43, 45, 42, 47, 37, 61, 60, 33]), .int .i32 r]) w R1 X' ∧ (∀ v w2, R1 v w2 → ∃ x, v = .bool x ∧ ∃ S, Upd w w2 S ∧ Away [] S ∧ (x = true → ClassR r w (.int .i64 6) w2) ∧ (x = false → ClassR r w (.int .i64 0) w2)) ∧ ∀ ch w2, X' ch w2 → never ch w2) ∧
        (decide (r < 128) = false → ClassR r w (.int .i64 0) w)))))) := fun hd hs => by
    have es : smallB r = false := hs
    have ed : digitB r = false := hd
    refine ⟨fun h => leaf 5 (Upd.refl _ _) (by rw [es]; rfl) (by rw [ed]; rfl) (by rw [h]; rfl), fun h => ?_⟩
    have lf : ∀ (k : Int) {w2 : World}, Ext w w2 → k ≠ 3 → k ≠ 2 → k ≠ 5 → ClassR r w (.int .i64 k) w2 := fun k _ hE a1 a2 a3 => leaf k hE (by rw [es]; simpa using a1) (by rw [ed]; simpa using a2) (by rw [h]; simpa using a3)
    refine ⟨fun _ => lf 1 (Upd.refl _ _) (by decide) (by decide) (by decide), fun _ => ⟨fun _ => lf 1 (Upd.refl _ _) (by decide) (by decide) (by decide), fun _ => ⟨fun _ => lf 1 (Upd.refl _ _) (by decide) (by decide) (by decide), fun _ => ⟨fun _ => lf 1 (Upd.refl _ _) (by decide) (by decide) (by decide), fun _ => ⟨fun h8 => ?_, fun _ => lf 0 (Upd.refl _ _) (by decide) (by decide) (by decide)⟩⟩⟩⟩⟩
    refine ⟨_, _, contains_c _ r h0 (by simpa using h8), ?_, never_any⟩
    rintro v w2 ⟨x, rfl, hE⟩
    exact ⟨x, rfl, no, hE, Away.no _, fun _ => lf 6 hE (by decide) (by decide) (by decide), fun _ => lf 0 hE (by decide) (by decide) (by decide)⟩
  have low : ∀ (k : Int), (decide (r ≥ 48) && decide (r ≤ 57)) = false → (decide (r ≥ 97) && decide (r ≤ 122)) = false → r ≤ 90 → k ≠ 3 → k ≠ 2 → k ≠ 5 → ClassR r w (.int .i64 k) w := fun k hd hs hr a1 a2 a3 => by
    have es : smallB r = false := hs
    have ed : digitB r = false := hd
    refine leaf k (Upd.refl _ _) (by rw [es]; simpa using a1) (by rw [ed]; simpa using a2) ?_
    have : (r == 95) = false := by simp; omega
    rw [this]; simpa using a3
  refine vc158 ?_
  refine ⟨fun a1 => ⟨fun a2 => ?_, fun a2 => ?_⟩, fun a1 => ?_⟩
  · simp only [decide_eq_true_eq] at a1 a2
    refine leaf 2 (Upd.refl _ _) ?_ ?_ ?_
    · have : smallB r = false := by simp [smallB]; omega
      rw [this]; rfl
    · have : digitB r = true := by simp [digitB]; omega
      rw [this]; rfl
    · have : (r == 95) = false := by simp; omega
      rw [this]; rfl
  all_goals
    have hd : (decide (r ≥ 48) && decide (r ≤ 57)) = false := by first | simp only [a1, a2, Bool.and_false, Bool.false_and] | simp only [a1, Bool.false_and]
    refine ⟨fun b1 => ⟨fun b2 => ?_, fun b2 => ?_⟩, fun b1 => ?_⟩
    · refine leaf 3 (Upd.refl _ _) ?_ (by rw [show digitB r = false from hd]; rfl) ?_
      · have : smallB r = true := by simp only [smallB, b1, b2, Bool.and_self]
        rw [this]; rfl
      · have : (r == 95) = false := by simp at b1 b2 ⊢; omega
        rw [this]; rfl
    all_goals
      have hs : (decide (r ≥ 97) && decide (r ≤ 122)) = false := by first | simp only [b1, b2, Bool.and_false, Bool.false_and] | simp only [b1, Bool.false_and]
      refine ⟨fun c1 => ⟨fun c2 => low 4 hd hs (by simpa using c2) (by decide) (by decide) (by decide), fun c2 => tail hd hs⟩, fun c1 => tail hd hs⟩
theorem run_get_iter {P : Program} {w : World} {r : Nat} {a : ByteArray} {c : Nat} (h : w.heap[r]? = some (.stringIter a c)) : (getObj r).run P w = .ok (.stringIter a c) w := by
  simp [getObj, Sem.run, h]
theorem run_set_iter {P : Program} {w : World} {r : Nat} {a : ByteArray} {c : Nat} (o : Obj) (h : w.heap[r]? = some (.stringIter a c)) : (setObj r o).run P w = .ok () { w with heap := w.heap.setIfInBounds r o } := by
  have := lt_of_get h
  simp [setObj, Sem.run, h]
theorem lexName_c (a : ByteArray) {w : World} : CallsX E.P 156 #[.string a] w (IsV (.bool (isNameB a)) w) never := by
  refine vc156 ?_
  have hu : E.P.underlying 9 = some .string := by kernel_rfl
  refine ⟨fun v w' => v = .pointer (some ⟨w.heap.size, 0, none⟩) ∧ w' = { w with heap := w.heap.push (.stringIter a 0) }, ?_, ?_⟩
  · refine ⟨_, _, ?_, rfl, rfl⟩
    simp only [Instr.range, Sem.run_bind, run_underlying hu, Result.andThen_ok, Sem.run_pure, run_newObj_alloc]
    rfl
  rintro v w2 ⟨rfl, rfl⟩
  have hE2 : Ext w { w with heap := w.heap.push (.stringIter a 0) } := (Upd.refl w no).push _
  refine ⟨_, rfl, no, hE2, Away.no _, ?_⟩
  refine ⟨fun n w2 => ∃ pos : Nat, w2.heap[w.heap.size]? = some (.stringIter a pos) ∧ n = a.size - pos ∧ (pos = 0 ∨ okName a = nameL ((bytesL a).drop pos)) ∧ Ext w w2, a.size, ⟨0, by simp, rfl, .inl rfl, hE2⟩, ?_⟩
  rintro n _ w3 ⟨pos, hit, rfl, hok, hE3⟩
  have fin : ∀ {w4 : World}, a.size ≤ pos → Ext w w4 → (decide ((a.size : Int) ≥ 1) = true → (decide ((a.size : Int) ≤ 12) = true → ∃ (R1 : Value → World → Prop) (X' : ContX), CallsX E.P 159 (#[.string a]) w4 R1 X' ∧ (∀ v w2, R1 v w2 → ∃ x, v = .bool x ∧ ∃ S, Upd w4 w2 S ∧ Away [] S ∧ IsV (.bool (isNameB a)) w (.bool !x) w2) ∧ ∀ ch w2, X' ch w2 → never ch w2) ∧ (decide ((a.size : Int) ≤ 12) = false → IsV (.bool (isNameB a)) w (.bool false) w4)) ∧ (decide ((a.size : Int) ≥ 1) = false → IsV (.bool (isNameB a)) w (.bool false) w4) := fun hp hE4 => by
    have ho := okName_end hp hok
    rw [isName_eq, ho]
    refine ⟨fun h1 => ⟨fun h2 => ?_, fun h2 => ⟨by simp only [h1, h2, Bool.false_and, Bool.and_false], hE4⟩⟩, fun h1 => ⟨by simp only [h1, Bool.false_and], hE4⟩⟩
    exact callB (isWord_c a) fun w5 hE5 => ⟨by simp only [h1, h2, Bool.true_and], hE4.trans hE5⟩
  have hlt3 := lt_of_get hit
  by_cases hp : pos < a.size
  · obtain ⟨d1, d2, d3, d4, d5⟩ := decode_class a pos
    refine ⟨fun v w' => v = .tuple #[.bool true, .int .i64 pos, .int .i32 ((Utf8.decode a pos).1 : Int)] ∧ w' = { w3 with heap := w3.heap.setIfInBounds w.heap.size (.stringIter a (pos + (Utf8.decode a pos).2)) }, ⟨_, _, ?_, rfl, rfl⟩, ?_⟩
    · simp only [Instr.next, Sem.run_bind, run_get_iter hit, Result.andThen_ok, hp, if_true, run_set_iter _ hit, Sem.run_pure, goInt]
    rintro v w4 ⟨rfl, rfl⟩
    have hU4 : Upd w3 { w3 with heap := w3.heap.setIfInBounds w.heap.size (.stringIter a (pos + (Utf8.decode a pos).2)) } (fun x => x = w.heap.size) :=
      ⟨rfl, rfl, rfl, by simp, fun k hk hS => by simp [Array.getElem?_setIfInBounds_ne (fun e => hS e.symm)]⟩
    have hE4 := hE3.step hU4 (fun b hb => by omega)
    refine ⟨_, hU4, Away.nil _, .inr ⟨pos, _, rfl, fun _ => ?_, fun h => nomatch h⟩⟩
    generalize hw4 : ({ w3 with heap := w3.heap.setIfInBounds w.heap.size (.stringIter a (pos + (Utf8.decode a pos).2)) } : World) = w4 at hU4 hE4
    have hit4 : w4.heap[w.heap.size]? = some (.stringIter a (pos + (Utf8.decode a pos).2)) := by rw [← hw4]; simp [hlt3]
    refine ⟨_, _, class_c _ (by omega), ?_, never_any⟩
    rintro v w5 ⟨k, rfl, hE5, k3, k2, k5⟩
    rw [d1] at k3; rw [d2] at k2; rw [d3] at k5
    have hE05 := hE4.trans hE5
    have bad : smallB (byteAt a pos) = false → (pos = 0 ∨ (digitB (byteAt a pos) = false ∧ (byteAt a pos == 95) = false)) → IsV (.bool (isNameB a)) w (.bool false) w5 := fun h1 h2 => ⟨by rw [isName_eq, okName_bad hp hok h1 h2]; simp, hE05⟩
    have good : (smallB (byteAt a pos) = true ∨ (pos ≠ 0 ∧ (digitB (byteAt a pos) = true ∨ (byteAt a pos == 95) = true))) → ∃ n2 : Nat, (∃ pos : Nat, w5.heap[w.heap.size]? = some (.stringIter a pos) ∧ n2 = a.size - pos ∧ (pos = 0 ∨ okName a = nameL ((bytesL a).drop pos)) ∧ Ext w w5) ∧ n2 < a.size - pos := fun hg => by
      have h1 : (Utf8.decode a pos).2 = 1 := d5 (hg.elim .inl fun h => .inr h.2)
      rw [h1] at hit4
      refine ⟨a.size - (pos + 1), ⟨pos + 1, by rw [hE5.keep _ (lt_of_get hit4) (fun h => h)]; exact hit4, rfl, .inr (okName_step hp hok hg), hE05⟩, by omega⟩
    refine ⟨k, rfl, no, hE5, Away.no _, fun e3 => ?_, fun e3 => good (.inl (by rw [k3] at e3; simpa using e3))⟩
    have f3 : smallB (byteAt a pos) = false := by rw [k3] at e3; simpa using e3
    refine ⟨fun e0 => bad f3 (.inl (by simpa using e0)), fun e0 => ⟨fun e2 => ⟨fun e5 => bad f3 (.inr ⟨by rw [k2] at e2; simpa using e2, by rw [k5] at e5; simpa using e5⟩), fun e5 => good (.inr ⟨by simp at e0; omega, .inr (by rw [k5] at e5; simpa using e5)⟩)⟩, fun e2 => good (.inr ⟨by simp at e0; omega, .inl (by rw [k2] at e2; simpa using e2)⟩)⟩⟩
  · refine ⟨fun v w' => v = .tuple #[.bool false] ∧ w' = w3, ⟨_, _, ?_, rfl, rfl⟩, ?_⟩
    · simp only [Instr.next, Sem.run_bind, run_get_iter hit, Result.andThen_ok, hp, if_false, Sem.run_pure]
    rintro v w4 ⟨rfl, rfl⟩
    exact ⟨no, Upd.refl _ _, Away.no _, .inl ⟨rfl, (fun h => nomatch h), fun _ => fin (by omega) hE3⟩⟩
end
section
open Go Go.Vx Go.Proofs
set_option maxRecDepth 100000
end
section
open Go Go.Vx Go.Proofs
variable {b g h : Nat} {zs : List Int} {C : Option Addr} {cc : Nat}
def KC (b g h : Nat) (zs : List Int) (C : Option Addr) (cc : Nat) (kf : Int → Int → WS → Nd → Int × WS) (n : Nd) : Prop :=
  ∀ {w : World} {A : Option Addr} {l c : Nat} (a q : Int) (st : WS), Wst w b g h zs C cc st → NdsR w (Fw b g h) n.kids A l c →
    CallsX E.P 75 #[.pointer (some ⟨b, 0, none⟩), ndA n A l c, .int .i64 a, .int .i64 q] w (WR b g h zs C cc w (.int .i64 (kf a q st n).1) (kf a q st n).2) never
def SC (b g h : Nat) (zs : List Int) (C : Option Addr) (cc : Nat) (kf : Int → Int → WS → Nd → Int × WS) (n : Nd) : Prop :=
  ∀ {w : World} {A : Option Addr} {l c : Nat} (a q : Int) (st : WS), Wst w b g h zs C cc st → NdsR w (Fw b g h) n.kids A l c →
    CallsX E.P 125 #[.pointer (some ⟨b, 0, none⟩), ndA n A l c, .int .i64 a, .int .i64 q] w (WR b g h zs C cc w (.tuple #[]) (setW (kf a q) st n)) never
end
section
open Go Go.Vx Go.Proofs
variable {b g h : Nat} {zs : List Int} {C : Option Addr} {cc : Nat}
end
section
open Go Go.Vx Go.Proofs
variable {b g h : Nat} {zs : List Int} {C : Option Addr} {cc : Nat}
theorem mustK_c {w : World} {st : WS} {t : Bool} (hw : Lst w b g h zs C cc st) :
    CallsX E.P 109 #[.pointer (some ⟨b, 0, none⟩), .bool t] w (LU b g h zs C cc w (if t then some st else none)) (LX b g h w (if t then some st else none)) := by
  refine vc109 hw.1 ⟨fun ht => ⟨by simp at ht; simp [ht], rfl, Upd.refl _ _⟩, fun ht hh => ⟨st, by simp at ht; simp [ht], rfl, ⟨hh, hw.2⟩, Upd.refl _ _⟩⟩
theorem callM {α : Type} {w0 w : World} {ids : List Nat} {st : WS} {t : Bool} {rc : Option α} (hw : Lst w b g h zs C cc st) (h0 : Upd w0 w (S3 b g h)) (haw : Away ids (S3 b g h)) (hn : t = false → rc = none)
    {K : Option Addr → Nat → Nat → Option Nat → Option Nat → Int → World → Prop}
    (k : ∀ w2, t = true → LMem w2 b g h zs C cc st.ks st.ts → Upd w w2 (S3 b g h) → K C zs.length cc (some g) (some h) st.parts w2) :
    ∃ (R : Value → World → Prop) (X' : ContX), CallsX E.P 109 #[.pointer (some ⟨b, 0, none⟩), .bool t] w R X' ∧ (∀ v w2, R v w2 → ∃ y : Value, v = y ∧ ∃ S, Upd w w2 S ∧ Away ids S ∧ ∃ a1 n c1 r1 r2, ∃ x, w2.heap[b]? = some (Obj.cells #[.slice a1 n c1, .map r1, .map r2, .int .i64 x] 103) ∧ 4 = 4 ∧ K a1 n c1 r1 r2 x w2) ∧ ∀ ch w2, X' ch w2 → LX b g h w0 rc ch w2 := by
  refine callLU (mustK_c hw) h0 haw (fun e => hn ?_) (fun s2 w2 he hw2 hU2 => ?_)
  · cases t with
    | false => rfl
    | true => cases e
  · cases t with
    | false => cases he
    | true => cases he; exact k w2 rfl hw2.2 hU2
def KL (b g h : Nat) (zs : List Int) (C : Option Addr) (cc : Nat) (kf : Int → Int → WS → Nd → Option (Int × WS)) (n : Nd) : Prop :=
  ∀ {w : World} {A : Option Addr} {l c : Nat} (a q : Int) (st : WS), Lst w b g h zs C cc st → NdsR w (Fw b g h) n.kids A l c →
    CallsX E.P 79 #[.pointer (some ⟨b, 0, none⟩), ndA n A l c, .int .i64 a, .int .i64 q] w (LR b g h zs C cc w (kf a q st n)) (LX b g h w (kf a q st n))
theorem ofK_c {kf : Int → Int → WS → Nd → Option (Int × WS)} {n : Nd} (hk : KL b g h zs C cc kf n) {w : World} {A : Option Addr} {l c : Nat} (a q x : Int) (st : WS) (hw : Lst w b g h zs C cc st) (hr : NdsR w (Fw b g h) n.kids A l c) :
    CallsX E.P 137 #[.pointer (some ⟨b, 0, none⟩), ndA n A l c, .int .i64 x, .int .i64 a, .int .i64 q] w (LU b g h zs C cc w (ofL (kf a q st n) x)) (LX b g h w (ofL (kf a q st n) x)) := by
  obtain ⟨hb, hg, hh⟩ := hw.lt
  refine vc137 hw.1 ?_
  intro id hid w1 hE1 hi hh1
  refine callL (hk a q st ⟨hh1, hw.2.ext hE1⟩ (hr.ext hE1)) (ext_s3 hE1) (away_s3 hb hg hh (by simp; omega)) (fun e => by rw [e]; rfl) fun y s1 w2 he hw2 hU2 hh2 => ?_
  have hs2 := hU2.size
  have hs1 := hE1.size
  refine callM (t := y == x) ⟨hh2, hw2.2⟩ ((ext_s3 hE1).t3 hU2) (away_s3 hb hg hh (by simp; omega)) (fun e => by rw [he]; simp only [ofL, e, Bool.false_eq_true, if_false]) fun w3 ht hM3 hU3 hh3 => ?_
  exact ⟨s1, by rw [he]; simp only [ofL, ht, if_true], rfl, ⟨hh3, hM3⟩, ((ext_s3 hE1).t3 hU2).t3 hU3⟩
theorem test_c (t : Nat) (ht : t = 127 ∨ t = 128 ∨ t = 129 ∨ t = 131 ∨ t = 134) (v a : Int) {w : World} : CallsX E.P t #[.int .i64 v] w (IsV (.bool (testB t v a)) w) never := by
  have r := Upd.refl w no
  rcases ht with rfl | rfl | rfl | rfl | rfl
  · exact vc127 ⟨rfl, r⟩
  · refine vc128 ⟨fun h => ⟨by simp only [testB, h, Bool.true_or], r⟩, fun h => ⟨by simp only [testB, h, Bool.false_or], r⟩⟩
  · exact vc129 ⟨rfl, r⟩
  · exact vc131 ⟨rfl, r⟩
  · refine vc134 ⟨fun h => ⟨by simp only [testB, h, Bool.true_and], r⟩, fun h => ⟨by simp only [testB, h, Bool.false_and], r⟩⟩
theorem around_c {w : World} {ab : Nat} (v a : Int) (hh : w.heap[ab]? = some (.cells #[.int .i64 a] 3 (0, 0))) : CallsX E.P 130 #[.int .i64 v, .pointer (some ⟨ab, 0, none⟩)] w (IsV (.bool (testB 130 v a)) w) never := by
  have r := Upd.refl w no
  refine vc130 hh ⟨fun h _ => ⟨by simp only [testB, h, Bool.true_and], r⟩, fun h _ => ⟨by simp only [testB, h, Bool.false_and], r⟩⟩
theorem alikeK_c {kf : Int → Int → WS → Nd → Option (Int × WS)} {k v : Int} {s : ByteArray} {kids : List Nd} (h2 : 2 ≤ kids.length) (hk0 : KL b g h zs C cc kf (kids.getD 0 nd0)) (hk1 : KL b g h zs C cc kf (kids.getD 1 nd0))
    {w : World} {A : Option Addr} {l c : Nat} (a q : Int) (st : WS) (hw : Lst w b g h zs C cc st) (hr : NdsR w (Fw b g h) kids A l c) :
    CallsX E.P 132 #[.pointer (some ⟨b, 0, none⟩), ndA (.mk k v s kids) A l c, .int .i64 a, .int .i64 q] w (LR b g h zs C cc w (alikeL (kf a q) st v kids)) (LX b g h w (alikeL (kf a q) st v kids)) := by
  obtain ⟨hb, hg, hh⟩ := hw.lt
  dsimp only [ndA, Nd.k, Nd.n, Nd.s, Nd.kids]
  refine vc132 hw.1 ?_
  intro id hid w1 hE1 hi hh1
  refine callM (t := v == 0) ⟨hh1, hw.2.ext hE1⟩ (ext_s3 hE1) (away_s3 hb hg hh (by simp; omega)) (fun e => by simp only [alikeL, e, Bool.false_eq_true, if_false]) fun w2 ht hM2 hU2 => ?_
  have hU02 := (ext_s3 hE1).t3 hU2
  have hs2 := hU02.size
  refine hr.idxL 1 rfl (by omega) fun ad ha => hr.idxL 0 rfl (by omega) fun ad1 ha1 => ?_
  have hv : alikeL (kf a q) st v kids = (kf a q st (kids.getD 0 nd0)).bind fun p => (ofL (kf a q p.2 (kids.getD 1 nd0)) p.1).map fun s2 => (2, s2) := by rw [alikeL, if_pos ht]
  have last : ∀ {w3 w4 : World} {A1 : Option Addr} {l1 c1 : Nat} {y : Int} {s1 : WS}, kf a q st (kids.getD 0 nd0) = some (y, s1) → Lst w4 b g h zs C cc s1 → Upd w w3 (S3 b g h) → Upd w3 w4 (S3 b g h) → NdsR w4 (Fw b g h) (kids.getD 1 nd0).kids A1 l1 c1 → w4.heap[b]? = some (.cells (lcells zs C cc g h s1) 103 (0, 0)) →
      ∃ (R : Value → World → Prop) (X' : ContX), CallsX E.P 137 #[.pointer (some ⟨b, 0, none⟩), ndA (kids.getD 1 nd0) A1 l1 c1, .int .i64 y, .int .i64 a, .int .i64 q] w4 R X' ∧ (∀ u w2, R u w2 → ∃ y : Value, u = y ∧ ∃ S, Upd w4 w2 S ∧ Away [id] S ∧ ∃ a1 n c1 r1 r2, ∃ x, w2.heap[b]? = some (Obj.cells #[.slice a1 n c1, .map r1, .map r2, .int .i64 x] 103) ∧ 4 = 4 ∧
        (w2.heap[b]? = some (Obj.cells #[.slice a1 n c1, .map r1, .map r2, .int .i64 x] 103) → LR b g h zs C cc w (alikeL (kf a q) st v kids) (.int .i64 2) w2)) ∧ ∀ ch w2, X' ch w2 → LX b g h w (alikeL (kf a q) st v kids) ch w2 := fun he hw4 h03 h34 q1 hh4 => by
    refine callLU (ofK_c hk1 a q _ _ hw4 q1) (h03.t3 h34) (away_s3 hb hg hh (by simp; omega)) (fun e => by rw [hv, he]; simp only [Option.bind_some, e, Option.map_none]) fun s2 w5 he5 hw5 hU5 hh5 => ?_
    exact ⟨(2, s2), by rw [hv, he]; simp only [Option.bind_some, he5, Option.map_some], rfl, ⟨hh5, hw5.2⟩, (h03.t3 h34).t3 hU5⟩
  have first : ∀ {w3 : World} {A1 : Option Addr} {l1 c1 : Nat}, Ext w2 w3 → NdsR w3 (Fw b g h) (kids.getD 0 nd0).kids A1 l1 c1 → w3.heap[b]? = some (.cells (lcells zs C cc g h st) 103 (0, 0)) →
      CallsX E.P 79 #[.pointer (some ⟨b, 0, none⟩), ndA (kids.getD 0 nd0) A1 l1 c1, .int .i64 a, .int .i64 q] w3 (LR b g h zs C cc w3 (kf a q st (kids.getD 0 nd0))) (LX b g h w3 (kf a q st (kids.getD 0 nd0))) := fun hE q0 hh3 => hk0 a q st ⟨hh3, hM2.ext hE⟩ q0
  have hnone : kf a q st (kids.getD 0 nd0) = none → alikeL (kf a q) st v kids = none := fun e => by rw [hv, e]; rfl
  have aw := away_s3 (b := b) (g := g) (h := h) (ids := [id]) hb hg hh (by simp; omega)
  refine ⟨fun w3 hE3 => ((hr.s3 hU02).ext hE3).cellL ha 1 rfl (by omega) (d := nd0) fun A1 l1 c1 q1 => ((hr.s3 hU02).ext hE3).cellL ha1 0 rfl (by omega) (d := nd0) fun A0 l0 c0 q0 hh3 => ?_, fun w3 hE3 => ((hr.s3 hU02).ext hE3).cellL ha1 0 rfl (by omega) (d := nd0) fun A0 l0 c0 q0 => ⟨((hr.s3 hU02).ext hE3).cellL ha 1 rfl (by omega) (d := nd0) fun A1 l1 c1 q1 hh3 => ?_, fun hh3 => ?_⟩⟩
  · exact callL (first hE3 q0 hh3) (hU02.t3 (ext_s3 hE3)) aw hnone fun y s1 w4 he hw4 hU4 hh4 => last he ⟨hh4, hw4.2⟩ (hU02.t3 (ext_s3 hE3)) hU4 (q1.s3 hU4) hh4
  · exact callL (first hE3 q0 hh3) (hU02.t3 (ext_s3 hE3)) aw hnone fun y s1 w4 he hw4 hU4 hh4 => last he ⟨hh4, hw4.2⟩ (hU02.t3 (ext_s3 hE3)) hU4 (q1.s3 hU4) hh4
  · exact callL (first hE3 q0 hh3) (hU02.t3 (ext_s3 hE3)) aw hnone fun y s1 w4 he hw4 hU4 => (((hr.s3 hU02).ext hE3).s3 hU4).cellL ha 1 rfl (by omega) (d := nd0) fun A1 l1 c1 q1 hh4 => last he ⟨hh4, hw4.2⟩ (hU02.t3 (ext_s3 hE3)) hU4 q1 hh4
theorem choiceK_c {kf : Int → Int → WS → Nd → Option (Int × WS)} {k v : Int} {s : ByteArray} {kids : List Nd} (h3 : 3 ≤ kids.length) (hk0 : KL b g h zs C cc kf (kids.getD 0 nd0)) (hk1 : KL b g h zs C cc kf (kids.getD 1 nd0)) (hk2 : KL b g h zs C cc kf (kids.getD 2 nd0))
    {w : World} {A : Option Addr} {l c : Nat} (a q : Int) (st : WS) (hw : Lst w b g h zs C cc st) (hr : NdsR w (Fw b g h) kids A l c) :
    CallsX E.P 133 #[.pointer (some ⟨b, 0, none⟩), ndA (.mk k v s kids) A l c, .int .i64 a, .int .i64 q] w (LR b g h zs C cc w (choiceL (kf a q) st v kids)) (LX b g h w (choiceL (kf a q) st v kids)) := by
  obtain ⟨hb, hg, hh⟩ := hw.lt
  dsimp only [ndA, Nd.k, Nd.n, Nd.s, Nd.kids]
  refine vc133 hw.1 ?_
  intro id hid w1 hE1 hi hh1
  refine callM (t := v == 0) ⟨hh1, hw.2.ext hE1⟩ (ext_s3 hE1) (away_s3 hb hg hh (by simp; omega)) (fun e => by simp only [choiceL, e, Bool.false_eq_true, if_false]) fun w2 ht hM2 hU2 => ?_
  have hU02 := (ext_s3 hE1).t3 hU2
  have hs2 := hU02.size
  have hv : choiceL (kf a q) st v kids = (ofL (kf a q st (kids.getD 0 nd0)) 2).bind fun s1 => (kf a q s1 (kids.getD 1 nd0)).bind fun p => (ofL (kf a q p.2 (kids.getD 2 nd0)) p.1).map fun s3 => (p.1, s3) := by rw [choiceL, if_pos ht]
  refine hr.idxL 0 rfl (by omega) fun ad ha => (hr.s3 hU02).cellL ha 0 rfl (by omega) (d := nd0) fun A0 l0 c0 q0 hh2 => ?_
  refine callLU (ofK_c hk0 a q 2 st ⟨hh2, hM2⟩ q0) hU02 (away_s3 hb hg hh (by simp; omega)) (fun e => by rw [hv, e]; rfl) fun s1 w3 he3 hw3 hU3 => ?_
  have hU03 := hU02.t3 hU3
  refine hr.idxL 1 rfl (by omega) fun ad1 ha1 => (hr.s3 hU03).cellL ha1 1 rfl (by omega) (d := nd0) fun A1 l1 c1 q1 hh3 => ?_
  refine callL (hk1 a q s1 ⟨hh3, hw3.2⟩ q1) hU03 (away_s3 hb hg hh (by simp; omega)) (fun e => by rw [hv, he3]; simp only [Option.bind_some, e, Option.bind_none]) fun y s2 w4 he4 hw4 hU4 => ?_
  have hU04 := hU03.t3 hU4
  refine hr.idxL 2 rfl (by omega) fun ad2 ha2 => (hr.s3 hU04).cellL ha2 2 rfl (by omega) (d := nd0) fun A2 l2 c2 q2 hh4 => ?_
  refine callLU (ofK_c hk2 a q y s2 ⟨hh4, hw4.2⟩ q2) hU04 (away_s3 hb hg hh (by simp; omega)) (fun e => by rw [hv, he3]; simp only [Option.bind_some, he4, e, Option.map_none]) fun s3 w5 he5 hw5 hU5 hh5 => ?_
  exact ⟨(y, s3), by rw [hv, he3]; simp only [Option.bind_some, he4, he5, Option.map_some], rfl, ⟨hh5, hw5.2⟩, hU04.t3 hU5⟩
end
section
open Go Go.Vx Go.Proofs
variable {b g h : Nat} {zs : List Int} {C : Option Addr} {cc : Nat}
theorem loopK {α : Type} {kf : Int → Int → WS → Nd → Option (Int × WS)} {K a q : Int} {kids : List Nd} {A : Option Addr} {l c : Nat} (ids : List Nat) {w0 w : World} {s0 : WS} {rc : Option α} {v : Value} {R : Value → World → Prop}
    (hk : ∀ j (_ : j < kids.length), KL b g h zs C cc kf kids[j]) (hr : NdsR w0 (Fw b g h) kids A l c) (hl : l < 2 ^ 48) (hlt : b < w0.heap.size ∧ g < w0.heap.size ∧ h < w0.heap.size) (hids : ∀ i ∈ ids, w0.heap.size ≤ i)
    (h0 : Upd w0 w (S3 b g h)) (hM : LMem w b g h zs C cc s0.ks s0.ts) (hn : lookAll (kf a q) K s0 kids = none → rc = none)
    (fin : ∀ (s1 : WS) (w2 : World), lookAll (kf a q) K s0 kids = some s1 → LMem w2 b g h zs C cc s1.ks s1.ts → Upd w0 w2 (S3 b g h) → w2.heap[b]? = some (.cells (lcells zs C cc g h s1) 103 (0, 0)) → R v w2) :
    ∃ (I : Int → Option Addr → Nat → Nat → Option Nat → Option Nat → Int → World → Prop), ∃ (m : Int → Option Addr → Nat → Nat → Option Nat → Option Nat → Int → Nat), I 0 C zs.length cc (some g) (some h) s0.parts w ∧
      ∀ (_ : Nat → Value) (x : Int) (a1 : Option Addr) (n c1 : Nat) (r1 r2 : Option Nat) (p : Int) (w2 : World), I x a1 n c1 r1 r2 p w2 →
        (decide (x < (l : Int)) = true → (0 ≤ x ∧ x < (l : Int)) ∧ ∃ ad, A = some ad ∧ ∃ x4 x5, ∃ x6 a2, ∃ n2 c2, CellsIn w2 (Addr.add ad (Int.toNat x * 4)) [.int .i64 x4, .int .i64 x5, .string x6, .slice a2 n2 c2] ∧ ∀ id1, w2.heap.size ≤ id1 → ∀ w3, Upd w2 w3 (setOf []) → id1 < w3.heap.size →
          w3.heap[b]? = some (Obj.cells (#[.slice a1 n c1, Value.map r1, Value.map r2, .int .i64 p]) 103) → ∃ (R1 : Value → World → Prop), ∃ (X' : ContX), CallsX E.P 137 (#[.pointer (some (Addr.mk b 0 none)), .agg (#[.int .i64 x4, .int .i64 x5, .string x6, .slice a2 n2 c2]), .int .i64 K, .int .i64 a, .int .i64 q]) w3 R1 X' ∧
            (∀ (u : Value) (w4 : World), R1 u w4 → ∃ (u1 : Value), u = u1 ∧ ∃ S, Upd w3 w4 S ∧ Away (ids ++ [id1]) S ∧ ∃ a3 n3, ∃ c3 r3, ∃ r4 p2, w4.heap[b]? = some (Obj.cells (#[.slice a3 n3 c3, Value.map r3, Value.map r4, .int .i64 p2]) 103) ∧ 4 = 4 ∧ I (w64 (x + 1)) a3 n3 c3 r3 r4 p2 w4 ∧ m (w64 (x + 1)) a3 n3 c3 r3 r4 p2 < m x a1 n c1 r1 r2 p) ∧
            ∀ (ch : List PanicEntry) (w5 : World), X' ch w5 → LX b g h w0 rc ch w5) ∧
        (decide (x < (l : Int)) = false → w2.heap[b]? = some (Obj.cells (#[.slice a1 n c1, Value.map r1, Value.map r2, .int .i64 p]) 103) → R v w2) := by
  obtain ⟨hb, hg, hh⟩ := hlt
  obtain rfl := hr.len
  refine ⟨fun x a1 n c1 r1 r2 p w2 => ∃ (j : Nat) (s : WS), x = j ∧ j ≤ kids.length ∧ (C = a1 ∧ n = zs.length ∧ cc = c1 ∧ r1 = some g ∧ r2 = some h ∧ p = s.parts) ∧ LMem w2 b g h zs C cc s.ks s.ts ∧ Upd w0 w2 (S3 b g h) ∧ lookAll (kf a q) K s (kids.drop j) = lookAll (kf a q) K s0 kids,
    fun x _ _ _ _ _ _ => ((kids.length : Int) - x).toNat, ⟨0, s0, rfl, Nat.zero_le _, ⟨rfl, rfl, rfl, rfl, rfl, rfl⟩, hM, h0, rfl⟩, ?_⟩
  rintro _ x a1 n c1 r1 r2 p w2 ⟨j, s, rfl, hj, ⟨rfl, rfl, rfl, rfl, rfl, rfl⟩, hM2, hU2, hL⟩
  refine ⟨fun hlt => ?_, fun hlt hh2 => ?_⟩
  · have hlt : j < kids.length := by simpa using hlt
    refine hr.idx hlt fun ad ha => (hr.s3 hU2).cell ha hlt fun A1 l1 c1 q1 id1 hid1 w3 hE3 hi3 hh3 => ?_
    rw [drop_cons hlt, lookAll] at hL
    have hs2 := hU2.size
    refine callLU (ofK_c (hk j hlt) a q K s ⟨hh3, hM2.ext hE3⟩ (q1.ext hE3)) (hU2.t3 (ext_s3 hE3)) (away_s3 hb hg hh fun i hi => ?_) (fun e => hn (by rw [← hL, e]; rfl)) fun s1 w4 he hw4 hU4 => ⟨⟨j + 1, s1, w64_succ (by omega), hlt, ⟨rfl, rfl, rfl, rfl, rfl, rfl⟩, hw4.2, (hU2.t3 (ext_s3 hE3)).t3 hU4, by rw [← hL, he]; rfl⟩, ?_⟩
    · rcases List.mem_append.1 hi with hi | hi
      · exact hids i hi
      · simp only [List.mem_singleton] at hi; omega
    · have := w64_succ (j := j) (by omega)
      dsimp only
      rw [this]; exact mea_succ hlt
  · have hlt : ¬ j < kids.length := by simpa using hlt
    rw [List.drop_eq_nil_of_le (by omega), lookAll] at hL
    exact fin s w2 hL.symm hM2 hU2 hh2
def SLk (b g h : Nat) (zs : List Int) (C : Option Addr) (cc : Nat) (kf : Int → Int → WS → Nd → Option (Int × WS)) (n : Nd) : Prop :=
  ∀ {w : World} {A : Option Addr} {l c : Nat} (a q : Int) (st : WS), Lst w b g h zs C cc st → NdsR w (Fw b g h) n.kids A l c →
    CallsX E.P 149 #[.pointer (some ⟨b, 0, none⟩), ndA n A l c, .int .i64 a, .int .i64 q] w (LU b g h zs C cc w (setLk (kf a q) st n)) (LX b g h w (setLk (kf a q) st n))
theorem lst_put {b g h : Nat} {zs : List Int} {C : Option Addr} {cc : Nat} {w w' : World} {st st' : WS} (q : LMem w b g h zs C cc st.ks st.ts) (k : Upd w w' (setOf [b])) (hh : w'.heap[b]? = some (.cells (lcells zs C cc g h st') 103 (0, 0))) (h1 : st'.ks = st.ks) (h2 : st'.ts = st.ts) : Lst w' b g h zs C cc st' :=
  ⟨hh, by rw [h1, h2]; exact q.upd k upd_b⟩
theorem setK_c {kf : Int → Int → WS → Nd → Option (Int × WS)} {n : Nd} (hk : ∀ j (_ : j < n.kids.length), KL b g h zs C cc kf n.kids[j]) : SLk b g h zs C cc kf n := by
  intro w A l c a q st hw hr
  obtain ⟨hb, hg, hh⟩ := hw.lt
  obtain ⟨k, v, s, kids⟩ := n
  have hl := hr.lt
  have hlen := hr.len
  dsimp only [ndA, Nd.k, Nd.n, Nd.s, Nd.kids] at *
  have hz : ∀ x : Int, ((l : Int) == x) = ((kids.length : Int) == x) := fun x => by rw [hlen]
  refine vc149 hw.1 ?_
  intro id hid
  have aw : ∀ {S : List Nat}, (∀ i ∈ S, w.heap.size ≤ i) → Away S (S3 b g h) := fun hS => away_s3 hb hg hh hS
  have hi1 : ∀ i ∈ [id], w.heap.size ≤ i := by simp; omega
  refine ⟨fun a1 n1 c1 r1 r2 x w2 => (C = a1 ∧ n1 = zs.length ∧ cc = c1 ∧ r1 = some g ∧ r2 = some h ∧ x = st.inc.parts) ∧ (decide (w64 (st.parts + 1) ≤ 4096) && v == 0) = true ∧ LMem w2 b g h zs C cc st.ks st.ts ∧ Upd w w2 (S3 b g h), ⟨fun hp w1 hU1 _ hh1 => ?_, fun hp w1 hU1 _ hh1 => ?_⟩, ?_⟩
  · refine callM (st := st.inc) (t := v == 0) (lst_put (st := st) hw.2 hU1 hh1 rfl rfl) (upd_s3 hU1) (aw hi1) (fun e => by simp only [setLk, hp, e, Bool.and_false, Bool.not_false, if_true]) fun w2 ht hM2 hU2 => ?_
    exact ⟨⟨rfl, rfl, rfl, rfl, rfl, rfl⟩, by simp only [hp, ht, Bool.and_self], hM2, (upd_s3 hU1).t3 hU2⟩
  · exact callM (st := st.inc) (t := false) (lst_put (st := st) hw.2 hU1 hh1 rfl rfl) (upd_s3 hU1) (aw hi1) (fun e => by simp only [setLk, hp, Bool.false_and, Bool.not_false, if_true]) fun w2 ht _ _ => by cases ht
  rintro _ _ _ _ _ _ _ w2 ⟨⟨rfl, rfl, rfl, rfl, rfl, rfl⟩, hc, hM2, hU2⟩
  have hs2 := hU2.size
  generalize hres : setLk (kf a q) st (.mk k v s kids) = res
  rw [setLk, hc] at hres
  simp only [Bool.not_true, Bool.false_eq_true, if_false] at hres
  refine ⟨fun a1 n1 c1 r1 r2 x w3 => (C = a1 ∧ n1 = zs.length ∧ cc = c1 ∧ r1 = some g ∧ r2 = some h ∧ x = st.inc.parts) ∧ (if strEq s (ByteArray.mk #[]) then lookAll (kf a q) 3 st.inc kids else none) = res ∧ LMem w3 b g h zs C cc st.ks st.ts ∧ Upd w w3 (S3 b g h), ⟨fun e23 => ?_, fun e23 => ?_⟩, ?_⟩
  · simp only [e23, if_true] at hres
    refine callB (lexName_c s) fun w3 hE3 => ⟨fun hx hh3 => ?_, fun hx hh3 => ?_⟩
    · refine callM (st := st.inc) (t := (l : Int) == 0) ⟨hh3, hM2.ext hE3⟩ (hU2.t3 (ext_s3 hE3)) (aw hi1) (fun e => by rw [← hres, hx, ← hz, e]; rfl) fun w4 ht hM4 hU4 hh4 => ?_
      exact ⟨st.inc, by rw [← hres, hx, ← hz, ht]; rfl, rfl, ⟨hh4, hM4⟩, (hU2.t3 (ext_s3 hE3)).t3 hU4⟩
    · exact callM (st := st.inc) (t := false) ⟨hh3, hM2.ext hE3⟩ (hU2.t3 (ext_s3 hE3)) (aw hi1) (fun e => by rw [← hres, hx]; rfl) fun w4 ht _ _ => by cases ht
  · simp only [e23, Bool.false_eq_true, if_false] at hres
    refine ⟨fun e22 hh2 => ?_, fun e22 => ⟨fun e24 hh2 => ?_, fun e24 => ⟨fun e25 => ?_, fun e25 hh2 => ?_⟩⟩⟩
    · simp only [e22, if_true] at hres
      refine callM (st := st.inc) (t := (l : Int) == 0) ⟨hh2, hM2⟩ hU2 (aw hi1) (fun e => by rw [← hres, ← hz, e]; rfl) fun w4 ht hM4 hU4 => ?_
      exact ⟨⟨rfl, rfl, rfl, rfl, rfl, rfl⟩, by rw [← hres, ← hz, ht]; simp only [Bool.true_and], hM4, hU2.t3 hU4⟩
    · simp only [e22, e24, Bool.false_eq_true, if_false, if_true] at hres
      refine callM (st := st.inc) (t := (l : Int) == 1) ⟨hh2, hM2⟩ hU2 (aw hi1) (fun e => by rw [← hres, ← hz, e]; rfl) fun w4 ht hM4 hU4 => ?_
      exact ⟨⟨rfl, rfl, rfl, rfl, rfl, rfl⟩, by rw [← hres, ← hz, ht]; simp only [Bool.true_and], hM4, hU2.t3 hU4⟩
    · simp only [e22, e24, e25, Bool.false_eq_true, if_false, Bool.true_and] at hres
      exact ⟨⟨rfl, rfl, rfl, rfl, rfl, rfl⟩, hres, hM2, hU2⟩
    · simp only [e22, e24, e25, Bool.false_eq_true, if_false, Bool.false_and] at hres
      exact callM (st := st.inc) (t := false) ⟨hh2, hM2⟩ hU2 (aw hi1) (fun e => hres.symm) fun w4 ht _ _ => by cases ht
  rintro _ _ _ _ _ _ _ w3 ⟨⟨rfl, rfl, rfl, rfl, rfl, rfl⟩, hc2, hM3, hU3⟩ hh3
  refine callM (st := st.inc) (t := strEq s (ByteArray.mk #[])) ⟨hh3, hM3⟩ hU3 (aw hi1) (fun e => by rw [← hc2, e]; rfl) fun w4 ht hM4 hU4 => ?_
  rw [ht, if_pos rfl] at hc2
  exact loopK (s0 := st.inc) [id] hk hr hl ⟨hb, hg, hh⟩ hi1 (hU3.t3 hU4) hM4 (fun e => by rw [← hc2, e]) fun s1 w5 he hM5 hU5 hh5 => ⟨s1, by rw [← hc2, he], rfl, ⟨hh5, hM5⟩, hU5⟩
end
section
open Go Go.Vx Go.Proofs
variable {b g h : Nat} {zs : List Int} {C : Option Addr} {cc : Nat}
theorem quantK_c {kf : Int → Int → WS → Nd → Option (Int × WS)} {k v : Int} {s : ByteArray} {kids : List Nd} (h2 : 2 ≤ kids.length) (hs0 : SLk b g h zs C cc kf (kids.getD 0 nd0)) (hk1 : KL b g h zs C cc kf (kids.getD 1 nd0))
    {w : World} {A : Option Addr} {l c : Nat} (a q : Int) (st : WS) (hw : Lst w b g h zs C cc st) (hr : NdsR w (Fw b g h) kids A l c) :
    CallsX E.P 135 #[.pointer (some ⟨b, 0, none⟩), ndA (.mk k v s kids) A l c, .int .i64 a, .int .i64 q] w (LR b g h zs C cc w (quantL kf st v (kids.getD 0 nd0) (kids.getD 1 nd0) a q)) (LX b g h w (quantL kf st v (kids.getD 0 nd0) (kids.getD 1 nd0) a q)) := by
  obtain ⟨hb, hg, hh⟩ := hw.lt
  dsimp only [ndA, Nd.k, Nd.n, Nd.s, Nd.kids]
  refine vc135 hw.1 ?_
  intro id hid
  have aw : Away [id] (S3 b g h) := away_s3 hb hg hh (by simp; omega)
  generalize hres : quantL kf st v (kids.getD 0 nd0) (kids.getD 1 nd0) a q = res
  rw [quantL] at hres
  refine ⟨fun a1 n1 c1 r1 r2 x w2 => (C = a1 ∧ n1 = zs.length ∧ cc = c1 ∧ r1 = some g ∧ r2 = some h ∧ x = st.parts) ∧ (decide (v ≥ 1) && decide (v ≤ 6) && decide (q < 4)) = true ∧ LMem w2 b g h zs C cc st.ks st.ts ∧ Upd w w2 (S3 b g h), ⟨fun h1 => ⟨fun h6 w1 hE1 _ hh1 => ?_, fun h6 w1 hE1 _ hh1 => ?_⟩, fun h1 w1 hE1 _ hh1 => ?_⟩, ?_⟩
  · refine callM (st := st) (t := decide (q < 4)) ⟨hh1, hw.2.ext hE1⟩ (ext_s3 hE1) aw (fun e => by rw [← hres, h1, h6, e]; rfl) fun w2 ht hM2 hU2 => ?_
    exact ⟨⟨rfl, rfl, rfl, rfl, rfl, rfl⟩, by rw [h1, h6, ht]; rfl, hM2, (ext_s3 hE1).t3 hU2⟩
  · exact callM (st := st) (t := false) ⟨hh1, hw.2.ext hE1⟩ (ext_s3 hE1) aw (fun e => by rw [← hres, h1, h6]; rfl) fun w2 ht _ _ => by cases ht
  · exact callM (st := st) (t := false) ⟨hh1, hw.2.ext hE1⟩ (ext_s3 hE1) aw (fun e => by rw [← hres, h1]; rfl) fun w2 ht _ _ => by cases ht
  rintro _ _ _ _ _ _ _ w2 ⟨⟨rfl, rfl, rfl, rfl, rfl, rfl⟩, hc, hM2, hU2⟩
  have hs2 := hU2.size
  rw [hc, if_pos rfl] at hres
  refine hr.idxL 0 rfl (by omega) fun ad ha => (hr.s3 hU2).cellL ha 0 rfl (by omega) (d := nd0) fun A0 l0 c0 q0 hh2 => ?_
  refine callLU (hs0 a (w64 (q + 1)) st ⟨hh2, hM2⟩ q0) hU2 aw (fun e => by rw [← hres, e]; rfl) fun s1 w3 he3 hw3 hU3 => ?_
  have hU03 := hU2.t3 hU3
  rw [he3, Option.bind_some] at hres
  have last : ∀ {w4 : World} {A1 : Option Addr} {l1 c1 : Nat} (bd gv : Int), w4 = w3 → NdsR w4 (Fw b g h) (kids.getD 1 nd0).kids A1 l1 c1 → w4.heap[b]? = some (.cells (lcells zs C cc g h s1) 103 (0, 0)) → (if decide (v ≤ 3) then 2 else 1) = bd → (if decide (v ≤ 2) then 2 else 1) = gv →
      ∃ (R : Value → World → Prop) (X' : ContX), CallsX E.P 137 #[.pointer (some ⟨b, 0, none⟩), ndA (kids.getD 1 nd0) A1 l1 c1, .int .i64 bd, .int .i64 (w64 (a + 1)), .int .i64 (w64 (q + 1))] w4 R X' ∧ (∀ u w2, R u w2 → ∃ y : Value, u = y ∧ ∃ S, Upd w4 w2 S ∧ Away [id] S ∧ ∃ a1 n c1 r1 r2, ∃ x, w2.heap[b]? = some (Obj.cells #[.slice a1 n c1, .map r1, .map r2, .int .i64 x] 103) ∧ 4 = 4 ∧
        (w2.heap[b]? = some (Obj.cells #[.slice a1 n c1, .map r1, .map r2, .int .i64 x] 103) → LR b g h zs C cc w res (.int .i64 gv) w2)) ∧ ∀ ch w2, X' ch w2 → LX b g h w res ch w2 := by
    rintro w4 A1 l1 c1 bd gv rfl q1 hh4 rfl rfl
    refine callLU (ofK_c hk1 (w64 (a + 1)) (w64 (q + 1)) _ s1 ⟨hh4, hw3.2⟩ q1) hU03 aw (fun e => by rw [← hres, e]; rfl) fun s2 w5 he5 hw5 hU5 hh5 => ?_
    exact ⟨(_, s2), by rw [← hres, he5]; rfl, rfl, ⟨hh5, hw5.2⟩, hU03.t3 hU5⟩
  refine ⟨fun e3 => ⟨fun x w4 => w4 = w3 ∧ x = (if decide (v ≤ 2) then 2 else 1), ⟨fun e2 => ⟨rfl, by rw [e2]; rfl⟩, fun e2 => ⟨rfl, by rw [e2]; rfl⟩⟩, ?_⟩, fun e3 => ⟨fun x w4 => w4 = w3 ∧ x = (if decide (v ≤ 2) then 2 else 1), ⟨fun e2 => ⟨rfl, by rw [e2]; rfl⟩, fun e2 => ⟨rfl, by rw [e2]; rfl⟩⟩, ?_⟩⟩
  · rintro _ x w4 ⟨rfl, rfl⟩
    refine hr.idxL 1 rfl (by omega) fun ad1 ha1 => (hr.s3 hU03).cellL ha1 1 rfl (by omega) (d := nd0) fun A1 l1 c1 q1 hh4 => ?_
    exact last 2 _ rfl q1 hh4 (by rw [e3]; rfl) rfl
  · rintro _ x w4 ⟨rfl, rfl⟩
    refine hr.idxL 1 rfl (by omega) fun ad1 ha1 => (hr.s3 hU03).cellL ha1 1 rfl (by omega) (d := nd0) fun A1 l1 c1 q1 hh4 => ?_
    exact last 1 _ rfl q1 hh4 (by rw [e3]; rfl) rfl
end
section
open Go Go.Vx Go.Proofs
theorem mapK : MapT E.P 100 3 24 (.agg #[.int .i64 0, .int .i64 0, .string (ByteArray.mk #[]), .slice none 0 0]) := ⟨by kernel_rfl, by kernel_rfl, fun w => Tryz.zeroValue24 w⟩
theorem mapD : MapT E.P 101 3 3 (.int .i64 0) := ⟨by kernel_rfl, by kernel_rfl, fun w => Tryz.zeroValue3 w⟩
theorem callIX {P : Program} {f : Nat} {args : Array Value} {w : World} {X : ContX} {x : Int} (hc : CallsX P f args w (IsV (.int .i64 x) w) never) {K : Int → World → Prop} (k : ∀ w2, Ext w w2 → K x w2) :
    ∃ (R : Value → World → Prop) (X' : ContX), CallsX P f args w R X' ∧ (∀ v w2, R v w2 → ∃ y, v = .int .i64 y ∧ Upd w w2 no ∧ K y w2) ∧ ∀ ch w2, X' ch w2 → X ch w2 :=
  ⟨_, _, hc, fun _ w2 ⟨hv, hE⟩ => ⟨x, hv, hE, k w2 hE⟩, never_any⟩
theorem callBX {P : Program} {f : Nat} {args : Array Value} {w : World} {X : ContX} {x : Bool} (hc : CallsX P f args w (IsV (.bool x) w) never) {K : Bool → World → Prop} (k : ∀ w2, Ext w w2 → K x w2) :
    ∃ (R : Value → World → Prop) (X' : ContX), CallsX P f args w R X' ∧ (∀ v w2, R v w2 → ∃ y, v = .bool y ∧ Upd w w2 no ∧ K y w2) ∧ ∀ ch w2, X' ch w2 → X ch w2 :=
  ⟨_, _, hc, fun _ w2 ⟨hv, hE⟩ => ⟨x, hv, hE, k w2 hE⟩, never_any⟩
variable {b g h : Nat} {zs : List Int} {C : Option Addr} {cc : Nat}
theorem lookE {w : World} {ks : List (Option Nd)} {ts : List Int} (m : LMem w b g h zs C cc ks ts) {w' : World} (hE : Ext w w') {j : Nat} (hj : j < zs.length) :
    ∃ xk xn xs xa xl xc xi, Sem.run E.P (Instr.lookup 100 (.map (some g)) (.int .i64 (j : Int)) true) w' = .ok (.tuple #[.agg #[.int .i64 xk, .int .i64 xn, .string xs, .slice xa xl xc], .bool xi]) w' ∧
      ((ks.getD j none = none ∧ xi = false) ∨ ∃ y, ks.getD j none = some y ∧ xi = true ∧ xk = y.k ∧ xn = y.n ∧ xs = y.s ∧ NdsR w (Fw b g h) y.kids xa xl xc) := by
  obtain ⟨f, hG, hf⟩ := m.hk
  have hjk : j < ks.length := by have := m.kl; omega
  have h1 := hf j ks[j] (List.getElem?_eq_getElem hjk)
  have hd : ks.getD j none = ks[j] := by rw [List.getD_eq_getElem?_getD, List.getElem?_eq_getElem hjk]; rfl
  have hl := (hG.upd hE (fun h => h)).toF.look mapK (j : Int)
  rw [hd]
  cases hx : ks[j] with
  | none =>
    rw [hx] at h1
    have h1 : f j = none := h1
    rw [h1] at hl
    exact ⟨_, _, _, _, _, _, _, hl, .inl ⟨rfl, rfl⟩⟩
  | some y =>
    rw [hx] at h1
    obtain ⟨A, l, c, e, hA⟩ := h1
    rw [e] at hl
    exact ⟨_, _, _, _, _, _, _, hl, .inr ⟨y, rfl, rfl, rfl, rfl, rfl, hA⟩⟩
theorem lookD {w : World} {ks : List (Option Nd)} {ts : List Int} (m : LMem w b g h zs C cc ks ts) {j : Nat} (hj : j < zs.length) {y : Nd} (hy : ks.getD j none = some y) :
    Sem.run E.P (Instr.lookup 101 (.map (some h)) (.int .i64 (j : Int)) false) w = .ok (.int .i64 (ts.getD j 0)) w := by
  obtain ⟨f, hG, hf⟩ := m.ht
  have hjk : j < ks.length := by have := m.kl; omega
  have hd : ks.getD j none = ks[j] := by rw [List.getD_eq_getElem?_getD, List.getElem?_eq_getElem hjk]; rfl
  have h1 := hf j y (by rw [List.getElem?_eq_getElem hjk, ← hd, hy])
  have hl := hG.toF.lookV mapD (j : Int)
  rw [h1] at hl
  exact hl
theorem upd_g {w w' : World} (k : Upd w w' (fun x => x = g)) : Upd w w' (S3 b g h) := ⟨k.os, k.tape, k.output, k.size, fun x hx hS => k.keep x hx fun e => hS (.inr (.inl e))⟩
theorem upd_h {w w' : World} (k : Upd w w' (fun x => x = h)) : Upd w w' (S3 b g h) := ⟨k.os, k.tape, k.output, k.size, fun x hx hS => k.keep x hx fun e => hS (.inr (.inr e))⟩
theorem LMem.stored {w0 w1 w3 : World} {ks : List (Option Nd)} {ts : List Int} {j : Nat} {fk fd : Int → Option Value} {x : Nd} {A : Option Addr} {l c : Nat} {a : Int} (m : LMem w0 b g h zs C cc ks ts) (hj : j < zs.length)
    (hfk : ∀ (i : Nat) (y : Option Nd), ks[i]? = some y → KidV w0 (Fw b g h) y (fk i)) (hfd : ∀ (i : Nat) (y : Nd), ks[i]? = some (some y) → fd i = some (.int .i64 (ts.getD i 0)))
    (h1 : MapG w1 g (fun k' => if k' = (j : Int) then some (ndA x A l c) else fk k')) (hx : NdsR w1 (Fw b g h) x.kids A l c) (k01 : Upd w0 w1 (fun x => x = g))
    (h3 : MapG w3 h (fun k' => if k' = (j : Int) then some (.int .i64 a) else fd k')) (k13 : Upd w1 w3 (fun x => x = h)) :
    LMem w3 b g h zs C cc (ks.set j (some x)) (ts.set j a) := by
  have hF : ∀ y, Fw b g h y → ¬ (y = g) := fun y hy e => hy (.inr (.inl e))
  have hF2 : ∀ y, Fw b g h y → ¬ (y = h) := fun y hy e => hy (.inr (.inr e))
  have kt := m.kl
  have tt := m.tl
  refine ⟨RowIn.upd (RowIn.upd m.hc k01 hF) k13 hF2, ⟨_, h1.upd k13 m.gh, fun i y hy => ?_⟩, ⟨_, h3, fun i y hy => ?_⟩, by simpa using kt, by simpa using tt, m.bg, m.bh, m.gh⟩
  · have hil := (List.getElem?_eq_some_iff.1 hy).1
    simp only [List.length_set] at hil
    by_cases hij : j = i
    · subst hij
      rw [List.getElem?_set_self (by omega)] at hy
      cases hy
      exact ⟨A, l, c, by simp, hx.upd k13 hF2⟩
    · rw [List.getElem?_set_ne hij] at hy
      have hne : ¬ ((i : Int) = (j : Int)) := by omega
      simp only [hne, if_false]
      exact ((hfk i y hy).upd k01 (fun z hz _ => hF z hz)).upd k13 (fun z hz _ => hF2 z hz)
  · have hil := (List.getElem?_eq_some_iff.1 hy).1
    simp only [List.length_set] at hil
    by_cases hij : j = i
    · subst hij
      simp only [if_true]
      rw [List.getD_eq_getElem?_getD, List.getElem?_set_self (by omega)]; rfl
    · rw [List.getElem?_set_ne hij] at hy
      have hne : ¬ ((i : Int) = (j : Int)) := by omega
      simp only [hne, if_false]
      rw [hfd i y hy, List.getD_eq_getElem?_getD, List.getD_eq_getElem?_getD, List.getElem?_set_ne hij]
theorem cellK_c {kf : Int → Int → WS → Nd → Option (Int × WS)} {k v : Int} {s : ByteArray} {kids : List Nd} (h1 : 1 ≤ kids.length) (hk0 : KL b g h zs C cc kf (kids.getD 0 nd0))
    {w : World} {A : Option Addr} {l c : Nat} (a q : Int) (st : WS) (hw : Lst w b g h zs C cc st) (hr : NdsR w (Fw b g h) kids A l c) :
    CallsX E.P 136 #[.pointer (some ⟨b, 0, none⟩), ndA (.mk k v s kids) A l c, .int .i64 a, .int .i64 q] w (LR b g h zs C cc w (cellL zs (kf a q) st v (kids.getD 0 nd0) a)) (LX b g h w (cellL zs (kf a q) st v (kids.getD 0 nd0) a)) := by
  obtain ⟨hb, hg, hh⟩ := hw.lt
  dsimp only [ndA, Nd.k, Nd.n, Nd.s, Nd.kids]
  refine vc136 hw.1 ?_
  intro id hid
  have aw : Away [id] (S3 b g h) := away_s3 hb hg hh (by simp; omega)
  generalize hres : cellL zs (kf a q) st v (kids.getD 0 nd0) a = res
  rw [cellL] at hres
  refine ⟨fun a1 n1 c1 r1 r2 x w2 => (C = a1 ∧ n1 = zs.length ∧ cc = c1 ∧ r1 = some g ∧ r2 = some h ∧ x = st.parts) ∧ (decide (v ≥ 0) && decide (v < (zs.length : Int)) && decide (zs.getD v.toNat 0 ≤ a)) = true ∧ LMem w2 b g h zs C cc st.ks st.ts ∧ Upd w w2 (S3 b g h), ⟨fun e0 => ⟨fun e1 => ?_, fun e1 w1 hE1 _ hh1 => ?_⟩, fun e0 w1 hE1 _ hh1 => ?_⟩, ?_⟩
  · have e0' : 0 ≤ v := by simpa using e0
    obtain ⟨j, rfl⟩ : ∃ j : Nat, v = j := ⟨v.toNat, by omega⟩
    have hj : j < zs.length := by simpa using e1
    have hjt : Int.toNat (j : Int) = j := by omega
    have hz : zs.getD (Int.toNat (j : Int)) 0 = zs[j] := by rw [hjt, List.getD_eq_getElem?_getD, List.getElem?_eq_getElem hj]; rfl
    refine hw.2.hc.idx hj fun ad ha w1 hE1 _ => (hw.2.hc.ext hE1).cell ha hj fun hh1 => ?_
    refine callM (st := st) (t := decide (zs[j] ≤ a)) ⟨hh1, hw.2.ext hE1⟩ (ext_s3 hE1) aw (fun e => by rw [← hres, e0, e1, hz, e]; rfl) fun w2 ht hM2 hU2 => ?_
    exact ⟨⟨rfl, rfl, rfl, rfl, rfl, rfl⟩, by rw [e0, e1, hz, ht]; rfl, hM2, (ext_s3 hE1).t3 hU2⟩
  · exact callM (st := st) (t := false) ⟨hh1, hw.2.ext hE1⟩ (ext_s3 hE1) aw (fun e => by rw [← hres, e0, e1]; rfl) fun w2 ht _ _ => by cases ht
  · exact callM (st := st) (t := false) ⟨hh1, hw.2.ext hE1⟩ (ext_s3 hE1) aw (fun e => by rw [← hres, e0]; rfl) fun w2 ht _ _ => by cases ht
  rintro _ _ _ _ _ _ _ w2 ⟨⟨rfl, rfl, rfl, rfl, rfl, rfl⟩, hc, hM2, hU2⟩
  rw [if_pos hc] at hres
  simp only [Bool.and_eq_true] at hc
  have e0' : 0 ≤ v := by simpa using hc.1.1
  obtain ⟨j, rfl⟩ : ∃ j : Nat, v = j := ⟨v.toNat, by omega⟩
  have hj : j < zs.length := by simpa using hc.1.2
  have hjt : Int.toNat (j : Int) = j := by omega
  have hz : zs.getD (Int.toNat (j : Int)) 0 = zs[j] := by rw [hjt, List.getD_eq_getElem?_getD, List.getElem?_eq_getElem hj]; rfl
  refine ⟨fun y a1 n1 c1 r1 r2 x w3 => ∃ s1, (C = a1 ∧ n1 = zs.length ∧ cc = c1 ∧ r1 = some g ∧ r2 = some h ∧ x = s1.parts) ∧ kf a q st (kids.getD 0 nd0) = some (y, s1) ∧ LMem w3 b g h zs C cc s1.ks s1.ts ∧ Upd w w3 (S3 b g h), ?_, ?_⟩
  · refine hr.idxL 0 rfl (by omega) fun ad ha => (hr.s3 hU2).cellL ha 0 rfl (by omega) (d := nd0) fun A0 l0 c0 q0 hh2 => ?_
    exact callL (hk0 a q st ⟨hh2, hM2⟩ q0) hU2 aw (fun e => by rw [← hres, e]; rfl) fun y s1 w3 he hw3 hU3 => ⟨s1, ⟨rfl, rfl, rfl, rfl, rfl, rfl⟩, he, hw3.2, hU2.t3 hU3⟩
  rintro _ y _ _ _ _ _ _ w3 ⟨s1, ⟨rfl, rfl, rfl, rfl, rfl, rfl⟩, he, hM3, hU3⟩
  rw [he, Option.bind_some, hz] at hres
  have hs3 := hU3.size
  have hlt3 := hM3.lt
  have hb3 : b < w3.heap.size := by omega
  dsimp only at hres
  generalize hx0 : kids.getD 0 nd0 = x0 at hres he hk0
  have kz : ∀ {w4 : World} {ad : Addr}, Upd w w4 (S3 b g h) → A = some ad → ∀ {K : Int → Int → ByteArray → Option Addr → Nat → Nat → Prop}, (∀ A1 l1 c1, NdsR w4 (Fw b g h) x0.kids A1 l1 c1 → K x0.k x0.n x0.s A1 l1 c1) →
      ∃ x2 x3, ∃ x4 a, ∃ n c, CellsIn w4 (ad.add 0) [.int .i64 x2, .int .i64 x3, .string x4, .slice a n c] ∧ K x2 x3 x4 a n c := fun hU ha2 K hk => by
    exact (hr.s3 hU).cellL ha2 0 (off := 0) rfl (by omega) (d := nd0) (K := K) (by rw [hx0]; exact hk)
  have ki : ∀ {K : Addr → Prop}, (∀ ad, A = some ad → K ad) → ((0 : Int) ≤ 0 ∧ (0 : Int) < (l : Int)) ∧ ∃ ad, A = some ad ∧ K ad := fun hk => hr.idxL 0 rfl (by omega) hk
  refine ⟨fun w4 hE4 => ?_, fun id2 hid2 w4 hE4 hi4 => ?_⟩
  · obtain ⟨xk, xn, xs, xa, xl, xc, xi, hlook, hent⟩ := lookE hM3 hE4 hj
    have hs4 := hE4.size
    refine ⟨xk, xn, xs, xa, xl, xc, xi, hlook, fun id1 hid1 => ?_⟩
    have aw2 : Away [id, id1] (S3 b g h) := away_s3 hb hg hh (by simp; omega)
    have awG : Away [b, id, id1] (fun x => x = g) := away_of fun i hi hS => by
      simp only [List.mem_cons, List.not_mem_nil, or_false] at hi
      have := hM3.bg
      rcases hi with rfl | rfl | rfl <;> omega
    have awH : Away [b, id, id1] (fun x => x = h) := away_of fun i hi hS => by
      simp only [List.mem_cons, List.not_mem_nil, or_false] at hi
      have := hM3.bh
      rcases hi with rfl | rfl | rfl <;> omega
    refine ⟨fun a1 n1 c1 r1 r2 x w5 => (C = a1 ∧ n1 = zs.length ∧ cc = c1 ∧ r1 = some g ∧ r2 = some h ∧ x = s1.parts) ∧ (decide (hangs a x0 ≤ zs[j]) && fitsB s1 j a x0) = true ∧ LMem w5 b g h zs C cc s1.ks s1.ts ∧ Upd w w5 (S3 b g h), ki fun ad2 ha2 w14 hU14 hi14 => ?_, ?_⟩
    · have hE14 : Ext w3 w14 := hE4.trans hU14
      have hU014 := hU3.t3 (ext_s3 hE14)
      refine kz hU014 ha2 fun A1 l1 c1 q1 => (hM3.ext hE14).hc.idx hj fun ad3 ha3 => (hM3.ext hE14).hc.cell ha3 hj ?_
      refine callIX (phangs_c _ x0 (Nat.le_refl _) a q1) fun w5 hE5 => ⟨fun eh => ⟨fun ei hh5 => ?_, fun ei => ki fun ad4 ha4 => kz (hU014.t3 (ext_s3 hE5)) ha4 fun A2 l2 c2 q2 => ?_⟩, fun eh hh5 => ?_⟩
      · refine callM (st := s1) (t := true) ⟨hh5, hM3.ext (hE14.trans hE5)⟩ (hU014.t3 (ext_s3 hE5)) aw2 (fun e => by cases e) fun w6 ht hM6 hU6 => ⟨⟨rfl, rfl, rfl, rfl, rfl, rfl⟩, ?_, hM6, (hU014.t3 (ext_s3 hE5)).t3 hU6⟩
        rcases hent with ⟨hent, rfl⟩ | ⟨y0, hent, rfl, _⟩
        · rw [eh]; simp only [fitsB, hjt, hent, Bool.and_self]
        · cases ei
      · rcases hent with ⟨_, rfl⟩ | ⟨y0, hent, rfl, rfl, rfl, rfl, hy0⟩
        · cases ei
        have hy14 : NdsR w14 (Fw b g h) y0.kids xa xl xc := hy0.ext hE14
        refine callBX (psame_c _ y0 x0 (Nat.le_refl _) (hy14.ext hE5) q2) fun w6 hE6 => ⟨fun es => ⟨_, lookD (hM3.ext ((hE14.trans hE5).trans hE6)) hj hent, fun ed hh6 => ?_, fun ed => ?_⟩, fun es hh6 => ?_⟩
        · refine callM (st := s1) (t := true) ⟨hh6, hM3.ext ((hE14.trans hE5).trans hE6)⟩ (hU014.t3 (ext_s3 (hE5.trans hE6))) aw2 (fun e => by cases e) fun w7 ht hM7 hU7 => ⟨⟨rfl, rfl, rfl, rfl, rfl, rfl⟩, ?_, hM7, (hU014.t3 (ext_s3 (hE5.trans hE6))).t3 hU7⟩
          rw [eh]; simp only [fitsB, hjt, hent, es, ed, Bool.true_or, Bool.and_self]
        · refine callBX (rounds_c _ y0 (Nat.le_refl _) ((hy14.ext hE5).ext hE6)) fun w7 hE7 hh7 => ?_
          refine callM (st := s1) (t := !roundsN y0) ⟨hh7, hM3.ext (((hE14.trans hE5).trans hE6).trans hE7)⟩ (hU014.t3 (ext_s3 ((hE5.trans hE6).trans hE7))) aw2 (fun e => ?_) fun w8 ht hM8 hU8 => ⟨⟨rfl, rfl, rfl, rfl, rfl, rfl⟩, ?_, hM8, (hU014.t3 (ext_s3 ((hE5.trans hE6).trans hE7))).t3 hU8⟩
          · rw [← hres, eh]; simp only [fitsB, hjt, hent, es, ed, e, Bool.or_self, Bool.and_false, Bool.false_eq_true, if_false]
          · rw [eh]; simp only [fitsB, hjt, hent, es, ed, ht, Bool.or_true, Bool.and_self]
        · refine callM (st := s1) (t := false) ⟨hh6, hM3.ext ((hE14.trans hE5).trans hE6)⟩ (hU014.t3 (ext_s3 (hE5.trans hE6))) aw2 (fun e => ?_) fun w7 ht _ _ => by cases ht
          rw [← hres, eh]; simp only [fitsB, hjt, hent, es, Bool.false_and, Bool.and_false, Bool.false_eq_true, if_false]
      · refine callM (st := s1) (t := false) ⟨hh5, hM3.ext (hE14.trans hE5)⟩ (hU014.t3 (ext_s3 hE5)) aw2 (fun e => ?_) fun w7 ht _ _ => by cases ht
        rw [← hres, eh]; simp only [Bool.false_and, Bool.false_eq_true, if_false]
    · rintro _ _ _ _ _ _ _ w5 ⟨⟨rfl, rfl, rfl, rfl, rfl, rfl⟩, hfit, hM5, hU5⟩
      rw [if_pos hfit] at hres
      have hs5 := hU5.size
      have fin : ∀ {w6 w7 w8 w9 w10 : World} {fk fd : Int → Option Value} {A1 : Option Addr} {l1 c1 : Nat}, Ext w5 w6 → (∀ (i : Nat) (y : Option Nd), s1.ks[i]? = some y → KidV w6 (Fw b g h) y (fk i)) → (∀ (i : Nat) (y : Nd), s1.ks[i]? = some (some y) → fd i = some (.int .i64 (s1.ts.getD i 0))) →
          Upd w6 w7 (fun x => x = g) → MapG w8 g (fun k' => if k' = (j : Int) then some (ndA x0 A1 l1 c1) else fk k') → NdsR w8 (Fw b g h) x0.kids A1 l1 c1 → Upd w7 w8 (fun x => x = g) → Upd w8 w9 (fun x => x = h) → MapG w10 h (fun k' => if k' = (j : Int) then some (.int .i64 a) else fd k') → Upd w9 w10 (fun x => x = h) →
          w10.heap[b]? = some (.cells (lcells zs C cc g h s1) 103 (0, 0)) → LR b g h zs C cc w res (.int .i64 y) w10 := fun hE6 hfk hfd u67 hG8 q8 u78 u89 hG10 u910 hh10 => by
        refine ⟨(y, (cellOut (y, s1) j a x0).2), by rw [← hres]; rfl, rfl, ⟨hh10, ?_⟩, ((((hU5.t3 (ext_s3 hE6)).t3 (upd_g u67)).t3 (upd_g u78)).t3 (upd_h u89)).t3 (upd_h u910)⟩
        have := LMem.stored (m := hM5.ext hE6) hj hfk hfd hG8 q8 (u67.trans u78) hG10 (u89.trans u910)
        simp only [cellOut, hjt]
        exact this
      refine ki fun ad5 ha5 => ⟨fun w6 hE6 => kz (hU5.t3 (ext_s3 hE6)) ha5 fun A1 l1 c1 q1 => ?_, fun w6 hE6 => ?_⟩
      all_goals
        have hM6 := hM5.ext hE6
        obtain ⟨fk, hGk, hfk⟩ := hM6.hk
        obtain ⟨fd, hGd, hfd⟩ := hM6.ht
        have hgh := hM6.gh
        have hs6 := hE6.size
        refine ⟨_, hGk.entry mapK (j : Int), ?_⟩
        rintro _ w7 ⟨u, st7, rfl, hE7, u67, z7⟩
        refine ⟨u, _, rfl, _, u67, awG, ?_⟩
      · refine ⟨_, hE7.store (ndA x0 A1 l1 c1), ?_⟩
        rintro w8 ⟨hG8, u78, z8⟩
        refine ⟨_, u78, awG, _, ((hGd.upd u67 (fun e => hgh e.symm)).upd u78 (fun e => hgh e.symm)).entry mapD (j : Int), ?_⟩
        rintro _ w9 ⟨u9, st9, rfl, hE9, u89, z9⟩
        refine ⟨u9, _, rfl, _, u89, awH, _, hE9.store (.int .i64 a), ?_⟩
        rintro w10 ⟨hG10, u910, z10⟩
        have hF : ∀ y, Fw b g h y → ¬ (y = g) := fun y hy e => hy (.inr (.inl e))
        exact ⟨_, u910, awH, fun hh10 => fin hE6 hfk hfd u67 hG8 ((q1.upd u67 hF).upd u78 hF) u78 u89 hG10 u910 hh10⟩
      · refine kz ((hU5.t3 (ext_s3 hE6)).t3 (upd_g u67)) ha5 fun A1 l1 c1 q1 => ⟨_, hE7.store (ndA x0 A1 l1 c1), ?_⟩
        rintro w8 ⟨hG8, u78, z8⟩
        refine ⟨_, u78, awG, _, ((hGd.upd u67 (fun e => hgh e.symm)).upd u78 (fun e => hgh e.symm)).entry mapD (j : Int), ?_⟩
        rintro _ w9 ⟨u9, st9, rfl, hE9, u89, z9⟩
        refine ⟨u9, _, rfl, _, u89, awH, _, hE9.store (.int .i64 a), ?_⟩
        rintro w10 ⟨hG10, u910, z10⟩
        have hF : ∀ y, Fw b g h y → ¬ (y = g) := fun y hy e => hy (.inr (.inl e))
        exact ⟨_, u910, awH, fun hh10 => fin hE6 hfk hfd u67 hG8 (q1.upd u78 hF) u78 u89 hG10 u910 hh10⟩
  · obtain ⟨xk, xn, xs, xa, xl, xc, xi, hlook, hent⟩ := lookE hM3 hE4 hj
    have hs4 := hE4.size
    refine ⟨xk, xn, xs, xa, xl, xc, xi, hlook, ?_⟩
    have aw2 : Away [id, id2] (S3 b g h) := away_s3 hb hg hh (by simp; omega)
    have awG : Away [b, id, id2] (fun x => x = g) := away_of fun i hi hS => by
      simp only [List.mem_cons, List.not_mem_nil, or_false] at hi
      have := hM3.bg
      rcases hi with rfl | rfl | rfl <;> omega
    have awH : Away [b, id, id2] (fun x => x = h) := away_of fun i hi hS => by
      simp only [List.mem_cons, List.not_mem_nil, or_false] at hi
      have := hM3.bh
      rcases hi with rfl | rfl | rfl <;> omega
    refine ⟨fun a1 n1 c1 r1 r2 x w5 => (C = a1 ∧ n1 = zs.length ∧ cc = c1 ∧ r1 = some g ∧ r2 = some h ∧ x = s1.parts) ∧ (decide (hangs a x0 ≤ zs[j]) && fitsB s1 j a x0) = true ∧ LMem w5 b g h zs C cc s1.ks s1.ts ∧ Upd w w5 (S3 b g h), ki fun ad2 ha2 w14 hU14 => ?_, ?_⟩
    · have hE14 : Ext w3 w14 := hE4.step hU14 (fun x hx => by simp only [setOf, no, or_false] at hx; omega)
      have hU014 := hU3.t3 (ext_s3 hE14)
      refine kz hU014 ha2 fun A1 l1 c1 q1 => (hM3.ext hE14).hc.idx hj fun ad3 ha3 => (hM3.ext hE14).hc.cell ha3 hj ?_
      refine callIX (phangs_c _ x0 (Nat.le_refl _) a q1) fun w5 hE5 => ⟨fun eh => ⟨fun ei hh5 => ?_, fun ei => ki fun ad4 ha4 => kz (hU014.t3 (ext_s3 hE5)) ha4 fun A2 l2 c2 q2 => ?_⟩, fun eh hh5 => ?_⟩
      · refine callM (st := s1) (t := true) ⟨hh5, hM3.ext (hE14.trans hE5)⟩ (hU014.t3 (ext_s3 hE5)) aw2 (fun e => by cases e) fun w6 ht hM6 hU6 => ⟨⟨rfl, rfl, rfl, rfl, rfl, rfl⟩, ?_, hM6, (hU014.t3 (ext_s3 hE5)).t3 hU6⟩
        rcases hent with ⟨hent, rfl⟩ | ⟨y0, hent, rfl, _⟩
        · rw [eh]; simp only [fitsB, hjt, hent, Bool.and_self]
        · cases ei
      · rcases hent with ⟨_, rfl⟩ | ⟨y0, hent, rfl, rfl, rfl, rfl, hy0⟩
        · cases ei
        have hy14 : NdsR w14 (Fw b g h) y0.kids xa xl xc := hy0.ext hE14
        refine callBX (psame_c _ y0 x0 (Nat.le_refl _) (hy14.ext hE5) q2) fun w6 hE6 => ⟨fun es => ⟨_, lookD (hM3.ext ((hE14.trans hE5).trans hE6)) hj hent, fun ed hh6 => ?_, fun ed => ?_⟩, fun es hh6 => ?_⟩
        · refine callM (st := s1) (t := true) ⟨hh6, hM3.ext ((hE14.trans hE5).trans hE6)⟩ (hU014.t3 (ext_s3 (hE5.trans hE6))) aw2 (fun e => by cases e) fun w7 ht hM7 hU7 => ⟨⟨rfl, rfl, rfl, rfl, rfl, rfl⟩, ?_, hM7, (hU014.t3 (ext_s3 (hE5.trans hE6))).t3 hU7⟩
          rw [eh]; simp only [fitsB, hjt, hent, es, ed, Bool.true_or, Bool.and_self]
        · refine callBX (rounds_c _ y0 (Nat.le_refl _) ((hy14.ext hE5).ext hE6)) fun w7 hE7 hh7 => ?_
          refine callM (st := s1) (t := !roundsN y0) ⟨hh7, hM3.ext (((hE14.trans hE5).trans hE6).trans hE7)⟩ (hU014.t3 (ext_s3 ((hE5.trans hE6).trans hE7))) aw2 (fun e => ?_) fun w8 ht hM8 hU8 => ⟨⟨rfl, rfl, rfl, rfl, rfl, rfl⟩, ?_, hM8, (hU014.t3 (ext_s3 ((hE5.trans hE6).trans hE7))).t3 hU8⟩
          · rw [← hres, eh]; simp only [fitsB, hjt, hent, es, ed, e, Bool.or_self, Bool.and_false, Bool.false_eq_true, if_false]
          · rw [eh]; simp only [fitsB, hjt, hent, es, ed, ht, Bool.or_true, Bool.and_self]
        · refine callM (st := s1) (t := false) ⟨hh6, hM3.ext ((hE14.trans hE5).trans hE6)⟩ (hU014.t3 (ext_s3 (hE5.trans hE6))) aw2 (fun e => ?_) fun w7 ht _ _ => by cases ht
          rw [← hres, eh]; simp only [fitsB, hjt, hent, es, Bool.false_and, Bool.and_false, Bool.false_eq_true, if_false]
      · refine callM (st := s1) (t := false) ⟨hh5, hM3.ext (hE14.trans hE5)⟩ (hU014.t3 (ext_s3 hE5)) aw2 (fun e => ?_) fun w7 ht _ _ => by cases ht
        rw [← hres, eh]; simp only [Bool.false_and, Bool.false_eq_true, if_false]
    · rintro _ _ _ _ _ _ _ w5 ⟨⟨rfl, rfl, rfl, rfl, rfl, rfl⟩, hfit, hM5, hU5⟩
      rw [if_pos hfit] at hres
      have hs5 := hU5.size
      have fin : ∀ {w6 w7 w8 w9 w10 : World} {fk fd : Int → Option Value} {A1 : Option Addr} {l1 c1 : Nat}, Ext w5 w6 → (∀ (i : Nat) (y : Option Nd), s1.ks[i]? = some y → KidV w6 (Fw b g h) y (fk i)) → (∀ (i : Nat) (y : Nd), s1.ks[i]? = some (some y) → fd i = some (.int .i64 (s1.ts.getD i 0))) →
          Upd w6 w7 (fun x => x = g) → MapG w8 g (fun k' => if k' = (j : Int) then some (ndA x0 A1 l1 c1) else fk k') → NdsR w8 (Fw b g h) x0.kids A1 l1 c1 → Upd w7 w8 (fun x => x = g) → Upd w8 w9 (fun x => x = h) → MapG w10 h (fun k' => if k' = (j : Int) then some (.int .i64 a) else fd k') → Upd w9 w10 (fun x => x = h) →
          w10.heap[b]? = some (.cells (lcells zs C cc g h s1) 103 (0, 0)) → LR b g h zs C cc w res (.int .i64 y) w10 := fun hE6 hfk hfd u67 hG8 q8 u78 u89 hG10 u910 hh10 => by
        refine ⟨(y, (cellOut (y, s1) j a x0).2), by rw [← hres]; rfl, rfl, ⟨hh10, ?_⟩, ((((hU5.t3 (ext_s3 hE6)).t3 (upd_g u67)).t3 (upd_g u78)).t3 (upd_h u89)).t3 (upd_h u910)⟩
        have := LMem.stored (m := hM5.ext hE6) hj hfk hfd hG8 q8 (u67.trans u78) hG10 (u89.trans u910)
        simp only [cellOut, hjt]
        exact this
      refine ki fun ad5 ha5 => ⟨fun w6 hE6 => kz (hU5.t3 (ext_s3 hE6)) ha5 fun A1 l1 c1 q1 => ?_, fun w6 hE6 => ?_⟩
      all_goals
        have hM6 := hM5.ext hE6
        obtain ⟨fk, hGk, hfk⟩ := hM6.hk
        obtain ⟨fd, hGd, hfd⟩ := hM6.ht
        have hgh := hM6.gh
        have hs6 := hE6.size
        refine ⟨_, hGk.entry mapK (j : Int), ?_⟩
        rintro _ w7 ⟨u, st7, rfl, hE7, u67, z7⟩
        refine ⟨u, _, rfl, _, u67, awG, ?_⟩
      · refine ⟨_, hE7.store (ndA x0 A1 l1 c1), ?_⟩
        rintro w8 ⟨hG8, u78, z8⟩
        refine ⟨_, u78, awG, _, ((hGd.upd u67 (fun e => hgh e.symm)).upd u78 (fun e => hgh e.symm)).entry mapD (j : Int), ?_⟩
        rintro _ w9 ⟨u9, st9, rfl, hE9, u89, z9⟩
        refine ⟨u9, _, rfl, _, u89, awH, _, hE9.store (.int .i64 a), ?_⟩
        rintro w10 ⟨hG10, u910, z10⟩
        have hF : ∀ y, Fw b g h y → ¬ (y = g) := fun y hy e => hy (.inr (.inl e))
        exact ⟨_, u910, awH, fun hh10 => fin hE6 hfk hfd u67 hG8 ((q1.upd u67 hF).upd u78 hF) u78 u89 hG10 u910 hh10⟩
      · refine kz ((hU5.t3 (ext_s3 hE6)).t3 (upd_g u67)) ha5 fun A1 l1 c1 q1 => ⟨_, hE7.store (ndA x0 A1 l1 c1), ?_⟩
        rintro w8 ⟨hG8, u78, z8⟩
        refine ⟨_, u78, awG, _, ((hGd.upd u67 (fun e => hgh e.symm)).upd u78 (fun e => hgh e.symm)).entry mapD (j : Int), ?_⟩
        rintro _ w9 ⟨u9, st9, rfl, hE9, u89, z9⟩
        refine ⟨u9, _, rfl, _, u89, awH, _, hE9.store (.int .i64 a), ?_⟩
        rintro w10 ⟨hG10, u910, z10⟩
        have hF : ∀ y, Fw b g h y → ¬ (y = g) := fun y hy e => hy (.inr (.inl e))
        exact ⟨_, u910, awH, fun hh10 => fin hE6 hfk hfd u67 hG8 (q1.upd u78 hF) u78 u89 hG10 u910 hh10⟩
end
section
open Go Go.Vx Go.Proofs
variable {b g h : Nat} {zs : List Int} {C : Option Addr} {cc : Nat}
theorem plain127_c {kf : Int → Int → WS → Nd → Option (Int × WS)} {k v : Int} {s : ByteArray} {kids : List Nd} (hk : ∀ j (_ : j < kids.length), KL b g h zs C cc kf kids[j])
    {w : World} {A : Option Addr} {l c : Nat} (kn of gives a q : Int) (st : WS) (hw : Lst w b g h zs C cc st) (hr : NdsR w (Fw b g h) kids A l c) :
    CallsX E.P 111 #[.agg #[.int .i64 kn, .int .i64 of, .int .i64 gives, .func (.func 127) #[] #[]], .pointer (some ⟨b, 0, none⟩), ndA (.mk k v s kids) A l c, .int .i64 a, .int .i64 q] w
      (LR b g h zs C cc w (plainL (kf a q) kn of gives (testB 127 v a) st s kids)) (LX b g h w (plainL (kf a q) kn of gives (testB 127 v a) st s kids)) := by
  obtain ⟨hb, hg, hh⟩ := hw.lt
  have hl := hr.lt
  have hlen := hr.len
  dsimp only [ndA, Nd.k, Nd.n, Nd.s, Nd.kids]
  refine vc111_127 hw.1 ?_
  intro id hid id1 hid1
  have hi1 : ∀ i ∈ [id, id1], w.heap.size ≤ i := by simp; omega
  have aw : Away [id, id1] (S3 b g h) := away_s3 hb hg hh hi1
  have hz : ((l : Int) == kn) = ((kids.length : Int) == kn) := by rw [hlen]
  generalize hres : plainL (kf a q) kn of gives (testB 127 v a) st s kids = res
  rw [plainL, ← hz] at hres
  refine ⟨fun a1 n1 c1 r1 r2 x w2 => (C = a1 ∧ n1 = zs.length ∧ cc = c1 ∧ r1 = some g ∧ r2 = some h ∧ x = st.parts) ∧ ((l : Int) == kn && strEq s (ByteArray.mk #[]) && testB 127 v a) = true ∧ LMem w2 b g h zs C cc st.ks st.ts ∧ Upd w w2 (S3 b g h), ⟨fun e1 => ⟨fun e2 w1 hE1 _ _ => ?_, fun e2 w1 hE1 _ _ hh1 => ?_⟩, fun e1 w1 hE1 _ _ hh1 => ?_⟩, ?_⟩
  · refine callB (test_c 127 (by decide) v a) fun w2 hE2 hh2 => ?_
    have hE02 : Ext w w2 := Ext.trans hE1 hE2
    refine callM (st := st) (t := testB 127 v a) ⟨hh2, hw.2.ext hE02⟩ (ext_s3 hE02) aw (fun e => by rw [← hres, e1, e2, e]; rfl) fun w3 ht hM3 hU3 => ⟨⟨rfl, rfl, rfl, rfl, rfl, rfl⟩, by rw [e1, e2, ht]; rfl, hM3, (ext_s3 hE02).t3 hU3⟩
  · exact callM (st := st) (t := false) ⟨hh1, hw.2.ext hE1⟩ (ext_s3 hE1) aw (fun e => by rw [← hres, e1, e2]; rfl) fun w2 ht _ _ => by cases ht
  · exact callM (st := st) (t := false) ⟨hh1, hw.2.ext hE1⟩ (ext_s3 hE1) aw (fun e => by rw [← hres, e1]; rfl) fun w2 ht _ _ => by cases ht
  rintro _ _ _ _ _ _ _ w2 ⟨⟨rfl, rfl, rfl, rfl, rfl, rfl⟩, hc, hM2, hU2⟩
  rw [if_pos hc] at hres
  exact loopK (s0 := st) [id, id1] hk hr hl ⟨hb, hg, hh⟩ hi1 hU2 hM2 (fun e => by rw [← hres, e]; rfl) fun s1 w5 he hM5 hU5 hh5 => ⟨(gives, s1), by rw [← hres, he]; rfl, rfl, ⟨hh5, hM5⟩, hU5⟩
theorem plain128_c {kf : Int → Int → WS → Nd → Option (Int × WS)} {k v : Int} {s : ByteArray} {kids : List Nd} (hk : ∀ j (_ : j < kids.length), KL b g h zs C cc kf kids[j])
    {w : World} {A : Option Addr} {l c : Nat} (kn of gives a q : Int) (st : WS) (hw : Lst w b g h zs C cc st) (hr : NdsR w (Fw b g h) kids A l c) :
    CallsX E.P 111 #[.agg #[.int .i64 kn, .int .i64 of, .int .i64 gives, .func (.func 128) #[] #[]], .pointer (some ⟨b, 0, none⟩), ndA (.mk k v s kids) A l c, .int .i64 a, .int .i64 q] w
      (LR b g h zs C cc w (plainL (kf a q) kn of gives (testB 128 v a) st s kids)) (LX b g h w (plainL (kf a q) kn of gives (testB 128 v a) st s kids)) := by
  obtain ⟨hb, hg, hh⟩ := hw.lt
  have hl := hr.lt
  have hlen := hr.len
  dsimp only [ndA, Nd.k, Nd.n, Nd.s, Nd.kids]
  refine vc111_128 hw.1 ?_
  intro id hid id1 hid1
  have hi1 : ∀ i ∈ [id, id1], w.heap.size ≤ i := by simp; omega
  have aw : Away [id, id1] (S3 b g h) := away_s3 hb hg hh hi1
  have hz : ((l : Int) == kn) = ((kids.length : Int) == kn) := by rw [hlen]
  generalize hres : plainL (kf a q) kn of gives (testB 128 v a) st s kids = res
  rw [plainL, ← hz] at hres
  refine ⟨fun a1 n1 c1 r1 r2 x w2 => (C = a1 ∧ n1 = zs.length ∧ cc = c1 ∧ r1 = some g ∧ r2 = some h ∧ x = st.parts) ∧ ((l : Int) == kn && strEq s (ByteArray.mk #[]) && testB 128 v a) = true ∧ LMem w2 b g h zs C cc st.ks st.ts ∧ Upd w w2 (S3 b g h), ⟨fun e1 => ⟨fun e2 w1 hE1 _ _ => ?_, fun e2 w1 hE1 _ _ hh1 => ?_⟩, fun e1 w1 hE1 _ _ hh1 => ?_⟩, ?_⟩
  · refine callB (test_c 128 (by decide) v a) fun w2 hE2 hh2 => ?_
    have hE02 : Ext w w2 := Ext.trans hE1 hE2
    refine callM (st := st) (t := testB 128 v a) ⟨hh2, hw.2.ext hE02⟩ (ext_s3 hE02) aw (fun e => by rw [← hres, e1, e2, e]; rfl) fun w3 ht hM3 hU3 => ⟨⟨rfl, rfl, rfl, rfl, rfl, rfl⟩, by rw [e1, e2, ht]; rfl, hM3, (ext_s3 hE02).t3 hU3⟩
  · exact callM (st := st) (t := false) ⟨hh1, hw.2.ext hE1⟩ (ext_s3 hE1) aw (fun e => by rw [← hres, e1, e2]; rfl) fun w2 ht _ _ => by cases ht
  · exact callM (st := st) (t := false) ⟨hh1, hw.2.ext hE1⟩ (ext_s3 hE1) aw (fun e => by rw [← hres, e1]; rfl) fun w2 ht _ _ => by cases ht
  rintro _ _ _ _ _ _ _ w2 ⟨⟨rfl, rfl, rfl, rfl, rfl, rfl⟩, hc, hM2, hU2⟩
  rw [if_pos hc] at hres
  exact loopK (s0 := st) [id, id1] hk hr hl ⟨hb, hg, hh⟩ hi1 hU2 hM2 (fun e => by rw [← hres, e]; rfl) fun s1 w5 he hM5 hU5 hh5 => ⟨(gives, s1), by rw [← hres, he]; rfl, rfl, ⟨hh5, hM5⟩, hU5⟩
theorem plain129_c {kf : Int → Int → WS → Nd → Option (Int × WS)} {k v : Int} {s : ByteArray} {kids : List Nd} (hk : ∀ j (_ : j < kids.length), KL b g h zs C cc kf kids[j])
    {w : World} {A : Option Addr} {l c : Nat} (kn of gives a q : Int) (st : WS) (hw : Lst w b g h zs C cc st) (hr : NdsR w (Fw b g h) kids A l c) :
    CallsX E.P 111 #[.agg #[.int .i64 kn, .int .i64 of, .int .i64 gives, .func (.func 129) #[] #[]], .pointer (some ⟨b, 0, none⟩), ndA (.mk k v s kids) A l c, .int .i64 a, .int .i64 q] w
      (LR b g h zs C cc w (plainL (kf a q) kn of gives (testB 129 v a) st s kids)) (LX b g h w (plainL (kf a q) kn of gives (testB 129 v a) st s kids)) := by
  obtain ⟨hb, hg, hh⟩ := hw.lt
  have hl := hr.lt
  have hlen := hr.len
  dsimp only [ndA, Nd.k, Nd.n, Nd.s, Nd.kids]
  refine vc111_129 hw.1 ?_
  intro id hid id1 hid1
  have hi1 : ∀ i ∈ [id, id1], w.heap.size ≤ i := by simp; omega
  have aw : Away [id, id1] (S3 b g h) := away_s3 hb hg hh hi1
  have hz : ((l : Int) == kn) = ((kids.length : Int) == kn) := by rw [hlen]
  generalize hres : plainL (kf a q) kn of gives (testB 129 v a) st s kids = res
  rw [plainL, ← hz] at hres
  refine ⟨fun a1 n1 c1 r1 r2 x w2 => (C = a1 ∧ n1 = zs.length ∧ cc = c1 ∧ r1 = some g ∧ r2 = some h ∧ x = st.parts) ∧ ((l : Int) == kn && strEq s (ByteArray.mk #[]) && testB 129 v a) = true ∧ LMem w2 b g h zs C cc st.ks st.ts ∧ Upd w w2 (S3 b g h), ⟨fun e1 => ⟨fun e2 w1 hE1 _ _ => ?_, fun e2 w1 hE1 _ _ hh1 => ?_⟩, fun e1 w1 hE1 _ _ hh1 => ?_⟩, ?_⟩
  · refine callB (test_c 129 (by decide) v a) fun w2 hE2 hh2 => ?_
    have hE02 : Ext w w2 := Ext.trans hE1 hE2
    refine callM (st := st) (t := testB 129 v a) ⟨hh2, hw.2.ext hE02⟩ (ext_s3 hE02) aw (fun e => by rw [← hres, e1, e2, e]; rfl) fun w3 ht hM3 hU3 => ⟨⟨rfl, rfl, rfl, rfl, rfl, rfl⟩, by rw [e1, e2, ht]; rfl, hM3, (ext_s3 hE02).t3 hU3⟩
  · exact callM (st := st) (t := false) ⟨hh1, hw.2.ext hE1⟩ (ext_s3 hE1) aw (fun e => by rw [← hres, e1, e2]; rfl) fun w2 ht _ _ => by cases ht
  · exact callM (st := st) (t := false) ⟨hh1, hw.2.ext hE1⟩ (ext_s3 hE1) aw (fun e => by rw [← hres, e1]; rfl) fun w2 ht _ _ => by cases ht
  rintro _ _ _ _ _ _ _ w2 ⟨⟨rfl, rfl, rfl, rfl, rfl, rfl⟩, hc, hM2, hU2⟩
  rw [if_pos hc] at hres
  exact loopK (s0 := st) [id, id1] hk hr hl ⟨hb, hg, hh⟩ hi1 hU2 hM2 (fun e => by rw [← hres, e]; rfl) fun s1 w5 he hM5 hU5 hh5 => ⟨(gives, s1), by rw [← hres, he]; rfl, rfl, ⟨hh5, hM5⟩, hU5⟩
theorem plain130_c {kf : Int → Int → WS → Nd → Option (Int × WS)} {k v : Int} {s : ByteArray} {kids : List Nd} (hk : ∀ j (_ : j < kids.length), KL b g h zs C cc kf kids[j])
    {w : World} {A : Option Addr} {l c : Nat} (kn of gives a q : Int) (st : WS) (hw : Lst w b g h zs C cc st) (hr : NdsR w (Fw b g h) kids A l c) {ab : Nat} (hab : w.heap[ab]? = some (.cells #[.int .i64 a] 3 (0, 0))) :
    CallsX E.P 111 #[.agg #[.int .i64 kn, .int .i64 of, .int .i64 gives, .func (.func 130) #[] #[.pointer (some ⟨ab, 0, none⟩)]], .pointer (some ⟨b, 0, none⟩), ndA (.mk k v s kids) A l c, .int .i64 a, .int .i64 q] w
      (LR b g h zs C cc w (plainL (kf a q) kn of gives (testB 130 v a) st s kids)) (LX b g h w (plainL (kf a q) kn of gives (testB 130 v a) st s kids)) := by
  obtain ⟨hb, hg, hh⟩ := hw.lt
  have hl := hr.lt
  have hlen := hr.len
  dsimp only [ndA, Nd.k, Nd.n, Nd.s, Nd.kids]
  refine vc111_130 hw.1 ?_
  intro id hid id1 hid1
  have hi1 : ∀ i ∈ [id, id1], w.heap.size ≤ i := by simp; omega
  have aw : Away [id, id1] (S3 b g h) := away_s3 hb hg hh hi1
  have hz : ((l : Int) == kn) = ((kids.length : Int) == kn) := by rw [hlen]
  generalize hres : plainL (kf a q) kn of gives (testB 130 v a) st s kids = res
  rw [plainL, ← hz] at hres
  refine ⟨fun a1 n1 c1 r1 r2 x w2 => (C = a1 ∧ n1 = zs.length ∧ cc = c1 ∧ r1 = some g ∧ r2 = some h ∧ x = st.parts) ∧ ((l : Int) == kn && strEq s (ByteArray.mk #[]) && testB 130 v a) = true ∧ LMem w2 b g h zs C cc st.ks st.ts ∧ Upd w w2 (S3 b g h), ⟨fun e1 => ⟨fun e2 w1 hE1 _ _ => ?_, fun e2 w1 hE1 _ _ hh1 => ?_⟩, fun e1 w1 hE1 _ _ hh1 => ?_⟩, ?_⟩
  · refine callB (around_c v a (by rw [Upd.keep hE1 ab (lt_of_get hab) (fun h => h)]; exact hab)) fun w2 hE2 hh2 => ?_
    have hE02 : Ext w w2 := Ext.trans hE1 hE2
    refine callM (st := st) (t := testB 130 v a) ⟨hh2, hw.2.ext hE02⟩ (ext_s3 hE02) aw (fun e => by rw [← hres, e1, e2, e]; rfl) fun w3 ht hM3 hU3 => ⟨⟨rfl, rfl, rfl, rfl, rfl, rfl⟩, by rw [e1, e2, ht]; rfl, hM3, (ext_s3 hE02).t3 hU3⟩
  · exact callM (st := st) (t := false) ⟨hh1, hw.2.ext hE1⟩ (ext_s3 hE1) aw (fun e => by rw [← hres, e1, e2]; rfl) fun w2 ht _ _ => by cases ht
  · exact callM (st := st) (t := false) ⟨hh1, hw.2.ext hE1⟩ (ext_s3 hE1) aw (fun e => by rw [← hres, e1]; rfl) fun w2 ht _ _ => by cases ht
  rintro _ _ _ _ _ _ _ w2 ⟨⟨rfl, rfl, rfl, rfl, rfl, rfl⟩, hc, hM2, hU2⟩
  rw [if_pos hc] at hres
  exact loopK (s0 := st) [id, id1] hk hr hl ⟨hb, hg, hh⟩ hi1 hU2 hM2 (fun e => by rw [← hres, e]; rfl) fun s1 w5 he hM5 hU5 hh5 => ⟨(gives, s1), by rw [← hres, he]; rfl, rfl, ⟨hh5, hM5⟩, hU5⟩
theorem plain131_c {kf : Int → Int → WS → Nd → Option (Int × WS)} {k v : Int} {s : ByteArray} {kids : List Nd} (hk : ∀ j (_ : j < kids.length), KL b g h zs C cc kf kids[j])
    {w : World} {A : Option Addr} {l c : Nat} (kn of gives a q : Int) (st : WS) (hw : Lst w b g h zs C cc st) (hr : NdsR w (Fw b g h) kids A l c) :
    CallsX E.P 111 #[.agg #[.int .i64 kn, .int .i64 of, .int .i64 gives, .func (.func 131) #[] #[]], .pointer (some ⟨b, 0, none⟩), ndA (.mk k v s kids) A l c, .int .i64 a, .int .i64 q] w
      (LR b g h zs C cc w (plainL (kf a q) kn of gives (testB 131 v a) st s kids)) (LX b g h w (plainL (kf a q) kn of gives (testB 131 v a) st s kids)) := by
  obtain ⟨hb, hg, hh⟩ := hw.lt
  have hl := hr.lt
  have hlen := hr.len
  dsimp only [ndA, Nd.k, Nd.n, Nd.s, Nd.kids]
  refine vc111_131 hw.1 ?_
  intro id hid id1 hid1
  have hi1 : ∀ i ∈ [id, id1], w.heap.size ≤ i := by simp; omega
  have aw : Away [id, id1] (S3 b g h) := away_s3 hb hg hh hi1
  have hz : ((l : Int) == kn) = ((kids.length : Int) == kn) := by rw [hlen]
  generalize hres : plainL (kf a q) kn of gives (testB 131 v a) st s kids = res
  rw [plainL, ← hz] at hres
  refine ⟨fun a1 n1 c1 r1 r2 x w2 => (C = a1 ∧ n1 = zs.length ∧ cc = c1 ∧ r1 = some g ∧ r2 = some h ∧ x = st.parts) ∧ ((l : Int) == kn && strEq s (ByteArray.mk #[]) && testB 131 v a) = true ∧ LMem w2 b g h zs C cc st.ks st.ts ∧ Upd w w2 (S3 b g h), ⟨fun e1 => ⟨fun e2 w1 hE1 _ _ => ?_, fun e2 w1 hE1 _ _ hh1 => ?_⟩, fun e1 w1 hE1 _ _ hh1 => ?_⟩, ?_⟩
  · refine callB (test_c 131 (by decide) v a) fun w2 hE2 hh2 => ?_
    have hE02 : Ext w w2 := Ext.trans hE1 hE2
    refine callM (st := st) (t := testB 131 v a) ⟨hh2, hw.2.ext hE02⟩ (ext_s3 hE02) aw (fun e => by rw [← hres, e1, e2, e]; rfl) fun w3 ht hM3 hU3 => ⟨⟨rfl, rfl, rfl, rfl, rfl, rfl⟩, by rw [e1, e2, ht]; rfl, hM3, (ext_s3 hE02).t3 hU3⟩
  · exact callM (st := st) (t := false) ⟨hh1, hw.2.ext hE1⟩ (ext_s3 hE1) aw (fun e => by rw [← hres, e1, e2]; rfl) fun w2 ht _ _ => by cases ht
  · exact callM (st := st) (t := false) ⟨hh1, hw.2.ext hE1⟩ (ext_s3 hE1) aw (fun e => by rw [← hres, e1]; rfl) fun w2 ht _ _ => by cases ht
  rintro _ _ _ _ _ _ _ w2 ⟨⟨rfl, rfl, rfl, rfl, rfl, rfl⟩, hc, hM2, hU2⟩
  rw [if_pos hc] at hres
  exact loopK (s0 := st) [id, id1] hk hr hl ⟨hb, hg, hh⟩ hi1 hU2 hM2 (fun e => by rw [← hres, e]; rfl) fun s1 w5 he hM5 hU5 hh5 => ⟨(gives, s1), by rw [← hres, he]; rfl, rfl, ⟨hh5, hM5⟩, hU5⟩
theorem plain134_c {kf : Int → Int → WS → Nd → Option (Int × WS)} {k v : Int} {s : ByteArray} {kids : List Nd} (hk : ∀ j (_ : j < kids.length), KL b g h zs C cc kf kids[j])
    {w : World} {A : Option Addr} {l c : Nat} (kn of gives a q : Int) (st : WS) (hw : Lst w b g h zs C cc st) (hr : NdsR w (Fw b g h) kids A l c) :
    CallsX E.P 111 #[.agg #[.int .i64 kn, .int .i64 of, .int .i64 gives, .func (.func 134) #[] #[]], .pointer (some ⟨b, 0, none⟩), ndA (.mk k v s kids) A l c, .int .i64 a, .int .i64 q] w
      (LR b g h zs C cc w (plainL (kf a q) kn of gives (testB 134 v a) st s kids)) (LX b g h w (plainL (kf a q) kn of gives (testB 134 v a) st s kids)) := by
  obtain ⟨hb, hg, hh⟩ := hw.lt
  have hl := hr.lt
  have hlen := hr.len
  dsimp only [ndA, Nd.k, Nd.n, Nd.s, Nd.kids]
  refine vc111_134 hw.1 ?_
  intro id hid id1 hid1
  have hi1 : ∀ i ∈ [id, id1], w.heap.size ≤ i := by simp; omega
  have aw : Away [id, id1] (S3 b g h) := away_s3 hb hg hh hi1
  have hz : ((l : Int) == kn) = ((kids.length : Int) == kn) := by rw [hlen]
  generalize hres : plainL (kf a q) kn of gives (testB 134 v a) st s kids = res
  rw [plainL, ← hz] at hres
  refine ⟨fun a1 n1 c1 r1 r2 x w2 => (C = a1 ∧ n1 = zs.length ∧ cc = c1 ∧ r1 = some g ∧ r2 = some h ∧ x = st.parts) ∧ ((l : Int) == kn && strEq s (ByteArray.mk #[]) && testB 134 v a) = true ∧ LMem w2 b g h zs C cc st.ks st.ts ∧ Upd w w2 (S3 b g h), ⟨fun e1 => ⟨fun e2 w1 hE1 _ _ => ?_, fun e2 w1 hE1 _ _ hh1 => ?_⟩, fun e1 w1 hE1 _ _ hh1 => ?_⟩, ?_⟩
  · refine callB (test_c 134 (by decide) v a) fun w2 hE2 hh2 => ?_
    have hE02 : Ext w w2 := Ext.trans hE1 hE2
    refine callM (st := st) (t := testB 134 v a) ⟨hh2, hw.2.ext hE02⟩ (ext_s3 hE02) aw (fun e => by rw [← hres, e1, e2, e]; rfl) fun w3 ht hM3 hU3 => ⟨⟨rfl, rfl, rfl, rfl, rfl, rfl⟩, by rw [e1, e2, ht]; rfl, hM3, (ext_s3 hE02).t3 hU3⟩
  · exact callM (st := st) (t := false) ⟨hh1, hw.2.ext hE1⟩ (ext_s3 hE1) aw (fun e => by rw [← hres, e1, e2]; rfl) fun w2 ht _ _ => by cases ht
  · exact callM (st := st) (t := false) ⟨hh1, hw.2.ext hE1⟩ (ext_s3 hE1) aw (fun e => by rw [← hres, e1]; rfl) fun w2 ht _ _ => by cases ht
  rintro _ _ _ _ _ _ _ w2 ⟨⟨rfl, rfl, rfl, rfl, rfl, rfl⟩, hc, hM2, hU2⟩
  rw [if_pos hc] at hres
  exact loopK (s0 := st) [id, id1] hk hr hl ⟨hb, hg, hh⟩ hi1 hU2 hM2 (fun e => by rw [← hres, e]; rfl) fun s1 w5 he hM5 hU5 hh5 => ⟨(gives, s1), by rw [← hres, he]; rfl, rfl, ⟨hh5, hM5⟩, hU5⟩
theorem other132_c {k v : Int} {s : ByteArray} {kids : List Nd} {r : Option (Int × WS)} {w : World} {A : Option Addr} {l c : Nat} (kn a q : Int) (st : WS) (hw : Lst w b g h zs C cc st) (hr : NdsR w (Fw b g h) kids A l c)
    (hin : ((kids.length : Int) == kn) = true → ∀ w2, Lst w2 b g h zs C cc st → NdsR w2 (Fw b g h) kids A l c →
      CallsX E.P 132 #[.pointer (some ⟨b, 0, none⟩), ndA (.mk k v s kids) A l c, .int .i64 a, .int .i64 q] w2 (LR b g h zs C cc w2 r) (LX b g h w2 r)) :
    CallsX E.P 112 #[.agg #[.int .i64 kn, .func (.func 132) #[] #[]], .pointer (some ⟨b, 0, none⟩), ndA (.mk k v s kids) A l c, .int .i64 a, .int .i64 q] w
      (LR b g h zs C cc w (if (kids.length : Int) == kn && strEq s (ByteArray.mk #[]) then r else none)) (LX b g h w (if (kids.length : Int) == kn && strEq s (ByteArray.mk #[]) then r else none)) := by
  obtain ⟨hb, hg, hh⟩ := hw.lt
  have hlen := hr.len
  dsimp only [ndA, Nd.k, Nd.n, Nd.s, Nd.kids] at *
  refine vc112_132 hw.1 ?_
  intro id hid id1 hid1
  have aw : Away [id, id1] (S3 b g h) := away_s3 hb hg hh (by simp; omega)
  have hz : ((l : Int) == kn) = ((kids.length : Int) == kn) := by rw [hlen]
  generalize hres : (if (kids.length : Int) == kn && strEq s (ByteArray.mk #[]) then r else none) = res
  rw [← hz] at hres
  refine ⟨fun a1 n1 c1 r1 r2 x w2 => (C = a1 ∧ n1 = zs.length ∧ cc = c1 ∧ r1 = some g ∧ r2 = some h ∧ x = st.parts) ∧ ((l : Int) == kn && strEq s (ByteArray.mk #[])) = true ∧ LMem w2 b g h zs C cc st.ks st.ts ∧ Upd w w2 (S3 b g h), ⟨fun e1 w1 hE1 _ _ hh1 => ?_, fun e1 w1 hE1 _ _ hh1 => ?_⟩, ?_⟩
  · refine callM (st := st) (t := strEq s (ByteArray.mk #[])) ⟨hh1, hw.2.ext hE1⟩ (ext_s3 hE1) aw (fun e => by rw [← hres, e1, e]; rfl) fun w3 ht hM3 hU3 => ⟨⟨rfl, rfl, rfl, rfl, rfl, rfl⟩, by rw [e1, ht]; rfl, hM3, (ext_s3 hE1).t3 hU3⟩
  · exact callM (st := st) (t := false) ⟨hh1, hw.2.ext hE1⟩ (ext_s3 hE1) aw (fun e => by rw [← hres, e1]; rfl) fun w2 ht _ _ => by cases ht
  rintro _ _ _ _ _ _ _ w2 ⟨⟨rfl, rfl, rfl, rfl, rfl, rfl⟩, hc, hM2, hU2⟩ hh2
  rw [if_pos hc] at hres
  subst hres
  simp only [Bool.and_eq_true] at hc
  exact callL (hin (by rw [← hz]; exact hc.1) w2 ⟨hh2, hM2⟩ (hr.s3 hU2)) hU2 aw (fun e => e) fun y s1 w4 he hw4 hU4 hh4 => ⟨(y, s1), he, rfl, ⟨hh4, hw4.2⟩, hU2.t3 hU4⟩
theorem other133_c {k v : Int} {s : ByteArray} {kids : List Nd} {r : Option (Int × WS)} {w : World} {A : Option Addr} {l c : Nat} (kn a q : Int) (st : WS) (hw : Lst w b g h zs C cc st) (hr : NdsR w (Fw b g h) kids A l c)
    (hin : ((kids.length : Int) == kn) = true → ∀ w2, Lst w2 b g h zs C cc st → NdsR w2 (Fw b g h) kids A l c →
      CallsX E.P 133 #[.pointer (some ⟨b, 0, none⟩), ndA (.mk k v s kids) A l c, .int .i64 a, .int .i64 q] w2 (LR b g h zs C cc w2 r) (LX b g h w2 r)) :
    CallsX E.P 112 #[.agg #[.int .i64 kn, .func (.func 133) #[] #[]], .pointer (some ⟨b, 0, none⟩), ndA (.mk k v s kids) A l c, .int .i64 a, .int .i64 q] w
      (LR b g h zs C cc w (if (kids.length : Int) == kn && strEq s (ByteArray.mk #[]) then r else none)) (LX b g h w (if (kids.length : Int) == kn && strEq s (ByteArray.mk #[]) then r else none)) := by
  obtain ⟨hb, hg, hh⟩ := hw.lt
  have hlen := hr.len
  dsimp only [ndA, Nd.k, Nd.n, Nd.s, Nd.kids] at *
  refine vc112_133 hw.1 ?_
  intro id hid id1 hid1
  have aw : Away [id, id1] (S3 b g h) := away_s3 hb hg hh (by simp; omega)
  have hz : ((l : Int) == kn) = ((kids.length : Int) == kn) := by rw [hlen]
  generalize hres : (if (kids.length : Int) == kn && strEq s (ByteArray.mk #[]) then r else none) = res
  rw [← hz] at hres
  refine ⟨fun a1 n1 c1 r1 r2 x w2 => (C = a1 ∧ n1 = zs.length ∧ cc = c1 ∧ r1 = some g ∧ r2 = some h ∧ x = st.parts) ∧ ((l : Int) == kn && strEq s (ByteArray.mk #[])) = true ∧ LMem w2 b g h zs C cc st.ks st.ts ∧ Upd w w2 (S3 b g h), ⟨fun e1 w1 hE1 _ _ hh1 => ?_, fun e1 w1 hE1 _ _ hh1 => ?_⟩, ?_⟩
  · refine callM (st := st) (t := strEq s (ByteArray.mk #[])) ⟨hh1, hw.2.ext hE1⟩ (ext_s3 hE1) aw (fun e => by rw [← hres, e1, e]; rfl) fun w3 ht hM3 hU3 => ⟨⟨rfl, rfl, rfl, rfl, rfl, rfl⟩, by rw [e1, ht]; rfl, hM3, (ext_s3 hE1).t3 hU3⟩
  · exact callM (st := st) (t := false) ⟨hh1, hw.2.ext hE1⟩ (ext_s3 hE1) aw (fun e => by rw [← hres, e1]; rfl) fun w2 ht _ _ => by cases ht
  rintro _ _ _ _ _ _ _ w2 ⟨⟨rfl, rfl, rfl, rfl, rfl, rfl⟩, hc, hM2, hU2⟩ hh2
  rw [if_pos hc] at hres
  subst hres
  simp only [Bool.and_eq_true] at hc
  exact callL (hin (by rw [← hz]; exact hc.1) w2 ⟨hh2, hM2⟩ (hr.s3 hU2)) hU2 aw (fun e => e) fun y s1 w4 he hw4 hU4 hh4 => ⟨(y, s1), he, rfl, ⟨hh4, hw4.2⟩, hU2.t3 hU4⟩
theorem other135_c {k v : Int} {s : ByteArray} {kids : List Nd} {r : Option (Int × WS)} {w : World} {A : Option Addr} {l c : Nat} (kn a q : Int) (st : WS) (hw : Lst w b g h zs C cc st) (hr : NdsR w (Fw b g h) kids A l c)
    (hin : ((kids.length : Int) == kn) = true → ∀ w2, Lst w2 b g h zs C cc st → NdsR w2 (Fw b g h) kids A l c →
      CallsX E.P 135 #[.pointer (some ⟨b, 0, none⟩), ndA (.mk k v s kids) A l c, .int .i64 a, .int .i64 q] w2 (LR b g h zs C cc w2 r) (LX b g h w2 r)) :
    CallsX E.P 112 #[.agg #[.int .i64 kn, .func (.func 135) #[] #[]], .pointer (some ⟨b, 0, none⟩), ndA (.mk k v s kids) A l c, .int .i64 a, .int .i64 q] w
      (LR b g h zs C cc w (if (kids.length : Int) == kn && strEq s (ByteArray.mk #[]) then r else none)) (LX b g h w (if (kids.length : Int) == kn && strEq s (ByteArray.mk #[]) then r else none)) := by
  obtain ⟨hb, hg, hh⟩ := hw.lt
  have hlen := hr.len
  dsimp only [ndA, Nd.k, Nd.n, Nd.s, Nd.kids] at *
  refine vc112_135 hw.1 ?_
  intro id hid id1 hid1
  have aw : Away [id, id1] (S3 b g h) := away_s3 hb hg hh (by simp; omega)
  have hz : ((l : Int) == kn) = ((kids.length : Int) == kn) := by rw [hlen]
  generalize hres : (if (kids.length : Int) == kn && strEq s (ByteArray.mk #[]) then r else none) = res
  rw [← hz] at hres
  refine ⟨fun a1 n1 c1 r1 r2 x w2 => (C = a1 ∧ n1 = zs.length ∧ cc = c1 ∧ r1 = some g ∧ r2 = some h ∧ x = st.parts) ∧ ((l : Int) == kn && strEq s (ByteArray.mk #[])) = true ∧ LMem w2 b g h zs C cc st.ks st.ts ∧ Upd w w2 (S3 b g h), ⟨fun e1 w1 hE1 _ _ hh1 => ?_, fun e1 w1 hE1 _ _ hh1 => ?_⟩, ?_⟩
  · refine callM (st := st) (t := strEq s (ByteArray.mk #[])) ⟨hh1, hw.2.ext hE1⟩ (ext_s3 hE1) aw (fun e => by rw [← hres, e1, e]; rfl) fun w3 ht hM3 hU3 => ⟨⟨rfl, rfl, rfl, rfl, rfl, rfl⟩, by rw [e1, ht]; rfl, hM3, (ext_s3 hE1).t3 hU3⟩
  · exact callM (st := st) (t := false) ⟨hh1, hw.2.ext hE1⟩ (ext_s3 hE1) aw (fun e => by rw [← hres, e1]; rfl) fun w2 ht _ _ => by cases ht
  rintro _ _ _ _ _ _ _ w2 ⟨⟨rfl, rfl, rfl, rfl, rfl, rfl⟩, hc, hM2, hU2⟩ hh2
  rw [if_pos hc] at hres
  subst hres
  simp only [Bool.and_eq_true] at hc
  exact callL (hin (by rw [← hz]; exact hc.1) w2 ⟨hh2, hM2⟩ (hr.s3 hU2)) hU2 aw (fun e => e) fun y s1 w4 he hw4 hU4 hh4 => ⟨(y, s1), he, rfl, ⟨hh4, hw4.2⟩, hU2.t3 hU4⟩
theorem other136_c {k v : Int} {s : ByteArray} {kids : List Nd} {r : Option (Int × WS)} {w : World} {A : Option Addr} {l c : Nat} (kn a q : Int) (st : WS) (hw : Lst w b g h zs C cc st) (hr : NdsR w (Fw b g h) kids A l c)
    (hin : ((kids.length : Int) == kn) = true → ∀ w2, Lst w2 b g h zs C cc st → NdsR w2 (Fw b g h) kids A l c →
      CallsX E.P 136 #[.pointer (some ⟨b, 0, none⟩), ndA (.mk k v s kids) A l c, .int .i64 a, .int .i64 q] w2 (LR b g h zs C cc w2 r) (LX b g h w2 r)) :
    CallsX E.P 112 #[.agg #[.int .i64 kn, .func (.func 136) #[] #[]], .pointer (some ⟨b, 0, none⟩), ndA (.mk k v s kids) A l c, .int .i64 a, .int .i64 q] w
      (LR b g h zs C cc w (if (kids.length : Int) == kn && strEq s (ByteArray.mk #[]) then r else none)) (LX b g h w (if (kids.length : Int) == kn && strEq s (ByteArray.mk #[]) then r else none)) := by
  obtain ⟨hb, hg, hh⟩ := hw.lt
  have hlen := hr.len
  dsimp only [ndA, Nd.k, Nd.n, Nd.s, Nd.kids] at *
  refine vc112_136 hw.1 ?_
  intro id hid id1 hid1
  have aw : Away [id, id1] (S3 b g h) := away_s3 hb hg hh (by simp; omega)
  have hz : ((l : Int) == kn) = ((kids.length : Int) == kn) := by rw [hlen]
  generalize hres : (if (kids.length : Int) == kn && strEq s (ByteArray.mk #[]) then r else none) = res
  rw [← hz] at hres
  refine ⟨fun a1 n1 c1 r1 r2 x w2 => (C = a1 ∧ n1 = zs.length ∧ cc = c1 ∧ r1 = some g ∧ r2 = some h ∧ x = st.parts) ∧ ((l : Int) == kn && strEq s (ByteArray.mk #[])) = true ∧ LMem w2 b g h zs C cc st.ks st.ts ∧ Upd w w2 (S3 b g h), ⟨fun e1 w1 hE1 _ _ hh1 => ?_, fun e1 w1 hE1 _ _ hh1 => ?_⟩, ?_⟩
  · refine callM (st := st) (t := strEq s (ByteArray.mk #[])) ⟨hh1, hw.2.ext hE1⟩ (ext_s3 hE1) aw (fun e => by rw [← hres, e1, e]; rfl) fun w3 ht hM3 hU3 => ⟨⟨rfl, rfl, rfl, rfl, rfl, rfl⟩, by rw [e1, ht]; rfl, hM3, (ext_s3 hE1).t3 hU3⟩
  · exact callM (st := st) (t := false) ⟨hh1, hw.2.ext hE1⟩ (ext_s3 hE1) aw (fun e => by rw [← hres, e1]; rfl) fun w2 ht _ _ => by cases ht
  rintro _ _ _ _ _ _ _ w2 ⟨⟨rfl, rfl, rfl, rfl, rfl, rfl⟩, hc, hM2, hU2⟩ hh2
  rw [if_pos hc] at hres
  subst hres
  simp only [Bool.and_eq_true] at hc
  exact callL (hin (by rw [← hz]; exact hc.1) w2 ⟨hh2, hM2⟩ (hr.s3 hU2)) hU2 aw (fun e => e) fun y s1 w4 he hw4 hU4 hh4 => ⟨(y, s1), he, rfl, ⟨hh4, hw4.2⟩, hU2.t3 hU4⟩
def ShpV (w : World) (a : Int) : Shp → Value → Prop
  | .plain kids of gives t, v => ∃ cap, v = .iface 125 (.agg #[.int .i64 kids, .int .i64 of, .int .i64 gives, .func (.func t) #[] cap]) ∧
      ((t ≠ 130 ∧ cap = #[]) ∨ (t = 130 ∧ ∃ ab, cap = #[.pointer (some ⟨ab, 0, none⟩)] ∧ w.heap[ab]? = some (.cells #[.int .i64 a] 3 (0, 0))))
  | .other kids t, v => v = .iface 128 (.agg #[.int .i64 kids, .func (.func t) #[] #[]])
  | .none, v => v = .nilIface
theorem shape_c (k v : Int) (s : ByteArray) (A : Option Addr) (l c : Nat) (a : Int) {w : World} :
    CallsX E.P 110 #[.agg #[.int .i64 k, .int .i64 v, .string s, .slice A l c], .int .i64 a] w (fun x w' => ShpV w' a (shapeF k v) x ∧ Ext w w') never := by
  refine vc110 ?_
  intro id hid id1 hid1
  refine ⟨fun e w1 hE _ _ _ => by obtain rfl : k = 1 := eq_of_beq e; exact ⟨⟨_, rfl, .inl ⟨by decide, rfl⟩⟩, hE⟩, fun c1 => ?_⟩
  refine ⟨fun e w1 hE _ _ _ => by obtain rfl : k = 2 := eq_of_beq e; exact ⟨⟨_, rfl, .inl ⟨by decide, rfl⟩⟩, hE⟩, fun c2 => ?_⟩
  refine ⟨fun e w1 hE _ _ _ => by obtain rfl : k = 3 := eq_of_beq e; exact ⟨⟨_, rfl, .inl ⟨by decide, rfl⟩⟩, hE⟩, fun c3 => ?_⟩
  refine ⟨fun e w1 hE _ _ hh => by obtain rfl : k = 5 := eq_of_beq e; exact ⟨⟨_, rfl, .inr ⟨rfl, id1, rfl, hh⟩⟩, hE⟩, fun c5 => ?_⟩
  refine ⟨fun e w1 hE _ _ _ => by obtain rfl : k = 6 := eq_of_beq e; exact ⟨⟨_, rfl, .inl ⟨by decide, rfl⟩⟩, hE⟩, fun c6 => ?_⟩
  refine ⟨fun e w1 hE _ _ _ => by obtain rfl : k = 7 := eq_of_beq e; exact ⟨⟨_, rfl, .inl ⟨by decide, rfl⟩⟩, hE⟩, fun c7 => ?_⟩
  refine ⟨fun e w1 hE _ _ _ => by obtain rfl : k = 8 := eq_of_beq e; exact ⟨⟨_, rfl, .inl ⟨by decide, rfl⟩⟩, hE⟩, fun c8 => ?_⟩
  refine ⟨fun e w1 hE _ _ _ => by obtain rfl : k = 9 := eq_of_beq e; exact ⟨⟨_, rfl, .inl ⟨by decide, rfl⟩⟩, hE⟩, fun c9 => ?_⟩
  refine ⟨fun e w1 hE _ _ _ => by obtain rfl : k = 10 := eq_of_beq e; exact ⟨⟨_, rfl, .inl ⟨by decide, rfl⟩⟩, hE⟩, fun c10 => ?_⟩
  refine ⟨fun e w1 hE _ _ _ => by obtain rfl : k = 11 := eq_of_beq e; exact ⟨⟨_, rfl, .inl ⟨by decide, rfl⟩⟩, hE⟩, fun c11 => ?_⟩
  refine ⟨fun e w1 hE _ _ _ => by obtain rfl : k = 12 := eq_of_beq e; exact ⟨⟨_, rfl, .inl ⟨by decide, rfl⟩⟩, hE⟩, fun c12 => ?_⟩
  refine ⟨fun e w1 hE _ _ _ => by obtain rfl : k = 15 := eq_of_beq e; exact ⟨⟨_, rfl, .inl ⟨by decide, rfl⟩⟩, hE⟩, fun c15 => ?_⟩
  refine ⟨fun e w1 hE _ _ _ => by obtain rfl : k = 16 := eq_of_beq e; exact ⟨⟨_, rfl, .inl ⟨by decide, rfl⟩⟩, hE⟩, fun c16 => ?_⟩
  refine ⟨fun e w1 hE _ _ _ => by obtain rfl : k = 17 := eq_of_beq e; exact ⟨⟨_, rfl, .inl ⟨by decide, rfl⟩⟩, hE⟩, fun c17 => ?_⟩
  refine ⟨fun e w1 hE _ _ _ => by obtain rfl : k = 18 := eq_of_beq e; exact ⟨⟨_, rfl, .inl ⟨by decide, rfl⟩⟩, hE⟩, fun c18 => ?_⟩
  refine ⟨fun e w1 hE _ _ _ => by obtain rfl : k = 13 := eq_of_beq e; exact ⟨rfl, hE⟩, fun c13 => ?_⟩
  refine ⟨fun e w1 hE _ _ _ => by obtain rfl : k = 14 := eq_of_beq e; exact ⟨rfl, hE⟩, fun c14 => ?_⟩
  refine ⟨fun e w1 hE _ _ _ => by obtain rfl : k = 19 := eq_of_beq e; exact ⟨rfl, hE⟩, fun c19 => ?_⟩
  refine ⟨fun e => by
    obtain rfl : k = 20 := eq_of_beq e
    exact ⟨fun e w1 hE _ _ _ => by obtain rfl : v = 1 := eq_of_beq e; exact ⟨⟨_, rfl, .inl ⟨by decide, rfl⟩⟩, hE⟩, fun d1 => ⟨fun e w1 hE _ _ _ => by obtain rfl : v = 2 := eq_of_beq e; exact ⟨⟨_, rfl, .inl ⟨by decide, rfl⟩⟩, hE⟩, fun d2 => ⟨fun e w1 hE _ _ _ => by obtain rfl : v = 3 := eq_of_beq e; exact ⟨⟨_, rfl, .inl ⟨by decide, rfl⟩⟩, hE⟩, fun d3 => ⟨fun e w1 hE _ _ _ => by obtain rfl : v = 10 := eq_of_beq e; exact ⟨⟨_, rfl, .inl ⟨by decide, rfl⟩⟩, hE⟩, fun d10 => fun w1 hE _ _ _ => ⟨by rw [show shapeF 20 v = .plain 1 3 1 134 by show (if (v == 1) = true then _ else _) = _; rw [iff0 d1, iff0 d2, iff0 d3, iff0 d10]]; exact ⟨_, rfl, .inl ⟨by decide, rfl⟩⟩, hE⟩⟩⟩⟩⟩, fun c20 => ?_⟩
  refine ⟨fun e w1 hE _ _ _ => by obtain rfl : k = 21 := eq_of_beq e; exact ⟨rfl, hE⟩, fun c21 => ?_⟩
  refine ⟨fun e w1 hE _ _ _ => by obtain rfl : k = 26 := eq_of_beq e; exact ⟨rfl, hE⟩, fun c26 => ?_⟩
  exact fun w1 hE _ _ _ => ⟨by rw [show shapeF k v = .none by unfold shapeF; rw [iff0 c1, iff0 c2, iff0 c3, iff0 c5, iff0 c6, iff0 c7, iff0 c8, iff0 c9, iff0 c10, iff0 c11, iff0 c12, iff0 c15, iff0 c16, iff0 c17, iff0 c18, iff0 c13, iff0 c14, iff0 c19, iff0 c20, iff0 c21, iff0 c26]]; exact rfl, hE⟩
end
section
open Go Go.Vx Go.Proofs
theorem zero125 (w : World) : Sem.run E.P (zeroValue 125) w = .ok (.agg #[.int .i64 0, .int .i64 0, .int .i64 0, .nilFunc]) w := Tryz.zeroValue125 w
theorem zero128 (w : World) : Sem.run E.P (zeroValue 128) w = .ok (.agg #[.int .i64 0, .nilFunc]) w := Tryz.zeroValue128 w
theorem ta125_hit (v : Value) (w : World) : Sem.run E.P (Instr.typeAssert (.iface 125 v) 122 125 true) w = .ok (.tuple #[v, .bool true]) w := by
  simp only [Instr.typeAssert, Sem.run_bind, run_underlying (P := E.P) (Tryz.underlying125) w, Result.andThen_ok, if_pos, Sem.run_pure]
theorem ta125_other (v : Value) (w : World) : Sem.run E.P (Instr.typeAssert (.iface 128 v) 122 125 true) w = .ok (.tuple #[.agg #[.int .i64 0, .int .i64 0, .int .i64 0, .nilFunc], .bool false]) w := by
  simp only [Instr.typeAssert, Sem.run_bind, run_underlying (P := E.P) (Tryz.underlying125) w, Result.andThen_ok, if_neg (show ¬ (128 : Nat) = 125 by decide), if_true, zero125 w, Sem.run_pure]
theorem ta125_nil (w : World) : Sem.run E.P (Instr.typeAssert .nilIface 122 125 true) w = .ok (.tuple #[.agg #[.int .i64 0, .int .i64 0, .int .i64 0, .nilFunc], .bool false]) w := by
  simp only [Instr.typeAssert, Sem.run_bind, run_underlying (P := E.P) (Tryz.underlying125) w, Result.andThen_ok, if_true, zero125 w, Sem.run_pure]
theorem ta128_hit (v : Value) (w : World) : Sem.run E.P (Instr.typeAssert (.iface 128 v) 122 128 true) w = .ok (.tuple #[v, .bool true]) w := by
  simp only [Instr.typeAssert, Sem.run_bind, run_underlying (P := E.P) (Tryz.underlying128) w, Result.andThen_ok, if_pos, Sem.run_pure]
theorem ta128_nil (w : World) : Sem.run E.P (Instr.typeAssert .nilIface 122 128 true) w = .ok (.tuple #[.agg #[.int .i64 0, .nilFunc], .bool false]) w := by
  simp only [Instr.typeAssert, Sem.run_bind, run_underlying (P := E.P) (Tryz.underlying128) w, Result.andThen_ok, if_true, zero128 w, Sem.run_pure]
def goodShp : Shp → Prop
  | .plain _ _ _ t => t = 127 ∨ t = 128 ∨ t = 129 ∨ t = 130 ∨ t = 131 ∨ t = 134
  | .other kn t => (kn = 2 ∧ t = 132) ∨ (kn = 3 ∧ t = 133) ∨ (kn = 2 ∧ t = 135) ∨ (kn = 1 ∧ t = 136)
  | .none => True
theorem good_if {c : Prop} [Decidable c] {x y : Shp} (hx : goodShp x) (hy : goodShp y) : goodShp (if c then x else y) := by split <;> assumption
theorem shape_good (k v : Int) : goodShp (shapeF k v) := by
  unfold shapeF
  repeat' apply good_if
  all_goals simp [goodShp]
variable {b g h : Nat} {zs : List Int} {C : Option Addr} {cc : Nat}
theorem kindK_c : ∀ (f : Nat) (n : Nd), n.size ≤ f → KL b g h zs C cc (lookK zs f) n := by
  intro f
  induction f with
  | zero => intro n hn; cases n with | mk k v s l => simp only [Nd.size] at hn; omega
  | succ f ih =>
    intro n hn w A l c a q st hw hr
    obtain ⟨hb, hg, hh⟩ := hw.lt
    obtain ⟨k, v, s, kids⟩ := n
    have hsz : Nd.sizes kids ≤ f := by simp only [Nd.size] at hn; omega
    have hk : ∀ j (_ : j < kids.length), KL b g h zs C cc (lookK zs f) kids[j] := fun j hj => ih _ (Nat.le_trans (Nd.size_lt (List.getElem_mem hj)) hsz)
    have hd : ∀ j, j < kids.length → KL b g h zs C cc (lookK zs f) (kids.getD j nd0) := fun j hj => by
      rw [List.getD_eq_getElem?_getD, List.getElem?_eq_getElem hj]; exact hk j hj
    dsimp only [ndA, Nd.k, Nd.n, Nd.s, Nd.kids] at *
    refine vc79 hw.1 ?_
    intro id hid w1 hU1 hi1 hh1
    have aw : Away [id] (S3 b g h) := away_s3 hb hg hh (by simp; omega)
    refine callM (st := st.inc) (t := decide (w64 (st.parts + 1) ≤ 4096)) (lst_put (st := st) hw.2 hU1 hh1 rfl rfl) (upd_s3 hU1) aw (fun e => by rw [lookK, e]; rfl) fun w2 ht hM2 hU2 => ?_
    have hU02 := (upd_s3 (g := g) (h := h) hU1).t3 hU2
    have hs2 := hU02.size
    generalize hres : lookK zs (f + 1) a q st (.mk k v s kids) = res
    rw [lookK, ht] at hres
    simp only [Bool.not_true, Bool.false_eq_true, if_false] at hres
    refine ⟨_, _, shape_c k v s A l c a, ?_, never_any⟩
    rintro v2 w3 ⟨hS, hE3⟩
    refine ⟨v2, rfl, no, hE3, Away.no _, ?_⟩
    have hU03 := hU02.t3 (ext_s3 hE3)
    have hs3 := hE3.size
    have hgood := shape_good k v
    generalize shapeF k v = sh at hS hres hgood
    cases sh with
    | none =>
      obtain rfl : v2 = .nilIface := hS
      exact ⟨false, _, _, _, _, ta125_nil _, (fun e => nomatch e), fun _ => ⟨false, _, _, ta128_nil _, (fun e => nomatch e), fun _ => ⟨hres.symm, rfl, hU03⟩⟩⟩
    | plain kn of gives t =>
      obtain ⟨cap, rfl, hcap⟩ := hS
      refine ⟨true, _, _, _, _, ta125_hit _ _, fun _ id1 hid1 => ⟨rfl, fun w4 hE4 hi4 hh4 => ?_⟩, fun e => nomatch e⟩
      have hU04 := hU03.t3 (ext_s3 hE4)
      have aw2 : Away [id, id1] (S3 b g h) := away_s3 hb hg hh (by simp; omega)
      have fin : ∀ {r : Option (Int × WS)} {fv : Value} (_ : r = res) (_ : CallsX E.P 111 #[.agg #[.int .i64 kn, .int .i64 of, .int .i64 gives, fv], .pointer (some ⟨b, 0, none⟩), .agg #[.int .i64 k, .int .i64 v, .string s, .slice A l c], .int .i64 a, .int .i64 q] w4 (LR b g h zs C cc w4 r) (LX b g h w4 r)), _ := fun {r fv} e hc =>
        callL (K := fun x4 a2 n1 c2 r2 r3 x5 w22 => w22.heap[b]? = some (Obj.cells (#[.slice a2 n1 c2, Value.map r2, Value.map r3, .int .i64 x5]) 103) → LR b g h zs C cc w res (.int .i64 x4) w22) (rc := res) hc hU04 aw2 (fun e2 => by rw [← e, e2]) fun y s1 w5 he hw5 hU5 hh5 => ⟨(y, s1), by rw [← e, he], rfl, ⟨hh5, hw5.2⟩, hU04.t3 hU5⟩
      have hL4 : Lst w4 b g h zs C cc st.inc := ⟨hh4, (LMem.ext (ks := st.inc.ks) (ts := st.inc.ts) hM2 hE3).ext hE4⟩
      have hr4 := hr.s3 hU04
      rcases hcap with ⟨hne, rfl⟩ | ⟨rfl, ab, rfl, hab⟩
      · rcases hgood with rfl | rfl | rfl | rfl | rfl | rfl
        · exact fin hres (plain127_c hk kn of gives a q st.inc hL4 hr4)
        · exact fin hres (plain128_c hk kn of gives a q st.inc hL4 hr4)
        · exact fin hres (plain129_c hk kn of gives a q st.inc hL4 hr4)
        · exact absurd rfl hne
        · exact fin hres (plain131_c hk kn of gives a q st.inc hL4 hr4)
        · exact fin hres (plain134_c hk kn of gives a q st.inc hL4 hr4)
      · exact fin hres (plain130_c hk kn of gives a q st.inc hL4 hr4 (by rw [Upd.keep hE4 ab (lt_of_get hab) (fun h => h)]; exact hab))
    | other kn t =>
      obtain rfl : v2 = _ := hS
      refine ⟨false, _, _, _, _, ta125_other _ _, (fun e => nomatch e), fun _ => ⟨true, _, _, ta128_hit _ _, fun _ id1 hid1 => ⟨rfl, fun w4 hE4 hi4 hh4 => ?_⟩, fun e => nomatch e⟩⟩
      have hU04 := hU03.t3 (ext_s3 hE4)
      have aw2 : Away [id, id1] (S3 b g h) := away_s3 hb hg hh (by simp; omega)
      have fin : ∀ {r : Option (Int × WS)} {fv : Value} (_ : r = res) (_ : CallsX E.P 112 #[.agg #[.int .i64 kn, fv], .pointer (some ⟨b, 0, none⟩), .agg #[.int .i64 k, .int .i64 v, .string s, .slice A l c], .int .i64 a, .int .i64 q] w4 (LR b g h zs C cc w4 r) (LX b g h w4 r)), _ := fun {r fv} e hc =>
        callL (K := fun x4 a2 n1 c2 r2 r3 x5 w22 => w22.heap[b]? = some (Obj.cells (#[.slice a2 n1 c2, Value.map r2, Value.map r3, .int .i64 x5]) 103) → LR b g h zs C cc w res (.int .i64 x4) w22) (rc := res) hc hU04 aw2 (fun e2 => by rw [← e, e2]) fun y s1 w5 he hw5 hU5 hh5 => ⟨(y, s1), by rw [← e, he], rfl, ⟨hh5, hw5.2⟩, hU04.t3 hU5⟩
      have hL4 : Lst w4 b g h zs C cc st.inc := ⟨hh4, (LMem.ext (ks := st.inc.ks) (ts := st.inc.ts) hM2 hE3).ext hE4⟩
      have hr4 := hr.s3 hU04
      have hlen : ∀ {m : Int}, ((kids.length : Int) == m) = true → (kids.length : Int) = m := fun e => eq_of_beq e
      rcases hgood with ⟨rfl, rfl⟩ | ⟨rfl, rfl⟩ | ⟨rfl, rfl⟩ | ⟨rfl, rfl⟩
      · exact fin hres (other132_c 2 a q st.inc hL4 hr4 fun e w5 hw5 hr5 => by
          have := hlen e; exact alikeK_c (by omega) (hd 0 (by omega)) (hd 1 (by omega)) a q st.inc hw5 hr5)
      · exact fin hres (other133_c 3 a q st.inc hL4 hr4 fun e w5 hw5 hr5 => by
          have := hlen e; exact choiceK_c (by omega) (hd 0 (by omega)) (hd 1 (by omega)) (hd 2 (by omega)) a q st.inc hw5 hr5)
      · exact fin hres (other135_c 2 a q st.inc hL4 hr4 fun e w5 hw5 hr5 => by
          have := hlen e
          refine quantK_c (by omega) (setK_c fun j hj => ih _ ?_) (hd 1 (by omega)) a q st.inc hw5 hr5
          have h1 := kid_lt hj
          have h2 : (kids.getD 0 nd0).size ≤ f := by
            rw [List.getD_eq_getElem?_getD, List.getElem?_eq_getElem (show 0 < kids.length by omega)]
            exact Nat.le_trans (Nd.size_lt (List.getElem_mem _)) hsz
          omega)
      · exact fin hres (other136_c 1 a q st.inc hL4 hr4 fun e w5 hw5 hr5 => by
          have := hlen e; exact cellK_c (by omega) (hd 0 (by omega)) a q st.inc hw5 hr5)
end
section
open Go Go.Vx Go.Proofs
variable {b g h : Nat} {zs : List Int} {C : Option Addr} {cc : Nat}
end
end Go.Vx.Tryz
namespace Go.Vx
open Go
section
end
end Go.Vx
namespace Go.Vx.Tryz
open Go Go.Vx Go.Proofs
section
end
section
open Go Go.Vx Go.Proofs
theorem test77 (x : Int) {w : World} : CallsX E.P 77 #[.int .i64 x] w (IsV (.bool (decide (x < 0) || decide (x > 4))) w) never := by
  have r := Upd.refl w no
  refine vc77 ⟨fun h => ⟨by rw [h]; rfl, r⟩, fun h => ⟨by rw [h]; rfl, r⟩⟩
theorem cellsBad_cons (x : Int) (l : List Int) : cellsBad (x :: l) = ((decide (x < 0) || decide (x > 4)) || cellsBad l) := by
  rw [cellsBad]; cases decide (x < 0) <;> cases decide (x > 4) <;> rfl
theorem bad_c (zs : List Int) {w : World} {G : Nat → Prop} {B : Option Addr} {bl bc : Nat} (h2 : IntsR w G zs B bl bc) : CallsX E.P 76 #[.slice B bl bc, .func (.func 77) #[] #[]] w (IsV (.bool (cellsBad zs)) w) never := by
  obtain rfl := h2.len
  have hl := h2.lt
  refine vc76 ?_
  refine ⟨fun v w2 => (∃ x : Int, v = .int .i64 x ∧ decide (x ≥ 0) = cellsBad zs) ∧ Ext w w2, never, vc108 ?_, ?_, never_any⟩
  · refine loop0 (kids := zs) rfl (by omega) (Upd.refl w _) (fun _ => cellsBad) (fun I m j w2 hj hg hE2 k => ?_) (fun w2 hg hE2 => ?_)
    · rw [cellsBad_cons] at hg
      refine h2.idx hj fun ad ha => (h2.ext hE2).cell ha hj ?_
      refine callB (test77 _) fun w3 hE3 => ⟨fun ht => ?_, fun ht => ?_⟩
      · exact ⟨⟨_, rfl, by rw [← hg, ht]; simp⟩, hE2.trans hE3⟩
      · rw [ht, Bool.false_or] at hg
        exact k _ hg (hE2.trans hE3)
    · exact ⟨⟨_, rfl, by rw [← hg]; rfl⟩, hE2⟩
  · rintro v w2 ⟨⟨x, rfl, hx⟩, hE⟩
    exact ⟨x, rfl, no, hE, Away.no _, by rw [hx], hE⟩
set_option maxRecDepth 20000
set_option maxHeartbeats 1000000
theorem catch_idle (p : Addr) (w : World) :
    CallsD Tryz.prog 78 #[.pointer (some p)] .returning w fun e u' w' => e = .returned (.tuple #[]) ∧ u' = .returning ∧ w' = w := by
  refine callsD_of_wpS Tryz.func78 rfl fun c₀ cs hu => ?_
  apply wpS_seq
  apply wpS_region
  simp [wpOpsS, go_sem, recoverD, hu, Tryz.ntmps78, Exit.thenS]
  refine wpS_of_wp ?_
  have ht : (#[Value.pointer (some p)] ++ (Array.replicate 9 undef).setIfInBounds 3 Value.nilIface) = #[Value.pointer (some p), undef, undef, undef, Value.nilIface, undef, undef, undef, undef, undef] := rfl
  rw [ht]
  go_wp2
  cases c₀
  simp_all [bodyPostS, results, Tryz.results78]
theorem one_cell {w : World} {b : Nat} {x : Value} {t : Nat} (h : w.heap[b]? = some (.cells #[x] t (0, 0))) : w.cell? ⟨b, 0, none⟩ = some x ∧ w.frozen? ⟨b, 0, none⟩ = false := by
  constructor
  · simp only [World.cell?, h]; rfl
  · simp only [World.frozen?, h]; rfl
theorem alloc_keep {w : World} {b : Nat} {o o2 : Obj} (h : w.heap[b]? = some o) : (w.alloc o2).heap[b]? = some o := by
  have := lt_of_get h
  simp only [World.alloc, Array.getElem?_push]
  rw [if_neg (by omega)]; exact h
theorem alloc_new {w : World} {o : Obj} : (w.alloc o).heap[w.heap.size]? = some o := by show (w.heap.push o)[w.heap.size]? = some o; exact Array.getElem?_push_size
theorem catch_unfit (b : Nat) (older : List PanicEntry) (x : Int) (w : World) (h : w.heap[b]? = some (.cells #[.int .i64 x] 3 (0, 0))) :
    CallsD Tryz.prog 78 #[.pointer (some ⟨b, 0, none⟩)] (.panicking ({ v := .iface 98 (.agg #[]), recovered := false } :: older)) w fun e u' w' =>
      e = .returned (.tuple #[]) ∧ u' = .panicking ({ v := .iface 98 (.agg #[]), recovered := true } :: older) ∧ w' = (w.alloc (.cells #[] 98)).setCell ⟨b, 0, none⟩ (.int .i64 0) := by
  refine callsD_of_wpS Tryz.func78 rfl fun c₀ cs hu => ?_
  apply wpS_seq
  apply wpS_region
  simp [wpOpsS, go_sem, recoverD, hu, Tryz.ntmps78, Exit.thenS]
  refine wpS_of_wp ?_
  have ht : (#[Value.pointer (some ⟨b, 0, none⟩)] ++ (Array.replicate 9 undef).setIfInBounds 3 (.iface 98 (.agg #[]))) = #[Value.pointer (some ⟨b, 0, none⟩), undef, undef, undef, .iface 98 (.agg #[]), undef, undef, undef, undef, undef] := rfl
  rw [ht]
  have hta : ∀ w : World, Sem.run Tryz.prog (Instr.typeAssert (.iface 98 (.agg #[])) 20 98 true) w = .ok (.tuple #[.agg #[], .bool true]) w := fun w => by simp only [Instr.typeAssert, Sem.run_bind, run_underlying (Tryz.underlying98) w, Result.andThen_ok, if_pos, Sem.run_pure]
  obtain ⟨hc, hz⟩ := one_cell (alloc_keep (o2 := .cells #[] 98) h)
  go_wp2
  refine ⟨rfl, _, rfl, _, results_none rfl _ _ _, rfl, rfl, rfl⟩
theorem alloc_ext (w : World) (o : Obj) : Ext w (w.alloc o) :=
  ⟨rfl, rfl, rfl, by simp only [World.size_alloc]; omega, fun k hk _ => by simp only [World.alloc, Array.getElem?_push]; rw [if_neg (by omega)]⟩
theorem set_upd (w : World) (b : Nat) (v : Value) : Upd w (w.setCell ⟨b, 0, none⟩ v) (fun x => x = b) :=
  ⟨rfl, rfl, rfl, by simp [World.setCell], fun k hk hs => by simp only [World.setCell, Array.getElem?_modify]; rw [if_neg (fun e => hs e.symm)]⟩
theorem set_at {w : World} {b : Nat} {x : Value} {t : Nat} (h : w.heap[b]? = some (.cells #[x] t (0, 0))) (v : Value) : (w.setCell ⟨b, 0, none⟩ v).heap[b]? = some (.cells #[v] t (0, 0)) := by
  simp only [World.setCell, Array.getElem?_modify, h]; simp
theorem res49 {tm : Array Value} {w : World} {b : Nat} {x : Int} (h : tm[2]?.getD undef = .pointer (some ⟨b, 0, none⟩)) (hh : w.heap[b]? = some (.cells #[.int .i64 x] 3 (0, 0))) : (results Tryz.f49 tm).run Tryz.prog w = .ok (.int .i64 x) w := by
  obtain ⟨hc, hz⟩ := one_cell hh
  simp [results, Tryz.results49, go_sem, h, hc]
theorem start_lst {w w2 : World} {G : Nat → Prop} {zs : List Int} {B : Option Addr} {bc : Nat} (h2 : IntsR w G zs B zs.length bc) (hE : Ext w w2) (hG : ∀ x, G x → x < w.heap.size) :
    Lst (((w2.alloc (.map #[] 0)).alloc (.map #[] 0)).alloc (.cells #[.slice B zs.length bc, .map (some w2.heap.size), .map (some (w2.heap.size + 1)), .int .i64 0] 103)) (w2.heap.size + 1 + 1) w2.heap.size (w2.heap.size + 1) zs B bc
      ⟨0, List.replicate zs.length none, List.replicate zs.length 0, true⟩ := by
  have hs := hE.size
  have e1 : w2.heap.size + 1 = (w2.alloc (.map #[] 0)).heap.size := by simp
  have e2 : w2.heap.size + 1 + 1 = ((w2.alloc (.map #[] 0)).alloc (.map #[] 0)).heap.size := by simp
  have hE3 := ((alloc_ext w2 (.map #[] 0)).trans (alloc_ext _ (.map #[] 0))).trans (alloc_ext _ (.cells #[.slice B zs.length bc, .map (some w2.heap.size), .map (some (w2.heap.size + 1)), .int .i64 0] 103))
  refine ⟨by rw [e2]; exact alloc_new, ?_, ⟨fun _ => none, ⟨[], 0, alloc_keep (alloc_keep alloc_new), fun _ _ => rfl, by simp [bornOk]⟩, fun i x hx => ?_⟩, ⟨fun _ => none, ⟨[], 0, by rw [e1]; exact alloc_keep alloc_new, fun _ _ => rfl, by simp [bornOk]⟩, fun i y hy => ?_⟩, by simp, by simp, by omega, by omega, by omega⟩
  · exact RowIn.mono (RowIn.upd h2 (hE.trans hE3) (no_no _)) fun x hx hS => by
      have := hG x hx
      rcases hS with e | e | e <;> omega
  · have := List.getElem?_eq_some_iff.1 hx
    obtain ⟨hi, hx⟩ := this
    simp at hx
    subst hx; rfl
  · obtain ⟨hi, hy⟩ := List.getElem?_eq_some_iff.1 hy
    simp at hy
theorem kind49 (p : Pl) {w : World} {F G : Nat → Prop} {A : Option Addr} {l c : Nat} {B : Option Addr} {bl bc : Nat} (h : NdsR w F p.root.kids A l c) (h2 : IntsR w G p.cells B bl bc) (hF : ∀ x, F x ∨ G x → x < w.heap.size) :
    CallsX E.P 49 #[plA p A l c B bl bc] w (IsV (.int .i64 (planKind p)) w) never := by
  refine ⟨?_⟩
  show Calls Tryz.prog 49 _ _ _
  have hmf : ∀ (fn : Fn) (first cap : Array Value) (w : World), (Instr.makeFunc fn first cap).run Tryz.prog w = .ok (.func fn first cap) w := fun _ _ _ _ => rfl
  have hmk : ∀ (t : Nat) (w : World), Sem.run Tryz.prog (Instr.makeMap t none) w = .ok (.map (some w.heap.size)) (w.alloc (.map #[] 0)) := fun _ _ => rfl
  obtain rfl := h2.len
  have hE1 : Ext w ((w.alloc (Obj.cells #[.int .i64 p.root.k, .int .i64 p.root.n, .string p.root.s, .slice A l c, .slice B p.cells.length bc] 27)).alloc (Obj.cells #[.int .i64 0] 3)) := (alloc_ext _ _).trans (alloc_ext _ _)
  have k1 : ((w.alloc (Obj.cells #[.int .i64 p.root.k, .int .i64 p.root.n, .string p.root.s, .slice A l c, .slice B p.cells.length bc] 27)).alloc (Obj.cells #[.int .i64 0] 3)).heap[w.heap.size]? = some (Obj.cells #[.int .i64 p.root.k, .int .i64 p.root.n, .string p.root.s, .slice A l c, .slice B p.cells.length bc] 27) := alloc_keep alloc_new
  have k2 : ((w.alloc (Obj.cells #[.int .i64 p.root.k, .int .i64 p.root.n, .string p.root.s, .slice A l c, .slice B p.cells.length bc] 27)).alloc (Obj.cells #[.int .i64 0] 3)).heap[w.heap.size + 1]? = some (Obj.cells #[.int .i64 0] 3) := by
    have := alloc_new (w := w.alloc (Obj.cells #[.int .i64 p.root.k, .int .i64 p.root.n, .string p.root.s, .slice A l c, .slice B p.cells.length bc] 27)) (o := Obj.cells #[.int .i64 0] 3)
    rwa [World.size_alloc] at this
  have k3 : w.heap.size + 2 ≤ ((w.alloc (Obj.cells #[.int .i64 p.root.k, .int .i64 p.root.n, .string p.root.s, .slice A l c, .slice B p.cells.length bc] 27)).alloc (Obj.cells #[.int .i64 0] 3)).heap.size := by simp
  go_enter_defers Tryz.func49, Tryz.ntmps49
  go_wp2_with fail
  · generalize ((w.alloc (Obj.cells #[.int .i64 p.root.k, .int .i64 p.root.n, .string p.root.s, .slice A l c, .slice B p.cells.length bc] 27)).alloc (Obj.cells #[.int .i64 0] 3)) = w1 at *
    refine (bad_c p.cells (h2.ext hE1)).out.mono ?_
    rintro (v | _ | _) w2 hR
    · obtain ⟨rfl, hE2⟩ := hR
      have g1 : w2.heap[w.heap.size]? = _ := (hE2.keep _ (lt_of_get k1) (fun h => h)).trans k1
      have g2 : w2.heap[w.heap.size + 1]? = _ := (hE2.keep _ (lt_of_get k2) (fun h => h)).trans k2
      have hs2 := hE2.size
      have hE02 := hE1.trans hE2
      have c4 : w2.cell? ⟨w.heap.size, 4, none⟩ = some (.slice B p.cells.length bc) := by simp only [World.cell?, g1]; rfl
      obtain ⟨c5, z5⟩ := one_cell g2
      have g3 : (((w2.alloc (.map #[] 0)).alloc (.map #[] 0)).alloc (.cells #[.slice B p.cells.length bc, .map (some w2.heap.size), .map (some (w2.heap.size + 1)), .int .i64 0] 103)).heap[w.heap.size]? = _ := alloc_keep (alloc_keep (alloc_keep g1))
      have g4 : (((w2.alloc (.map #[] 0)).alloc (.map #[] 0)).alloc (.cells #[.slice B p.cells.length bc, .map (some w2.heap.size), .map (some (w2.heap.size + 1)), .int .i64 0] 103)).heap[w.heap.size + 1]? = _ := alloc_keep (alloc_keep (alloc_keep g2))
      have hE03 := hE02.trans (((alloc_ext w2 (.map #[] 0)).trans (alloc_ext _ (.map #[] 0))).trans (alloc_ext _ (.cells #[.slice B p.cells.length bc, .map (some w2.heap.size), .map (some (w2.heap.size + 1)), .int .i64 0] 103)))
      have hL := start_lst h2 hE02 (fun x hx => hF x (.inr hx))
      have d0 : (((w2.alloc (.map #[] 0)).alloc (.map #[] 0)).alloc (.cells #[.slice B p.cells.length bc, .map (some w2.heap.size), .map (some (w2.heap.size + 1)), .int .i64 0] 103)).cell? ⟨w.heap.size, 0, none⟩ = some (.int .i64 p.root.k) := by rw [World.cell?, g3]; rfl
      have d1 : (((w2.alloc (.map #[] 0)).alloc (.map #[] 0)).alloc (.cells #[.slice B p.cells.length bc, .map (some w2.heap.size), .map (some (w2.heap.size + 1)), .int .i64 0] 103)).cell? ⟨w.heap.size, 1, none⟩ = some (.int .i64 p.root.n) := by rw [World.cell?, g3]; rfl
      have d2 : (((w2.alloc (.map #[] 0)).alloc (.map #[] 0)).alloc (.cells #[.slice B p.cells.length bc, .map (some w2.heap.size), .map (some (w2.heap.size + 1)), .int .i64 0] 103)).cell? ⟨w.heap.size, 2, none⟩ = some (.string p.root.s) := by rw [World.cell?, g3]; rfl
      have d3 : (((w2.alloc (.map #[] 0)).alloc (.map #[] 0)).alloc (.cells #[.slice B p.cells.length bc, .map (some w2.heap.size), .map (some (w2.heap.size + 1)), .int .i64 0] 103)).cell? ⟨w.heap.size, 3, none⟩ = some (.slice A l c) := by rw [World.cell?, g3]; rfl
      cases hb : cellsBad p.cells with
      | true =>
        go_wp2_with fail
        refine ⟨.int .i64 0, res49 rfl (set_at g2 _), ?_, Upd.step hE02 (set_upd _ _ _) (by intro x hx; omega)⟩
        rw [planKind, hb, if_pos rfl]
        split <;> rfl
      | false =>
        go_wp2_with fail
        have hpk1 : ∀ r, lookK p.cells p.root.size 0 0 ⟨0, List.replicate p.cells.length none, List.replicate p.cells.length 0, true⟩ p.root = some r → planKind p = r.1 := fun r e => by
          rw [planKind, hb, if_neg (by simp; omega), if_neg Bool.false_ne_true, e]
        have hpk0 : lookK p.cells p.root.size 0 0 ⟨0, List.replicate p.cells.length none, List.replicate p.cells.length 0, true⟩ p.root = none → planKind p = 0 := fun e => by
          rw [planKind, hb, if_neg (by simp; omega), if_neg Bool.false_ne_true, e]
        refine (kindK_c p.root.size p.root (Nat.le_refl _) 0 0 _ hL (NdsG.mono (h.ext hE03) fun x hx hS => by
          have := hF x (.inl hx)
          have := hE02.size
          rcases hS with e | e | e <;> omega)).out.mono ?_
        have hk4 : ∀ {w4 : World}, Upd (((w2.alloc (.map #[] 0)).alloc (.map #[] 0)).alloc (.cells #[.slice B p.cells.length bc, .map (some w2.heap.size), .map (some (w2.heap.size + 1)), .int .i64 0] 103)) w4 (S3 (w2.heap.size + 1 + 1) w2.heap.size (w2.heap.size + 1)) →
            w4.heap[w.heap.size + 1]? = some (.cells #[.int .i64 0] 3 (0, 0)) ∧ Ext w w4 := fun {w4} hU => by
          refine ⟨(hU.keep _ (lt_of_get g4) (fun hS => ?_)).trans g4, Upd.step hE03 hU fun x hx => ?_⟩
          · rcases hS with e | e | e <;> omega
          · have := hE02.size
            rcases hx with e | e | e <;> omega
        rintro (v | ch | _) w4 hR
        · obtain ⟨pr, hpr, rfl, hL4, hU⟩ := hR
          obtain ⟨hc4, hE4⟩ := hk4 hU
          obtain ⟨e5, e6⟩ := one_cell hc4
          go_wp2_with fail
          refine leaves_cons (f := 78) (args := #[.pointer (some ⟨w.heap.size + 1, 0, none⟩)]) (by simp) (by simp [go_sem]) ?_
          refine (catch_idle _ _).mono ?_
          rintro e u' w'' ⟨rfl, rfl, rfl⟩
          exact ⟨.int .i64 pr.1, res49 rfl (set_at hc4 _), by rw [hpk1 _ hpr], Upd.step hE4 (set_upd _ _ _) (by intro x hx; omega)⟩
        · obtain ⟨hnone, rfl, hU⟩ := hR
          obtain ⟨hc4, hE4⟩ := hk4 hU
          refine leaves_cons (f := 78) (args := #[.pointer (some ⟨w.heap.size + 1, 0, none⟩)]) (by simp) (by simp [go_sem]) ?_
          refine (catch_unfit (w.heap.size + 1) [] 0 w4 hc4).mono ?_
          rintro e u' w'' ⟨rfl, rfl, rfl⟩
          exact ⟨.int .i64 0, res49 rfl (set_at (alloc_keep hc4) _), by rw [hpk0 hnone], Upd.step (hE4.trans (alloc_ext _ _)) (set_upd _ _ _) (by intro x hx; omega)⟩
        · exact hR.elim
    · exact hR.elim
    · exact hR.elim
  · refine ⟨.int .i64 0, res49 rfl k2, ?_, hE1⟩
    rename_i hx
    rw [planKind, if_pos (by simp; omega)]
theorem planKind_c (p : Pl) {w : World} {F G : Nat → Prop} {A : Option Addr} {l c : Nat} {B : Option Addr} {bl bc : Nat} (h : NdsR w F p.root.kids A l c) (h2 : IntsR w G p.cells B bl bc) (hF : ∀ x, F x ∨ G x → x < w.heap.size) :
    CallsX E.P 49 #[plA p A l c B bl bc] w (IsV (.int .i64 (refKind p)) w) never := planKind_eq p ▸ kind49 p h h2 hF
theorem planRight_c (p : Pl) {w : World} {F G : Nat → Prop} {A : Option Addr} {l c : Nat} {B : Option Addr} {bl bc : Nat} (h : NdsR w F p.root.kids A l c) (h2 : IntsR w G p.cells B bl bc) (hF : ∀ x, F x ∨ G x → x < w.heap.size) :
    CallsX E.P 28 #[plA p A l c B bl bc] w (IsV (.bool (refKind p != 0)) w) never := by
  refine vc28 ?_
  intro id hid w1 hE hi
  exact callI (planKind_c p (h.ext hE) (h2.ext hE) (fun x hx => by have := hF x hx; have := hE.size; omega)) fun w2 hE2 => ⟨rfl, hE.trans hE2⟩
def rightB (p : Pl) : Bool := refKind p != 0
theorem right_le {p : Pl} (h : rightB p = true) : p.cells.length ≤ 256 := by
  unfold rightB refKind at h
  split at h
  · cases h
  · rename_i h2; simp at h2; omega
theorem planHoist_c (p : Pl) (hN : p.root.size < 2 ^ 30) {w : World} {F G : Nat → Prop} {A : Option Addr} {l c : Nat} {B : Option Addr} {bl bc : Nat} (h : NdsR w F p.root.kids A l c) (h2 : IntsR w G p.cells B bl bc) (hF : ∀ x, F x ∨ G x → x < w.heap.size) :
    CallsX E.P 12 #[plA p A l c B bl bc] w (fun v w' => ∃ A l c B bl bc F G, v = .tuple #[plA (hoistP p (rightB p)).1 A l c B bl bc, .int .i64 (hoistP p (rightB p)).2] ∧ PlO w' F G (hoistP p (rightB p)).1 A l c B bl bc ∧ (∀ x, F x ∨ G x → w.heap.size ≤ x ∧ x < w'.heap.size) ∧ Ext w w') never :=
  hoist_c p (rightB p) right_le hN h h2 (fun x hx => hF x (.inl hx)) fun w' hE => planRight_c p (h.ext hE) (h2.ext hE) fun x hx => by have := hF x hx; have := hE.size; omega
end
section
open Go Go.Vx Go.Proofs
theorem hoist_size (p : Pl) (b : Bool) : (hoistP p b).1.root.size ≤ 2 * p.root.size + 1 := by
  unfold hoistP
  split
  · have := gone_size p.root 0 0 p.cells; dsimp only; omega
  · simp [Nd.size, Nd.sizes]
theorem hoist_cells (p : Pl) : (hoistP p (rightB p)).1.cells.length ≤ 256 := by
  unfold hoistP
  split
  · rename_i h; exact gone_len p.root 0 0 p.cells (right_le h)
  · simp
end
section
open Go Go.Vx Go.Proofs
def sumOk : Bool := match parseF sumT 60 with
  | none => false
  | some r => r.2.1 == 0 && decide (r.1.size ≤ 100) && (ofF r.1).2 == 0 && decide ((ofF r.1).1.root.size ≤ 100) &&
    (let q := hoistP (ofF r.1).1 (rightB (ofF r.1).1); q.2 == 0 && decide (q.1.cells = [0]) && decide (q.1.root.kids.length = 2) && (q.1.root.kids.getD 1 nd0).k == 26)
theorem sum_ok : sumOk = true := by decide +kernel
theorem sum_parts : ∃ r : Ex × Int × Int, parseF sumT 60 = some r ∧ r.2.1 = 0 ∧ r.1.size ≤ 100 ∧ (ofF r.1).2 = 0 ∧ (ofF r.1).1.root.size ≤ 100 ∧ (hoistP (ofF r.1).1 (rightB (ofF r.1).1)).2 = 0 ∧
    (hoistP (ofF r.1).1 (rightB (ofF r.1).1)).1.cells = [0] ∧ (hoistP (ofF r.1).1 (rightB (ofF r.1).1)).1.root.kids.length = 2 ∧ ((hoistP (ofF r.1).1 (rightB (ofF r.1).1)).1.root.kids.getD 1 nd0).k = 26 := by
  have h := sum_ok
  unfold sumOk at h
  split at h
  · cases h
  · rename_i r hr
    simp only [Bool.and_eq_true, beq_iff_eq, decide_eq_true_eq] at h
    obtain ⟨⟨⟨⟨h1, h2⟩, h3⟩, h4⟩, ⟨⟨h5, h6⟩, h7⟩, h8⟩ := h
    exact ⟨r, hr, h1, h2, h3, h4, h5, h6, h7, h8⟩
theorem awake_c (w : World) : CallsX E.P 9 #[] w (IsV (.bool true) w) never := by
  obtain ⟨r, hr, e0, hz, f0, hn, g0, hc, hl, hk⟩ := sum_parts
  refine vc9 ?_
  refine ⟨_, _, parse_c sumT 60 (by decide) r hr, ?_, never_any⟩
  rintro v w2 ⟨A, l, c, rfl, hx, hE2⟩
  have t2 := hE2.size
  refine ⟨_, _, _, _, _, _, _, _, _, rfl, no, hE2, Away.no _, fun id hid w3 hE3 hi3 => ?_⟩
  have hE3' : Ext w2 w3 := hE3
  have t3 := hE3'.size
  refine ⟨_, _, of_c r.1 (hx.ext hE3') (fun x hx => by have := hx.2; omega) (by omega), ?_, never_any⟩
  rintro v w4 ⟨A4, l4, c4, rfl, hN4, hcells, hE4⟩
  have t4 := hE4.size
  refine ⟨_, _, _, _, _, _, _, _, _, _, rfl, no, hE4, Away.no _, fun id1 hid1 w5 hE5 hi5 => ?_⟩
  have hE5' : Ext w4 w5 := hE5
  have t5 := hE5'.size
  have hI : IntsR w5 no (ofF r.1).1.cells none 0 0 := by rw [hcells]; exact ⟨rfl, Nat.le_refl _, by decide, by simp, fun h => absurd rfl h⟩
  refine ⟨_, _, planHoist_c (ofF r.1).1 (by omega) (hN4.ext hE5') hI (fun x hx => by rcases hx with hx | hx; have := hx.2; omega; exact hx.elim), ?_, never_any⟩
  rintro v w6 ⟨A6, l6, c6, B6, bl6, bc6, F6, G6, rfl, hO, hF6, hE6⟩
  have hE06 : Ext w w6 := (((hE2.trans hE3').trans hE4).trans hE5').trans hE6
  refine ⟨_, _, _, _, _, _, _, _, _, _, rfl, no, hE6, Away.no _, fun id2 hid2 => ?_⟩
  have hq := hO.1.plain
  have hqc := ints_of hO.2.1
  generalize hoistP (ofF r.1).1 (rightB (ofF r.1).1) = q at hq hqc g0 hc hl hk ⊢
  have l6e : l6 = 2 := by rw [hq.len, hl]
  have b6e : bl6 = 1 := by rw [hqc.len, hc]; rfl
  refine ⟨fun _ => ⟨fun _ => ⟨fun _ => ⟨fun _ => ?_, fun hh => ?_⟩, fun hh => ?_⟩, fun hh => ?_⟩, fun hh => ?_⟩
  · refine hqc.idx (j := 0) (by rw [hc]; decide) fun ad ha w7 hE7 hi7 => ?_
    have hE7' : Ext w6 w7 := hE7
    refine (hqc.ext hE7').cell ha (j := 0) (by rw [hc]; decide) ?_
    have hc0 : q.1.cells[0]'(by rw [hc]; decide) = 0 := by simp only [hc]; rfl
    rw [hc0]
    refine ⟨fun _ => ⟨fun _ => ?_, fun hh => ?_⟩, fun hh => absurd hh (by decide)⟩
    · refine hq.idx (j := 1) (by omega) fun ad1 ha1 => ?_
      obtain ⟨A8, l8, c8, h8, _⟩ := (hq.ext hE7').get ha1 (j := 1) (by omega)
      refine ⟨_, cells_at h8 (j := 0) rfl, ?_⟩
      have hk1 : (q.1.root.kids[1]'(by omega)).k = 26 := by
        rw [List.getD_eq_getElem?_getD, List.getElem?_eq_getElem (by omega)] at hk
        exact hk
      rw [hk1]
      exact ⟨rfl, hE06.trans hE7'⟩
    · rw [l6e] at hh; exact absurd hh (by decide)
  · rw [b6e] at hh; exact absurd hh (by decide)
  · rw [g0] at hh; exact absurd hh (by decide)
  · rw [f0] at hh; exact absurd hh (by decide)
  · rw [e0] at hh; exact absurd hh (by decide)
end
section
open Go Go.Vx Go.Proofs Go.ChangeShapes Go.WideShapes Go.ChangeAt Go.RowKit Go.Joins
set_option maxRecDepth 100000
set_option maxHeartbeats 400000
theorem cellsOf24 : Tryz.prog.cellsOf 24 = 4 := by kernel_rfl
theorem cellsOf3 : Tryz.prog.cellsOf 3 = 1 := by kernel_rfl
theorem cellsOf9 : Tryz.prog.cellsOf 9 = 1 := by kernel_rfl
theorem cellsOf22 : Tryz.prog.cellsOf 22 = 1 := by kernel_rfl
theorem cellsOf25 : Tryz.prog.cellsOf 25 = 1 := by kernel_rfl
theorem cellsOf27 : Tryz.prog.cellsOf 27 = 5 := by kernel_rfl
theorem cells_in {w : World} {a : Addr} {m : Nat} {cs : List Value} (h : w.cells? 0 a m = some cs) : cs.length = m ∧ CellsIn w a cs := by
  obtain ⟨_, hl, hc⟩ := World.cells?_some h
  refine ⟨hl, ⟨fun j c hj => ?_⟩⟩
  have hjl : j < m := by rw [← hl]; exact (List.getElem?_eq_some_iff.1 hj).1
  rw [hc j hjl, hj]
def Old (w : World) : Nat → Prop := fun b => b < w.heap.size
theorem gather {α : Type} {p : Nat → α → Prop} : ∀ (n : Nat), (∀ i, i < n → ∃ x, p i x) → ∃ l : List α, l.length = n ∧ ∀ i x, l[i]? = some x → p i x
  | 0, _ => ⟨[], rfl, fun i x h => by simp at h⟩
  | n + 1, h => by
    obtain ⟨l, hl, hp⟩ := gather n fun i hi => h i (by omega)
    obtain ⟨x, hx⟩ := h n (by omega)
    refine ⟨l ++ [x], by simp [hl], fun i y hy => ?_⟩
    by_cases hi : i < l.length
    · rw [List.getElem?_append_left hi] at hy; exact hp i y hy
    · have hb : i < (l ++ [x]).length := (List.getElem?_eq_some_iff.1 hy).1
      have : i = l.length := by simp at hb; omega
      subst this
      simp at hy
      subst hy
      rw [hl]; exact hx
theorem bytesOf24 : Tryz.prog.bytesOf 24 = 56 := by kernel_rfl
theorem bytesOf3 : Tryz.prog.bytesOf 3 = 8 := by kernel_rfl
section
variable {H : Type}
theorem weights_mem_all {e : TypeId} {x : DataW H} {m : Nat} (hm : m ∈ x.weights Tryz.prog e) : ∀ {l : List (DataW H)}, x ∈ l → m ∈ DataW.weightsAll Tryz.prog e l
  | y :: l, h => by
    rw [DataW.weightsAll, List.mem_append]
    rcases List.mem_cons.1 h with rfl | h
    · exact .inl hm
    · exact .inr (weights_mem_all hm h)
def Fits (t : TypeId) (d : DataW H) : Prop := ∀ m ∈ d.weights Tryz.prog t, m ≤ reachBytes
theorem Fits.slice {t e : TypeId} (ht : Tryz.prog.underlying t = some (.slice e)) {elems spare : List (DataW H)} (h : Fits t (.slice elems spare)) : elems.length * Tryz.prog.bytesOf e ≤ reachBytes ∧ ∀ x ∈ elems, Fits e x := by
  unfold Fits at h
  simp only [DataW.weights, ht, List.mem_cons, List.mem_append] at h
  refine ⟨Nat.le_trans (Nat.mul_le_mul_right _ (Nat.le_add_right _ _)) (h _ (.inl rfl)), fun x hx m hm => h m (.inr (.inl (weights_mem_all hm hx)))⟩
theorem Fits.part {t : TypeId} {fs : Array Field} (ht : Tryz.prog.underlying t = some (.struct fs)) {parts : List (DataW H)} (h : Fits t (.agg parts)) {j : Nat} {f : Field} {x : DataW H} (hf : fs[j]? = some f) (hx : parts[j]? = some x) : Fits f.type x := fun m hm => h m (by
  simp only [DataW.weights, ht]
  exact DataW.weights_mem_each (j := j) (by rw [List.getElem?_map, Array.getElem?_toList, hf]; rfl) hx m hm)
end
section
variable {H : Type} {enc : TypeId × Value → H} {w : World} {sp : Nat → Bool} {hd : Bool}
theorem rows_of {z : Nat} {a : Addr} {len cap : Nat} {α : Type} {q : α → List Value → Prop} (hz : 0 < z) (h2 : len ≤ cap) (h3 : len < 2 ^ 48) (h : ∀ i, i < len → ∃ cs x, w.cells? 0 (a.add (i * z)) z = some cs ∧ q x cs) :
    ∃ (kids : List α) (rows : List (List Value)), RowIn w (Old w) z (some a) len cap rows ∧ rows.length = kids.length ∧ ∀ i x, kids[i]? = some x → q x (rows.getD i []) := by
  obtain ⟨l, hl, hp⟩ := gather (α := List Value × α) (p := fun i y => w.cells? 0 (a.add (i * z)) z = some y.1 ∧ q y.2 y.1) len fun i hi => by
    obtain ⟨cs, x, h4, h5⟩ := h i hi
    exact ⟨(cs, x), h4, h5⟩
  refine ⟨l.map Prod.snd, l.map Prod.fst, ⟨by simp [hl], h2, h3, fun r hr => ?_, fun hne => ?_⟩, by simp, fun i x hx => ?_⟩
  · obtain ⟨y, hy, rfl⟩ := List.mem_map.1 hr
    obtain ⟨i, hi⟩ := List.getElem?_of_mem hy
    exact (cells_in (hp i y hi).1).1
  · refine ⟨a, rfl, ?_, fun i r hr => ?_⟩
    · cases l with
      | nil => simp at hne
      | cons y l =>
        have := (hp 0 y rfl).1
        have := World.cells?_block this hz
        rw [add_block] at this
        exact this
    · rw [List.getElem?_map, Option.map_eq_some_iff] at hr
      obtain ⟨y, hy, rfl⟩ := hr
      exact (cells_in (hp i y hy).1).2
  · rw [List.getElem?_map, Option.map_eq_some_iff] at hx
    obtain ⟨y, hy, rfl⟩ := hx
    have : (l.map Prod.fst).getD i [] = y.1 := by rw [List.getD_eq_getElem?_getD, List.getElem?_map, hy]; rfl
    rw [this]
    exact (hp i y hy).2
theorem read_ints {fuel : Nat} {cs : List Value} {x : DataW H × List MemPlace} (h : DataW.trod enc Tryz.prog w 0 sp hd fuel 25 cs = some x) (hx : Fits 25 x.1) : ∃ zs A l c, cs = [.slice A l c] ∧ IntsR w (Old w) zs A l c := by
  rcases DataW.trod_slice Tryz.underlying25 h with ⟨rfl, _⟩ | ⟨a, len, cap, elems, rest, n, _, rfl, rfl, hb, hl, hm, hlen, hel, _, _⟩
  · exact ⟨[], none, 0, 0, rfl, rfl, Nat.le_refl _, by decide, by simp, fun h => absurd rfl h⟩
  · have hb8 := (hx.slice Tryz.underlying25).1
    rw [bytesOf3, List.length_map, hlen] at hb8
    obtain ⟨kids, rows, h1, h2, h3⟩ := rows_of (w := w) (a := a) (z := 1) (len := len) (cap := cap) (q := fun (x : Int) cs => cs = [.int .i64 x]) (by decide) hl (by simp only [reachBytes] at hb8; omega) fun i hi => by
      have := hel i hi
      rw [List.getElem?_eq_getElem (by omega), cellsOf3] at this
      obtain ⟨cs', h4, h5⟩ := Option.bind_eq_some_iff.1 this
      obtain ⟨k, h6, _, _⟩ := DataW.trod_int Tryz.underlying3 h5
      exact ⟨cs', k, h4, h6⟩
    refine ⟨kids, some a, len, cap, rfl, ?_⟩
    have : rows = kids.map fun z => [Value.int .i64 z] := by
      apply List.ext_getElem (by simpa using h2)
      intro i h4 h5
      have hk : i < kids.length := by omega
      have := h3 i kids[i] (List.getElem?_eq_getElem hk)
      rw [List.getD_eq_getElem?_getD, List.getElem?_eq_getElem h4] at this
      simpa using this
    rw [this] at h1
    exact h1
theorem read_node : ∀ (fuel : Nat) (cs : List Value) (x : DataW H × List MemPlace), DataW.trod enc Tryz.prog w 0 sp hd fuel 24 cs = some x → Fits 24 x.1 → ∃ n, NdG w false (Old w) n cs := by
  intro fuel
  induction fuel using Nat.strongRecOn with
  | ind fuel ih =>
    intro cs x h hx
    obtain ⟨xs, n, rfl, rfl, hlen, hxs, hf⟩ := DataW.trod_struct Tryz.underlying24 h
    rw [cellsOf24] at hlen
    match cs, hlen with
    | [c0, c1, c2, c3], _ =>
      match xs, hxs with
      | [y0, y1, y2, y3], _ =>
        have f0 : DataW.trod enc Tryz.prog w 0 sp hd n 3 (List.take (Tryz.prog.cellsOf 3) [c0, c1, c2, c3]) = some y0 := hf 0 _ rfl
        have f1 : DataW.trod enc Tryz.prog w 0 sp hd n 3 (List.take (Tryz.prog.cellsOf 3) [c1, c2, c3]) = some y1 := hf 1 _ rfl
        have f2 : DataW.trod enc Tryz.prog w 0 sp hd n 9 (List.take (Tryz.prog.cellsOf 9) [c2, c3]) = some y2 := hf 2 _ rfl
        have f3 : DataW.trod enc Tryz.prog w 0 sp hd n 22 (List.take (Tryz.prog.cellsOf 22) [c3]) = some y3 := hf 3 _ rfl
        rw [cellsOf3] at f0 f1
        rw [cellsOf9] at f2
        rw [cellsOf22] at f3
        obtain ⟨k, e0, _, _⟩ := DataW.trod_int Tryz.underlying3 f0
        obtain ⟨v, e1, _, _⟩ := DataW.trod_int Tryz.underlying3 f1
        obtain ⟨s, e2, _, _⟩ := DataW.trod_string Tryz.underlying9 f2
        cases e0; cases e1; cases e2
        rcases DataW.trod_slice Tryz.underlying22 f3 with ⟨e3, _⟩ | ⟨a, len, cap, elems, rest, n', rfl, e3, hy3, hb, hl, hm, hlen2, hel, _, _⟩
        · cases e3
          exact ⟨.mk k v s [], NdsG.node (n := .mk k v s []) ((nds_nil (w := w) (F := Old w)).plain)⟩
        · cases e3
          have hk := Fits.part (x := y3.1) (j := 3) Tryz.underlying24 hx rfl rfl
          rw [hy3] at hk
          obtain ⟨hb8, hel2⟩ := Fits.slice Tryz.underlying22 hk
          rw [bytesOf24, List.length_map, hlen2] at hb8
          obtain ⟨kids, rows, h1, h2, h3⟩ := rows_of (w := w) (a := a) (z := 4) (len := len) (cap := cap) (q := fun (x : Nd) cs => NdG w false (Old w) x cs) (by decide) hl (by simp only [reachBytes] at hb8; omega) fun i hi => by
            have := hel i hi
            rw [List.getElem?_eq_getElem (by omega), cellsOf24] at this
            obtain ⟨cs', h4, h5⟩ := Option.bind_eq_some_iff.1 this
            obtain ⟨m, hm⟩ := ih n' (by omega) cs' _ h5 (hel2 _ (List.mem_map.2 ⟨_, List.getElem_mem _, rfl⟩))
            exact ⟨cs', m, h4, hm⟩
          exact ⟨.mk k v s kids, .mk (Old w) k v s kids (some a) len cap rows (fun _ => Old w) h1 h2 h3 (fun _ _ _ h => h) (fun h => nomatch h)⟩
theorem read_plan {v : Value} {d : DataW H} {ps : List MemPlace} {r : Reach} {b0 : Nat} (hv : Value.okWide Tryz.prog w r b0 27 v) (h : DataW.Trod enc Tryz.prog w 0 sp hd 27 v d ps) (hx : Fits 27 d) : ∃ p A l c B bl bc, v = plA p A l c B bl bc ∧ NdsR w (Old w) p.root.kids A l c ∧ IntsR w (Old w) p.cells B bl bc := by
  obtain ⟨fuel, hf⟩ := h
  obtain ⟨cs, rfl, hsz⟩ := okWide_struct Tryz.underlying27 hv
  obtain ⟨y0, y1, n, he, hlen, h0, h1⟩ := trod_struct2 Tryz.underlying27 hf
  cases he
  rw [cellsOf27] at hlen
  obtain ⟨cs⟩ := cs
  have hlen : cs.length = 5 := hlen
  match cs, hlen with
  | [c0, c1, c2, c3, c4], _ =>
    have h0 : DataW.trod enc Tryz.prog w 0 sp hd n 24 (List.take (Tryz.prog.cellsOf 24) [c0, c1, c2, c3, c4]) = some y0 := h0
    have h1 : DataW.trod enc Tryz.prog w 0 sp hd n 25 (List.take (Tryz.prog.cellsOf 25) [c4]) = some y1 := h1
    rw [cellsOf24] at h0
    rw [cellsOf25] at h1
    obtain ⟨m, hm⟩ := read_node _ _ _ h0 (Fits.part (j := 0) Tryz.underlying27 hx rfl rfl)
    obtain ⟨zs, B, bl, bc, e4, hz⟩ := read_ints h1 (Fits.part (j := 1) Tryz.underlying27 hx rfl rfl)
    cases e4
    obtain ⟨A, l, c, e, hk⟩ := hm.kids
    cases e
    exact ⟨⟨m, zs⟩, A, l, c, B, bl, bc, rfl, hk, hz⟩
end
theorem below_ext {w w' : World} (k : Ext w w') : Below w.heap.size w w' := ⟨k.os, k.tape, k.output, k.size, fun i hi => k.keep i hi fun h => h⟩
theorem post_true {H : Type} {enc : TypeId × Value → H} {fn : Func} {s : ChangeSpec} {t tb : TypeId} (hp : fn.params = #[t]) (hr : fn.resultTypes = #[tb]) (hb : Tryz.prog.underlying tb = some .bool) (hs : s.vars = []) (hf : ∀ d, s.fn H [d] = { results := [.lit (.bool true)], args := [d] })
    (hl : laidOutB Tryz.prog = true) (hrd : Tryz.prog.readableRec t = true) (ht : t < Tryz.prog.types.size) {W W' : World} {args : Array Value} {ds gs : List (DataW H)} {before : List MemPlace} (hW : DataW.Whole enc Tryz.prog fn.params.toList s.vars false W args.toList ds gs before) (k : Ext W W') :
    s.post enc Tryz.prog fn false true false false W args (.bool true) W' := by
  have hW' := hW
  obtain ⟨p, q, hA, hV, rfl, hfz, hnd⟩ := hW
  rw [hp] at hA
  rw [hs] at hV
  obtain ⟨v, d, e1, e2, h0⟩ := trodAll_one hA
  obtain ⟨rfl, rfl⟩ := trodVars_none hV
  subst e2
  have hlt := DataW.Whole.lt hW'
  have hB := below_ext k
  refine ⟨[d], [], _, [], p, [], hW', ?_, ?_, ?_, hB.frame _, fun h => nomatch h⟩
  · have e3 : s.fn H ([d] ++ []) = { results := [.lit (.bool true)], args := [d] } := hf d
    rw [e3, hr]
    exact trodAll_mk1 (shut_bool hb true)
  · have e3 : s.fn H ([d] ++ []) = { results := [.lit (.bool true)], args := [d] } := hf d
    rw [e3, hp, e1]
    exact trodAll_mk1 (WideElems.Trod_stays hl hrd ht h0 (fun x hx => hB.same (hlt x (List.mem_append_left _ hx))) (fun x hx => decide_eq_true (hlt x (List.mem_append_left _ hx))))
  · rw [hs]
    have e3 : s.fn H ([d] ++ []) = { results := [.lit (.bool true)], args := [d] } := hf d
    rw [e3]
    rfl
theorem laidOut : laidOutB Tryz.prog = true := by kernel_rfl
theorem readable27 : Tryz.prog.readableRec 27 = true := by kernel_rfl
theorem types27 : 27 < Tryz.prog.types.size := of_decide_eq_true (by kernel_rfl)
theorem plan_calls {H : Type} {enc : TypeId × Value → H} {f : FuncId} {fn : Func} {s : ChangeSpec} {tb : TypeId} (hp : fn.params = #[27]) (hr : fn.resultTypes = #[tb]) (hb : Tryz.prog.underlying tb = some .bool) (hs : s.vars = []) (hf : ∀ d, s.fn H [d] = { results := [.lit (.bool true)], args := [d] })
    (law : ∀ (p : Pl) {w : World} {F G : Nat → Prop} {A : Option Addr} {l c : Nat} {B : Option Addr} {bl bc : Nat}, NdsR w F p.root.kids A l c → IntsR w G p.cells B bl bc → (∀ x, F x ∨ G x → x < w.heap.size) → CallsX E.P f #[plA p A l c B bl bc] w (IsV (.bool true) w) never)
    {W : World} {base : Nat} {args : Array Value} {ds gs : List (DataW H)} {before : List MemPlace} (hval : ∀ (j : Nat) t v, fn.params[j]? = some t → args[j]? = some v → Value.okWide Tryz.prog W .any base t v) (hW : DataW.Whole enc Tryz.prog fn.params.toList s.vars false W args.toList ds gs before)
    (hsz : (DataW.weightsEach Tryz.prog (fn.params.toList ++ s.plain.varTypes Tryz.prog) (ds ++ gs)).all (· ≤ reachBytes) = true) :
    Calls Tryz.prog f args W fun e W' => ∃ v, e = .returned v ∧ s.post enc Tryz.prog fn false true false false W args v W' := by
  have hW' := hW
  obtain ⟨p, q, hA, hV, _, _, _⟩ := hW
  rw [hp] at hA
  obtain ⟨v, d, rfl, rfl, h0⟩ := trodAll_one hA
  have hx : Fits 27 d := fun m hm => by
    have := List.all_eq_true.1 hsz m (DataW.weights_mem_each (j := 0) (by rw [hp]; rfl) rfl m hm)
    exact of_decide_eq_true this
  obtain ⟨P, A, l, c, B, bl, bc, rfl, h1, h2⟩ := read_plan (hval 0 27 v (by rw [hp]; rfl) rfl) h0 hx
  refine (law P h1 h2 fun x hx => by rcases hx with h | h <;> exact h).out.mono fun e W' h => ?_
  cases e with
  | returned v =>
    have h : v = Value.bool true ∧ Ext W W' := h
    obtain ⟨rfl, hE⟩ := h
    exact ⟨_, rfl, post_true hp hr hb hs hf laidOut readable27 types27 hW' hE⟩
  | panicked ch => exact (h : never ch W').elim
  | outgrown => exact h.elim
end
end Go.Vx.Tryz
namespace Go.Vx
open Go
section
theorem hangsL_ge (b : Int) : ∀ (l : List Nd) (h : Int), h ≤ hangsL b h l
  | [], h => by rw [hangsL]; exact Int.le_refl _
  | x :: l, h => by
    rw [hangsL]
    have := hangsL_ge b l (if hangs b x > h then hangs b x else h)
    have h2 : h ≤ (if hangs b x > h then hangs b x else h) := by split <;> omega
    exact Int.le_trans h2 this
mutual
theorem hangs_part : ∀ (n : Nd) (b a r : Int) (cs : List Int), hangs b (part n a r cs).1 = hangs b n
  | .mk k v s l, b, a, r, cs => by
    rw [part]
    split
    · rfl
    · split
      · rename_i hc
        simp only [Bool.and_eq_true, Bool.or_eq_true, beq_iff_eq] at hc
        have h5 : (k == 5) = false := by rcases hc.1.1 with h | h <;> rw [h] <;> rfl
        have e1 : hangs b (.mk k v s l) = hangsL b 0 l := by rw [hangs, h5]; rfl
        show hangs b (.mk 26 _ _ [.mk k v s _]) = _
        have e2 : ∀ x : Nd, hangs b (.mk 26 (cs.length : Int) (ByteArray.mk #[]) [x]) = if hangs b x > 0 then hangs b x else 0 := fun x => by rw [hangs, hangsL, hangsL]; rfl
        rw [e2, hangs, h5]
        have e3 := hangsL_part l k b 0 a (hangs a (.mk k v s l)) 0 (cs ++ [hangs a (.mk k v s l)])
        rw [if_neg Bool.false_ne_true, e3, e1]
        have := hangsL_ge b l 0
        split <;> omega
      · show hangs b (.mk k v s (partL k a r 0 l cs).1) = _
        rw [hangs, hangs, hangsL_part]
theorem hangsL_part : ∀ (l : List Nd) (k b h a r i : Int) (cs : List Int), hangsL b h (partL k a r i l cs).1 = hangsL b h l
  | [], k, b, h, a, r, i, cs => by rw [partL]
  | x :: l, k, b, h, a, r, i, cs => by
    rw [partL]
    show hangsL b h ((part x _ _ cs).1 :: _) = _
    rw [hangsL, hangsL, hangs_part, hangsL_part]
end
mutual
theorem part_pre : ∀ (n : Nd) (a r : Int) (cs : List Int), cs <+: (part n a r cs).2
  | .mk k v s l, a, r, cs => by
    rw [part]
    split
    · exact List.prefix_refl _
    · split
      · exact List.IsPrefix.trans (List.prefix_append _ _) (partL_pre l k a _ 0 _)
      · exact partL_pre l k a r 0 cs
theorem partL_pre : ∀ (l : List Nd) (k a r i : Int) (cs : List Int), cs <+: (partL k a r i l cs).2
  | [], k, a, r, i, cs => by rw [partL]; exact List.prefix_refl _
  | x :: l, k, a, r, i, cs => by
    rw [partL]
    exact (part_pre x _ _ cs).trans (partL_pre l k a r _ _)
end
theorem w64_a {a : Int} {m : Nat} (h0 : 0 ≤ a) (h : a + m ≤ 2 ^ 40) : w64 a = a := w64_id (by omega) (by omega)
mutual
theorem stands_part : ∀ (n : Nd) (a : Int) (cs : List Int), 0 ≤ a → a + n.size ≤ 2 ^ 40 → (part n a a cs).2.length < 256 → stands (part n a a cs).1 a = true
  | .mk k v s l, a, cs, h0, hs, hl => by
    rw [Nd.size] at hs
    rw [part] at hl ⊢
    by_cases h26 : (k == 26) = true
    · rw [if_pos h26, stands, if_pos h26]
    rw [if_neg h26] at hl ⊢
    by_cases hc : ((k == 20 || k == 21) && decide (hangs a (.mk k v s l) < a) && decide ((cs.length : Int) < 256)) = true
    · rw [if_pos hc]; show stands (.mk 26 _ _ _) a = true; rw [stands]; rfl
    rw [if_neg hc] at hl ⊢
    show stands (.mk k v s (partL k a a 0 l cs).1) a = true
    have hle : cs.length ≤ (partL k a a 0 l cs).2.length := (partL_pre l k a a 0 cs).length_le
    have hlt : decide ((cs.length : Int) < 256) = true := by
      have hl : (partL k a a 0 l cs).2.length < 256 := hl
      exact decide_eq_true (by omega)
    have hh : hangs a (.mk k v s (partL k a a 0 l cs).1) = hangs a (.mk k v s l) := by rw [hangs, hangs, hangsL_part]
    rw [stands, if_neg h26, hh]
    rw [hlt, Bool.and_true] at hc
    rw [Bool.and_assoc, if_neg (by intro h; rw [Bool.and_eq_true] at h; exact hc h.2)]
    exact standsL_part l k a 0 cs h0 (by omega) hl
theorem standsL_part : ∀ (l : List Nd) (k a i : Int) (cs : List Int), 0 ≤ a → a + Nd.sizes l + 1 ≤ 2 ^ 40 → (partL k a a i l cs).2.length < 256 → standsL k a i (partL k a a i l cs).1 = true
  | [], k, a, i, cs, _, _, _ => by rw [partL, standsL]
  | x :: l, k, a, i, cs, h0, hs, hl => by
    rw [Nd.sizes] at hs
    rw [partL] at hl ⊢
    show standsL k a i ((part x _ _ cs).1 :: _) = true
    have hl : (partL k a a (w64 (i + 1)) l (part x (if k == 21 && i == 1 then w64 (a + 1) else a) (if k == 21 && i == 1 then w64 (a + 1) else a) cs).2).2.length < 256 := hl
    have hle := (partL_pre l k a a (w64 (i + 1)) (part x (if k == 21 && i == 1 then w64 (a + 1) else a) (if k == 21 && i == 1 then w64 (a + 1) else a) cs).2).length_le
    have ea : w64 (a + if k == 21 && i == 1 then 1 else 0) = (if k == 21 && i == 1 then w64 (a + 1) else a) := by
      split
      · rfl
      · rw [Int.add_zero]; exact w64_a (m := 0) h0 (by omega)
    have hA : 0 ≤ (if k == 21 && i == 1 then w64 (a + 1) else a) ∧ (if k == 21 && i == 1 then w64 (a + 1) else a) ≤ a + 1 := by
      split
      · rw [w64_a (m := 0) (by omega) (by omega)]; omega
      · omega
    have h1 := stands_part x (if k == 21 && i == 1 then w64 (a + 1) else a) cs hA.1 (by omega) (by omega)
    rw [standsL, ea, h1]
    exact standsL_part l k a (w64 (i + 1)) _ h0 (by omega) hl
end
mutual
theorem again_part : ∀ (n : Nd) (a : Int) (cs cs2 : List Int), (part n a a cs).2.length < 256 → part (part n a a cs).1 a a cs2 = ((part n a a cs).1, cs2)
  | .mk k v s l, a, cs, cs2, hl => by
    rw [part] at hl ⊢
    by_cases h26 : (k == 26) = true
    · rw [if_pos h26, part, if_pos h26]
    rw [if_neg h26] at hl ⊢
    by_cases hc : ((k == 20 || k == 21) && decide (hangs a (.mk k v s l) < a) && decide ((cs.length : Int) < 256)) = true
    · rw [if_pos hc]; show part (.mk 26 _ _ _) a a cs2 = _; rw [part]; rfl
    rw [if_neg hc] at hl ⊢
    show part (.mk k v s (partL k a a 0 l cs).1) a a cs2 = (.mk k v s (partL k a a 0 l cs).1, cs2)
    have hle : cs.length ≤ (partL k a a 0 l cs).2.length := (partL_pre l k a a 0 cs).length_le
    have hlt : decide ((cs.length : Int) < 256) = true := by
      have hl : (partL k a a 0 l cs).2.length < 256 := hl
      exact decide_eq_true (by omega)
    have hh : hangs a (.mk k v s (partL k a a 0 l cs).1) = hangs a (.mk k v s l) := by rw [hangs, hangs, hangsL_part]
    rw [hlt, Bool.and_true] at hc
    rw [part, if_neg h26, hh, if_neg (by intro h; rw [Bool.and_eq_true] at h; exact hc h.1), againL_part l k a 0 cs cs2 hl]
    rfl
theorem againL_part : ∀ (l : List Nd) (k a i : Int) (cs cs2 : List Int), (partL k a a i l cs).2.length < 256 → partL k a a i (partL k a a i l cs).1 cs2 = ((partL k a a i l cs).1, cs2)
  | [], k, a, i, cs, cs2, _ => by rw [partL, partL]
  | x :: l, k, a, i, cs, cs2, hl => by
    rw [partL] at hl ⊢
    have hl : (partL k a a (w64 (i + 1)) l (part x (if k == 21 && i == 1 then w64 (a + 1) else a) (if k == 21 && i == 1 then w64 (a + 1) else a) cs).2).2.length < 256 := hl
    have hle := (partL_pre l k a a (w64 (i + 1)) (part x (if k == 21 && i == 1 then w64 (a + 1) else a) (if k == 21 && i == 1 then w64 (a + 1) else a) cs).2).length_le
    show partL k a a i ((part x _ _ cs).1 :: _) cs2 = _
    rw [partL, again_part x _ cs cs2 (by omega)]
    dsimp only
    rw [againL_part l k a (w64 (i + 1)) _ cs2 hl]
end
end
section
open Go
mutual
inductive HT (P Q : List Int) : Int → Nd → Nd → Nat → Nat → Prop
  | node (a k v : Int) (s : ByteArray) (l l' : List Nd) (m m1 : Nat) : k ≠ 26 → HTL P Q k a 0 l l' m m1 → HT P Q a (.mk k v s l) (.mk k v s l') m m1
  | cell (a v : Int) (s : ByteArray) (l : List Nd) (m : Nat) : HT P Q a (.mk 26 v s l) (.mk 26 v s l) m m
  | wrap (a k v : Int) (s : ByteArray) (l l' : List Nd) (m m1 : Nat) : k = 20 ∨ k = 21 → P.length + m < Q.length → Q.getD (P.length + m) 0 = hangs a (.mk k v s l) → 0 ≤ hangs a (.mk k v s l) → hangs a (.mk k v s l) ≤ a → hangs a (.mk k v s l') = hangs a (.mk k v s l) →
      HTL P Q k a 0 l l' (m + 1) m1 → HT P Q a (.mk k v s l) (.mk 26 ((P.length + m : Nat) : Int) (ByteArray.mk #[]) [.mk k v s l']) m m1
inductive HTL (P Q : List Int) : Int → Int → Int → List Nd → List Nd → Nat → Nat → Prop
  | nil (k a i : Int) (m : Nat) : HTL P Q k a i [] [] m m
  | cons (k a i : Int) (x x' : Nd) (l l' : List Nd) (m m1 m2 : Nat) : HT P Q (if k == 21 && i == 1 then w64 (a + 1) else a) x x' m m1 → HTL P Q k a (w64 (i + 1)) l l' m1 m2 → HTL P Q k a i (x :: l) (x' :: l') m m2
end
theorem HTL.len {P Q : List Int} {k a : Int} : ∀ {l l' : List Nd} {i : Int} {m m1 : Nat}, HTL P Q k a i l l' m m1 → l'.length = l.length
  | [], _, _, _, _, h => by cases h; rfl
  | x :: l, _, _, _, _, h => by
    cases h with
    | cons _ _ _ _ x' _ l' _ _ _ _ h2 => rw [List.length_cons, List.length_cons, h2.len]
mutual
theorem HT_refl (P Q : List Int) : ∀ (n : Nd) (a : Int) (m : Nat), HT P Q a n n m m
  | .mk k v s l, a, m => by
    by_cases h : k = 26
    · subst h; exact .cell a v s l m
    · exact .node a k v s l l m m h (HTL_refl P Q l k a 0 m)
theorem HTL_refl (P Q : List Int) : ∀ (l : List Nd) (k a i : Int) (m : Nat), HTL P Q k a i l l m m
  | [], k, a, i, m => .nil k a i m
  | x :: l, k, a, i, m => .cons k a i x x l l m m m (HT_refl P Q x _ m) (HTL_refl P Q l k a _ m)
end
theorem pre_get {cs Q : List Int} {h : Int} (hp : cs ++ [h] <+: Q) : Q.getD cs.length 0 = h ∧ cs.length < Q.length := by
  obtain ⟨r, rfl⟩ := hp
  refine ⟨?_, by simp⟩
  rw [List.getD_eq_getElem?_getD, List.append_assoc, List.getElem?_append_right (Nat.le_refl _)]
  simp
mutual
theorem part_HT (P Q : List Int) : ∀ (n : Nd) (a r : Int) (cs : List Int), r ≤ a → P.length ≤ cs.length → (part n a r cs).2 <+: Q → HT P Q a n (part n a r cs).1 (cs.length - P.length) ((part n a r cs).2.length - P.length)
  | .mk k v s l, a, r, cs, hr, hp, hq => by
    rw [part] at hq ⊢
    by_cases h26 : (k == 26) = true
    · rw [if_pos h26]
      obtain rfl : k = 26 := by simpa using h26
      exact .cell a v s l _
    rw [if_neg h26] at hq ⊢
    have hne : k ≠ 26 := by simpa using h26
    by_cases hc : ((k == 20 || k == 21) && decide (hangs a (.mk k v s l) < r) && decide ((cs.length : Int) < 256)) = true
    · rw [if_pos hc] at hq ⊢
      simp only [Bool.and_eq_true, Bool.or_eq_true, beq_iff_eq, decide_eq_true_eq] at hc
      have hq : (partL k a (hangs a (.mk k v s l)) 0 l (cs ++ [hangs a (.mk k v s l)])).2 <+: Q := hq
      have hpre := (partL_pre l k a (hangs a (.mk k v s l)) 0 (cs ++ [hangs a (.mk k v s l)])).trans hq
      obtain ⟨g1, g2⟩ := pre_get hpre
      have em : P.length + (cs.length - P.length) = cs.length := by omega
      have h5 : (k == 5) = false := by rcases hc.1.1 with h | h <;> rw [h] <;> rfl
      have e1 : hangs a (.mk k v s l) = hangsL a 0 l := by rw [hangs, h5]; rfl
      have ih := partL_HT P Q l k a (hangs a (.mk k v s l)) 0 (cs ++ [hangs a (.mk k v s l)]) (by omega) (by simp; omega) hq
      have el : (cs ++ [hangs a (.mk k v s l)]).length - P.length = cs.length - P.length + 1 := by simp; omega
      rw [el] at ih
      have := HT.wrap (Q := Q) a k v s l _ (cs.length - P.length) _ hc.1.1 (by rw [em]; exact g2) (by rw [em]; exact g1) (by rw [e1]; exact hangsL_ge a l 0) (by omega) (by rw [hangs, hangs, hangsL_part]) ih
      rw [em] at this
      exact this
    · rw [if_neg hc] at hq ⊢
      exact .node a k v s l _ _ _ hne (partL_HT P Q l k a r 0 cs hr hp hq)
theorem partL_HT (P Q : List Int) : ∀ (l : List Nd) (k a r i : Int) (cs : List Int), r ≤ a → P.length ≤ cs.length → (partL k a r i l cs).2 <+: Q → HTL P Q k a i l (partL k a r i l cs).1 (cs.length - P.length) ((partL k a r i l cs).2.length - P.length)
  | [], k, a, r, i, cs, _, _, _ => by rw [partL]; exact .nil k a i _
  | x :: l, k, a, r, i, cs, hr, hp, hq => by
    rw [partL] at hq ⊢
    have hq : (partL k a r (w64 (i + 1)) l (part x (if k == 21 && i == 1 then w64 (a + 1) else a) (if k == 21 && i == 1 then w64 (a + 1) else r) cs).2).2 <+: Q := hq
    have h1 := part_HT P Q x (if k == 21 && i == 1 then w64 (a + 1) else a) (if k == 21 && i == 1 then w64 (a + 1) else r) cs (by split <;> omega) hp ((partL_pre l k a r (w64 (i + 1)) _).trans hq)
    have hle := (part_pre x (if k == 21 && i == 1 then w64 (a + 1) else a) (if k == 21 && i == 1 then w64 (a + 1) else r) cs).length_le
    exact .cons k a i x _ l _ _ _ _ h1 (partL_HT P Q l k a r (w64 (i + 1)) _ hr (by omega) hq)
end
structure RelW (P Q : List Int) (m : Nat) (st st' : WS) : Prop where
  ok : st.ok = true
  ok' : st'.ok = true
  pt : st'.parts = st.parts + m
  l1 : st.ks.length = P.length
  l2 : st.ts.length = P.length
  l3 : st'.ks.length = Q.length
  l4 : st'.ts.length = Q.length
  ks : ∀ v, v < P.length → st'.ks.getD v none = st.ks.getD v none
  ts : ∀ v, v < P.length → st'.ts.getD v 0 = st.ts.getD v 0
structure OutS (P Q : List Int) (m m1 z : Nat) (st st' s s' : WS) : Prop where
  rel : RelW P Q m1 s s'
  le : s.parts ≤ st.parts + z
  ge : 0 ≤ s.parts
  mm : m ≤ m1
  top : P.length + m1 ≤ Q.length
  hi : ∀ j, P.length + m ≤ j → j < P.length + m1 → 0 ≤ Q.getD j 0 ∧ Q.getD j 0 ≤ 4
  fr : ∀ j, P.length ≤ j → j < P.length + m ∨ P.length + m1 ≤ j → s'.ks.getD j none = st'.ks.getD j none
def OutK (P Q : List Int) (m m1 z : Nat) (st st' : WS) (r r' : Int × WS) : Prop := r'.1 = r.1 ∧ OutS P Q m m1 z st st' r.2 r'.2
section
variable {P Q : List Int} {m m1 m2 z z2 : Nat} {st st' s s' t t' : WS}
theorem OutS.trans (h : OutS P Q m m1 z st st' s s') (k : OutS P Q m1 m2 z2 s s' t t') : OutS P Q m m2 (z + z2) st st' t t' where
  rel := k.rel
  le := by have := h.le; have := k.le; omega
  ge := k.ge
  mm := Nat.le_trans h.mm k.mm
  top := k.top
  hi := fun j h1 h2 => by
    by_cases hj : j < P.length + m1
    · exact h.hi j h1 hj
    · exact k.hi j (by omega) h2
  fr := fun j h1 h2 => by
    have := h.mm; have := k.mm
    rw [k.fr j h1 (by omega), h.fr j h1 (by omega)]
theorem OutS.none (h : OutS P Q m m1 z st st' s s') (hn : ∀ j, P.length + m ≤ j → st'.ks.getD j .none = .none) : ∀ j, P.length + m1 ≤ j → s'.ks.getD j .none = .none := fun j hj => by
  have := h.mm
  rw [h.fr j (by omega) (.inr hj)]; exact hn j (by omega)
theorem OutS.mono (h : OutS P Q m m1 z st st' s s') (hz : z ≤ z2) : OutS P Q m m1 z2 st st' s s' := { h with le := by have := h.le; omega }
theorem must_ok {r : Int × WS} {k : Int} (h : (mustW r k).ok = true) : r.1 = k ∧ mustW r k = r.2 := by
  unfold mustW at h ⊢
  split at h
  · simp [WS.bad] at h
  · rename_i hc
    exact ⟨by simpa using hc, if_neg hc⟩
theorem must_of {r : Int × WS} {k : Int} (h : r.1 = k) : mustW r k = r.2 := by unfold mustW; rw [if_neg (by simpa using h)]
theorem out_must {r r' : Int × WS} {k : Int} (ho : OutK P Q m m1 z st st' r r') (h : (mustW r k).ok = true) : OutS P Q m m1 z st st' (mustW r k) (mustW r' k) := by
  obtain ⟨h1, h2⟩ := must_ok h
  rw [h2, must_of (ho.1.trans h1)]
  exact ho.2
end
def IHK (P Q : List Int) (kf kf' : Int → Int → WS → Nd → Int × WS) (f f' : Nat) : Prop := ∀ (n n' : Nd) (a q : Int) (m m1 : Nat) (st st' : WS), HT P Q a n n' m m1 → n.size ≤ f → n'.size ≤ f' → 0 ≤ a → a ≤ q → q ≤ 4 → P.length + m ≤ Q.length → RelW P Q m st st' → 0 ≤ st.parts → st.parts + n.size ≤ 2048 →
  (∀ j, P.length + m ≤ j → st'.ks.getD j none = none) → (kf a q st n).2.ok = true → OutK P Q m m1 n.size st st' (kf a q st n) (kf' a q st' n')
def badK (kf : Int → Int → WS → Nd → Int × WS) : Prop := ∀ a q st n, st.ok = false → (kf a q st n).2.ok = false
theorem must_bad' {kf : Int → Int → WS → Nd → Int × WS} (hb : badK kf) {a q k : Int} {st : WS} {n : Nd} (h : (mustW (kf a q st n) k).ok = true) : st.ok = true := by
  cases hs : st.ok with
  | true => rfl
  | false => rw [mustW_bad (hb a q st n hs)] at h; cases h
section
variable {P Q : List Int} {kf kf' : Int → Int → WS → Nd → Int × WS} {f f' : Nat}
theorem all_HT (hb : badK kf) (ih : IHK P Q kf kf' f f') {k a q kk : Int} (hk : k ≠ 21) (ha : 0 ≤ a) (haq : a ≤ q) (hq : q ≤ 4) : ∀ (l l' : List Nd) (i : Int) (m m1 : Nat) (st st' : WS), HTL P Q k a i l l' m m1 → Nd.sizes l ≤ f → Nd.sizes l' ≤ f' → P.length + m ≤ Q.length → RelW P Q m st st' → 0 ≤ st.parts → st.parts + Nd.sizes l ≤ 2048 →
    (∀ j, P.length + m ≤ j → st'.ks.getD j none = none) → (allW (kf a q) kk st l).ok = true → OutS P Q m m1 (Nd.sizes l) st st' (allW (kf a q) kk st l) (allW (kf' a q) kk st' l')
  | [], _, i, m, m1, st, st', h, _, _, ht, hr, hp, _, _, _ => by
    cases h
    exact ⟨hr, by simp [allW, Nd.sizes], hp, Nat.le_refl _, ht, fun j h1 h2 => by omega, fun j _ _ => rfl⟩
  | x :: l, _, i, m, m2, st, st', h, h1, h2, ht, hr, hp, hs, hn, hok => by
    cases h with
    | cons _ _ _ _ x' _ l' _ m1 _ hx hl =>
      rw [Nd.sizes] at h1 h2 hs
      have e21 : (k == 21) = false := by simpa using hk
      rw [e21] at hx
      have hx : HT P Q a x x' m m1 := hx
      rw [allW] at hok ⊢
      rw [allW]
      have okm : (mustW (kf a q st x) kk).ok = true := by
        cases e : (mustW (kf a q st x) kk).ok with
        | true => rfl
        | false => rw [allW_bad (fun st n h => hb a q st n h) kk l _ e] at hok; cases hok
      have okx : (kf a q st x).2.ok = true := by have := must_ok okm; rw [← this.2]; exact okm
      have o1 := out_must (k := kk) (ih x x' a q m m1 st st' hx (by omega) (by omega) ha haq hq ht hr hp (by omega) hn okx) okm
      have o2 := all_HT hb ih hk ha haq hq l l' (w64 (i + 1)) m1 m2 _ _ hl (by omega) (by omega) o1.top o1.rel o1.ge (by have := o1.le; omega) (o1.none hn) hok
      have := o1.trans o2
      exact this
theorem setL_ok {g : WS → Nd → Int × WS} {x : Nd} {l : List Nd} {st : WS} (h : (setL g st (x :: l)).ok = true) : st.ok = true ∧ (setL g (mustW (g st x) 3) l).ok = true := by
  rw [setL] at h
  split at h
  · rename_i hs; exact ⟨hs, h⟩
  · rename_i hs; exact absurd h hs
theorem set_HT (hb : badK kf) (ih : IHK P Q kf kf' f f') {k a q : Int} (hk : k ≠ 21) (ha : 0 ≤ a) (haq : a ≤ q) (hq : q ≤ 4) : ∀ (l l' : List Nd) (i : Int) (m m1 : Nat) (st st' : WS), HTL P Q k a i l l' m m1 → Nd.sizes l ≤ f → Nd.sizes l' ≤ f' → P.length + m ≤ Q.length → RelW P Q m st st' → 0 ≤ st.parts → st.parts + Nd.sizes l ≤ 2048 →
    (∀ j, P.length + m ≤ j → st'.ks.getD j none = none) → (setL (kf a q) st l).ok = true → OutS P Q m m1 (Nd.sizes l) st st' (setL (kf a q) st l) (setL (kf' a q) st' l')
  | [], _, i, m, m1, st, st', h, _, _, ht, hr, hp, _, _, _ => by
    cases h
    exact ⟨hr, by simp [setL, Nd.sizes], hp, Nat.le_refl _, ht, fun j h1 h2 => by omega, fun j _ _ => rfl⟩
  | x :: l, _, i, m, m2, st, st', h, h1, h2, ht, hr, hp, hs, hn, hok => by
    cases h with
    | cons _ _ _ _ x' _ l' _ m1 _ hx hl =>
      rw [Nd.sizes] at h1 h2 hs
      have e21 : (k == 21) = false := by simpa using hk
      rw [e21] at hx
      have hx : HT P Q a x x' m m1 := hx
      obtain ⟨_, hok2⟩ := setL_ok hok
      rw [setL, if_pos hr.ok, setL, if_pos hr.ok']
      have okm : (mustW (kf a q st x) 3).ok = true := by
        cases e : (mustW (kf a q st x) 3).ok with
        | true => rfl
        | false => rw [setL_bad l _ e] at hok2; cases hok2
      have okx : (kf a q st x).2.ok = true := by have := must_ok okm; rw [← this.2]; exact okm
      have o1 := out_must (k := 3) (ih x x' a q m m1 st st' hx (by omega) (by omega) ha haq hq ht hr hp (by omega) hn okx) okm
      have o2 := set_HT hb ih hk ha haq hq l l' (w64 (i + 1)) m1 m2 _ _ hl (by omega) (by omega) o1.top o1.rel o1.ge (by have := o1.le; omega) (o1.none hn) hok2
      exact o1.trans o2
end
end
section
open Go
def bodyK (cells : List Int) (kf : Int → Int → WS → Nd → Int × WS) (a q : Int) (st : WS) (k v : Int) (l : List Nd) : Int × WS :=
    if k == 1 then (1, st) else if k == 2 then (2, st) else if k == 3 then (3, st)
    else if k == 5 then if decide (v ≥ a) then (3, st.bad) else (3, st)
    else if k == 6 || k == 8 || k == 9 || k == 10 || k == 11 || k == 12 then (1, allW (kf a q) 1 st l)
    else if k == 7 || k == 17 || k == 18 then (2, allW (kf a q) 2 st l)
    else if k == 15 || k == 16 then (2, allW (kf a q) 1 st l)
    else if k == 13 || k == 14 then (2, mustW (kf a q (kf a q st (l.getD 0 nd0)).2 (l.getD 1 nd0)) (kf a q st (l.getD 0 nd0)).1)
    else if k == 19 then
      ((kf a q (mustW (kf a q st (l.getD 0 nd0)) 2) (l.getD 1 nd0)).1,
        mustW (kf a q (kf a q (mustW (kf a q st (l.getD 0 nd0)) 2) (l.getD 1 nd0)).2 (l.getD 2 nd0)) (kf a q (mustW (kf a q st (l.getD 0 nd0)) 2) (l.getD 1 nd0)).1)
    else if k == 20 then (givesI v, allW (kf a q) 3 st l)
    else if k == 21 then quantW kf st v (l.getD 0 nd0) (l.getD 1 nd0) a q
    else if k == 26 then cellW cells (kf a q) st v (l.getD 0 nd0) a
    else (0, st.bad)
theorem kindW_eq (cells : List Int) (f : Nat) (a q : Int) (st : WS) (k v : Int) (s : ByteArray) (l : List Nd) : kindW cells (f + 1) a q st (.mk k v s l) =
    if !st.ok then (0, st.inc.bad) else if decide (w64 (st.parts + 1) > 4096) then (0, st.inc.bad) else if !formB k v s l.length then (0, st.inc.bad) else bodyK cells (kindW cells f) a q st.inc k v l := by rw [kindW]; rfl
theorem parts_inc {x : Int} (h0 : 0 ≤ x) (h : x ≤ 4000) : w64 (x + 1) = x + 1 := w64_id (by omega) (by omega)
section
variable {P Q : List Int} {m : Nat} {st st' : WS}
theorem RelW.inc (h : RelW P Q m st st') (h0 : 0 ≤ st.parts) (h1 : st.parts ≤ 3000) (hm : m ≤ 256) : RelW P Q m st.inc st'.inc ∧ st.inc.parts = st.parts + 1 := by
  have e1 : st.inc.parts = st.parts + 1 := parts_inc h0 (by omega)
  have e2 : st'.inc.parts = st'.parts + 1 := parts_inc (by have := h.pt; omega) (by have := h.pt; omega)
  exact ⟨⟨h.ok, h.ok', by rw [e1, e2, h.pt]; omega, h.l1, h.l2, h.l3, h.l4, h.ks, h.ts⟩, e1⟩
end
section
variable {P Q : List Int} {kf kf' : Int → Int → WS → Nd → Int × WS} {f f' : Nat}
theorem must_step (hb : badK kf) (ih : IHK P Q kf kf' f f') {a q : Int} {x x' : Nd} {m m1 : Nat} {st st' : WS} (hx : HT P Q a x x' m m1) (h1 : x.size ≤ f) (h2 : x'.size ≤ f') (ha : 0 ≤ a) (haq : a ≤ q) (hq : q ≤ 4) (ht : P.length + m ≤ Q.length) (hr : RelW P Q m st st') (hp : 0 ≤ st.parts) (hs : st.parts + x.size ≤ 2048)
    (hn : ∀ j, P.length + m ≤ j → st'.ks.getD j none = none) {kk kk' : Int} (hkk : kk' = kk) (hok : (mustW (kf a q st x) kk).ok = true) : OutS P Q m m1 x.size st st' (mustW (kf a q st x) kk) (mustW (kf' a q st' x') kk') := by
  subst hkk
  have okx : (kf a q st x).2.ok = true := by have := must_ok hok; rw [← this.2]; exact hok
  exact out_must (ih x x' a q m m1 st st' hx h1 h2 ha haq hq ht hr hp hs hn okx) hok
theorem set_body (hb : badK kf) (ih : IHK P Q kf kf' f f') {a q : Int} {x x' : Nd} {m m1 : Nat} {st st' : WS} (hx : HT P Q a x x' m m1) (h1 : x.size ≤ f) (h2 : x'.size ≤ f') (ha : 0 ≤ a) (haq : a ≤ q) (hq : q ≤ 4) (hQ : Q.length ≤ 256) (ht : P.length + m ≤ Q.length) (hr : RelW P Q m st st') (hp : 0 ≤ st.parts) (hs : st.parts + x.size ≤ 2048)
    (hn : ∀ j, P.length + m ≤ j → st'.ks.getD j none = none) (hok : (setW (kf a q) st x).ok = true) : OutS P Q m m1 x.size st st' (setW (kf a q) st x) (setW (kf' a q) st' x') := by
  obtain ⟨k, v, s, l⟩ := x
  rw [Nd.size] at h1 hs ⊢
  rw [setW] at hok ⊢
  split at hok
  · simp [WS.bad] at hok
  rename_i g1
  rw [if_neg g1]
  split at hok
  · simp [WS.bad] at hok
  rename_i g2
  rw [if_neg g2]
  split at hok
  · simp [WS.bad] at hok
  rename_i g3
  rw [if_neg g3]
  split at hok
  · simp [WS.bad] at hok
  rename_i g4
  rw [if_neg g4]
  have hk1 : ¬ k < 22 := by simpa using g2
  have hk2 : ¬ k > 25 := by simpa using g3
  cases hx with
  | cell => exact absurd (by decide) hk2
  | wrap _ _ _ _ _ _ _ _ h20 => rcases h20 with h | h <;> omega
  | node _ _ _ _ _ l' _ _ hne hl =>
    rw [Nd.size] at h2
    have e1 : w64 (st'.parts + 1) = st'.parts + 1 := parts_inc (by have := hr.pt; omega) (by have := hr.pt; omega)
    have g1' : ¬ decide (w64 (st'.parts + 1) > 4096) = true := by
      rw [e1]
      have := hr.pt
      simp only [decide_eq_true_eq]; omega
    rw [setW, if_neg g1', if_neg g2, if_neg g3, hl.len, if_neg g4]
    obtain ⟨hri, hpi⟩ := hr.inc hp (by omega) (by omega)
    have o := set_HT hb ih (by omega : k ≠ 21) ha haq hq l l' 0 m m1 st.inc st'.inc hl (by omega) (by omega) ht hri (by omega) (by omega) hn hok
    exact ⟨o.rel, by have := o.le; omega, o.ge, o.mm, o.top, o.hi, o.fr⟩
theorem HTL.two {k a i : Int} {x y : Nd} {l' : List Nd} {m m2 : Nat} (h : HTL P Q k a i [x, y] l' m m2) : ∃ x' y' m1, l' = [x', y'] ∧ HT P Q (if k == 21 && i == 1 then w64 (a + 1) else a) x x' m m1 ∧ HT P Q (if k == 21 && w64 (i + 1) == 1 then w64 (a + 1) else a) y y' m1 m2 := by
  cases h with
  | cons _ _ _ _ x' _ l1 _ m1 _ hx hl =>
    cases hl with
    | cons _ _ _ _ y' _ l2 _ m3 _ hy hl2 =>
      cases hl2
      exact ⟨x', y', m1, rfl, hx, hy⟩
theorem HTL.one {k a i : Int} {x : Nd} {l' : List Nd} {m m2 : Nat} (h : HTL P Q k a i [x] l' m m2) : ∃ x', l' = [x'] ∧ HT P Q (if k == 21 && i == 1 then w64 (a + 1) else a) x x' m m2 := by
  cases h with
  | cons _ _ _ _ x' _ l1 _ m1 _ hx hl =>
    cases hl
    exact ⟨x', rfl, hx⟩
theorem HTL.three {k a i : Int} {x y z : Nd} {l' : List Nd} {m m2 : Nat} (hk : k ≠ 21) (h : HTL P Q k a i [x, y, z] l' m m2) : ∃ x' y' z' m1 m3, l' = [x', y', z'] ∧ HT P Q a x x' m m1 ∧ HT P Q a y y' m1 m3 ∧ HT P Q a z z' m3 m2 := by
  have e21 : (k == 21) = false := by simpa using hk
  cases h with
  | cons _ _ _ _ x' _ l1 _ m1 _ hx hl =>
    obtain ⟨y', z', m3, rfl, hy, hz⟩ := hl.two
    rw [e21] at hx hy hz
    exact ⟨x', y', z', m1, m3, rfl, hx, hy, hz⟩
theorem len0 {α : Type} {l : List α} (h : (l.length : Int) = 0) : l = [] := List.length_eq_zero_iff.1 (by omega)
theorem len1 {α : Type} {l : List α} (h : (l.length : Int) = 1) : ∃ x, l = [x] := by
  match l, h with
  | [x], _ => exact ⟨x, rfl⟩
  | [], h => simp at h
  | _ :: _ :: _, h => simp only [List.length_cons] at h; omega
theorem len2 {α : Type} {l : List α} (h : (l.length : Int) = 2) : ∃ x y, l = [x, y] := by
  match l, h with
  | [x, y], _ => exact ⟨x, y, rfl⟩
  | [], h => simp at h
  | [_], h => simp at h
  | _ :: _ :: _ :: _, h => simp only [List.length_cons] at h; omega
theorem len3 {α : Type} {l : List α} (h : (l.length : Int) = 3) : ∃ x y z, l = [x, y, z] := by
  match l, h with
  | [x, y, z], _ => exact ⟨x, y, z, rfl⟩
  | [], h => simp at h
  | [_], h => simp at h
  | [_, _], h => simp at h
  | _ :: _ :: _ :: _ :: _, h => simp only [List.length_cons] at h; omega
theorem two_sizes (x y : Nd) : Nd.sizes [x, y] = x.size + y.size := by simp [Nd.sizes]
theorem three_sizes (x y z : Nd) : Nd.sizes [x, y, z] = x.size + y.size + z.size := by simp [Nd.sizes]; omega
theorem body_HT (hb : badK kf) (ih : IHK P Q kf kf' f f') {k v a q : Int} {s : ByteArray} {l l' : List Nd} {m m1 : Nat} {st st' : WS} (hne : k ≠ 26) (hf : formB k v s l.length = true) (hl : HTL P Q k a 0 l l' m m1) (h1 : Nd.sizes l ≤ f) (h2 : Nd.sizes l' ≤ f') (ha : 0 ≤ a) (haq : a ≤ q) (hq : q ≤ 4) (hQ : Q.length ≤ 256) (ht : P.length + m ≤ Q.length) (hr : RelW P Q m st st') (hp : 0 ≤ st.parts) (hs : st.parts + Nd.sizes l ≤ 2048)
    (hn : ∀ j, P.length + m ≤ j → st'.ks.getD j none = none) (hok : (bodyK P kf a q st k v l).2.ok = true) : OutK P Q m m1 (Nd.sizes l) st st' (bodyK P kf a q st k v l) (bodyK Q kf' a q st' k v l') := by
  have leaf : ∀ g : Int, (l.length : Int) = 0 → OutK P Q m m1 (Nd.sizes l) st st' (g, st) (g, st') := fun g h0 => by
    obtain rfl := len0 h0
    cases hl
    exact ⟨rfl, hr, by simp [Nd.sizes], hp, Nat.le_refl _, ht, fun j h1 h2 => by omega, fun j _ _ => rfl⟩
  have alls : ∀ g kk : Int, k ≠ 21 → (allW (kf a q) kk st l).ok = true → OutK P Q m m1 (Nd.sizes l) st st' (g, allW (kf a q) kk st l) (g, allW (kf' a q) kk st' l') := fun g kk hk h => ⟨rfl, all_HT hb ih hk ha haq hq l l' 0 m m1 st st' hl h1 h2 ht hr hp hs hn h⟩
  have f1 : ∀ {b : Bool}, (b && (l.length : Int) == 0) = true → (l.length : Int) = 0 := fun h => by rw [Bool.and_eq_true, beq_iff_eq] at h; exact h.2
  have f2 : ∀ {b : Bool}, (b && (l.length : Int) == 2) = true → (l.length : Int) = 2 := fun h => by rw [Bool.and_eq_true, beq_iff_eq] at h; exact h.2
  have f3 : ∀ {b : Bool}, (b && (l.length : Int) == 3) = true → (l.length : Int) = 3 := fun h => by rw [Bool.and_eq_true, beq_iff_eq] at h; exact h.2
  by_cases k1 : k = 1
  · subst k1; exact leaf 1 (f1 (show (strEq s (ByteArray.mk #[]) && (l.length : Int) == 0) = true from hf))
  by_cases k2 : k = 2
  · subst k2; exact leaf 2 (f1 (show ((v == 0 || v == 1) && strEq s (ByteArray.mk #[]) && (l.length : Int) == 0) = true from hf))
  by_cases k3 : k = 3
  · subst k3; exact leaf 3 (f1 (show (decide (v ≥ 0) && strEq s (ByteArray.mk #[]) && (l.length : Int) == 0) = true from hf))
  by_cases k5 : k = 5
  · subst k5
    have h0 := f1 (show (decide (v ≥ 0) && strEq s (ByteArray.mk #[]) && (l.length : Int) == 0) = true from hf)
    have hok : (if decide (v ≥ a) = true then ((3 : Int), st.bad) else (3, st)).2.ok = true := hok
    show OutK P Q m m1 _ st st' (if decide (v ≥ a) = true then ((3 : Int), st.bad) else (3, st)) (if decide (v ≥ a) = true then ((3 : Int), st'.bad) else (3, st'))
    by_cases hv : decide (v ≥ a) = true
    · rw [if_pos hv] at hok; simp [WS.bad] at hok
    · rw [if_neg hv, if_neg hv]; exact leaf 3 h0
  by_cases kA : k = 6 ∨ k = 8 ∨ k = 9 ∨ k = 10 ∨ k = 11 ∨ k = 12
  · rcases kA with h | h | h | h | h | h <;> (subst h; exact alls 1 1 (by decide) hok)
  by_cases kB : k = 7 ∨ k = 17 ∨ k = 18
  · rcases kB with h | h | h <;> (subst h; exact alls 2 2 (by decide) hok)
  by_cases kC : k = 15 ∨ k = 16
  · rcases kC with h | h <;> (subst h; exact alls 2 1 (by decide) hok)
  by_cases kD : k = 13 ∨ k = 14
  · have hb2 : bodyK P kf a q st k v l = (2, mustW (kf a q (kf a q st (l.getD 0 nd0)).2 (l.getD 1 nd0)) (kf a q st (l.getD 0 nd0)).1) := by rcases kD with h | h <;> (subst h; rfl)
    have hb3 : bodyK Q kf' a q st' k v l' = (2, mustW (kf' a q (kf' a q st' (l'.getD 0 nd0)).2 (l'.getD 1 nd0)) (kf' a q st' (l'.getD 0 nd0)).1) := by rcases kD with h | h <;> (subst h; rfl)
    have h2' : (l.length : Int) = 2 := by rcases kD with h | h <;> (subst h; exact f2 (show (v == 0 && strEq s (ByteArray.mk #[]) && (l.length : Int) == 2) = true from hf))
    have e21 : (k == 21) = false := by rcases kD with h | h <;> (subst h; rfl)
    obtain ⟨x, y, rfl⟩ := len2 h2'
    obtain ⟨x', y', m3, rfl, hx, hy⟩ := hl.two
    rw [e21] at hx hy
    have hx : HT P Q a x x' m m3 := hx
    have hy : HT P Q a y y' m3 m1 := hy
    rw [two_sizes] at h1 h2 hs ⊢
    rw [hb2] at hok ⊢
    rw [hb3]
    have hok : (mustW (kf a q (kf a q st x).2 y) (kf a q st x).1).ok = true := hok
    have okx := must_bad' hb hok
    have o1 := ih x x' a q m m3 st st' hx (by omega) (by omega) ha haq hq ht hr hp (by omega) hn okx
    have o2 := must_step hb ih hy (by omega) (by omega) ha haq hq o1.2.top o1.2.rel o1.2.ge (by have := o1.2.le; omega) (o1.2.none hn) o1.1 hok
    exact ⟨rfl, o1.2.trans o2⟩
  by_cases k19 : k = 19
  · subst k19
    obtain ⟨x, y, z, rfl⟩ := len3 (f3 (show (v == 0 && strEq s (ByteArray.mk #[]) && (l.length : Int) == 3) = true from hf))
    obtain ⟨x', y', z', m3, m4, rfl, hx, hy, hz⟩ := hl.three (by decide)
    rw [three_sizes] at h1 h2 hs ⊢
    have hok : (mustW (kf a q (kf a q (mustW (kf a q st x) 2) y).2 z) (kf a q (mustW (kf a q st x) 2) y).1).ok = true := hok
    have oky := must_bad' hb hok
    have okx : (mustW (kf a q st x) 2).ok = true := by
      cases e : (mustW (kf a q st x) 2).ok with
      | true => rfl
      | false => rw [hb a q _ y e] at oky; cases oky
    have o1 := must_step hb ih hx (by omega) (by omega) ha haq hq ht hr hp (by omega) hn rfl okx
    have o2 := ih y y' a q m3 m4 _ _ hy (by omega) (by omega) ha haq hq o1.top o1.rel o1.ge (by have := o1.le; omega) (o1.none hn) oky
    have n2 := o2.2.none (o1.none hn)
    have o3 := must_step hb ih hz (by omega) (by omega) ha haq hq o2.2.top o2.2.rel o2.2.ge (by have := o1.le; have := o2.2.le; omega) n2 o2.1 hok
    refine ⟨o2.1, ?_⟩
    exact (o1.trans o2.2).trans o3
  by_cases k20 : k = 20
  · subst k20; exact alls (givesI v) 3 (by decide) hok
  by_cases k21 : k = 21
  · subst k21
    obtain ⟨x, y, rfl⟩ := len2 (f2 (show (decide (v ≥ 1) && decide (v ≤ 6) && strEq s (ByteArray.mk #[]) && (l.length : Int) == 2) = true from hf))
    obtain ⟨x', y', m3, rfl, hx, hy⟩ := hl.two
    have hx : HT P Q a x x' m m3 := hx
    have hy : HT P Q (w64 (a + 1)) y y' m3 m1 := hy
    rw [two_sizes] at h1 h2 hs ⊢
    have hok : (quantW kf st v x y a q).2.ok = true := hok
    show OutK P Q m m1 _ st st' (quantW kf st v x y a q) (quantW kf' st' v x' y' a q)
    unfold quantW at hok ⊢
    by_cases hq4 : (q == 4) = true
    · rw [if_pos hq4] at hok; simp [WS.bad] at hok
    rw [if_neg hq4] at hok ⊢
    rw [if_neg hq4]
    have hq4 : q ≠ 4 := by simpa using hq4
    have eq1 : w64 (q + 1) = q + 1 := w64_id (by omega) (by omega)
    have ea1 : w64 (a + 1) = a + 1 := w64_id (by omega) (by omega)
    rw [ea1] at hy
    rw [eq1, ea1] at hok ⊢
    have hok : (mustW (kf (a + 1) (q + 1) (setW (kf a (q + 1)) st x) y) (bodyI v)).ok = true := hok
    have oks := must_bad' hb hok
    have o1 := set_body hb ih hx (by omega) (by omega) ha (by omega : a ≤ q + 1) (by omega) hQ ht hr hp (by omega) hn oks
    have o2 := must_step hb ih hy (by omega) (by omega) (by omega) (by omega) (by omega) o1.top o1.rel o1.ge (by have := o1.le; omega) (o1.none hn) rfl hok
    exact ⟨rfl, o1.trans o2⟩
  exfalso
  have hz : bodyK P kf a q st k v l = (0, st.bad) := by
    unfold bodyK
    simp only [not_or] at kA kB kC kD
    simp [k1, k2, k3, k5, kA, kB, kC, kD, k19, k20, k21, hne]
  rw [hz] at hok
  simp [WS.bad] at hok
end
end
section
open Go
theorem getD_set {α : Type} {l : List α} {i j : Nat} {x d : α} : (l.set i x).getD j d = if i = j ∧ j < l.length then x else l.getD j d := by
  rw [List.getD_eq_getElem?_getD, List.getD_eq_getElem?_getD, List.getElem?_set]
  by_cases h : i = j
  · subst h
    by_cases h2 : i < l.length
    · rw [if_pos rfl, if_pos h2, if_pos ⟨rfl, h2⟩]; rfl
    · rw [if_pos rfl, if_neg h2, if_neg (fun c => h2 c.2), List.getElem?_eq_none (by omega)]
  · rw [if_neg h, if_neg (fun c => h c.1)]
theorem pre_getD {P Q : List Int} (h : P <+: Q) {v : Nat} (hv : v < P.length) : Q.getD v 0 = P.getD v 0 := by
  obtain ⟨r, rfl⟩ := h
  rw [List.getD_eq_getElem?_getD, List.getD_eq_getElem?_getD, List.getElem?_append_left hv]
section
variable {P Q : List Int} {f f' : Nat}
theorem node_step (hQ : Q.length ≤ 256) (ih : IHK P Q (kindW P f) (kindW Q f') f f') {k v a q : Int} {s : ByteArray} {l l' : List Nd} {m m1 : Nat} {st st' : WS} (hne : k ≠ 26) (hl : HTL P Q k a 0 l l' m m1) (h1 : Nd.sizes l ≤ f) (h2 : Nd.sizes l' ≤ f') (ha : 0 ≤ a) (haq : a ≤ q) (hq : q ≤ 4) (ht : P.length + m ≤ Q.length) (hr : RelW P Q m st st') (hp : 0 ≤ st.parts) (hs : st.parts + (1 + Nd.sizes l : Nat) ≤ 2048)
    (hn : ∀ j, P.length + m ≤ j → st'.ks.getD j none = none) (hok : (kindW P (f + 1) a q st (.mk k v s l)).2.ok = true) : OutK P Q m m1 (1 + Nd.sizes l) st st' (kindW P (f + 1) a q st (.mk k v s l)) (kindW Q (f' + 1) a q st' (.mk k v s l')) := by
  rw [kindW_eq] at hok ⊢
  rw [kindW_eq]
  have gk : ¬ (!st.ok) = true := by rw [hr.ok]; decide
  have gk' : ¬ (!st'.ok) = true := by rw [hr.ok']; decide
  have e1 : w64 (st.parts + 1) = st.parts + 1 := parts_inc hp (by omega)
  have e1' : w64 (st'.parts + 1) = st'.parts + 1 := parts_inc (by have := hr.pt; omega) (by have := hr.pt; omega)
  have g1 : ¬ decide (w64 (st.parts + 1) > 4096) = true := by rw [e1]; simp only [decide_eq_true_eq]; omega
  have g1' : ¬ decide (w64 (st'.parts + 1) > 4096) = true := by rw [e1']; have := hr.pt; simp only [decide_eq_true_eq]; omega
  rw [if_neg gk, if_neg g1] at hok ⊢
  rw [if_neg gk', if_neg g1', hl.len]
  by_cases g4 : (!formB k v s l.length) = true
  · rw [if_pos g4] at hok; simp [WS.bad] at hok
  rw [if_neg g4] at hok ⊢
  rw [if_neg g4]
  obtain ⟨hri, hpi⟩ := hr.inc hp (by omega) (by omega)
  obtain ⟨o1, o⟩ := body_HT (fun a q st n => kindW_bad P f a q st n) ih hne (by simpa using g4) hl h1 h2 ha haq hq hQ ht hri (by omega) (by omega) hn hok
  exact ⟨o1, o.rel, by have := o.le; omega, o.ge, o.mm, o.top, o.hi, o.fr⟩
theorem cell_step (hPQ : P <+: Q) (hQ : Q.length ≤ 256) (ih : IHK P Q (kindW P f) (kindW Q f') f f') {v a q : Int} {s : ByteArray} {l : List Nd} {m : Nat} {st st' : WS} (h1 : Nd.sizes l ≤ f) (h2 : Nd.sizes l ≤ f') (ha : 0 ≤ a) (haq : a ≤ q) (hq : q ≤ 4) (ht : P.length + m ≤ Q.length) (hr : RelW P Q m st st') (hp : 0 ≤ st.parts) (hs : st.parts + (1 + Nd.sizes l : Nat) ≤ 2048)
    (hn : ∀ j, P.length + m ≤ j → st'.ks.getD j none = none) (hok : (kindW P (f + 1) a q st (.mk 26 v s l)).2.ok = true) : OutK P Q m m (1 + Nd.sizes l) st st' (kindW P (f + 1) a q st (.mk 26 v s l)) (kindW Q (f' + 1) a q st' (.mk 26 v s l)) := by
  rw [kindW_eq] at hok ⊢
  rw [kindW_eq]
  have gk : ¬ (!st.ok) = true := by rw [hr.ok]; decide
  have gk' : ¬ (!st'.ok) = true := by rw [hr.ok']; decide
  have e1 : w64 (st.parts + 1) = st.parts + 1 := parts_inc hp (by omega)
  have e1' : w64 (st'.parts + 1) = st'.parts + 1 := parts_inc (by have := hr.pt; omega) (by have := hr.pt; omega)
  have g1 : ¬ decide (w64 (st.parts + 1) > 4096) = true := by rw [e1]; simp only [decide_eq_true_eq]; omega
  have g1' : ¬ decide (w64 (st'.parts + 1) > 4096) = true := by rw [e1']; have := hr.pt; simp only [decide_eq_true_eq]; omega
  rw [if_neg gk, if_neg g1] at hok ⊢
  rw [if_neg gk', if_neg g1']
  by_cases g4 : (!formB 26 v s l.length) = true
  · rw [if_pos g4] at hok; simp [WS.bad] at hok
  rw [if_neg g4] at hok ⊢
  rw [if_neg g4]
  have hf : formB 26 v s l.length = true := by simpa using g4
  have hf : (strEq s (ByteArray.mk #[]) && (l.length : Int) == 1) = true := hf
  rw [Bool.and_eq_true, beq_iff_eq] at hf
  obtain ⟨x, rfl⟩ := len1 hf.2
  obtain ⟨hri, hpi⟩ := hr.inc hp (by omega) (by omega)
  have ex : Nd.sizes [x] = x.size := by simp [Nd.sizes]
  rw [ex] at h1 h2 hs ⊢
  have hok : (cellW P (kindW P f a q) st.inc v x a).2.ok = true := hok
  show OutK P Q m m _ st st' (cellW P (kindW P f a q) st.inc v x a) (cellW Q (kindW Q f' a q) st'.inc v x a)
  unfold cellW at hok ⊢
  have hle := hPQ.length_le
  by_cases v0 : decide (v < 0) = true
  · rw [if_pos v0] at hok; simp [WS.bad] at hok
  rw [if_neg v0] at hok ⊢
  rw [if_neg v0]
  by_cases v1 : decide (v ≥ (P.length : Int)) = true
  · rw [if_pos v1] at hok; simp [WS.bad] at hok
  have v0' : 0 ≤ v := by simpa using v0
  have v1' : v < P.length := by simpa using v1
  have hvn : v.toNat < P.length := by omega
  have v2 : ¬ decide (v ≥ (Q.length : Int)) = true := by simp only [decide_eq_true_eq]; omega
  rw [if_neg v1] at hok ⊢
  rw [if_neg v2, pre_getD hPQ hvn]
  by_cases v3 : decide (P.getD v.toNat 0 > a) = true
  · rw [if_pos v3] at hok; simp [WS.bad] at hok
  rw [if_neg v3] at hok ⊢
  rw [if_neg v3]
  unfold cellTwo at hok ⊢
  by_cases okr : (!(kindW P f a q st.inc x).2.ok) = true
  · rw [if_pos okr] at hok
    have hok : (kindW P f a q st.inc x).2.ok = true := hok
    rw [hok] at okr; cases okr
  have okr2 : (kindW P f a q st.inc x).2.ok = true := by simpa using okr
  obtain ⟨o1, o⟩ := ih x x a q m m st.inc st'.inc (HT_refl P Q x a m) h1 h2 ha haq hq ht hri (by omega) (by omega) hn okr2
  have okr' : ¬ (!(kindW Q f' a q st'.inc x).2.ok) = true := by rw [o.rel.ok']; decide
  rw [if_neg okr] at hok ⊢
  rw [if_neg okr']
  by_cases hh : decide (hangs a x > P.getD v.toNat 0) = true
  · rw [if_pos hh] at hok; simp [WS.bad] at hok
  rw [if_neg hh] at hok ⊢
  rw [if_neg hh]
  generalize kindW P f a q st.inc x = r at *
  generalize kindW Q f' a q st'.inc x = r' at *
  have out : OutK P Q m m (1 + x.size) st st' (cellOut r v a x) (cellOut r' v a x) := by
    refine ⟨o1, ⟨o.rel.ok, o.rel.ok', o.rel.pt, by rw [← o.rel.l1]; exact List.length_set .., by rw [← o.rel.l2]; exact List.length_set .., by rw [← o.rel.l3]; exact List.length_set .., by rw [← o.rel.l4]; exact List.length_set .., fun u hu => ?_, fun u hu => ?_⟩, by have := o.le; show r.2.parts ≤ _; omega, o.ge, Nat.le_refl _, ht, fun j h1 h2 => by omega, fun j h1 h2 => ?_⟩
    · show (r'.2.ks.set v.toNat (some x)).getD u none = (r.2.ks.set v.toNat (some x)).getD u none
      rw [getD_set, getD_set, o.rel.ks u hu, o.rel.l1, o.rel.l3]
      by_cases hc : v.toNat = u
      · rw [if_pos ⟨hc, by omega⟩, if_pos ⟨hc, hu⟩]
      · rw [if_neg (fun c => hc c.1), if_neg (fun c => hc c.1)]
    · show (r'.2.ts.set v.toNat a).getD u 0 = (r.2.ts.set v.toNat a).getD u 0
      rw [getD_set, getD_set, o.rel.ts u hu, o.rel.l2, o.rel.l4]
      by_cases hc : v.toNat = u
      · rw [if_pos ⟨hc, by omega⟩, if_pos ⟨hc, hu⟩]
      · rw [if_neg (fun c => hc c.1), if_neg (fun c => hc c.1)]
    · show (r'.2.ks.set v.toNat (some x)).getD j none = _
      rw [getD_set, if_neg (fun c => by omega)]
      exact o.fr j h1 h2
  rw [o.rel.ks _ hvn]
  cases hy : r.2.ks.getD v.toNat none with
  | none => exact out
  | some y =>
    rw [hy] at hok
    unfold cellThr at hok ⊢
    dsimp only at hok ⊢
    by_cases c1 : (!sameNd y x) = true
    · rw [if_pos c1] at hok; simp [WS.bad] at hok
    rw [if_neg c1] at hok ⊢
    rw [if_neg c1]
    by_cases c2 : roundsN x = true
    · rw [if_pos c2] at hok ⊢
      rw [if_pos c2, o.rel.ts _ hvn]
      by_cases c3 : (r.2.ts.getD v.toNat 0 != a) = true
      · rw [if_pos c3] at hok; simp [WS.bad] at hok
      rw [if_neg c3, if_neg c3]
      exact out
    · rw [if_neg c2, if_neg c2]
      exact out
theorem kind_HT (hPQ : P <+: Q) (hQ : Q.length ≤ 256) : ∀ f f', IHK P Q (kindW P f) (kindW Q f') f f'
  | 0, _, n, _, _, _, _, _, _, _, _, h1, _, _, _, _, _, _, _, _, _, _ => by cases n with | mk k v s l => simp only [Nd.size] at h1; omega
  | f + 1, 0, _, n', _, _, _, _, _, _, _, _, h2, _, _, _, _, _, _, _, _, _ => by cases n' with | mk k v s l => simp only [Nd.size] at h2; omega
  | f + 1, f' + 1, n, n', a, q, m, m1, st, st', hx, h1, h2, ha, haq, hq, ht, hr, hp, hs, hn, hok => by
    cases hx with
    | node _ k v s l l' _ _ hne hl =>
      rw [Nd.size] at h1 h2 hs ⊢
      exact node_step hQ (kind_HT hPQ hQ f f') hne hl (by omega) (by omega) ha haq hq ht hr hp hs hn hok
    | cell _ v s l _ =>
      rw [Nd.size] at h1 hs ⊢
      rw [Nd.size] at h2
      exact cell_step hPQ hQ (kind_HT hPQ hQ f f') (by omega) (by omega) ha haq hq ht hr hp hs hn hok
    | wrap _ k v s l l' _ _ h20 hlt hQm h0 hle hh hl =>
      have hne : k ≠ 26 := by rcases h20 with h | h <;> (subst h; decide)
      rw [Nd.size] at h1 hs ⊢
      have e2 : (Nd.mk 26 ((P.length + m : Nat) : Int) (ByteArray.mk #[]) [.mk k v s l']).size = 2 + Nd.sizes l' := by simp [Nd.size, Nd.sizes]; omega
      rw [e2] at h2
      cases f' with
      | zero => omega
      | succ g =>
        have e1' : w64 (st'.parts + 1) = st'.parts + 1 := parts_inc (by have := hr.pt; omega) (by have := hr.pt; omega)
        have hr1 : RelW P Q (m + 1) st st'.inc := ⟨hr.ok, hr.ok', by have := hr.pt; show w64 (st'.parts + 1) = _; rw [e1']; omega, hr.l1, hr.l2, hr.l3, hr.l4, hr.ks, hr.ts⟩
        obtain ⟨o1, o⟩ := node_step hQ (kind_HT hPQ hQ f g) (v := v) (s := s) hne hl (by omega) (by omega) ha haq hq (by omega) hr1 hp hs (fun j hj => hn j (by omega)) hok
        have gk' : ¬ (!st'.ok) = true := by rw [hr.ok']; decide
        have g1' : ¬ decide (w64 (st'.parts + 1) > 4096) = true := by rw [e1']; have := hr.pt; simp only [decide_eq_true_eq]; omega
        have hf26 : formB 26 ((P.length + m : Nat) : Int) (ByteArray.mk #[]) (([Nd.mk k v s l'] : List Nd).length : Int) = true := by
          show (strEq (ByteArray.mk #[]) (ByteArray.mk #[]) && (([Nd.mk k v s l'] : List Nd).length : Int) == 1) = true
          rw [strEq_rfl]; rfl
        rw [kindW_eq Q, if_neg gk', if_neg g1', hf26, if_neg (by decide)]
        show OutK P Q m m1 _ st st' _ (cellW Q (kindW Q (g + 1) a q) st'.inc ((P.length + m : Nat) : Int) (.mk k v s l') a)
        have en : (((P.length + m : Nat) : Int)).toNat = P.length + m := by omega
        unfold cellW
        rw [if_neg (by simp only [decide_eq_true_eq]; omega), if_neg (by simp only [decide_eq_true_eq]; omega), en, hQm, if_neg (by simp only [decide_eq_true_eq]; omega)]
        unfold cellTwo
        rw [if_neg (by rw [o.rel.ok']; decide), hh, if_neg (by simp), en]
        have hnone : (kindW Q (g + 1) a q st'.inc (.mk k v s l')).2.ks.getD (P.length + m) none = none := by
          rw [o.fr (P.length + m) (by omega) (.inl (by omega))]
          exact hn _ (Nat.le_refl _)
        rw [hnone]
        unfold cellThr cellOut
        generalize kindW P (f + 1) a q st (.mk k v s l) = r at *
        generalize kindW Q (g + 1) a q st'.inc (.mk k v s l') = r' at *
        dsimp only
        rw [en]
        have hmm := o.mm
        refine ⟨o1, ⟨o.rel.ok, o.rel.ok', o.rel.pt, o.rel.l1, o.rel.l2, by rw [← o.rel.l3]; exact List.length_set .., by rw [← o.rel.l4]; exact List.length_set .., fun u hu => ?_, fun u hu => ?_⟩, o.le, o.ge, by omega, o.top, fun j j1 j2 => ?_, fun j j1 j2 => ?_⟩
        · show (r'.2.ks.set (P.length + m) _).getD u none = _
          rw [getD_set, if_neg (fun c => by omega)]; exact o.rel.ks u hu
        · show (r'.2.ts.set (P.length + m) _).getD u 0 = _
          rw [getD_set, if_neg (fun c => by omega)]; exact o.rel.ts u hu
        · by_cases hj : j = P.length + m
          · subst hj; rw [hQm]; exact ⟨h0, by omega⟩
          · exact o.hi j (by omega) j2
        · show (r'.2.ks.set (P.length + m) _).getD j none = _
          rw [getD_set, if_neg (fun c => by omega)]
          exact o.fr j j1 (by omega)
end
theorem bad_of : ∀ {l : List Int}, cellsBad l = false → ∀ j, j < l.length → 0 ≤ l.getD j 0 ∧ l.getD j 0 ≤ 4
  | h :: l, hb, j, hj => by
    rw [cellsBad] at hb
    split at hb
    · cases hb
    · split at hb
      · cases hb
      · rename_i h1 h2
        have h1 : 0 ≤ h := by simpa using h1
        have h2 : h ≤ 4 := by simpa using h2
        cases j with
        | zero => exact ⟨h1, h2⟩
        | succ j => exact bad_of hb j (by simpa using hj)
theorem of_bad : ∀ {l : List Int}, (∀ j, j < l.length → 0 ≤ l.getD j 0 ∧ l.getD j 0 ≤ 4) → cellsBad l = false
  | [], _ => rfl
  | h :: l, hb => by
    have h0 := hb 0 (by simp)
    have h1 : 0 ≤ h := h0.1
    have h2 : h ≤ 4 := h0.2
    rw [cellsBad, if_neg (by simpa using h1), if_neg (by simpa using h2)]
    exact of_bad fun j hj => hb (j + 1) (by simpa using hj)
theorem right_part {p : Pl} (h : refKind p ≠ 0) (hs : p.root.size ≤ 2048) (hl : (part p.root 0 0 p.cells).2.length ≤ 256) : refKind ⟨(part p.root 0 0 p.cells).1, (part p.root 0 0 p.cells).2⟩ = refKind p := by
  have hpre := part_pre p.root 0 0 p.cells
  have hT := part_HT p.cells (part p.root 0 0 p.cells).2 p.root 0 0 p.cells (Int.le_refl _) (Nat.le_refl _) (List.prefix_refl _)
  generalize (part p.root 0 0 p.cells).2 = Q at *
  generalize (part p.root 0 0 p.cells).1 = n' at *
  unfold refKind at h ⊢
  by_cases c1 : decide ((p.cells.length : Int) > 256) = true
  · rw [if_pos c1] at h; exact absurd rfl h
  rw [if_neg c1] at h ⊢
  rw [if_neg (show ¬ decide ((Q.length : Int) > 256) = true from by simp only [decide_eq_true_eq]; omega)]
  by_cases c2 : cellsBad p.cells = true
  · rw [if_pos c2] at h; exact absurd rfl h
  rw [if_neg c2] at h ⊢
  dsimp only at h ⊢
  have hok : (kindW p.cells p.root.size 0 0 ⟨0, List.replicate p.cells.length none, List.replicate p.cells.length 0, true⟩ p.root).2.ok = true := by
    cases e : (kindW p.cells p.root.size 0 0 ⟨0, List.replicate p.cells.length none, List.replicate p.cells.length 0, true⟩ p.root).2.ok with
    | true => rfl
    | false => rw [e] at h; exact absurd rfl h
  have hle := hpre.length_le
  have rg : ∀ {α : Type} {d : α} {n v : Nat}, (List.replicate n d).getD v d = d := by
    intro α d n v
    rw [List.getD_eq_getElem?_getD, List.getElem?_replicate]
    split <;> rfl
  obtain ⟨o1, o⟩ := kind_HT hpre hl p.root.size n'.size p.root n' 0 0 _ _ ⟨0, List.replicate p.cells.length none, List.replicate p.cells.length 0, true⟩ ⟨0, List.replicate Q.length none, List.replicate Q.length 0, true⟩ hT (Nat.le_refl _) (Nat.le_refl _) (by decide) (by decide) (by decide) (by omega)
    ⟨rfl, rfl, by show (0 : Int) = 0 + ((p.cells.length - p.cells.length : Nat) : Int); omega, by simp, by simp, by simp, by simp, fun v _ => by rw [rg, rg], fun v _ => by rw [rg, rg]⟩ (Int.le_refl 0) (by show (0 : Int) + _ ≤ 2048; omega) (fun j _ => rg) hok
  have hb : cellsBad Q = false := of_bad fun j hj => by
    by_cases hjp : j < p.cells.length
    · rw [pre_getD hpre hjp]; exact bad_of (by simpa using c2) j hjp
    · exact o.hi j (by omega) (by omega)
  rw [if_neg (by rw [hb]; decide), o.rel.ok', hok, o1]
end
end Go.Vx
namespace Go.Vx.Tryz
open Go Go.Vx Go.Proofs
section
mutual
theorem parts_size : ∀ (n : Nd), n.size ≤ 2 ^ 40 → parts n = n.size
  | .mk k v s l, h => by
    rw [Nd.size] at h ⊢
    rw [parts, partsL_size l 1 (by omega) (by omega)]; omega
theorem partsL_size : ∀ (l : List Nd) (o : Int), 1 ≤ o → o + Nd.sizes l ≤ 2 ^ 40 + 1 → partsL o l = o + Nd.sizes l
  | [], o, _, _ => by rw [partsL]; simp [Nd.sizes]
  | x :: l, o, h0, h => by
    rw [Nd.sizes] at h ⊢
    rw [partsL, parts_size x (by omega), w64_id (by omega) (by omega), partsL_size l _ (by omega) (by omega)]; omega
end
theorem hoist_again {p : Pl} (hr : rightB p = true) (hs : p.root.size ≤ 2048) (hl : (hoistP p true).1.cells.length < 256) :
    stands (hoistP p true).1.root 0 = true ∧ hoistP (hoistP p true).1 (rightB (hoistP p true).1) = ((hoistP p true).1, 0) := by
  have h0 : refKind p ≠ 0 := by unfold rightB at hr; simpa using hr
  have hle := right_le hr
  have e : hoistP p true = (⟨(part p.root 0 0 p.cells).1, (part p.root 0 0 p.cells).2⟩, 0) := by
    unfold hoistP; rw [if_pos rfl, gone_part p.root 0 0 p.cells (right_two h0) hle]
  rw [e] at hl ⊢
  have hl : (part p.root 0 0 p.cells).2.length < 256 := hl
  have hk := right_part h0 hs (by omega)
  have hr2 : rightB ⟨(part p.root 0 0 p.cells).1, (part p.root 0 0 p.cells).2⟩ = true := by unfold rightB; rw [hk]; simpa using h0
  refine ⟨stands_part p.root 0 p.cells (Int.le_refl 0) (by omega) hl, ?_⟩
  unfold hoistP
  rw [hr2, if_pos rfl, gone_part _ 0 0 _ (right_two (by rw [hk]; exact h0)) (by show (part p.root 0 0 p.cells).2.length ≤ 256; omega)]
  dsimp only
  rw [again_part p.root 0 p.cells _ hl]
theorem hoistLeaves (p : Pl) {w : World} {F G : Nat → Prop} {A : Option Addr} {l c : Nat} {B : Option Addr} {bl bc : Nat} (h : NdsR w F p.root.kids A l c) (h2 : IntsR w G p.cells B bl bc) (hF : ∀ x, F x ∨ G x → x < w.heap.size) :
    CallsX E.P 5 #[plA p A l c B bl bc] w (IsV (.bool true) w) never := by
  refine vc5 ?_
  intro id hid w1 hE1 hi1
  have hE1' : Ext w w1 := hE1
  refine callB (heavy_c p (h.ext hE1) (h2.ext hE1)) fun w2 hE2 => ⟨fun hx => ⟨rfl, hE1'.trans hE2⟩, fun hx => ?_⟩
  obtain ⟨hsz, hcl⟩ := light hx
  refine callB (awake_c w2) fun w3 hE3 => ?_
  have hE03 : Ext w w3 := (hE1'.trans hE2).trans hE3
  have t3 := hE03.size
  refine ⟨_, _, planHoist_c p (by omega) (h.ext hE03) (h2.ext hE03) (fun x hx => by have := hF x hx; omega), ?_, never_any⟩
  rintro v w4 ⟨A4, l4, c4, B4, bl4, bc4, F4, G4, rfl, hO, hF4, hE4⟩
  have hE04 := hE03.trans hE4
  refine ⟨_, _, _, _, _, _, _, _, _, _, rfl, no, hE4, Away.no _, fun id1 hid1 => ?_⟩
  have hq := hO.1.plain
  have hqc := ints_of hO.2.1
  have hb4 : bl4 = (hoistP p (rightB p)).1.cells.length := hqc.len
  have hb : bl = p.cells.length := h2.len
  have hc4 := hoist_cells p
  have hz4 := hoist_size p (rightB p)
  have hF4' : ∀ x, F4 x ∨ G4 x → x < w4.heap.size := fun x hx => (hF4 x hx).2
  clear hF4 hO
  cases hr : rightB p with
  | false =>
    rw [hr] at hb4
    have e : hoistP p false = (⟨.mk 0 0 (ByteArray.mk #[]) [], []⟩, 140) := rfl
    rw [e] at hb4 ⊢
    have hb4 : bl4 = 0 := hb4
    subst hb4
    exact ⟨fun hh => (nomatch hh), fun _ => ⟨fun _ => ⟨fun _ => ⟨fun _ w5 hE5 hi5 => ⟨rfl, hE04.trans hE5⟩, fun hh => absurd hh (by decide)⟩, fun hh => (nomatch hh)⟩, fun hh => absurd hh (by decide)⟩⟩
  | true =>
    rw [hr] at hb4 hq hqc hc4 hz4
    have e2 : (hoistP p true).2 = 0 := rfl
    rw [e2]
    have hle : p.cells.length ≤ (hoistP p true).1.cells.length := by
      have h0 : refKind p ≠ 0 := by unfold rightB at hr; simpa using hr
      unfold hoistP
      rw [if_pos rfl, gone_part p.root 0 0 p.cells (right_two h0) (right_le hr)]
      exact (part_pre p.root 0 0 p.cells).length_le
    subst hb4 hb
    refine ⟨fun hh => (nomatch hh), fun _ => ⟨fun hh => absurd hh (by decide), fun _ => ⟨fun hh => absurd hh (by simp only [decide_eq_true_eq]; omega), fun _ => ⟨fun hh => absurd hh (by simp only [decide_eq_true_eq]; omega), fun _ => ⟨fun _ w5 hE5 hi5 => ⟨rfl, hE04.trans hE5⟩, fun h256 w5 hE5 hi5 => ?_⟩⟩⟩⟩⟩
    have hE05 : Ext w w5 := hE04.trans hE5
    refine callI (parts_c _ p.root (Nat.le_refl _) (h.ext hE05)) fun w6 hE6 => ⟨fun _ => ⟨rfl, hE05.trans hE6⟩, fun hp => ?_⟩
    rw [parts_size p.root (by omega)] at hp
    have hs2 : p.root.size ≤ 2048 := by simp at hp; omega
    have hlt : (hoistP p true).1.cells.length < 256 := by simp at h256; omega
    obtain ⟨g1, g2⟩ := hoist_again hr hs2 hlt
    generalize hoistP p true = q at *
    have hE46 : Ext w4 w6 := Ext.trans hE5 hE6
    refine callB (stands_c _ q.1.root (Nat.le_refl _) 0 (hq.ext hE46)) fun w7 hE7 => ?_
    have hE47 := hE46.trans hE7
    have t47 := hE47.size
    refine ⟨_, _, planHoist_c q.1 (by omega) (hq.ext hE47) (hqc.ext hE47) (fun x hx => by have := hF4' x hx; omega), ?_, never_any⟩
    rintro v w8 ⟨A8, l8, c8, B8, bl8, bc8, F8, G8, rfl, hO8, _, hE8⟩
    refine ⟨_, _, _, _, _, _, _, _, _, _, rfl, no, hE8, Away.no _, fun id2 hid2 w9 hE9 hi9 => ?_⟩
    have hE9' : Ext w8 w9 := hE9
    have hE49 := (hE47.trans hE8).trans hE9'
    have hq8 := hO8.1.plain
    have hqc8 := ints_of hO8.2.1
    rw [g2] at hq8 hqc8 ⊢
    refine callB (psamePl_c q.1 q.1 (hq.ext hE49) (hqc.ext hE49) (hq8.ext hE9') (hqc8.ext hE9')) fun w10 hE10 => ?_
    rw [samePl_rfl, g1]
    exact ⟨fun _ => ⟨fun _ => ⟨rfl, (hE04.trans hE49).trans hE10⟩, fun hh => absurd (show ((0 : Int) == 0) = false from hh) (by decide)⟩, fun hh => (nomatch hh)⟩
end
end Go.Vx.Tryz
