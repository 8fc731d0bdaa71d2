/- Texts of the walk, gathered. -/
import Derived.Test.YtingeadhfbcacaaGreatMa4
import Derived.Test.YtingeadhfbcacaaGreatMa2
import Derived.Laws.MakeOwn
import Derived.Test.YtingeadhfbcacaaGreatMa1
import Derived.WalkKit
import Derived.Defers
import Derived.Recover
import Derived.Tactics2
import Derived.Test.YtingeadhfbcacaaGreatMa3
import Derived.Test.YtingeadhfbcacaaGreatRows
import Derived.ProofKit
import Derived.Deep.Slices
import Derived.SizedLaws
import Derived.Lib.SmallJoins
import Derived.Lib.Mul64
import Derived.Laws.Bits64b
set_option linter.unusedSimpArgs false
set_option linter.unusedVariables false
namespace Go.Vx.Tryz
open Go Go.Vx Go.Proofs
section
theorem mapK : MapT E.P 100 3 24 (.agg #[.int .i64 0, .int .i64 0, .string (ByteArray.mk #[]), .slice none 0 0]) := ⟨by kernel_rfl, by kernel_rfl, fun w => Tryz.zeroValue24 w⟩
theorem mapD : MapT E.P 101 3 3 (.int .i64 0) := ⟨by kernel_rfl, by kernel_rfl, fun w => Tryz.zeroValue3 w⟩
theorem callIX {P : Program} {f : Nat} {args : Array Value} {w : World} {X : ContX} {x : Int} (hc : CallsX P f args w (IsV (.int .i64 x) w) never) {K : Int → World → Prop} (k : ∀ w2, Ext w w2 → K x w2) :
    ∃ (R : Value → World → Prop) (X' : ContX), CallsX P f args w R X' ∧ (∀ v w2, R v w2 → ∃ y, v = .int .i64 y ∧ Upd w w2 no ∧ K y w2) ∧ ∀ ch w2, X' ch w2 → X ch w2 :=
  ⟨_, _, hc, fun _ w2 ⟨hv, hE⟩ => ⟨x, hv, hE, k w2 hE⟩, never_any⟩
theorem callBX {P : Program} {f : Nat} {args : Array Value} {w : World} {X : ContX} {x : Bool} (hc : CallsX P f args w (IsV (.bool x) w) never) {K : Bool → World → Prop} (k : ∀ w2, Ext w w2 → K x w2) :
    ∃ (R : Value → World → Prop) (X' : ContX), CallsX P f args w R X' ∧ (∀ v w2, R v w2 → ∃ y, v = .bool y ∧ Upd w w2 no ∧ K y w2) ∧ ∀ ch w2, X' ch w2 → X ch w2 :=
  ⟨_, _, hc, fun _ w2 ⟨hv, hE⟩ => ⟨x, hv, hE, k w2 hE⟩, never_any⟩
variable {b g h : Nat} {zs : List Int} {C : Option Addr} {cc : Nat}
theorem lookE {w : World} {ks : List (Option Nd)} {ts : List Int} (m : LMem w b g h zs C cc ks ts) {w' : World} (hE : Ext w w') {j : Nat} (hj : j < zs.length) :
    ∃ xk xn xs xa xl xc xi, Sem.run E.P (Instr.lookup 100 (.map (some g)) (.int .i64 (j : Int)) true) w' = .ok (.tuple #[.agg #[.int .i64 xk, .int .i64 xn, .string xs, .slice xa xl xc], .bool xi]) w' ∧
      ((ks.getD j none = none ∧ xi = false) ∨ ∃ y, ks.getD j none = some y ∧ xi = true ∧ xk = y.k ∧ xn = y.n ∧ xs = y.s ∧ NdsR w (Fw b g h) y.kids xa xl xc) := by
  obtain ⟨f, hG, hf⟩ := m.hk
  have hjk : j < ks.length := by have := m.kl; omega
  have h1 := hf j ks[j] (List.getElem?_eq_getElem hjk)
  have hd : ks.getD j none = ks[j] := by rw [List.getD_eq_getElem?_getD, List.getElem?_eq_getElem hjk]; rfl
  have hl := (hG.upd hE (fun h => h)).toF.look mapK (j : Int)
  rw [hd]
  cases hx : ks[j] with
  | none =>
    rw [hx] at h1
    have h1 : f j = none := h1
    rw [h1] at hl
    exact ⟨_, _, _, _, _, _, _, hl, .inl ⟨rfl, rfl⟩⟩
  | some y =>
    rw [hx] at h1
    obtain ⟨A, l, c, e, hA⟩ := h1
    rw [e] at hl
    exact ⟨_, _, _, _, _, _, _, hl, .inr ⟨y, rfl, rfl, rfl, rfl, rfl, hA⟩⟩
theorem lookD {w : World} {ks : List (Option Nd)} {ts : List Int} (m : LMem w b g h zs C cc ks ts) {j : Nat} (hj : j < zs.length) {y : Nd} (hy : ks.getD j none = some y) :
    Sem.run E.P (Instr.lookup 101 (.map (some h)) (.int .i64 (j : Int)) false) w = .ok (.int .i64 (ts.getD j 0)) w := by
  obtain ⟨f, hG, hf⟩ := m.ht
  have hjk : j < ks.length := by have := m.kl; omega
  have hd : ks.getD j none = ks[j] := by rw [List.getD_eq_getElem?_getD, List.getElem?_eq_getElem hjk]; rfl
  have h1 := hf j y (by rw [List.getElem?_eq_getElem hjk, ← hd, hy])
  have hl := hG.toF.lookV mapD (j : Int)
  rw [h1] at hl
  exact hl
theorem upd_g {w w' : World} (k : Upd w w' (fun x => x = g)) : Upd w w' (S3 b g h) := ⟨k.os, k.tape, k.output, k.size, fun x hx hS => k.keep x hx fun e => hS (.inr (.inl e))⟩
theorem upd_h {w w' : World} (k : Upd w w' (fun x => x = h)) : Upd w w' (S3 b g h) := ⟨k.os, k.tape, k.output, k.size, fun x hx hS => k.keep x hx fun e => hS (.inr (.inr e))⟩
theorem LMem.stored {w0 w1 w3 : World} {ks : List (Option Nd)} {ts : List Int} {j : Nat} {fk fd : Int → Option Value} {x : Nd} {A : Option Addr} {l c : Nat} {a : Int} (m : LMem w0 b g h zs C cc ks ts) (hj : j < zs.length)
    (hfk : ∀ (i : Nat) (y : Option Nd), ks[i]? = some y → KidV w0 (Fw b g h) y (fk i)) (hfd : ∀ (i : Nat) (y : Nd), ks[i]? = some (some y) → fd i = some (.int .i64 (ts.getD i 0)))
    (h1 : MapG w1 g (fun k' => if k' = (j : Int) then some (ndA x A l c) else fk k')) (hx : NdsR w1 (Fw b g h) x.kids A l c) (k01 : Upd w0 w1 (fun x => x = g))
    (h3 : MapG w3 h (fun k' => if k' = (j : Int) then some (.int .i64 a) else fd k')) (k13 : Upd w1 w3 (fun x => x = h)) :
    LMem w3 b g h zs C cc (ks.set j (some x)) (ts.set j a) := by
  have hF : ∀ y, Fw b g h y → ¬ (y = g) := fun y hy e => hy (.inr (.inl e))
  have hF2 : ∀ y, Fw b g h y → ¬ (y = h) := fun y hy e => hy (.inr (.inr e))
  have kt := m.kl
  have tt := m.tl
  refine ⟨RowIn.upd (RowIn.upd m.hc k01 hF) k13 hF2, ⟨_, h1.upd k13 m.gh, fun i y hy => ?_⟩, ⟨_, h3, fun i y hy => ?_⟩, by simpa using kt, by simpa using tt, m.bg, m.bh, m.gh⟩
  · have hil := (List.getElem?_eq_some_iff.1 hy).1
    simp only [List.length_set] at hil
    by_cases hij : j = i
    · subst hij
      rw [List.getElem?_set_self (by omega)] at hy
      cases hy
      exact ⟨A, l, c, by simp, hx.upd k13 hF2⟩
    · rw [List.getElem?_set_ne hij] at hy
      have hne : ¬ ((i : Int) = (j : Int)) := by omega
      simp only [hne, if_false]
      exact ((hfk i y hy).upd k01 (fun z hz _ => hF z hz)).upd k13 (fun z hz _ => hF2 z hz)
  · have hil := (List.getElem?_eq_some_iff.1 hy).1
    simp only [List.length_set] at hil
    by_cases hij : j = i
    · subst hij
      simp only [if_true]
      rw [List.getD_eq_getElem?_getD, List.getElem?_set_self (by omega)]; rfl
    · rw [List.getElem?_set_ne hij] at hy
      have hne : ¬ ((i : Int) = (j : Int)) := by omega
      simp only [hne, if_false]
      rw [hfd i y hy, List.getD_eq_getElem?_getD, List.getD_eq_getElem?_getD, List.getElem?_set_ne hij]
theorem cellK_c {kf : Int → Int → WS → Nd → Option (Int × WS)} {k v : Int} {s : ByteArray} {kids : List Nd} (h1 : 1 ≤ kids.length) (hk0 : KL b g h zs C cc kf (kids.getD 0 nd0))
    {w : World} {A : Option Addr} {l c : Nat} (a q : Int) (st : WS) (hw : Lst w b g h zs C cc st) (hr : NdsR w (Fw b g h) kids A l c) :
    CallsX E.P 136 #[.pointer (some ⟨b, 0, none⟩), ndA (.mk k v s kids) A l c, .int .i64 a, .int .i64 q] w (LR b g h zs C cc w (cellL zs (kf a q) st v (kids.getD 0 nd0) a)) (LX b g h w (cellL zs (kf a q) st v (kids.getD 0 nd0) a)) := by
  obtain ⟨hb, hg, hh⟩ := hw.lt
  dsimp only [ndA, Nd.k, Nd.n, Nd.s, Nd.kids]
  refine vc136 hw.1 ?_
  intro id hid
  have aw : Away [id] (S3 b g h) := away_s3 hb hg hh (by simp; omega)
  generalize hres : cellL zs (kf a q) st v (kids.getD 0 nd0) a = res
  rw [cellL] at hres
  refine ⟨fun a1 n1 c1 r1 r2 x w2 => (C = a1 ∧ n1 = zs.length ∧ cc = c1 ∧ r1 = some g ∧ r2 = some h ∧ x = st.parts) ∧ (decide (v ≥ 0) && decide (v < (zs.length : Int)) && decide (zs.getD v.toNat 0 ≤ a)) = true ∧ LMem w2 b g h zs C cc st.ks st.ts ∧ Upd w w2 (S3 b g h), ⟨fun e0 => ⟨fun e1 => ?_, fun e1 w1 hE1 _ hh1 => ?_⟩, fun e0 w1 hE1 _ hh1 => ?_⟩, ?_⟩
  · have e0' : 0 ≤ v := by simpa using e0
    obtain ⟨j, rfl⟩ : ∃ j : Nat, v = j := ⟨v.toNat, by omega⟩
    have hj : j < zs.length := by simpa using e1
    have hjt : Int.toNat (j : Int) = j := by omega
    have hz : zs.getD (Int.toNat (j : Int)) 0 = zs[j] := by rw [hjt, List.getD_eq_getElem?_getD, List.getElem?_eq_getElem hj]; rfl
    refine hw.2.hc.idx hj fun ad ha w1 hE1 _ => (hw.2.hc.ext hE1).cell ha hj fun hh1 => ?_
    refine callM (st := st) (t := decide (zs[j] ≤ a)) ⟨hh1, hw.2.ext hE1⟩ (ext_s3 hE1) aw (fun e => by rw [← hres, e0, e1, hz, e]; rfl) fun w2 ht hM2 hU2 => ?_
    exact ⟨⟨rfl, rfl, rfl, rfl, rfl, rfl⟩, by rw [e0, e1, hz, ht]; rfl, hM2, (ext_s3 hE1).t3 hU2⟩
  · exact callM (st := st) (t := false) ⟨hh1, hw.2.ext hE1⟩ (ext_s3 hE1) aw (fun e => by rw [← hres, e0, e1]; rfl) fun w2 ht _ _ => by cases ht
  · exact callM (st := st) (t := false) ⟨hh1, hw.2.ext hE1⟩ (ext_s3 hE1) aw (fun e => by rw [← hres, e0]; rfl) fun w2 ht _ _ => by cases ht
  rintro _ _ _ _ _ _ _ w2 ⟨⟨rfl, rfl, rfl, rfl, rfl, rfl⟩, hc, hM2, hU2⟩
  rw [if_pos hc] at hres
  simp only [Bool.and_eq_true] at hc
  have e0' : 0 ≤ v := by simpa using hc.1.1
  obtain ⟨j, rfl⟩ : ∃ j : Nat, v = j := ⟨v.toNat, by omega⟩
  have hj : j < zs.length := by simpa using hc.1.2
  have hjt : Int.toNat (j : Int) = j := by omega
  have hz : zs.getD (Int.toNat (j : Int)) 0 = zs[j] := by rw [hjt, List.getD_eq_getElem?_getD, List.getElem?_eq_getElem hj]; rfl
  refine ⟨fun y a1 n1 c1 r1 r2 x w3 => ∃ s1, (C = a1 ∧ n1 = zs.length ∧ cc = c1 ∧ r1 = some g ∧ r2 = some h ∧ x = s1.parts) ∧ kf a q st (kids.getD 0 nd0) = some (y, s1) ∧ LMem w3 b g h zs C cc s1.ks s1.ts ∧ Upd w w3 (S3 b g h), ?_, ?_⟩
  · refine hr.idxL 0 rfl (by omega) fun ad ha => (hr.s3 hU2).cellL ha 0 rfl (by omega) (d := nd0) fun A0 l0 c0 q0 hh2 => ?_
    exact callL (hk0 a q st ⟨hh2, hM2⟩ q0) hU2 aw (fun e => by rw [← hres, e]; rfl) fun y s1 w3 he hw3 hU3 => ⟨s1, ⟨rfl, rfl, rfl, rfl, rfl, rfl⟩, he, hw3.2, hU2.t3 hU3⟩
  rintro _ y _ _ _ _ _ _ w3 ⟨s1, ⟨rfl, rfl, rfl, rfl, rfl, rfl⟩, he, hM3, hU3⟩
  rw [he, Option.bind_some, hz] at hres
  have hs3 := hU3.size
  have hlt3 := hM3.lt
  have hb3 : b < w3.heap.size := by omega
  dsimp only at hres
  generalize hx0 : kids.getD 0 nd0 = x0 at hres he hk0
  have kz : ∀ {w4 : World} {ad : Addr}, Upd w w4 (S3 b g h) → A = some ad → ∀ {K : Int → Int → ByteArray → Option Addr → Nat → Nat → Prop}, (∀ A1 l1 c1, NdsR w4 (Fw b g h) x0.kids A1 l1 c1 → K x0.k x0.n x0.s A1 l1 c1) →
      ∃ x2 x3, ∃ x4 a, ∃ n c, CellsIn w4 (ad.add 0) [.int .i64 x2, .int .i64 x3, .string x4, .slice a n c] ∧ K x2 x3 x4 a n c := fun hU ha2 K hk => by
    exact (hr.s3 hU).cellL ha2 0 (off := 0) rfl (by omega) (d := nd0) (K := K) (by rw [hx0]; exact hk)
  have ki : ∀ {K : Addr → Prop}, (∀ ad, A = some ad → K ad) → ((0 : Int) ≤ 0 ∧ (0 : Int) < (l : Int)) ∧ ∃ ad, A = some ad ∧ K ad := fun hk => hr.idxL 0 rfl (by omega) hk
  refine ⟨fun w4 hE4 => ?_, fun id2 hid2 w4 hE4 hi4 => ?_⟩
  · obtain ⟨xk, xn, xs, xa, xl, xc, xi, hlook, hent⟩ := lookE hM3 hE4 hj
    have hs4 := hE4.size
    refine ⟨xk, xn, xs, xa, xl, xc, xi, hlook, fun id1 hid1 => ?_⟩
    have aw2 : Away [id, id1] (S3 b g h) := away_s3 hb hg hh (by simp; omega)
    have awG : Away [b, id, id1] (fun x => x = g) := away_of fun i hi hS => by
      simp only [List.mem_cons, List.not_mem_nil, or_false] at hi
      have := hM3.bg
      rcases hi with rfl | rfl | rfl <;> omega
    have awH : Away [b, id, id1] (fun x => x = h) := away_of fun i hi hS => by
      simp only [List.mem_cons, List.not_mem_nil, or_false] at hi
      have := hM3.bh
      rcases hi with rfl | rfl | rfl <;> omega
    refine ⟨fun a1 n1 c1 r1 r2 x w5 => (C = a1 ∧ n1 = zs.length ∧ cc = c1 ∧ r1 = some g ∧ r2 = some h ∧ x = s1.parts) ∧ (decide (hangs a x0 ≤ zs[j]) && fitsB s1 j a x0) = true ∧ LMem w5 b g h zs C cc s1.ks s1.ts ∧ Upd w w5 (S3 b g h), ki fun ad2 ha2 w14 hU14 hi14 => ?_, ?_⟩
    · have hE14 : Ext w3 w14 := hE4.trans hU14
      have hU014 := hU3.t3 (ext_s3 hE14)
      refine kz hU014 ha2 fun A1 l1 c1 q1 => (hM3.ext hE14).hc.idx hj fun ad3 ha3 => (hM3.ext hE14).hc.cell ha3 hj ?_
      refine callIX (phangs_c _ x0 (Nat.le_refl _) a q1) fun w5 hE5 => ⟨fun eh => ⟨fun ei hh5 => ?_, fun ei => ki fun ad4 ha4 => kz (hU014.t3 (ext_s3 hE5)) ha4 fun A2 l2 c2 q2 => ?_⟩, fun eh hh5 => ?_⟩
      · refine callM (st := s1) (t := true) ⟨hh5, hM3.ext (hE14.trans hE5)⟩ (hU014.t3 (ext_s3 hE5)) aw2 (fun e => by cases e) fun w6 ht hM6 hU6 => ⟨⟨rfl, rfl, rfl, rfl, rfl, rfl⟩, ?_, hM6, (hU014.t3 (ext_s3 hE5)).t3 hU6⟩
        rcases hent with ⟨hent, rfl⟩ | ⟨y0, hent, rfl, _⟩
        · rw [eh]; simp only [fitsB, hjt, hent, Bool.and_self]
        · cases ei
      · rcases hent with ⟨_, rfl⟩ | ⟨y0, hent, rfl, rfl, rfl, rfl, hy0⟩
        · cases ei
        have hy14 : NdsR w14 (Fw b g h) y0.kids xa xl xc := hy0.ext hE14
        refine callBX (psame_c _ y0 x0 (Nat.le_refl _) (hy14.ext hE5) q2) fun w6 hE6 => ⟨fun es => ⟨_, lookD (hM3.ext ((hE14.trans hE5).trans hE6)) hj hent, fun ed hh6 => ?_, fun ed => ?_⟩, fun es hh6 => ?_⟩
        · refine callM (st := s1) (t := true) ⟨hh6, hM3.ext ((hE14.trans hE5).trans hE6)⟩ (hU014.t3 (ext_s3 (hE5.trans hE6))) aw2 (fun e => by cases e) fun w7 ht hM7 hU7 => ⟨⟨rfl, rfl, rfl, rfl, rfl, rfl⟩, ?_, hM7, (hU014.t3 (ext_s3 (hE5.trans hE6))).t3 hU7⟩
          rw [eh]; simp only [fitsB, hjt, hent, es, ed, Bool.true_or, Bool.and_self]
        · refine callBX (rounds_c _ y0 (Nat.le_refl _) ((hy14.ext hE5).ext hE6)) fun w7 hE7 hh7 => ?_
          refine callM (st := s1) (t := !roundsN y0) ⟨hh7, hM3.ext (((hE14.trans hE5).trans hE6).trans hE7)⟩ (hU014.t3 (ext_s3 ((hE5.trans hE6).trans hE7))) aw2 (fun e => ?_) fun w8 ht hM8 hU8 => ⟨⟨rfl, rfl, rfl, rfl, rfl, rfl⟩, ?_, hM8, (hU014.t3 (ext_s3 ((hE5.trans hE6).trans hE7))).t3 hU8⟩
          · rw [← hres, eh]; simp only [fitsB, hjt, hent, es, ed, e, Bool.or_self, Bool.and_false, Bool.false_eq_true, if_false]
          · rw [eh]; simp only [fitsB, hjt, hent, es, ed, ht, Bool.or_true, Bool.and_self]
        · refine callM (st := s1) (t := false) ⟨hh6, hM3.ext ((hE14.trans hE5).trans hE6)⟩ (hU014.t3 (ext_s3 (hE5.trans hE6))) aw2 (fun e => ?_) fun w7 ht _ _ => by cases ht
          rw [← hres, eh]; simp only [fitsB, hjt, hent, es, Bool.false_and, Bool.and_false, Bool.false_eq_true, if_false]
      · refine callM (st := s1) (t := false) ⟨hh5, hM3.ext (hE14.trans hE5)⟩ (hU014.t3 (ext_s3 hE5)) aw2 (fun e => ?_) fun w7 ht _ _ => by cases ht
        rw [← hres, eh]; simp only [Bool.false_and, Bool.false_eq_true, if_false]
    · rintro _ _ _ _ _ _ _ w5 ⟨⟨rfl, rfl, rfl, rfl, rfl, rfl⟩, hfit, hM5, hU5⟩
      rw [if_pos hfit] at hres
      have hs5 := hU5.size
      have fin : ∀ {w6 w7 w8 w9 w10 : World} {fk fd : Int → Option Value} {A1 : Option Addr} {l1 c1 : Nat}, Ext w5 w6 → (∀ (i : Nat) (y : Option Nd), s1.ks[i]? = some y → KidV w6 (Fw b g h) y (fk i)) → (∀ (i : Nat) (y : Nd), s1.ks[i]? = some (some y) → fd i = some (.int .i64 (s1.ts.getD i 0))) →
          Upd w6 w7 (fun x => x = g) → MapG w8 g (fun k' => if k' = (j : Int) then some (ndA x0 A1 l1 c1) else fk k') → NdsR w8 (Fw b g h) x0.kids A1 l1 c1 → Upd w7 w8 (fun x => x = g) → Upd w8 w9 (fun x => x = h) → MapG w10 h (fun k' => if k' = (j : Int) then some (.int .i64 a) else fd k') → Upd w9 w10 (fun x => x = h) →
          w10.heap[b]? = some (.cells (lcells zs C cc g h s1) 103 (0, 0)) → LR b g h zs C cc w res (.int .i64 y) w10 := fun hE6 hfk hfd u67 hG8 q8 u78 u89 hG10 u910 hh10 => by
        refine ⟨(y, (cellOut (y, s1) j a x0).2), by rw [← hres]; rfl, rfl, ⟨hh10, ?_⟩, ((((hU5.t3 (ext_s3 hE6)).t3 (upd_g u67)).t3 (upd_g u78)).t3 (upd_h u89)).t3 (upd_h u910)⟩
        have := LMem.stored (m := hM5.ext hE6) hj hfk hfd hG8 q8 (u67.trans u78) hG10 (u89.trans u910)
        simp only [cellOut, hjt]
        exact this
      refine ki fun ad5 ha5 => ⟨fun w6 hE6 => kz (hU5.t3 (ext_s3 hE6)) ha5 fun A1 l1 c1 q1 => ?_, fun w6 hE6 => ?_⟩
      all_goals
        have hM6 := hM5.ext hE6
        obtain ⟨fk, hGk, hfk⟩ := hM6.hk
        obtain ⟨fd, hGd, hfd⟩ := hM6.ht
        have hgh := hM6.gh
        have hs6 := hE6.size
        refine ⟨_, hGk.entry mapK (j : Int), ?_⟩
        rintro _ w7 ⟨u, st7, rfl, hE7, u67, z7⟩
        refine ⟨u, _, rfl, _, u67, awG, ?_⟩
      · refine ⟨_, hE7.store (ndA x0 A1 l1 c1), ?_⟩
        rintro w8 ⟨hG8, u78, z8⟩
        refine ⟨_, u78, awG, _, ((hGd.upd u67 (fun e => hgh e.symm)).upd u78 (fun e => hgh e.symm)).entry mapD (j : Int), ?_⟩
        rintro _ w9 ⟨u9, st9, rfl, hE9, u89, z9⟩
        refine ⟨u9, _, rfl, _, u89, awH, _, hE9.store (.int .i64 a), ?_⟩
        rintro w10 ⟨hG10, u910, z10⟩
        have hF : ∀ y, Fw b g h y → ¬ (y = g) := fun y hy e => hy (.inr (.inl e))
        exact ⟨_, u910, awH, fun hh10 => fin hE6 hfk hfd u67 hG8 ((q1.upd u67 hF).upd u78 hF) u78 u89 hG10 u910 hh10⟩
      · refine kz ((hU5.t3 (ext_s3 hE6)).t3 (upd_g u67)) ha5 fun A1 l1 c1 q1 => ⟨_, hE7.store (ndA x0 A1 l1 c1), ?_⟩
        rintro w8 ⟨hG8, u78, z8⟩
        refine ⟨_, u78, awG, _, ((hGd.upd u67 (fun e => hgh e.symm)).upd u78 (fun e => hgh e.symm)).entry mapD (j : Int), ?_⟩
        rintro _ w9 ⟨u9, st9, rfl, hE9, u89, z9⟩
        refine ⟨u9, _, rfl, _, u89, awH, _, hE9.store (.int .i64 a), ?_⟩
        rintro w10 ⟨hG10, u910, z10⟩
        have hF : ∀ y, Fw b g h y → ¬ (y = g) := fun y hy e => hy (.inr (.inl e))
        exact ⟨_, u910, awH, fun hh10 => fin hE6 hfk hfd u67 hG8 (q1.upd u78 hF) u78 u89 hG10 u910 hh10⟩
  · obtain ⟨xk, xn, xs, xa, xl, xc, xi, hlook, hent⟩ := lookE hM3 hE4 hj
    have hs4 := hE4.size
    refine ⟨xk, xn, xs, xa, xl, xc, xi, hlook, ?_⟩
    have aw2 : Away [id, id2] (S3 b g h) := away_s3 hb hg hh (by simp; omega)
    have awG : Away [b, id, id2] (fun x => x = g) := away_of fun i hi hS => by
      simp only [List.mem_cons, List.not_mem_nil, or_false] at hi
      have := hM3.bg
      rcases hi with rfl | rfl | rfl <;> omega
    have awH : Away [b, id, id2] (fun x => x = h) := away_of fun i hi hS => by
      simp only [List.mem_cons, List.not_mem_nil, or_false] at hi
      have := hM3.bh
      rcases hi with rfl | rfl | rfl <;> omega
    refine ⟨fun a1 n1 c1 r1 r2 x w5 => (C = a1 ∧ n1 = zs.length ∧ cc = c1 ∧ r1 = some g ∧ r2 = some h ∧ x = s1.parts) ∧ (decide (hangs a x0 ≤ zs[j]) && fitsB s1 j a x0) = true ∧ LMem w5 b g h zs C cc s1.ks s1.ts ∧ Upd w w5 (S3 b g h), ki fun ad2 ha2 w14 hU14 => ?_, ?_⟩
    · have hE14 : Ext w3 w14 := hE4.step hU14 (fun x hx => by simp only [setOf, no, or_false] at hx; omega)
      have hU014 := hU3.t3 (ext_s3 hE14)
      refine kz hU014 ha2 fun A1 l1 c1 q1 => (hM3.ext hE14).hc.idx hj fun ad3 ha3 => (hM3.ext hE14).hc.cell ha3 hj ?_
      refine callIX (phangs_c _ x0 (Nat.le_refl _) a q1) fun w5 hE5 => ⟨fun eh => ⟨fun ei hh5 => ?_, fun ei => ki fun ad4 ha4 => kz (hU014.t3 (ext_s3 hE5)) ha4 fun A2 l2 c2 q2 => ?_⟩, fun eh hh5 => ?_⟩
      · refine callM (st := s1) (t := true) ⟨hh5, hM3.ext (hE14.trans hE5)⟩ (hU014.t3 (ext_s3 hE5)) aw2 (fun e => by cases e) fun w6 ht hM6 hU6 => ⟨⟨rfl, rfl, rfl, rfl, rfl, rfl⟩, ?_, hM6, (hU014.t3 (ext_s3 hE5)).t3 hU6⟩
        rcases hent with ⟨hent, rfl⟩ | ⟨y0, hent, rfl, _⟩
        · rw [eh]; simp only [fitsB, hjt, hent, Bool.and_self]
        · cases ei
      · rcases hent with ⟨_, rfl⟩ | ⟨y0, hent, rfl, rfl, rfl, rfl, hy0⟩
        · cases ei
        have hy14 : NdsR w14 (Fw b g h) y0.kids xa xl xc := hy0.ext hE14
        refine callBX (psame_c _ y0 x0 (Nat.le_refl _) (hy14.ext hE5) q2) fun w6 hE6 => ⟨fun es => ⟨_, lookD (hM3.ext ((hE14.trans hE5).trans hE6)) hj hent, fun ed hh6 => ?_, fun ed => ?_⟩, fun es hh6 => ?_⟩
        · refine callM (st := s1) (t := true) ⟨hh6, hM3.ext ((hE14.trans hE5).trans hE6)⟩ (hU014.t3 (ext_s3 (hE5.trans hE6))) aw2 (fun e => by cases e) fun w7 ht hM7 hU7 => ⟨⟨rfl, rfl, rfl, rfl, rfl, rfl⟩, ?_, hM7, (hU014.t3 (ext_s3 (hE5.trans hE6))).t3 hU7⟩
          rw [eh]; simp only [fitsB, hjt, hent, es, ed, Bool.true_or, Bool.and_self]
        · refine callBX (rounds_c _ y0 (Nat.le_refl _) ((hy14.ext hE5).ext hE6)) fun w7 hE7 hh7 => ?_
          refine callM (st := s1) (t := !roundsN y0) ⟨hh7, hM3.ext (((hE14.trans hE5).trans hE6).trans hE7)⟩ (hU014.t3 (ext_s3 ((hE5.trans hE6).trans hE7))) aw2 (fun e => ?_) fun w8 ht hM8 hU8 => ⟨⟨rfl, rfl, rfl, rfl, rfl, rfl⟩, ?_, hM8, (hU014.t3 (ext_s3 ((hE5.trans hE6).trans hE7))).t3 hU8⟩
          · rw [← hres, eh]; simp only [fitsB, hjt, hent, es, ed, e, Bool.or_self, Bool.and_false, Bool.false_eq_true, if_false]
          · rw [eh]; simp only [fitsB, hjt, hent, es, ed, ht, Bool.or_true, Bool.and_self]
        · refine callM (st := s1) (t := false) ⟨hh6, hM3.ext ((hE14.trans hE5).trans hE6)⟩ (hU014.t3 (ext_s3 (hE5.trans hE6))) aw2 (fun e => ?_) fun w7 ht _ _ => by cases ht
          rw [← hres, eh]; simp only [fitsB, hjt, hent, es, Bool.false_and, Bool.and_false, Bool.false_eq_true, if_false]
      · refine callM (st := s1) (t := false) ⟨hh5, hM3.ext (hE14.trans hE5)⟩ (hU014.t3 (ext_s3 hE5)) aw2 (fun e => ?_) fun w7 ht _ _ => by cases ht
        rw [← hres, eh]; simp only [Bool.false_and, Bool.false_eq_true, if_false]
    · rintro _ _ _ _ _ _ _ w5 ⟨⟨rfl, rfl, rfl, rfl, rfl, rfl⟩, hfit, hM5, hU5⟩
      rw [if_pos hfit] at hres
      have hs5 := hU5.size
      have fin : ∀ {w6 w7 w8 w9 w10 : World} {fk fd : Int → Option Value} {A1 : Option Addr} {l1 c1 : Nat}, Ext w5 w6 → (∀ (i : Nat) (y : Option Nd), s1.ks[i]? = some y → KidV w6 (Fw b g h) y (fk i)) → (∀ (i : Nat) (y : Nd), s1.ks[i]? = some (some y) → fd i = some (.int .i64 (s1.ts.getD i 0))) →
          Upd w6 w7 (fun x => x = g) → MapG w8 g (fun k' => if k' = (j : Int) then some (ndA x0 A1 l1 c1) else fk k') → NdsR w8 (Fw b g h) x0.kids A1 l1 c1 → Upd w7 w8 (fun x => x = g) → Upd w8 w9 (fun x => x = h) → MapG w10 h (fun k' => if k' = (j : Int) then some (.int .i64 a) else fd k') → Upd w9 w10 (fun x => x = h) →
          w10.heap[b]? = some (.cells (lcells zs C cc g h s1) 103 (0, 0)) → LR b g h zs C cc w res (.int .i64 y) w10 := fun hE6 hfk hfd u67 hG8 q8 u78 u89 hG10 u910 hh10 => by
        refine ⟨(y, (cellOut (y, s1) j a x0).2), by rw [← hres]; rfl, rfl, ⟨hh10, ?_⟩, ((((hU5.t3 (ext_s3 hE6)).t3 (upd_g u67)).t3 (upd_g u78)).t3 (upd_h u89)).t3 (upd_h u910)⟩
        have := LMem.stored (m := hM5.ext hE6) hj hfk hfd hG8 q8 (u67.trans u78) hG10 (u89.trans u910)
        simp only [cellOut, hjt]
        exact this
      refine ki fun ad5 ha5 => ⟨fun w6 hE6 => kz (hU5.t3 (ext_s3 hE6)) ha5 fun A1 l1 c1 q1 => ?_, fun w6 hE6 => ?_⟩
      all_goals
        have hM6 := hM5.ext hE6
        obtain ⟨fk, hGk, hfk⟩ := hM6.hk
        obtain ⟨fd, hGd, hfd⟩ := hM6.ht
        have hgh := hM6.gh
        have hs6 := hE6.size
        refine ⟨_, hGk.entry mapK (j : Int), ?_⟩
        rintro _ w7 ⟨u, st7, rfl, hE7, u67, z7⟩
        refine ⟨u, _, rfl, _, u67, awG, ?_⟩
      · refine ⟨_, hE7.store (ndA x0 A1 l1 c1), ?_⟩
        rintro w8 ⟨hG8, u78, z8⟩
        refine ⟨_, u78, awG, _, ((hGd.upd u67 (fun e => hgh e.symm)).upd u78 (fun e => hgh e.symm)).entry mapD (j : Int), ?_⟩
        rintro _ w9 ⟨u9, st9, rfl, hE9, u89, z9⟩
        refine ⟨u9, _, rfl, _, u89, awH, _, hE9.store (.int .i64 a), ?_⟩
        rintro w10 ⟨hG10, u910, z10⟩
        have hF : ∀ y, Fw b g h y → ¬ (y = g) := fun y hy e => hy (.inr (.inl e))
        exact ⟨_, u910, awH, fun hh10 => fin hE6 hfk hfd u67 hG8 ((q1.upd u67 hF).upd u78 hF) u78 u89 hG10 u910 hh10⟩
      · refine kz ((hU5.t3 (ext_s3 hE6)).t3 (upd_g u67)) ha5 fun A1 l1 c1 q1 => ⟨_, hE7.store (ndA x0 A1 l1 c1), ?_⟩
        rintro w8 ⟨hG8, u78, z8⟩
        refine ⟨_, u78, awG, _, ((hGd.upd u67 (fun e => hgh e.symm)).upd u78 (fun e => hgh e.symm)).entry mapD (j : Int), ?_⟩
        rintro _ w9 ⟨u9, st9, rfl, hE9, u89, z9⟩
        refine ⟨u9, _, rfl, _, u89, awH, _, hE9.store (.int .i64 a), ?_⟩
        rintro w10 ⟨hG10, u910, z10⟩
        have hF : ∀ y, Fw b g h y → ¬ (y = g) := fun y hy e => hy (.inr (.inl e))
        exact ⟨_, u910, awH, fun hh10 => fin hE6 hfk hfd u67 hG8 (q1.upd u78 hF) u78 u89 hG10 u910 hh10⟩
end
section
open Go Go.Vx Go.Proofs
variable {b g h : Nat} {zs : List Int} {C : Option Addr} {cc : Nat}
theorem plain127_c {kf : Int → Int → WS → Nd → Option (Int × WS)} {k v : Int} {s : ByteArray} {kids : List Nd} (hk : ∀ j (_ : j < kids.length), KL b g h zs C cc kf kids[j])
    {w : World} {A : Option Addr} {l c : Nat} (kn of gives a q : Int) (st : WS) (hw : Lst w b g h zs C cc st) (hr : NdsR w (Fw b g h) kids A l c) :
    CallsX E.P 111 #[.agg #[.int .i64 kn, .int .i64 of, .int .i64 gives, .func (.func 127) #[] #[]], .pointer (some ⟨b, 0, none⟩), ndA (.mk k v s kids) A l c, .int .i64 a, .int .i64 q] w
      (LR b g h zs C cc w (plainL (kf a q) kn of gives (testB 127 v a) st s kids)) (LX b g h w (plainL (kf a q) kn of gives (testB 127 v a) st s kids)) := by
  obtain ⟨hb, hg, hh⟩ := hw.lt
  have hl := hr.lt
  have hlen := hr.len
  dsimp only [ndA, Nd.k, Nd.n, Nd.s, Nd.kids]
  refine vc111_127 hw.1 ?_
  intro id hid id1 hid1
  have hi1 : ∀ i ∈ [id, id1], w.heap.size ≤ i := by simp; omega
  have aw : Away [id, id1] (S3 b g h) := away_s3 hb hg hh hi1
  have hz : ((l : Int) == kn) = ((kids.length : Int) == kn) := by rw [hlen]
  generalize hres : plainL (kf a q) kn of gives (testB 127 v a) st s kids = res
  rw [plainL, ← hz] at hres
  refine ⟨fun a1 n1 c1 r1 r2 x w2 => (C = a1 ∧ n1 = zs.length ∧ cc = c1 ∧ r1 = some g ∧ r2 = some h ∧ x = st.parts) ∧ ((l : Int) == kn && strEq s (ByteArray.mk #[]) && testB 127 v a) = true ∧ LMem w2 b g h zs C cc st.ks st.ts ∧ Upd w w2 (S3 b g h), ⟨fun e1 => ⟨fun e2 w1 hE1 _ _ => ?_, fun e2 w1 hE1 _ _ hh1 => ?_⟩, fun e1 w1 hE1 _ _ hh1 => ?_⟩, ?_⟩
  · refine callB (test_c 127 (by decide) v a) fun w2 hE2 hh2 => ?_
    have hE02 : Ext w w2 := Ext.trans hE1 hE2
    refine callM (st := st) (t := testB 127 v a) ⟨hh2, hw.2.ext hE02⟩ (ext_s3 hE02) aw (fun e => by rw [← hres, e1, e2, e]; rfl) fun w3 ht hM3 hU3 => ⟨⟨rfl, rfl, rfl, rfl, rfl, rfl⟩, by rw [e1, e2, ht]; rfl, hM3, (ext_s3 hE02).t3 hU3⟩
  · exact callM (st := st) (t := false) ⟨hh1, hw.2.ext hE1⟩ (ext_s3 hE1) aw (fun e => by rw [← hres, e1, e2]; rfl) fun w2 ht _ _ => by cases ht
  · exact callM (st := st) (t := false) ⟨hh1, hw.2.ext hE1⟩ (ext_s3 hE1) aw (fun e => by rw [← hres, e1]; rfl) fun w2 ht _ _ => by cases ht
  rintro _ _ _ _ _ _ _ w2 ⟨⟨rfl, rfl, rfl, rfl, rfl, rfl⟩, hc, hM2, hU2⟩
  rw [if_pos hc] at hres
  exact loopK (s0 := st) [id, id1] hk hr hl ⟨hb, hg, hh⟩ hi1 hU2 hM2 (fun e => by rw [← hres, e]; rfl) fun s1 w5 he hM5 hU5 hh5 => ⟨(gives, s1), by rw [← hres, he]; rfl, rfl, ⟨hh5, hM5⟩, hU5⟩
theorem plain128_c {kf : Int → Int → WS → Nd → Option (Int × WS)} {k v : Int} {s : ByteArray} {kids : List Nd} (hk : ∀ j (_ : j < kids.length), KL b g h zs C cc kf kids[j])
    {w : World} {A : Option Addr} {l c : Nat} (kn of gives a q : Int) (st : WS) (hw : Lst w b g h zs C cc st) (hr : NdsR w (Fw b g h) kids A l c) :
    CallsX E.P 111 #[.agg #[.int .i64 kn, .int .i64 of, .int .i64 gives, .func (.func 128) #[] #[]], .pointer (some ⟨b, 0, none⟩), ndA (.mk k v s kids) A l c, .int .i64 a, .int .i64 q] w
      (LR b g h zs C cc w (plainL (kf a q) kn of gives (testB 128 v a) st s kids)) (LX b g h w (plainL (kf a q) kn of gives (testB 128 v a) st s kids)) := by
  obtain ⟨hb, hg, hh⟩ := hw.lt
  have hl := hr.lt
  have hlen := hr.len
  dsimp only [ndA, Nd.k, Nd.n, Nd.s, Nd.kids]
  refine vc111_128 hw.1 ?_
  intro id hid id1 hid1
  have hi1 : ∀ i ∈ [id, id1], w.heap.size ≤ i := by simp; omega
  have aw : Away [id, id1] (S3 b g h) := away_s3 hb hg hh hi1
  have hz : ((l : Int) == kn) = ((kids.length : Int) == kn) := by rw [hlen]
  generalize hres : plainL (kf a q) kn of gives (testB 128 v a) st s kids = res
  rw [plainL, ← hz] at hres
  refine ⟨fun a1 n1 c1 r1 r2 x w2 => (C = a1 ∧ n1 = zs.length ∧ cc = c1 ∧ r1 = some g ∧ r2 = some h ∧ x = st.parts) ∧ ((l : Int) == kn && strEq s (ByteArray.mk #[]) && testB 128 v a) = true ∧ LMem w2 b g h zs C cc st.ks st.ts ∧ Upd w w2 (S3 b g h), ⟨fun e1 => ⟨fun e2 w1 hE1 _ _ => ?_, fun e2 w1 hE1 _ _ hh1 => ?_⟩, fun e1 w1 hE1 _ _ hh1 => ?_⟩, ?_⟩
  · refine callB (test_c 128 (by decide) v a) fun w2 hE2 hh2 => ?_
    have hE02 : Ext w w2 := Ext.trans hE1 hE2
    refine callM (st := st) (t := testB 128 v a) ⟨hh2, hw.2.ext hE02⟩ (ext_s3 hE02) aw (fun e => by rw [← hres, e1, e2, e]; rfl) fun w3 ht hM3 hU3 => ⟨⟨rfl, rfl, rfl, rfl, rfl, rfl⟩, by rw [e1, e2, ht]; rfl, hM3, (ext_s3 hE02).t3 hU3⟩
  · exact callM (st := st) (t := false) ⟨hh1, hw.2.ext hE1⟩ (ext_s3 hE1) aw (fun e => by rw [← hres, e1, e2]; rfl) fun w2 ht _ _ => by cases ht
  · exact callM (st := st) (t := false) ⟨hh1, hw.2.ext hE1⟩ (ext_s3 hE1) aw (fun e => by rw [← hres, e1]; rfl) fun w2 ht _ _ => by cases ht
  rintro _ _ _ _ _ _ _ w2 ⟨⟨rfl, rfl, rfl, rfl, rfl, rfl⟩, hc, hM2, hU2⟩
  rw [if_pos hc] at hres
  exact loopK (s0 := st) [id, id1] hk hr hl ⟨hb, hg, hh⟩ hi1 hU2 hM2 (fun e => by rw [← hres, e]; rfl) fun s1 w5 he hM5 hU5 hh5 => ⟨(gives, s1), by rw [← hres, he]; rfl, rfl, ⟨hh5, hM5⟩, hU5⟩
theorem plain129_c {kf : Int → Int → WS → Nd → Option (Int × WS)} {k v : Int} {s : ByteArray} {kids : List Nd} (hk : ∀ j (_ : j < kids.length), KL b g h zs C cc kf kids[j])
    {w : World} {A : Option Addr} {l c : Nat} (kn of gives a q : Int) (st : WS) (hw : Lst w b g h zs C cc st) (hr : NdsR w (Fw b g h) kids A l c) :
    CallsX E.P 111 #[.agg #[.int .i64 kn, .int .i64 of, .int .i64 gives, .func (.func 129) #[] #[]], .pointer (some ⟨b, 0, none⟩), ndA (.mk k v s kids) A l c, .int .i64 a, .int .i64 q] w
      (LR b g h zs C cc w (plainL (kf a q) kn of gives (testB 129 v a) st s kids)) (LX b g h w (plainL (kf a q) kn of gives (testB 129 v a) st s kids)) := by
  obtain ⟨hb, hg, hh⟩ := hw.lt
  have hl := hr.lt
  have hlen := hr.len
  dsimp only [ndA, Nd.k, Nd.n, Nd.s, Nd.kids]
  refine vc111_129 hw.1 ?_
  intro id hid id1 hid1
  have hi1 : ∀ i ∈ [id, id1], w.heap.size ≤ i := by simp; omega
  have aw : Away [id, id1] (S3 b g h) := away_s3 hb hg hh hi1
  have hz : ((l : Int) == kn) = ((kids.length : Int) == kn) := by rw [hlen]
  generalize hres : plainL (kf a q) kn of gives (testB 129 v a) st s kids = res
  rw [plainL, ← hz] at hres
  refine ⟨fun a1 n1 c1 r1 r2 x w2 => (C = a1 ∧ n1 = zs.length ∧ cc = c1 ∧ r1 = some g ∧ r2 = some h ∧ x = st.parts) ∧ ((l : Int) == kn && strEq s (ByteArray.mk #[]) && testB 129 v a) = true ∧ LMem w2 b g h zs C cc st.ks st.ts ∧ Upd w w2 (S3 b g h), ⟨fun e1 => ⟨fun e2 w1 hE1 _ _ => ?_, fun e2 w1 hE1 _ _ hh1 => ?_⟩, fun e1 w1 hE1 _ _ hh1 => ?_⟩, ?_⟩
  · refine callB (test_c 129 (by decide) v a) fun w2 hE2 hh2 => ?_
    have hE02 : Ext w w2 := Ext.trans hE1 hE2
    refine callM (st := st) (t := testB 129 v a) ⟨hh2, hw.2.ext hE02⟩ (ext_s3 hE02) aw (fun e => by rw [← hres, e1, e2, e]; rfl) fun w3 ht hM3 hU3 => ⟨⟨rfl, rfl, rfl, rfl, rfl, rfl⟩, by rw [e1, e2, ht]; rfl, hM3, (ext_s3 hE02).t3 hU3⟩
  · exact callM (st := st) (t := false) ⟨hh1, hw.2.ext hE1⟩ (ext_s3 hE1) aw (fun e => by rw [← hres, e1, e2]; rfl) fun w2 ht _ _ => by cases ht
  · exact callM (st := st) (t := false) ⟨hh1, hw.2.ext hE1⟩ (ext_s3 hE1) aw (fun e => by rw [← hres, e1]; rfl) fun w2 ht _ _ => by cases ht
  rintro _ _ _ _ _ _ _ w2 ⟨⟨rfl, rfl, rfl, rfl, rfl, rfl⟩, hc, hM2, hU2⟩
  rw [if_pos hc] at hres
  exact loopK (s0 := st) [id, id1] hk hr hl ⟨hb, hg, hh⟩ hi1 hU2 hM2 (fun e => by rw [← hres, e]; rfl) fun s1 w5 he hM5 hU5 hh5 => ⟨(gives, s1), by rw [← hres, he]; rfl, rfl, ⟨hh5, hM5⟩, hU5⟩
theorem plain130_c {kf : Int → Int → WS → Nd → Option (Int × WS)} {k v : Int} {s : ByteArray} {kids : List Nd} (hk : ∀ j (_ : j < kids.length), KL b g h zs C cc kf kids[j])
    {w : World} {A : Option Addr} {l c : Nat} (kn of gives a q : Int) (st : WS) (hw : Lst w b g h zs C cc st) (hr : NdsR w (Fw b g h) kids A l c) {ab : Nat} (hab : w.heap[ab]? = some (.cells #[.int .i64 a] 3 (0, 0))) :
    CallsX E.P 111 #[.agg #[.int .i64 kn, .int .i64 of, .int .i64 gives, .func (.func 130) #[] #[.pointer (some ⟨ab, 0, none⟩)]], .pointer (some ⟨b, 0, none⟩), ndA (.mk k v s kids) A l c, .int .i64 a, .int .i64 q] w
      (LR b g h zs C cc w (plainL (kf a q) kn of gives (testB 130 v a) st s kids)) (LX b g h w (plainL (kf a q) kn of gives (testB 130 v a) st s kids)) := by
  obtain ⟨hb, hg, hh⟩ := hw.lt
  have hl := hr.lt
  have hlen := hr.len
  dsimp only [ndA, Nd.k, Nd.n, Nd.s, Nd.kids]
  refine vc111_130 hw.1 ?_
  intro id hid id1 hid1
  have hi1 : ∀ i ∈ [id, id1], w.heap.size ≤ i := by simp; omega
  have aw : Away [id, id1] (S3 b g h) := away_s3 hb hg hh hi1
  have hz : ((l : Int) == kn) = ((kids.length : Int) == kn) := by rw [hlen]
  generalize hres : plainL (kf a q) kn of gives (testB 130 v a) st s kids = res
  rw [plainL, ← hz] at hres
  refine ⟨fun a1 n1 c1 r1 r2 x w2 => (C = a1 ∧ n1 = zs.length ∧ cc = c1 ∧ r1 = some g ∧ r2 = some h ∧ x = st.parts) ∧ ((l : Int) == kn && strEq s (ByteArray.mk #[]) && testB 130 v a) = true ∧ LMem w2 b g h zs C cc st.ks st.ts ∧ Upd w w2 (S3 b g h), ⟨fun e1 => ⟨fun e2 w1 hE1 _ _ => ?_, fun e2 w1 hE1 _ _ hh1 => ?_⟩, fun e1 w1 hE1 _ _ hh1 => ?_⟩, ?_⟩
  · refine callB (around_c v a (by rw [Upd.keep hE1 ab (lt_of_get hab) (fun h => h)]; exact hab)) fun w2 hE2 hh2 => ?_
    have hE02 : Ext w w2 := Ext.trans hE1 hE2
    refine callM (st := st) (t := testB 130 v a) ⟨hh2, hw.2.ext hE02⟩ (ext_s3 hE02) aw (fun e => by rw [← hres, e1, e2, e]; rfl) fun w3 ht hM3 hU3 => ⟨⟨rfl, rfl, rfl, rfl, rfl, rfl⟩, by rw [e1, e2, ht]; rfl, hM3, (ext_s3 hE02).t3 hU3⟩
  · exact callM (st := st) (t := false) ⟨hh1, hw.2.ext hE1⟩ (ext_s3 hE1) aw (fun e => by rw [← hres, e1, e2]; rfl) fun w2 ht _ _ => by cases ht
  · exact callM (st := st) (t := false) ⟨hh1, hw.2.ext hE1⟩ (ext_s3 hE1) aw (fun e => by rw [← hres, e1]; rfl) fun w2 ht _ _ => by cases ht
  rintro _ _ _ _ _ _ _ w2 ⟨⟨rfl, rfl, rfl, rfl, rfl, rfl⟩, hc, hM2, hU2⟩
  rw [if_pos hc] at hres
  exact loopK (s0 := st) [id, id1] hk hr hl ⟨hb, hg, hh⟩ hi1 hU2 hM2 (fun e => by rw [← hres, e]; rfl) fun s1 w5 he hM5 hU5 hh5 => ⟨(gives, s1), by rw [← hres, he]; rfl, rfl, ⟨hh5, hM5⟩, hU5⟩
theorem plain131_c {kf : Int → Int → WS → Nd → Option (Int × WS)} {k v : Int} {s : ByteArray} {kids : List Nd} (hk : ∀ j (_ : j < kids.length), KL b g h zs C cc kf kids[j])
    {w : World} {A : Option Addr} {l c : Nat} (kn of gives a q : Int) (st : WS) (hw : Lst w b g h zs C cc st) (hr : NdsR w (Fw b g h) kids A l c) :
    CallsX E.P 111 #[.agg #[.int .i64 kn, .int .i64 of, .int .i64 gives, .func (.func 131) #[] #[]], .pointer (some ⟨b, 0, none⟩), ndA (.mk k v s kids) A l c, .int .i64 a, .int .i64 q] w
      (LR b g h zs C cc w (plainL (kf a q) kn of gives (testB 131 v a) st s kids)) (LX b g h w (plainL (kf a q) kn of gives (testB 131 v a) st s kids)) := by
  obtain ⟨hb, hg, hh⟩ := hw.lt
  have hl := hr.lt
  have hlen := hr.len
  dsimp only [ndA, Nd.k, Nd.n, Nd.s, Nd.kids]
  refine vc111_131 hw.1 ?_
  intro id hid id1 hid1
  have hi1 : ∀ i ∈ [id, id1], w.heap.size ≤ i := by simp; omega
  have aw : Away [id, id1] (S3 b g h) := away_s3 hb hg hh hi1
  have hz : ((l : Int) == kn) = ((kids.length : Int) == kn) := by rw [hlen]
  generalize hres : plainL (kf a q) kn of gives (testB 131 v a) st s kids = res
  rw [plainL, ← hz] at hres
  refine ⟨fun a1 n1 c1 r1 r2 x w2 => (C = a1 ∧ n1 = zs.length ∧ cc = c1 ∧ r1 = some g ∧ r2 = some h ∧ x = st.parts) ∧ ((l : Int) == kn && strEq s (ByteArray.mk #[]) && testB 131 v a) = true ∧ LMem w2 b g h zs C cc st.ks st.ts ∧ Upd w w2 (S3 b g h), ⟨fun e1 => ⟨fun e2 w1 hE1 _ _ => ?_, fun e2 w1 hE1 _ _ hh1 => ?_⟩, fun e1 w1 hE1 _ _ hh1 => ?_⟩, ?_⟩
  · refine callB (test_c 131 (by decide) v a) fun w2 hE2 hh2 => ?_
    have hE02 : Ext w w2 := Ext.trans hE1 hE2
    refine callM (st := st) (t := testB 131 v a) ⟨hh2, hw.2.ext hE02⟩ (ext_s3 hE02) aw (fun e => by rw [← hres, e1, e2, e]; rfl) fun w3 ht hM3 hU3 => ⟨⟨rfl, rfl, rfl, rfl, rfl, rfl⟩, by rw [e1, e2, ht]; rfl, hM3, (ext_s3 hE02).t3 hU3⟩
  · exact callM (st := st) (t := false) ⟨hh1, hw.2.ext hE1⟩ (ext_s3 hE1) aw (fun e => by rw [← hres, e1, e2]; rfl) fun w2 ht _ _ => by cases ht
  · exact callM (st := st) (t := false) ⟨hh1, hw.2.ext hE1⟩ (ext_s3 hE1) aw (fun e => by rw [← hres, e1]; rfl) fun w2 ht _ _ => by cases ht
  rintro _ _ _ _ _ _ _ w2 ⟨⟨rfl, rfl, rfl, rfl, rfl, rfl⟩, hc, hM2, hU2⟩
  rw [if_pos hc] at hres
  exact loopK (s0 := st) [id, id1] hk hr hl ⟨hb, hg, hh⟩ hi1 hU2 hM2 (fun e => by rw [← hres, e]; rfl) fun s1 w5 he hM5 hU5 hh5 => ⟨(gives, s1), by rw [← hres, he]; rfl, rfl, ⟨hh5, hM5⟩, hU5⟩
theorem plain134_c {kf : Int → Int → WS → Nd → Option (Int × WS)} {k v : Int} {s : ByteArray} {kids : List Nd} (hk : ∀ j (_ : j < kids.length), KL b g h zs C cc kf kids[j])
    {w : World} {A : Option Addr} {l c : Nat} (kn of gives a q : Int) (st : WS) (hw : Lst w b g h zs C cc st) (hr : NdsR w (Fw b g h) kids A l c) :
    CallsX E.P 111 #[.agg #[.int .i64 kn, .int .i64 of, .int .i64 gives, .func (.func 134) #[] #[]], .pointer (some ⟨b, 0, none⟩), ndA (.mk k v s kids) A l c, .int .i64 a, .int .i64 q] w
      (LR b g h zs C cc w (plainL (kf a q) kn of gives (testB 134 v a) st s kids)) (LX b g h w (plainL (kf a q) kn of gives (testB 134 v a) st s kids)) := by
  obtain ⟨hb, hg, hh⟩ := hw.lt
  have hl := hr.lt
  have hlen := hr.len
  dsimp only [ndA, Nd.k, Nd.n, Nd.s, Nd.kids]
  refine vc111_134 hw.1 ?_
  intro id hid id1 hid1
  have hi1 : ∀ i ∈ [id, id1], w.heap.size ≤ i := by simp; omega
  have aw : Away [id, id1] (S3 b g h) := away_s3 hb hg hh hi1
  have hz : ((l : Int) == kn) = ((kids.length : Int) == kn) := by rw [hlen]
  generalize hres : plainL (kf a q) kn of gives (testB 134 v a) st s kids = res
  rw [plainL, ← hz] at hres
  refine ⟨fun a1 n1 c1 r1 r2 x w2 => (C = a1 ∧ n1 = zs.length ∧ cc = c1 ∧ r1 = some g ∧ r2 = some h ∧ x = st.parts) ∧ ((l : Int) == kn && strEq s (ByteArray.mk #[]) && testB 134 v a) = true ∧ LMem w2 b g h zs C cc st.ks st.ts ∧ Upd w w2 (S3 b g h), ⟨fun e1 => ⟨fun e2 w1 hE1 _ _ => ?_, fun e2 w1 hE1 _ _ hh1 => ?_⟩, fun e1 w1 hE1 _ _ hh1 => ?_⟩, ?_⟩
  · refine callB (test_c 134 (by decide) v a) fun w2 hE2 hh2 => ?_
    have hE02 : Ext w w2 := Ext.trans hE1 hE2
    refine callM (st := st) (t := testB 134 v a) ⟨hh2, hw.2.ext hE02⟩ (ext_s3 hE02) aw (fun e => by rw [← hres, e1, e2, e]; rfl) fun w3 ht hM3 hU3 => ⟨⟨rfl, rfl, rfl, rfl, rfl, rfl⟩, by rw [e1, e2, ht]; rfl, hM3, (ext_s3 hE02).t3 hU3⟩
  · exact callM (st := st) (t := false) ⟨hh1, hw.2.ext hE1⟩ (ext_s3 hE1) aw (fun e => by rw [← hres, e1, e2]; rfl) fun w2 ht _ _ => by cases ht
  · exact callM (st := st) (t := false) ⟨hh1, hw.2.ext hE1⟩ (ext_s3 hE1) aw (fun e => by rw [← hres, e1]; rfl) fun w2 ht _ _ => by cases ht
  rintro _ _ _ _ _ _ _ w2 ⟨⟨rfl, rfl, rfl, rfl, rfl, rfl⟩, hc, hM2, hU2⟩
  rw [if_pos hc] at hres
  exact loopK (s0 := st) [id, id1] hk hr hl ⟨hb, hg, hh⟩ hi1 hU2 hM2 (fun e => by rw [← hres, e]; rfl) fun s1 w5 he hM5 hU5 hh5 => ⟨(gives, s1), by rw [← hres, he]; rfl, rfl, ⟨hh5, hM5⟩, hU5⟩
theorem other132_c {k v : Int} {s : ByteArray} {kids : List Nd} {r : Option (Int × WS)} {w : World} {A : Option Addr} {l c : Nat} (kn a q : Int) (st : WS) (hw : Lst w b g h zs C cc st) (hr : NdsR w (Fw b g h) kids A l c)
    (hin : ((kids.length : Int) == kn) = true → ∀ w2, Lst w2 b g h zs C cc st → NdsR w2 (Fw b g h) kids A l c →
      CallsX E.P 132 #[.pointer (some ⟨b, 0, none⟩), ndA (.mk k v s kids) A l c, .int .i64 a, .int .i64 q] w2 (LR b g h zs C cc w2 r) (LX b g h w2 r)) :
    CallsX E.P 112 #[.agg #[.int .i64 kn, .func (.func 132) #[] #[]], .pointer (some ⟨b, 0, none⟩), ndA (.mk k v s kids) A l c, .int .i64 a, .int .i64 q] w
      (LR b g h zs C cc w (if (kids.length : Int) == kn && strEq s (ByteArray.mk #[]) then r else none)) (LX b g h w (if (kids.length : Int) == kn && strEq s (ByteArray.mk #[]) then r else none)) := by
  obtain ⟨hb, hg, hh⟩ := hw.lt
  have hlen := hr.len
  dsimp only [ndA, Nd.k, Nd.n, Nd.s, Nd.kids] at *
  refine vc112_132 hw.1 ?_
  intro id hid id1 hid1
  have aw : Away [id, id1] (S3 b g h) := away_s3 hb hg hh (by simp; omega)
  have hz : ((l : Int) == kn) = ((kids.length : Int) == kn) := by rw [hlen]
  generalize hres : (if (kids.length : Int) == kn && strEq s (ByteArray.mk #[]) then r else none) = res
  rw [← hz] at hres
  refine ⟨fun a1 n1 c1 r1 r2 x w2 => (C = a1 ∧ n1 = zs.length ∧ cc = c1 ∧ r1 = some g ∧ r2 = some h ∧ x = st.parts) ∧ ((l : Int) == kn && strEq s (ByteArray.mk #[])) = true ∧ LMem w2 b g h zs C cc st.ks st.ts ∧ Upd w w2 (S3 b g h), ⟨fun e1 w1 hE1 _ _ hh1 => ?_, fun e1 w1 hE1 _ _ hh1 => ?_⟩, ?_⟩
  · refine callM (st := st) (t := strEq s (ByteArray.mk #[])) ⟨hh1, hw.2.ext hE1⟩ (ext_s3 hE1) aw (fun e => by rw [← hres, e1, e]; rfl) fun w3 ht hM3 hU3 => ⟨⟨rfl, rfl, rfl, rfl, rfl, rfl⟩, by rw [e1, ht]; rfl, hM3, (ext_s3 hE1).t3 hU3⟩
  · exact callM (st := st) (t := false) ⟨hh1, hw.2.ext hE1⟩ (ext_s3 hE1) aw (fun e => by rw [← hres, e1]; rfl) fun w2 ht _ _ => by cases ht
  rintro _ _ _ _ _ _ _ w2 ⟨⟨rfl, rfl, rfl, rfl, rfl, rfl⟩, hc, hM2, hU2⟩ hh2
  rw [if_pos hc] at hres
  subst hres
  simp only [Bool.and_eq_true] at hc
  exact callL (hin (by rw [← hz]; exact hc.1) w2 ⟨hh2, hM2⟩ (hr.s3 hU2)) hU2 aw (fun e => e) fun y s1 w4 he hw4 hU4 hh4 => ⟨(y, s1), he, rfl, ⟨hh4, hw4.2⟩, hU2.t3 hU4⟩
theorem other133_c {k v : Int} {s : ByteArray} {kids : List Nd} {r : Option (Int × WS)} {w : World} {A : Option Addr} {l c : Nat} (kn a q : Int) (st : WS) (hw : Lst w b g h zs C cc st) (hr : NdsR w (Fw b g h) kids A l c)
    (hin : ((kids.length : Int) == kn) = true → ∀ w2, Lst w2 b g h zs C cc st → NdsR w2 (Fw b g h) kids A l c →
      CallsX E.P 133 #[.pointer (some ⟨b, 0, none⟩), ndA (.mk k v s kids) A l c, .int .i64 a, .int .i64 q] w2 (LR b g h zs C cc w2 r) (LX b g h w2 r)) :
    CallsX E.P 112 #[.agg #[.int .i64 kn, .func (.func 133) #[] #[]], .pointer (some ⟨b, 0, none⟩), ndA (.mk k v s kids) A l c, .int .i64 a, .int .i64 q] w
      (LR b g h zs C cc w (if (kids.length : Int) == kn && strEq s (ByteArray.mk #[]) then r else none)) (LX b g h w (if (kids.length : Int) == kn && strEq s (ByteArray.mk #[]) then r else none)) := by
  obtain ⟨hb, hg, hh⟩ := hw.lt
  have hlen := hr.len
  dsimp only [ndA, Nd.k, Nd.n, Nd.s, Nd.kids] at *
  refine vc112_133 hw.1 ?_
  intro id hid id1 hid1
  have aw : Away [id, id1] (S3 b g h) := away_s3 hb hg hh (by simp; omega)
  have hz : ((l : Int) == kn) = ((kids.length : Int) == kn) := by rw [hlen]
  generalize hres : (if (kids.length : Int) == kn && strEq s (ByteArray.mk #[]) then r else none) = res
  rw [← hz] at hres
  refine ⟨fun a1 n1 c1 r1 r2 x w2 => (C = a1 ∧ n1 = zs.length ∧ cc = c1 ∧ r1 = some g ∧ r2 = some h ∧ x = st.parts) ∧ ((l : Int) == kn && strEq s (ByteArray.mk #[])) = true ∧ LMem w2 b g h zs C cc st.ks st.ts ∧ Upd w w2 (S3 b g h), ⟨fun e1 w1 hE1 _ _ hh1 => ?_, fun e1 w1 hE1 _ _ hh1 => ?_⟩, ?_⟩
  · refine callM (st := st) (t := strEq s (ByteArray.mk #[])) ⟨hh1, hw.2.ext hE1⟩ (ext_s3 hE1) aw (fun e => by rw [← hres, e1, e]; rfl) fun w3 ht hM3 hU3 => ⟨⟨rfl, rfl, rfl, rfl, rfl, rfl⟩, by rw [e1, ht]; rfl, hM3, (ext_s3 hE1).t3 hU3⟩
  · exact callM (st := st) (t := false) ⟨hh1, hw.2.ext hE1⟩ (ext_s3 hE1) aw (fun e => by rw [← hres, e1]; rfl) fun w2 ht _ _ => by cases ht
  rintro _ _ _ _ _ _ _ w2 ⟨⟨rfl, rfl, rfl, rfl, rfl, rfl⟩, hc, hM2, hU2⟩ hh2
  rw [if_pos hc] at hres
  subst hres
  simp only [Bool.and_eq_true] at hc
  exact callL (hin (by rw [← hz]; exact hc.1) w2 ⟨hh2, hM2⟩ (hr.s3 hU2)) hU2 aw (fun e => e) fun y s1 w4 he hw4 hU4 hh4 => ⟨(y, s1), he, rfl, ⟨hh4, hw4.2⟩, hU2.t3 hU4⟩
theorem other135_c {k v : Int} {s : ByteArray} {kids : List Nd} {r : Option (Int × WS)} {w : World} {A : Option Addr} {l c : Nat} (kn a q : Int) (st : WS) (hw : Lst w b g h zs C cc st) (hr : NdsR w (Fw b g h) kids A l c)
    (hin : ((kids.length : Int) == kn) = true → ∀ w2, Lst w2 b g h zs C cc st → NdsR w2 (Fw b g h) kids A l c →
      CallsX E.P 135 #[.pointer (some ⟨b, 0, none⟩), ndA (.mk k v s kids) A l c, .int .i64 a, .int .i64 q] w2 (LR b g h zs C cc w2 r) (LX b g h w2 r)) :
    CallsX E.P 112 #[.agg #[.int .i64 kn, .func (.func 135) #[] #[]], .pointer (some ⟨b, 0, none⟩), ndA (.mk k v s kids) A l c, .int .i64 a, .int .i64 q] w
      (LR b g h zs C cc w (if (kids.length : Int) == kn && strEq s (ByteArray.mk #[]) then r else none)) (LX b g h w (if (kids.length : Int) == kn && strEq s (ByteArray.mk #[]) then r else none)) := by
  obtain ⟨hb, hg, hh⟩ := hw.lt
  have hlen := hr.len
  dsimp only [ndA, Nd.k, Nd.n, Nd.s, Nd.kids] at *
  refine vc112_135 hw.1 ?_
  intro id hid id1 hid1
  have aw : Away [id, id1] (S3 b g h) := away_s3 hb hg hh (by simp; omega)
  have hz : ((l : Int) == kn) = ((kids.length : Int) == kn) := by rw [hlen]
  generalize hres : (if (kids.length : Int) == kn && strEq s (ByteArray.mk #[]) then r else none) = res
  rw [← hz] at hres
  refine ⟨fun a1 n1 c1 r1 r2 x w2 => (C = a1 ∧ n1 = zs.length ∧ cc = c1 ∧ r1 = some g ∧ r2 = some h ∧ x = st.parts) ∧ ((l : Int) == kn && strEq s (ByteArray.mk #[])) = true ∧ LMem w2 b g h zs C cc st.ks st.ts ∧ Upd w w2 (S3 b g h), ⟨fun e1 w1 hE1 _ _ hh1 => ?_, fun e1 w1 hE1 _ _ hh1 => ?_⟩, ?_⟩
  · refine callM (st := st) (t := strEq s (ByteArray.mk #[])) ⟨hh1, hw.2.ext hE1⟩ (ext_s3 hE1) aw (fun e => by rw [← hres, e1, e]; rfl) fun w3 ht hM3 hU3 => ⟨⟨rfl, rfl, rfl, rfl, rfl, rfl⟩, by rw [e1, ht]; rfl, hM3, (ext_s3 hE1).t3 hU3⟩
  · exact callM (st := st) (t := false) ⟨hh1, hw.2.ext hE1⟩ (ext_s3 hE1) aw (fun e => by rw [← hres, e1]; rfl) fun w2 ht _ _ => by cases ht
  rintro _ _ _ _ _ _ _ w2 ⟨⟨rfl, rfl, rfl, rfl, rfl, rfl⟩, hc, hM2, hU2⟩ hh2
  rw [if_pos hc] at hres
  subst hres
  simp only [Bool.and_eq_true] at hc
  exact callL (hin (by rw [← hz]; exact hc.1) w2 ⟨hh2, hM2⟩ (hr.s3 hU2)) hU2 aw (fun e => e) fun y s1 w4 he hw4 hU4 hh4 => ⟨(y, s1), he, rfl, ⟨hh4, hw4.2⟩, hU2.t3 hU4⟩
theorem other136_c {k v : Int} {s : ByteArray} {kids : List Nd} {r : Option (Int × WS)} {w : World} {A : Option Addr} {l c : Nat} (kn a q : Int) (st : WS) (hw : Lst w b g h zs C cc st) (hr : NdsR w (Fw b g h) kids A l c)
    (hin : ((kids.length : Int) == kn) = true → ∀ w2, Lst w2 b g h zs C cc st → NdsR w2 (Fw b g h) kids A l c →
      CallsX E.P 136 #[.pointer (some ⟨b, 0, none⟩), ndA (.mk k v s kids) A l c, .int .i64 a, .int .i64 q] w2 (LR b g h zs C cc w2 r) (LX b g h w2 r)) :
    CallsX E.P 112 #[.agg #[.int .i64 kn, .func (.func 136) #[] #[]], .pointer (some ⟨b, 0, none⟩), ndA (.mk k v s kids) A l c, .int .i64 a, .int .i64 q] w
      (LR b g h zs C cc w (if (kids.length : Int) == kn && strEq s (ByteArray.mk #[]) then r else none)) (LX b g h w (if (kids.length : Int) == kn && strEq s (ByteArray.mk #[]) then r else none)) := by
  obtain ⟨hb, hg, hh⟩ := hw.lt
  have hlen := hr.len
  dsimp only [ndA, Nd.k, Nd.n, Nd.s, Nd.kids] at *
  refine vc112_136 hw.1 ?_
  intro id hid id1 hid1
  have aw : Away [id, id1] (S3 b g h) := away_s3 hb hg hh (by simp; omega)
  have hz : ((l : Int) == kn) = ((kids.length : Int) == kn) := by rw [hlen]
  generalize hres : (if (kids.length : Int) == kn && strEq s (ByteArray.mk #[]) then r else none) = res
  rw [← hz] at hres
  refine ⟨fun a1 n1 c1 r1 r2 x w2 => (C = a1 ∧ n1 = zs.length ∧ cc = c1 ∧ r1 = some g ∧ r2 = some h ∧ x = st.parts) ∧ ((l : Int) == kn && strEq s (ByteArray.mk #[])) = true ∧ LMem w2 b g h zs C cc st.ks st.ts ∧ Upd w w2 (S3 b g h), ⟨fun e1 w1 hE1 _ _ hh1 => ?_, fun e1 w1 hE1 _ _ hh1 => ?_⟩, ?_⟩
  · refine callM (st := st) (t := strEq s (ByteArray.mk #[])) ⟨hh1, hw.2.ext hE1⟩ (ext_s3 hE1) aw (fun e => by rw [← hres, e1, e]; rfl) fun w3 ht hM3 hU3 => ⟨⟨rfl, rfl, rfl, rfl, rfl, rfl⟩, by rw [e1, ht]; rfl, hM3, (ext_s3 hE1).t3 hU3⟩
  · exact callM (st := st) (t := false) ⟨hh1, hw.2.ext hE1⟩ (ext_s3 hE1) aw (fun e => by rw [← hres, e1]; rfl) fun w2 ht _ _ => by cases ht
  rintro _ _ _ _ _ _ _ w2 ⟨⟨rfl, rfl, rfl, rfl, rfl, rfl⟩, hc, hM2, hU2⟩ hh2
  rw [if_pos hc] at hres
  subst hres
  simp only [Bool.and_eq_true] at hc
  exact callL (hin (by rw [← hz]; exact hc.1) w2 ⟨hh2, hM2⟩ (hr.s3 hU2)) hU2 aw (fun e => e) fun y s1 w4 he hw4 hU4 hh4 => ⟨(y, s1), he, rfl, ⟨hh4, hw4.2⟩, hU2.t3 hU4⟩
def ShpV (w : World) (a : Int) : Shp → Value → Prop
  | .plain kids of gives t, v => ∃ cap, v = .iface 125 (.agg #[.int .i64 kids, .int .i64 of, .int .i64 gives, .func (.func t) #[] cap]) ∧
      ((t ≠ 130 ∧ cap = #[]) ∨ (t = 130 ∧ ∃ ab, cap = #[.pointer (some ⟨ab, 0, none⟩)] ∧ w.heap[ab]? = some (.cells #[.int .i64 a] 3 (0, 0))))
  | .other kids t, v => v = .iface 128 (.agg #[.int .i64 kids, .func (.func t) #[] #[]])
  | .none, v => v = .nilIface
theorem shape_c (k v : Int) (s : ByteArray) (A : Option Addr) (l c : Nat) (a : Int) {w : World} :
    CallsX E.P 110 #[.agg #[.int .i64 k, .int .i64 v, .string s, .slice A l c], .int .i64 a] w (fun x w' => ShpV w' a (shapeF k v) x ∧ Ext w w') never := by
  refine vc110 ?_
  intro id hid id1 hid1
  refine ⟨fun e w1 hE _ _ _ => by obtain rfl : k = 1 := eq_of_beq e; exact ⟨⟨_, rfl, .inl ⟨by decide, rfl⟩⟩, hE⟩, fun c1 => ?_⟩
  refine ⟨fun e w1 hE _ _ _ => by obtain rfl : k = 2 := eq_of_beq e; exact ⟨⟨_, rfl, .inl ⟨by decide, rfl⟩⟩, hE⟩, fun c2 => ?_⟩
  refine ⟨fun e w1 hE _ _ _ => by obtain rfl : k = 3 := eq_of_beq e; exact ⟨⟨_, rfl, .inl ⟨by decide, rfl⟩⟩, hE⟩, fun c3 => ?_⟩
  refine ⟨fun e w1 hE _ _ hh => by obtain rfl : k = 5 := eq_of_beq e; exact ⟨⟨_, rfl, .inr ⟨rfl, id1, rfl, hh⟩⟩, hE⟩, fun c5 => ?_⟩
  refine ⟨fun e w1 hE _ _ _ => by obtain rfl : k = 6 := eq_of_beq e; exact ⟨⟨_, rfl, .inl ⟨by decide, rfl⟩⟩, hE⟩, fun c6 => ?_⟩
  refine ⟨fun e w1 hE _ _ _ => by obtain rfl : k = 7 := eq_of_beq e; exact ⟨⟨_, rfl, .inl ⟨by decide, rfl⟩⟩, hE⟩, fun c7 => ?_⟩
  refine ⟨fun e w1 hE _ _ _ => by obtain rfl : k = 8 := eq_of_beq e; exact ⟨⟨_, rfl, .inl ⟨by decide, rfl⟩⟩, hE⟩, fun c8 => ?_⟩
  refine ⟨fun e w1 hE _ _ _ => by obtain rfl : k = 9 := eq_of_beq e; exact ⟨⟨_, rfl, .inl ⟨by decide, rfl⟩⟩, hE⟩, fun c9 => ?_⟩
  refine ⟨fun e w1 hE _ _ _ => by obtain rfl : k = 10 := eq_of_beq e; exact ⟨⟨_, rfl, .inl ⟨by decide, rfl⟩⟩, hE⟩, fun c10 => ?_⟩
  refine ⟨fun e w1 hE _ _ _ => by obtain rfl : k = 11 := eq_of_beq e; exact ⟨⟨_, rfl, .inl ⟨by decide, rfl⟩⟩, hE⟩, fun c11 => ?_⟩
  refine ⟨fun e w1 hE _ _ _ => by obtain rfl : k = 12 := eq_of_beq e; exact ⟨⟨_, rfl, .inl ⟨by decide, rfl⟩⟩, hE⟩, fun c12 => ?_⟩
  refine ⟨fun e w1 hE _ _ _ => by obtain rfl : k = 15 := eq_of_beq e; exact ⟨⟨_, rfl, .inl ⟨by decide, rfl⟩⟩, hE⟩, fun c15 => ?_⟩
  refine ⟨fun e w1 hE _ _ _ => by obtain rfl : k = 16 := eq_of_beq e; exact ⟨⟨_, rfl, .inl ⟨by decide, rfl⟩⟩, hE⟩, fun c16 => ?_⟩
  refine ⟨fun e w1 hE _ _ _ => by obtain rfl : k = 17 := eq_of_beq e; exact ⟨⟨_, rfl, .inl ⟨by decide, rfl⟩⟩, hE⟩, fun c17 => ?_⟩
  refine ⟨fun e w1 hE _ _ _ => by obtain rfl : k = 18 := eq_of_beq e; exact ⟨⟨_, rfl, .inl ⟨by decide, rfl⟩⟩, hE⟩, fun c18 => ?_⟩
  refine ⟨fun e w1 hE _ _ _ => by obtain rfl : k = 13 := eq_of_beq e; exact ⟨rfl, hE⟩, fun c13 => ?_⟩
  refine ⟨fun e w1 hE _ _ _ => by obtain rfl : k = 14 := eq_of_beq e; exact ⟨rfl, hE⟩, fun c14 => ?_⟩
  refine ⟨fun e w1 hE _ _ _ => by obtain rfl : k = 19 := eq_of_beq e; exact ⟨rfl, hE⟩, fun c19 => ?_⟩
  refine ⟨fun e => by
    obtain rfl : k = 20 := eq_of_beq e
    exact ⟨fun e w1 hE _ _ _ => by obtain rfl : v = 1 := eq_of_beq e; exact ⟨⟨_, rfl, .inl ⟨by decide, rfl⟩⟩, hE⟩, fun d1 => ⟨fun e w1 hE _ _ _ => by obtain rfl : v = 2 := eq_of_beq e; exact ⟨⟨_, rfl, .inl ⟨by decide, rfl⟩⟩, hE⟩, fun d2 => ⟨fun e w1 hE _ _ _ => by obtain rfl : v = 3 := eq_of_beq e; exact ⟨⟨_, rfl, .inl ⟨by decide, rfl⟩⟩, hE⟩, fun d3 => ⟨fun e w1 hE _ _ _ => by obtain rfl : v = 10 := eq_of_beq e; exact ⟨⟨_, rfl, .inl ⟨by decide, rfl⟩⟩, hE⟩, fun d10 => fun w1 hE _ _ _ => ⟨by rw [show shapeF 20 v = .plain 1 3 1 134 by show (if (v == 1) = true then _ else _) = _; rw [iff0 d1, iff0 d2, iff0 d3, iff0 d10]]; exact ⟨_, rfl, .inl ⟨by decide, rfl⟩⟩, hE⟩⟩⟩⟩⟩, fun c20 => ?_⟩
  refine ⟨fun e w1 hE _ _ _ => by obtain rfl : k = 21 := eq_of_beq e; exact ⟨rfl, hE⟩, fun c21 => ?_⟩
  refine ⟨fun e w1 hE _ _ _ => by obtain rfl : k = 26 := eq_of_beq e; exact ⟨rfl, hE⟩, fun c26 => ?_⟩
  exact fun w1 hE _ _ _ => ⟨by rw [show shapeF k v = .none by unfold shapeF; rw [iff0 c1, iff0 c2, iff0 c3, iff0 c5, iff0 c6, iff0 c7, iff0 c8, iff0 c9, iff0 c10, iff0 c11, iff0 c12, iff0 c15, iff0 c16, iff0 c17, iff0 c18, iff0 c13, iff0 c14, iff0 c19, iff0 c20, iff0 c21, iff0 c26]]; exact rfl, hE⟩
end
section
open Go Go.Vx Go.Proofs
theorem zero125 (w : World) : Sem.run E.P (zeroValue 125) w = .ok (.agg #[.int .i64 0, .int .i64 0, .int .i64 0, .nilFunc]) w := Tryz.zeroValue125 w
theorem zero128 (w : World) : Sem.run E.P (zeroValue 128) w = .ok (.agg #[.int .i64 0, .nilFunc]) w := Tryz.zeroValue128 w
theorem ta125_hit (v : Value) (w : World) : Sem.run E.P (Instr.typeAssert (.iface 125 v) 122 125 true) w = .ok (.tuple #[v, .bool true]) w := by
  simp only [Instr.typeAssert, Sem.run_bind, run_underlying (P := E.P) (Tryz.underlying125) w, Result.andThen_ok, if_pos, Sem.run_pure]
theorem ta125_other (v : Value) (w : World) : Sem.run E.P (Instr.typeAssert (.iface 128 v) 122 125 true) w = .ok (.tuple #[.agg #[.int .i64 0, .int .i64 0, .int .i64 0, .nilFunc], .bool false]) w := by
  simp only [Instr.typeAssert, Sem.run_bind, run_underlying (P := E.P) (Tryz.underlying125) w, Result.andThen_ok, if_neg (show ¬ (128 : Nat) = 125 by decide), if_true, zero125 w, Sem.run_pure]
theorem ta125_nil (w : World) : Sem.run E.P (Instr.typeAssert .nilIface 122 125 true) w = .ok (.tuple #[.agg #[.int .i64 0, .int .i64 0, .int .i64 0, .nilFunc], .bool false]) w := by
  simp only [Instr.typeAssert, Sem.run_bind, run_underlying (P := E.P) (Tryz.underlying125) w, Result.andThen_ok, if_true, zero125 w, Sem.run_pure]
theorem ta128_hit (v : Value) (w : World) : Sem.run E.P (Instr.typeAssert (.iface 128 v) 122 128 true) w = .ok (.tuple #[v, .bool true]) w := by
  simp only [Instr.typeAssert, Sem.run_bind, run_underlying (P := E.P) (Tryz.underlying128) w, Result.andThen_ok, if_pos, Sem.run_pure]
theorem ta128_nil (w : World) : Sem.run E.P (Instr.typeAssert .nilIface 122 128 true) w = .ok (.tuple #[.agg #[.int .i64 0, .nilFunc], .bool false]) w := by
  simp only [Instr.typeAssert, Sem.run_bind, run_underlying (P := E.P) (Tryz.underlying128) w, Result.andThen_ok, if_true, zero128 w, Sem.run_pure]
def goodShp : Shp → Prop
  | .plain _ _ _ t => t = 127 ∨ t = 128 ∨ t = 129 ∨ t = 130 ∨ t = 131 ∨ t = 134
  | .other kn t => (kn = 2 ∧ t = 132) ∨ (kn = 3 ∧ t = 133) ∨ (kn = 2 ∧ t = 135) ∨ (kn = 1 ∧ t = 136)
  | .none => True
theorem good_if {c : Prop} [Decidable c] {x y : Shp} (hx : goodShp x) (hy : goodShp y) : goodShp (if c then x else y) := by split <;> assumption
theorem shape_good (k v : Int) : goodShp (shapeF k v) := by
  unfold shapeF
  repeat' apply good_if
  all_goals simp [goodShp]
variable {b g h : Nat} {zs : List Int} {C : Option Addr} {cc : Nat}
theorem kindK_c : ∀ (f : Nat) (n : Nd), n.size ≤ f → KL b g h zs C cc (lookK zs f) n := by
  intro f
  induction f with
  | zero => intro n hn; cases n with | mk k v s l => simp only [Nd.size] at hn; omega
  | succ f ih =>
    intro n hn w A l c a q st hw hr
    obtain ⟨hb, hg, hh⟩ := hw.lt
    obtain ⟨k, v, s, kids⟩ := n
    have hsz : Nd.sizes kids ≤ f := by simp only [Nd.size] at hn; omega
    have hk : ∀ j (_ : j < kids.length), KL b g h zs C cc (lookK zs f) kids[j] := fun j hj => ih _ (Nat.le_trans (Nd.size_lt (List.getElem_mem hj)) hsz)
    have hd : ∀ j, j < kids.length → KL b g h zs C cc (lookK zs f) (kids.getD j nd0) := fun j hj => by
      rw [List.getD_eq_getElem?_getD, List.getElem?_eq_getElem hj]; exact hk j hj
    dsimp only [ndA, Nd.k, Nd.n, Nd.s, Nd.kids] at *
    refine vc79 hw.1 ?_
    intro id hid w1 hU1 hi1 hh1
    have aw : Away [id] (S3 b g h) := away_s3 hb hg hh (by simp; omega)
    refine callM (st := st.inc) (t := decide (w64 (st.parts + 1) ≤ 4096)) (lst_put (st := st) hw.2 hU1 hh1 rfl rfl) (upd_s3 hU1) aw (fun e => by rw [lookK, e]; rfl) fun w2 ht hM2 hU2 => ?_
    have hU02 := (upd_s3 (g := g) (h := h) hU1).t3 hU2
    have hs2 := hU02.size
    generalize hres : lookK zs (f + 1) a q st (.mk k v s kids) = res
    rw [lookK, ht] at hres
    simp only [Bool.not_true, Bool.false_eq_true, if_false] at hres
    refine ⟨_, _, shape_c k v s A l c a, ?_, never_any⟩
    rintro v2 w3 ⟨hS, hE3⟩
    refine ⟨v2, rfl, no, hE3, Away.no _, ?_⟩
    have hU03 := hU02.t3 (ext_s3 hE3)
    have hs3 := hE3.size
    have hgood := shape_good k v
    generalize shapeF k v = sh at hS hres hgood
    cases sh with
    | none =>
      obtain rfl : v2 = .nilIface := hS
      exact ⟨false, _, _, _, _, ta125_nil _, (fun e => nomatch e), fun _ => ⟨false, _, _, ta128_nil _, (fun e => nomatch e), fun _ => ⟨hres.symm, rfl, hU03⟩⟩⟩
    | plain kn of gives t =>
      obtain ⟨cap, rfl, hcap⟩ := hS
      refine ⟨true, _, _, _, _, ta125_hit _ _, fun _ id1 hid1 => ⟨rfl, fun w4 hE4 hi4 hh4 => ?_⟩, fun e => nomatch e⟩
      have hU04 := hU03.t3 (ext_s3 hE4)
      have aw2 : Away [id, id1] (S3 b g h) := away_s3 hb hg hh (by simp; omega)
      have fin : ∀ {r : Option (Int × WS)} {fv : Value} (_ : r = res) (_ : CallsX E.P 111 #[.agg #[.int .i64 kn, .int .i64 of, .int .i64 gives, fv], .pointer (some ⟨b, 0, none⟩), .agg #[.int .i64 k, .int .i64 v, .string s, .slice A l c], .int .i64 a, .int .i64 q] w4 (LR b g h zs C cc w4 r) (LX b g h w4 r)), _ := fun {r fv} e hc =>
        callL (K := fun x4 a2 n1 c2 r2 r3 x5 w22 => w22.heap[b]? = some (Obj.cells (#[.slice a2 n1 c2, Value.map r2, Value.map r3, .int .i64 x5]) 103) → LR b g h zs C cc w res (.int .i64 x4) w22) (rc := res) hc hU04 aw2 (fun e2 => by rw [← e, e2]) fun y s1 w5 he hw5 hU5 hh5 => ⟨(y, s1), by rw [← e, he], rfl, ⟨hh5, hw5.2⟩, hU04.t3 hU5⟩
      have hL4 : Lst w4 b g h zs C cc st.inc := ⟨hh4, (LMem.ext (ks := st.inc.ks) (ts := st.inc.ts) hM2 hE3).ext hE4⟩
      have hr4 := hr.s3 hU04
      rcases hcap with ⟨hne, rfl⟩ | ⟨rfl, ab, rfl, hab⟩
      · rcases hgood with rfl | rfl | rfl | rfl | rfl | rfl
        · exact fin hres (plain127_c hk kn of gives a q st.inc hL4 hr4)
        · exact fin hres (plain128_c hk kn of gives a q st.inc hL4 hr4)
        · exact fin hres (plain129_c hk kn of gives a q st.inc hL4 hr4)
        · exact absurd rfl hne
        · exact fin hres (plain131_c hk kn of gives a q st.inc hL4 hr4)
        · exact fin hres (plain134_c hk kn of gives a q st.inc hL4 hr4)
      · exact fin hres (plain130_c hk kn of gives a q st.inc hL4 hr4 (by rw [Upd.keep hE4 ab (lt_of_get hab) (fun h => h)]; exact hab))
    | other kn t =>
      obtain rfl : v2 = _ := hS
      refine ⟨false, _, _, _, _, ta125_other _ _, (fun e => nomatch e), fun _ => ⟨true, _, _, ta128_hit _ _, fun _ id1 hid1 => ⟨rfl, fun w4 hE4 hi4 hh4 => ?_⟩, fun e => nomatch e⟩⟩
      have hU04 := hU03.t3 (ext_s3 hE4)
      have aw2 : Away [id, id1] (S3 b g h) := away_s3 hb hg hh (by simp; omega)
      have fin : ∀ {r : Option (Int × WS)} {fv : Value} (_ : r = res) (_ : CallsX E.P 112 #[.agg #[.int .i64 kn, fv], .pointer (some ⟨b, 0, none⟩), .agg #[.int .i64 k, .int .i64 v, .string s, .slice A l c], .int .i64 a, .int .i64 q] w4 (LR b g h zs C cc w4 r) (LX b g h w4 r)), _ := fun {r fv} e hc =>
        callL (K := fun x4 a2 n1 c2 r2 r3 x5 w22 => w22.heap[b]? = some (Obj.cells (#[.slice a2 n1 c2, Value.map r2, Value.map r3, .int .i64 x5]) 103) → LR b g h zs C cc w res (.int .i64 x4) w22) (rc := res) hc hU04 aw2 (fun e2 => by rw [← e, e2]) fun y s1 w5 he hw5 hU5 hh5 => ⟨(y, s1), by rw [← e, he], rfl, ⟨hh5, hw5.2⟩, hU04.t3 hU5⟩
      have hL4 : Lst w4 b g h zs C cc st.inc := ⟨hh4, (LMem.ext (ks := st.inc.ks) (ts := st.inc.ts) hM2 hE3).ext hE4⟩
      have hr4 := hr.s3 hU04
      have hlen : ∀ {m : Int}, ((kids.length : Int) == m) = true → (kids.length : Int) = m := fun e => eq_of_beq e
      rcases hgood with ⟨rfl, rfl⟩ | ⟨rfl, rfl⟩ | ⟨rfl, rfl⟩ | ⟨rfl, rfl⟩
      · exact fin hres (other132_c 2 a q st.inc hL4 hr4 fun e w5 hw5 hr5 => by
          have := hlen e; exact alikeK_c (by omega) (hd 0 (by omega)) (hd 1 (by omega)) a q st.inc hw5 hr5)
      · exact fin hres (other133_c 3 a q st.inc hL4 hr4 fun e w5 hw5 hr5 => by
          have := hlen e; exact choiceK_c (by omega) (hd 0 (by omega)) (hd 1 (by omega)) (hd 2 (by omega)) a q st.inc hw5 hr5)
      · exact fin hres (other135_c 2 a q st.inc hL4 hr4 fun e w5 hw5 hr5 => by
          have := hlen e
          refine quantK_c (by omega) (setK_c fun j hj => ih _ ?_) (hd 1 (by omega)) a q st.inc hw5 hr5
          have h1 := kid_lt hj
          have h2 : (kids.getD 0 nd0).size ≤ f := by
            rw [List.getD_eq_getElem?_getD, List.getElem?_eq_getElem (show 0 < kids.length by omega)]
            exact Nat.le_trans (Nd.size_lt (List.getElem_mem _)) hsz
          omega)
      · exact fin hres (other136_c 1 a q st.inc hL4 hr4 fun e w5 hw5 hr5 => by
          have := hlen e; exact cellK_c (by omega) (hd 0 (by omega)) a q st.inc hw5 hr5)
end
section
open Go Go.Vx Go.Proofs
variable {b g h : Nat} {zs : List Int} {C : Option Addr} {cc : Nat}
theorem kids_form {k v : Int} {s : ByteArray} {n : Nat} (hf : formB k v s n = true) : ((k == 13) = true ∨ (k == 14) = true ∨ (k == 21) = true → 2 ≤ n) ∧ ((k == 19) = true → 3 ≤ n) ∧ ((k == 26) = true → 1 ≤ n) := by
  have e : ∀ c : Int, (k == c) = true → k = c := fun c h => by simpa using h
  refine ⟨fun h => ?_, fun h => ?_, fun h => ?_⟩
  · rcases h with h | h | h <;> (cases e _ h; simp [formB] at hf; omega)
  · cases e _ h; simp [formB] at hf; omega
  · cases e _ h; simp [formB] at hf; omega
theorem kind_c (f : Nat) : ∀ n : Nd, n.size ≤ f → KC b g h zs C cc (kindW zs f) n := by
  induction f with
  | zero => intro n hn; cases n; simp [Nd.size] at hn
  | succ f ih =>
    intro n hn w A l c a q st hw hr
    obtain ⟨k, v, s, kids⟩ := n
    obtain ⟨hb, hg, hh⟩ := hw.lt
    have ihk : ∀ j (_ : j < kids.length), KC b g h zs C cc (kindW zs f) kids[j] := fun j hj => ih _ (by have := kid_size hj; simp only [Nd.size] at hn; omega)
    have ihd : ∀ j, j < kids.length → KC b g h zs C cc (kindW zs f) (kids.getD j nd0) := fun j hj => by rw [getD_get hj]; exact ihk j hj
    have hfc : ∀ {w1 : World}, Upd w w1 (S3 b g h) → CallsX E.P 103 #[ndA (.mk k v s kids) A l c] w1 (IsV (.bool (formB k v s kids.length)) w1) never := fun hE => form_c (.mk k v s kids) (hr.s3 hE)
    have hall : ∀ {w1 : World} (x r : Int) (s1 : WS), Wst w1 b g h zs C cc s1 → Upd w w1 (S3 b g h) → CallsX E.P 104 #[.pointer (some ⟨b, 0, none⟩), ndA (.mk k v s kids) A l c, .int .i64 a, .int .i64 q, .int .i64 x, .int .i64 r] w1 (WR b g h zs C cc w1 (.int .i64 r) (allW (kindW zs f a q) x s1 kids)) never :=
      fun x r s1 h1 h2 => all_c (n := .mk k v s kids) ihk a q x r s1 h1 (hr.s3 h2)
    dsimp only [ndA, Nd.k, Nd.n, Nd.s, Nd.kids] at *
    obtain rfl := hr.len
    refine vc75 hw.1 ?_
    intro id hid
    have bad0 : ∀ {w1 w2 : World}, MemW w1 b g h zs C cc st.ks st.ts → Upd w w1 (S3 b g h) → Upd w1 w2 (setOf [b]) → w2.heap[b]? = some (.cells (bcells zs C cc g h st.inc.bad) 93 (0, 0)) → kindW zs (f + 1) a q st (.mk k v s kids) = (0, st.inc.bad) → WR b g h zs C cc w (.int .i64 (kindW zs (f + 1) a q st (.mk k v s kids)).1) (kindW zs (f + 1) a q st (.mk k v s kids)).2 (.int .i64 0) w2 :=
      fun h1 h2 h3 h4 he => by rw [he]; exact ⟨rfl, Wst.put (st := st) h1 h3 h4 rfl rfl, h2.t3 (upd_s3 h3)⟩
    refine ⟨fun hok w1 hU _ hh1 => ?_, fun hok => ⟨fun hp w1 hU _ hh1 => ?_, fun hp w1 hU hi => ?_⟩⟩
    · exact bad0 hw.2 (ext_s3 (Upd.refl _ _)) hU hh1 (by rw [kindW]; simp only [hok, if_true])
    · exact bad0 hw.2 (ext_s3 (Upd.refl _ _)) hU hh1 (by rw [kindW]; simp only [hok, hp, Bool.false_eq_true, if_false, if_true])
    have hM1 : MemW w1 b g h zs C cc st.ks st.ts := hw.2.upd hU upd_b
    refine callB (hfc (upd_s3 hU)) fun w2 hE2 => ⟨fun hf w3 hU3 hh3 => ?_, fun hf => ?_⟩
    · exact bad0 (hM1.upd hE2 (fun _ h => h.elim)) ((upd_s3 hU).t3 (ext_s3 hE2)) hU3 hh3 (by rw [kindW]; simp only [hok, hp, hf, Bool.false_eq_true, if_false, if_true])
    have hM2 : MemW w2 b g h zs C cc st.ks st.ts := hM1.upd hE2 (fun _ h => h.elim)
    have hU02 : Upd w w2 (S3 b g h) := (upd_s3 hU).t3 (ext_s3 hE2)
    have hs2 := hU02.size
    have hfb : formB k v s kids.length = true := by simpa using hf
    have leafR : ∀ {w3 : World} (x : Int), MemW w3 b g h zs C cc st.ks st.ts → Upd w w3 (S3 b g h) → w3.heap[b]? = some (.cells (bcells zs C cc g h st.inc) 93 (0, 0)) → kindW zs (f + 1) a q st (.mk k v s kids) = (x, st.inc) → WR b g h zs C cc w (.int .i64 (kindW zs (f + 1) a q st (.mk k v s kids)).1) (kindW zs (f + 1) a q st (.mk k v s kids)).2 (.int .i64 x) w3 :=
      fun x h1 h2 h3 he => by rw [he]; exact ⟨rfl, ⟨h3, h1⟩, h2⟩
    have fin : ∀ {w3 w4 : World} {x : Int} {s1 : WS}, Upd w w3 (S3 b g h) → Upd w3 w4 (S3 b g h) → Wst w4 b g h zs C cc s1 → kindW zs (f + 1) a q st (.mk k v s kids) = (x, s1) → WR b g h zs C cc w (.int .i64 (kindW zs (f + 1) a q st (.mk k v s kids)).1) (kindW zs (f + 1) a q st (.mk k v s kids)).2 (.int .i64 x) w4 :=
      fun h1 h2 h3 he => by rw [he]; exact ⟨rfl, h3, h1.t3 h2⟩
    have kf := kids_form hfb
    have hst : w2.heap[b]? = some (.cells (bcells zs C cc g h st.inc) 93 (0, 0)) → Wst w2 b g h zs C cc st.inc := fun h => ⟨h, hM2⟩
    refine ⟨fun e1 => ?_, fun n1 => ⟨fun e2 => ?_, fun n2 => ⟨fun e3 => ?_, fun n3 => ⟨fun e5 => ?_, fun n5 => ⟨fun e6 => ?_, fun n6 => ⟨fun e8 => ?_, fun n8 => ⟨fun e9 => ?_, fun n9 => ⟨fun e10 => ?_, fun n10 => ⟨fun e11 => ?_, fun n11 => ⟨fun e12 => ?_, fun n12 => ⟨fun e7 => ?_, fun n7 => ⟨fun e17 => ?_, fun n17 => ⟨fun e18 => ?_, fun n18 => ⟨fun e15 => ?_, fun n15 => ⟨fun e16 => ?_, fun n16 => ⟨fun e13 => ?_, fun n13 => ⟨fun e14 => ?_, fun n14 => ⟨fun e19 => ?_, fun n19 => ⟨fun e20 => ?_, fun n20 => ⟨fun e21 => ?_, fun n21 => ⟨fun e26 => ?_, fun n26 => ?_⟩⟩⟩⟩⟩⟩⟩⟩⟩⟩⟩⟩⟩⟩⟩⟩⟩⟩⟩⟩⟩
    · exact fun hh2 => leafR 1 hM2 hU02 hh2 (by rw [kindW]; simp only [e1, hok, hp, hf, Bool.not_true, Bool.not_false, Bool.false_eq_true, if_false, if_true, Bool.or_false, Bool.false_or, Bool.or_true, Bool.true_or, Bool.or_self])
    · exact fun hh2 => leafR 2 hM2 hU02 hh2 (by rw [kindW]; simp only [e2, n1, hok, hp, hf, Bool.not_true, Bool.not_false, Bool.false_eq_true, if_false, if_true, Bool.or_false, Bool.false_or, Bool.or_true, Bool.true_or, Bool.or_self])
    · exact fun hh2 => leafR 3 hM2 hU02 hh2 (by rw [kindW]; simp only [e3, n1, n2, hok, hp, hf, Bool.not_true, Bool.not_false, Bool.false_eq_true, if_false, if_true, Bool.or_false, Bool.false_or, Bool.or_true, Bool.true_or, Bool.or_self])
    · refine ⟨fun hv w3 hU3 hh3 => ?_, fun hv hh2 => leafR 3 hM2 hU02 hh2 (by rw [kindW]; simp only [hv, e5, n1, n2, n3, hok, hp, hf, Bool.not_true, Bool.not_false, Bool.false_eq_true, if_false, if_true, Bool.or_false, Bool.false_or, Bool.or_true, Bool.true_or, Bool.or_self])⟩
      have he : kindW zs (f + 1) a q st (.mk k v s kids) = (3, st.inc.bad) := (by rw [kindW]; simp only [hv, e5, n1, n2, n3, hok, hp, hf, Bool.not_true, Bool.not_false, Bool.false_eq_true, if_false, if_true, Bool.or_false, Bool.false_or, Bool.or_true, Bool.true_or, Bool.or_self])
      rw [he]; exact ⟨rfl, Wst.put (st := st) hM2 hU3 hh3 rfl rfl, hU02.t3 (upd_s3 hU3)⟩
    · exact fun hh2 => callW (hall 1 1 st.inc (hst hh2) hU02) (away_s3 hb hg hh (by simp; omega)) fun w3 hw3 hU3 _ => fin hU02 hU3 hw3 (by rw [kindW]; simp only [e6, n1, n2, n3, n5, hok, hp, hf, Bool.not_true, Bool.not_false, Bool.false_eq_true, if_false, if_true, Bool.or_false, Bool.false_or, Bool.or_true, Bool.true_or, Bool.or_self])
    · exact fun hh2 => callW (hall 1 1 st.inc (hst hh2) hU02) (away_s3 hb hg hh (by simp; omega)) fun w3 hw3 hU3 _ => fin hU02 hU3 hw3 (by rw [kindW]; simp only [e8, n1, n2, n3, n5, n6, hok, hp, hf, Bool.not_true, Bool.not_false, Bool.false_eq_true, if_false, if_true, Bool.or_false, Bool.false_or, Bool.or_true, Bool.true_or, Bool.or_self])
    · exact fun hh2 => callW (hall 1 1 st.inc (hst hh2) hU02) (away_s3 hb hg hh (by simp; omega)) fun w3 hw3 hU3 _ => fin hU02 hU3 hw3 (by rw [kindW]; simp only [e9, n1, n2, n3, n5, n6, n8, hok, hp, hf, Bool.not_true, Bool.not_false, Bool.false_eq_true, if_false, if_true, Bool.or_false, Bool.false_or, Bool.or_true, Bool.true_or, Bool.or_self])
    · exact fun hh2 => callW (hall 1 1 st.inc (hst hh2) hU02) (away_s3 hb hg hh (by simp; omega)) fun w3 hw3 hU3 _ => fin hU02 hU3 hw3 (by rw [kindW]; simp only [e10, n1, n2, n3, n5, n6, n8, n9, hok, hp, hf, Bool.not_true, Bool.not_false, Bool.false_eq_true, if_false, if_true, Bool.or_false, Bool.false_or, Bool.or_true, Bool.true_or, Bool.or_self])
    · exact fun hh2 => callW (hall 1 1 st.inc (hst hh2) hU02) (away_s3 hb hg hh (by simp; omega)) fun w3 hw3 hU3 _ => fin hU02 hU3 hw3 (by rw [kindW]; simp only [e11, n1, n2, n3, n5, n6, n8, n9, n10, hok, hp, hf, Bool.not_true, Bool.not_false, Bool.false_eq_true, if_false, if_true, Bool.or_false, Bool.false_or, Bool.or_true, Bool.true_or, Bool.or_self])
    · exact fun hh2 => callW (hall 1 1 st.inc (hst hh2) hU02) (away_s3 hb hg hh (by simp; omega)) fun w3 hw3 hU3 _ => fin hU02 hU3 hw3 (by rw [kindW]; simp only [e12, n1, n2, n3, n5, n6, n8, n9, n10, n11, hok, hp, hf, Bool.not_true, Bool.not_false, Bool.false_eq_true, if_false, if_true, Bool.or_false, Bool.false_or, Bool.or_true, Bool.true_or, Bool.or_self])
    · exact fun hh2 => callW (hall 2 2 st.inc (hst hh2) hU02) (away_s3 hb hg hh (by simp; omega)) fun w3 hw3 hU3 _ => fin hU02 hU3 hw3 (by rw [kindW]; simp only [e7, n1, n2, n3, n5, n6, n8, n9, n10, n11, n12, hok, hp, hf, Bool.not_true, Bool.not_false, Bool.false_eq_true, if_false, if_true, Bool.or_false, Bool.false_or, Bool.or_true, Bool.true_or, Bool.or_self])
    · exact fun hh2 => callW (hall 2 2 st.inc (hst hh2) hU02) (away_s3 hb hg hh (by simp; omega)) fun w3 hw3 hU3 _ => fin hU02 hU3 hw3 (by rw [kindW]; simp only [e17, n1, n2, n3, n5, n6, n8, n9, n10, n11, n12, n7, hok, hp, hf, Bool.not_true, Bool.not_false, Bool.false_eq_true, if_false, if_true, Bool.or_false, Bool.false_or, Bool.or_true, Bool.true_or, Bool.or_self])
    · exact fun hh2 => callW (hall 2 2 st.inc (hst hh2) hU02) (away_s3 hb hg hh (by simp; omega)) fun w3 hw3 hU3 _ => fin hU02 hU3 hw3 (by rw [kindW]; simp only [e18, n1, n2, n3, n5, n6, n8, n9, n10, n11, n12, n7, n17, hok, hp, hf, Bool.not_true, Bool.not_false, Bool.false_eq_true, if_false, if_true, Bool.or_false, Bool.false_or, Bool.or_true, Bool.true_or, Bool.or_self])
    · exact fun hh2 => callW (hall 1 2 st.inc (hst hh2) hU02) (away_s3 hb hg hh (by simp; omega)) fun w3 hw3 hU3 _ => fin hU02 hU3 hw3 (by rw [kindW]; simp only [e15, n1, n2, n3, n5, n6, n8, n9, n10, n11, n12, n7, n17, n18, hok, hp, hf, Bool.not_true, Bool.not_false, Bool.false_eq_true, if_false, if_true, Bool.or_false, Bool.false_or, Bool.or_true, Bool.true_or, Bool.or_self])
    · exact fun hh2 => callW (hall 1 2 st.inc (hst hh2) hU02) (away_s3 hb hg hh (by simp; omega)) fun w3 hw3 hU3 _ => fin hU02 hU3 hw3 (by rw [kindW]; simp only [e16, n1, n2, n3, n5, n6, n8, n9, n10, n11, n12, n7, n17, n18, n15, hok, hp, hf, Bool.not_true, Bool.not_false, Bool.false_eq_true, if_false, if_true, Bool.or_false, Bool.false_or, Bool.or_true, Bool.true_or, Bool.or_self])
    · have h2 : 2 ≤ kids.length := kf.1 (by simp [e13])
      refine hr.idxL 0 rfl (by omega) fun ad ha => (hr.s3 hU02).cellL ha 0 rfl (by omega) (d := nd0) fun A1 l1 c1 q1 hh2 => ?_
      refine callW (ihd 0 (by omega) a q st.inc (hst hh2) q1) (away_s3 hb hg hh (by simp; omega)) fun w3 hw3 hU3 => ?_
      have hs3 := hU3.size
      refine hr.idxL 1 rfl (by omega) fun ad1 ha1 => (hr.s3 (hU02.t3 hU3)).cellL ha1 1 rfl (by omega) (d := nd0) fun A2 l2 c2 q2 hh3 => ?_
      exact callU (must_c (ihd 1 (by omega)) a q _ _ ⟨hh3, hw3.2⟩ q2) (away_s3 hb hg hh (by simp; omega)) fun w4 hw4 hU4 _ => fin (hU02.t3 hU3) hU4 hw4 (by rw [kindW]; simp only [e13, n1, n2, n3, n5, n6, n8, n9, n10, n11, n12, n7, n17, n18, n15, n16, hok, hp, hf, Bool.not_true, Bool.not_false, Bool.false_eq_true, if_false, if_true, Bool.or_false, Bool.false_or, Bool.or_true, Bool.true_or, Bool.or_self])
    · have h2 : 2 ≤ kids.length := kf.1 (by simp [e14])
      refine hr.idxL 0 rfl (by omega) fun ad ha => (hr.s3 hU02).cellL ha 0 rfl (by omega) (d := nd0) fun A1 l1 c1 q1 hh2 => ?_
      refine callW (ihd 0 (by omega) a q st.inc (hst hh2) q1) (away_s3 hb hg hh (by simp; omega)) fun w3 hw3 hU3 => ?_
      have hs3 := hU3.size
      refine hr.idxL 1 rfl (by omega) fun ad1 ha1 => (hr.s3 (hU02.t3 hU3)).cellL ha1 1 rfl (by omega) (d := nd0) fun A2 l2 c2 q2 hh3 => ?_
      exact callU (must_c (ihd 1 (by omega)) a q _ _ ⟨hh3, hw3.2⟩ q2) (away_s3 hb hg hh (by simp; omega)) fun w4 hw4 hU4 _ => fin (hU02.t3 hU3) hU4 hw4 (by rw [kindW]; simp only [e14, n1, n2, n3, n5, n6, n8, n9, n10, n11, n12, n7, n17, n18, n15, n16, n13, hok, hp, hf, Bool.not_true, Bool.not_false, Bool.false_eq_true, if_false, if_true, Bool.or_false, Bool.false_or, Bool.or_true, Bool.true_or, Bool.or_self])
    · have h3 : 3 ≤ kids.length := kf.2.1 e19
      refine hr.idxL 0 rfl (by omega) fun ad ha => (hr.s3 hU02).cellL ha 0 rfl (by omega) (d := nd0) fun A1 l1 c1 q1 hh2 => ?_
      refine callU (must_c (ihd 0 (by omega)) a q 2 st.inc (hst hh2) q1) (away_s3 hb hg hh (by simp; omega)) fun w3 hw3 hU3 => ?_
      have hs3 := hU3.size
      refine hr.idxL 1 rfl (by omega) fun ad1 ha1 => (hr.s3 (hU02.t3 hU3)).cellL ha1 1 rfl (by omega) (d := nd0) fun A2 l2 c2 q2 hh3 => ?_
      refine callW (ihd 1 (by omega) a q _ ⟨hh3, hw3.2⟩ q2) (away_s3 hb hg hh (by simp; omega)) fun w4 hw4 hU4 => ?_
      have hs4 := hU4.size
      refine hr.idxL 2 rfl (by omega) fun ad2 ha2 => (hr.s3 ((hU02.t3 hU3).t3 hU4)).cellL ha2 2 rfl (by omega) (d := nd0) fun A3 l3 c3 q3 hh4 => ?_
      exact callU (must_c (ihd 2 (by omega)) a q _ _ ⟨hh4, hw4.2⟩ q3) (away_s3 hb hg hh (by simp; omega)) fun w5 hw5 hU5 _ => fin ((hU02.t3 hU3).t3 hU4) hU5 hw5 (by rw [kindW]; simp only [e19, n1, n2, n3, n5, n6, n8, n9, n10, n11, n12, n7, n17, n18, n15, n16, n13, n14, hok, hp, hf, Bool.not_true, Bool.not_false, Bool.false_eq_true, if_false, if_true, Bool.or_false, Bool.false_or, Bool.or_true, Bool.true_or, Bool.or_self])
    · intro w3 hU3
      have hs3 := hU3.size
      refine callI (gives_c v) fun w4 hE4 hh4 => ?_
      have hs4 := hE4.size
      exact callW (hall 3 (givesI v) st.inc ⟨hh4, hM2.upd (Ext.trans hU3 hE4) (fun _ h => h.elim)⟩ (hU02.t3 (ext_s3 (Ext.trans hU3 hE4)))) (away_s3 hb hg hh (by simp; omega)) fun w5 hw5 hU5 _ => fin (hU02.t3 (ext_s3 (Ext.trans hU3 hE4))) hU5 hw5 (by rw [kindW]; simp only [e20, n1, n2, n3, n5, n6, n8, n9, n10, n11, n12, n7, n17, n18, n15, n16, n13, n14, n19, hok, hp, hf, Bool.not_true, Bool.not_false, Bool.false_eq_true, if_false, if_true, Bool.or_false, Bool.false_or, Bool.or_true, Bool.true_or, Bool.or_self])
    · have h2 : 2 ≤ kids.length := kf.1 (by simp [e21])
      have hset : SC b g h zs C cc (kindW zs f) (kids.getD 0 nd0) := fun a' q' st' hw' hr' => set_c (fun j hj => ih _ (by have := kid_lt (n := kids.getD 0 nd0) hj; have h0 : (kids.getD 0 nd0).size ≤ Nd.sizes kids := Nat.le_trans (Nat.le_of_eq (congrArg Nd.size (getD_get (by omega : 0 < kids.length)))) (kid_size (by omega : 0 < kids.length)); simp only [Nd.size] at hn; omega)) a' q' st' hw' hr'
      exact fun hh2 => callW (quant_c (k := k) (v := v) (s := s) h2 hset (ihd 1 (by omega)) a q st.inc (hst hh2) (hr.s3 hU02)) (away_s3 hb hg hh (by simp; omega)) fun w3 hw3 hU3 _ => fin hU02 hU3 hw3 (by rw [kindW]; simp only [e21, n1, n2, n3, n5, n6, n8, n9, n10, n11, n12, n7, n17, n18, n15, n16, n13, n14, n19, n20, hok, hp, hf, Bool.not_true, Bool.not_false, Bool.false_eq_true, if_false, if_true, Bool.or_false, Bool.false_or, Bool.or_true, Bool.true_or, Bool.or_self])
    · have h1 : 1 ≤ kids.length := kf.2.2 e26
      exact fun hh2 => callW (cell_c (k := k) (v := v) (s := s) h1 (ihd 0 (by omega)) a q st.inc (hst hh2) (hr.s3 hU02)) (away_s3 hb hg hh (by simp; omega)) fun w3 hw3 hU3 _ => fin hU02 hU3 hw3 (by rw [kindW]; simp only [e26, n1, n2, n3, n5, n6, n8, n9, n10, n11, n12, n7, n17, n18, n15, n16, n13, n14, n19, n20, n21, hok, hp, hf, Bool.not_true, Bool.not_false, Bool.false_eq_true, if_false, if_true, Bool.or_false, Bool.false_or, Bool.or_true, Bool.true_or, Bool.or_self])
    · intro w3 hU3 hh3
      have he : kindW zs (f + 1) a q st (.mk k v s kids) = (0, st.inc.bad) := by rw [kindW]; simp only [n1, n2, n3, n5, n6, n8, n9, n10, n11, n12, n7, n17, n18, n15, n16, n13, n14, n19, n20, n21, n26, hok, hp, hf, Bool.not_true, Bool.not_false, Bool.false_eq_true, if_false, if_true, Bool.or_false, Bool.false_or, Bool.or_true, Bool.true_or, Bool.or_self]
      rw [he]; exact ⟨rfl, Wst.put (st := st) hM2 hU3 hh3 rfl rfl, hU02.t3 (upd_s3 hU3)⟩
end
end Go.Vx.Tryz
namespace Go.Vx
open Go
section
theorem make_row {P : Program} {t e sz : Nat} (T : SlT P t e 1 sz) {w : World} {zv v0 : Value} (hz0 : (P.info? e).bind (·.zero) = some zv) (hc : zv.cells = #[v0]) {n : Nat} (hn : n ≤ 2 ^ 20) :
    RunsTo P (Instr.makeSlice t (.int .i64 (n : Int)) (.int .i64 (n : Int))) w (fun v w' => v = .slice (some ⟨w.heap.size, 0, none⟩) n n ∧ w'.heap[w.heap.size]? = some (.cells (List.replicate n v0).toArray e (0, 0)) ∧ w'.heap.size = w.heap.size + 1 ∧ Ext w w') := by
  obtain ⟨ht, ⟨i, zv', hi, hz, hsz, hby, hzs⟩, _, hsm⟩ := T
  rw [hi] at hz0
  have : zv' = zv := by have h : i.zero = some zv := hz0; rw [hz] at h; exact Option.some.inj h
  subst this
  have hb : (i.bytes : Int) * n ≤ 281474976710656 := by
    have h1 : i.bytes * n ≤ 4096 * 2 ^ 20 := Nat.mul_le_mul (by omega) hn
    have h2 : ((i.bytes * n : Nat) : Int) ≤ 281474976710656 := by omega
    rwa [Int.natCast_mul] at h2
  have hr := run_makeSlice (P := P) w t e i zv' ht hi hz .i64 .i64 n n (by omega) (Int.le_refl _) (by rw [hsz]; omega) hb (by omega)
  refine ⟨_, _, hr, by simp, ?_, Array.size_push _, ⟨rfl, rfl, rfl, Nat.le_trans (Nat.le_succ _) (Nat.le_of_eq (Array.size_push _).symm), fun k hk _ => heap_alloc_old w _ hk⟩⟩
  rw [heap_alloc_new]
  congr 2
  apply Array.ext'
  rw [hsz, hc]
  apply List.ext_getElem
  · simp [madeCells]
  · intro j h1 h2
    simp [madeCells, Nat.mod_one]
end
end Go.Vx
namespace Go.Vx.Tryz
open Go Go.Vx Go.Proofs
section
theorem refKind_c (p : Pl) {w : World} {F G : Nat → Prop} {A : Option Addr} {l c : Nat} {B : Option Addr} {bl bc : Nat} (h : NdsR w F p.root.kids A l c) (h2 : IntsR w G p.cells B bl bc) (hF : ∀ x, F x ∨ G x → x < w.heap.size) :
    CallsX E.P 47 #[plA p A l c B bl bc] w (IsV (.int .i64 (refKind p)) w) never := by
  obtain rfl := h2.len
  refine vc47 ?_
  intro id hid
  unfold refKind
  refine ⟨fun h1 w1 hE _ => ⟨by rw [if_pos h1], hE⟩, fun h1 w1 hE hi => ?_⟩
  rw [if_neg (by rw [h1]; exact Bool.false_ne_true)]
  have hle : p.cells.length ≤ 256 := by simp at h1; omega
  refine loop0 (kids := p.cells) rfl (by omega) (Upd.refl w1 _) (fun _ => cellsBad) (fun I m j w2 hj hg hE2 k => ?_) (fun w2 hg hE2 => ?_)
  · rw [cellsBad] at hg
    refine h2.idx hj fun ad ha => (h2.ext (hE.trans hE2)).cell ha hj ⟨fun h3 => ?_, fun h3 => ?_⟩
    · rw [if_pos h3] at hg
      exact ⟨by rw [if_pos hg.symm], hE.trans hE2⟩
    · rw [if_neg (by rw [h3]; exact Bool.false_ne_true)] at hg
      refine h2.idx hj fun ad ha => (h2.ext (hE.trans hE2)).cell ha hj ⟨fun h4 => ?_, fun h4 => ?_⟩
      · rw [if_pos h4] at hg
        exact ⟨by rw [if_pos hg.symm], hE.trans hE2⟩
      · rw [if_neg (by rw [h4]; exact Bool.false_ne_true)] at hg
        exact k _ hg hE2
  · rw [cellsBad] at hg
    rw [if_neg (by rw [← hg]; exact Bool.false_ne_true)]
    have hs1 := hE.size
    have hs2 := hE2.size
    have h91 : ((E.P.info? 22).bind (·.zero)) = some (.slice none 0 0) := by kernel_rfl
    have h25 : ((E.P.info? 3).bind (·.zero)) = some (.int .i64 0) := by kernel_rfl
    -- behind both
    have fin : ∀ {w5 w6 : World} {gk gt id1 : Nat}, Ext w1 w5 → w1.heap.size ≤ gk → w1.heap.size ≤ gt → gk ≠ gt → w5.heap[gk]? = some (.cells (List.replicate p.cells.length (.slice none 0 0)).toArray 22 (0, 0)) → w5.heap[gt]? = some (.cells (List.replicate p.cells.length (.int .i64 0)).toArray 3 (0, 0)) →
        w5.heap.size ≤ id1 → Ext w5 w6 → w6.heap[id1]? = some (Obj.cells #[.slice B p.cells.length bc, .int .i64 0, .slice (some ⟨gk, 0, none⟩) p.cells.length p.cells.length, .slice (some ⟨gt, 0, none⟩) p.cells.length p.cells.length, .bool true] 93) →
        id < w6.heap.size → ∀ {X : ContX}, ∃ (R : Value → World → Prop) (X' : ContX), CallsX E.P 75 #[.pointer (some ⟨id1, 0, none⟩), .agg #[.int .i64 p.root.k, .int .i64 p.root.n, .string p.root.s, .slice A l c], .int .i64 0, .int .i64 0] w6 R X' ∧
          (∀ v2 w23, R v2 w23 → ∃ x3, v2 = .int .i64 x3 ∧ ∃ S, Upd w6 w23 S ∧ Away [id] S ∧ ∃ a2 n2 c2, ∃ x4 a3, ∃ n3 c3 a4 n4 c4, ∃ x5, w23.heap[id1]? = some (Obj.cells #[.slice a2 n2 c2, .int .i64 x4, .slice a3 n3 c3, .slice a4 n4 c4, .bool x5] 93) ∧ 5 = 5 ∧
            ((!x5) = true → IsV (.int .i64 (if (!(kindW p.cells p.root.size 0 0 ⟨0, List.replicate p.cells.length none, List.replicate p.cells.length 0, true⟩ p.root).2.ok) = true then 0 else (kindW p.cells p.root.size 0 0 ⟨0, List.replicate p.cells.length none, List.replicate p.cells.length 0, true⟩ p.root).1)) w (.int .i64 0) w23) ∧
            ((!x5) = false → IsV (.int .i64 (if (!(kindW p.cells p.root.size 0 0 ⟨0, List.replicate p.cells.length none, List.replicate p.cells.length 0, true⟩ p.root).2.ok) = true then 0 else (kindW p.cells p.root.size 0 0 ⟨0, List.replicate p.cells.length none, List.replicate p.cells.length 0, true⟩ p.root).1)) w (.int .i64 x3) w23)) ∧ ∀ ch w2, X' ch w2 → X ch w2 := by
      intro w5 w6 gk gt id1 hE15 hgk hgt hne hk ht hid1 hE6 hb hi6 X
      have hE5 := hE.trans hE15
      have hgk5 := lt_of_get hk
      have hgt5 := lt_of_get ht
      have hs5 := hE5.size
      have hs6 := hE6.size
      have hFw : ∀ x, F x ∨ G x → Fw id1 gk gt x := fun x hx hS => by
        have := hF x hx
        rcases hS with e | e | e <;> omega
      have hM : MemW w6 id1 gk gt p.cells B bc (List.replicate p.cells.length none) (List.replicate p.cells.length 0) := by
        refine ⟨RowIn.mono (RowIn.upd h2 (hE5.trans hE6) (no_no _)) (fun x hx => hFw x (.inr hx)), ⟨_, by rw [hE6.keep gk hgk5 (fun h => h)]; exact hk, by simp, fun i x hx => ?_⟩, ?_, by simp, by simp, by omega, by omega, hne⟩
        · have hi := (List.getElem?_eq_some_iff.1 hx).1
          simp only [List.length_replicate] at hi
          rw [List.getElem?_replicate, if_pos hi] at hx
          cases hx
          refine ⟨.slice none 0 0, ?_, rfl⟩
          rw [List.getElem?_toArray, List.getElem?_replicate, if_pos hi]
        · rw [hE6.keep gt hgt5 (fun h => h), ht, List.map_replicate]
      have hr6 : NdsR w6 (Fw id1 gk gt) p.root.kids A l c := (h.ext (hE5.trans hE6)).mono fun x hx => hFw x (.inl hx)
      refine callW (kind_c _ p.root (Nat.le_refl _) 0 0 ⟨0, List.replicate p.cells.length none, List.replicate p.cells.length 0, true⟩ ⟨hb, hM⟩ hr6) (away_of fun i hi' hS => ?_) fun w7 hw7 hU7 => ?_
      · simp only [List.mem_cons, List.not_mem_nil, or_false] at hi'
        subst hi'
        have := hE15.size
        rcases hS with e | e | e <;> omega
      · have hE7 : Ext w w7 := Upd.step (hE5.trans hE6) hU7 fun x hx => by rcases hx with e | e | e <;> omega
        exact ⟨fun hx => ⟨by rw [if_pos hx], hE7⟩, fun hx => ⟨by rw [if_neg (by rw [hx]; exact Bool.false_ne_true)], hE7⟩⟩
    have goal : ∀ {a b2 c2 d2 : World}, Ext a b2 → Ext b2 c2 → Ext c2 d2 → Ext a d2 := fun x y z => (x.trans y).trans z
    refine ⟨fun w3 hE3 => ?_, fun w3 hE3 => ?_⟩
    · have hs3 := hE3.size
      refine ⟨_, make_row sl91 h91 rfl (by omega), ?_⟩
      rintro v w4 ⟨rfl, hk, hk2, hE4⟩
      refine ⟨_, _, _, rfl, no, hE4, Away.no _, _, make_row sl25 h25 rfl (by omega), ?_⟩
      rintro v w5 ⟨rfl, ht, ht2, hE5⟩
      refine ⟨_, _, _, rfl, no, hE5, Away.no _, fun id1 hid1 w6 hE6 hi6 hcell => ?_⟩
      have hs6 := hE6.size
      refine fin (gk := w3.heap.size) (gt := w4.heap.size) (w5 := w5) (w6 := w6) (goal (hE2.trans hE3) hE4 hE5) (by omega) (by omega) (by omega) (by rw [hE5.keep _ (by omega) (fun h => h)]; exact hk) ht hid1 hE6 hcell (by omega)
    · have hs3 := hE3.size
      refine ⟨_, make_row sl25 h25 rfl (by omega), ?_⟩
      rintro v w4 ⟨rfl, ht, ht2, hE4⟩
      refine ⟨_, _, _, rfl, no, hE4, Away.no _, _, make_row sl91 h91 rfl (by omega), ?_⟩
      rintro v w5 ⟨rfl, hk, hk2, hE5⟩
      refine ⟨_, _, _, rfl, no, hE5, Away.no _, fun id1 hid1 w6 hE6 hi6 hcell => ?_⟩
      have hs6 := hE6.size
      refine fin (gk := w4.heap.size) (gt := w3.heap.size) (w5 := w5) (w6 := w6) (goal (hE2.trans hE3) hE4 hE5) (by omega) (by omega) (by omega) hk (by rw [hE5.keep _ (by omega) (fun h => h)]; exact ht) hid1 hE6 hcell (by omega)
theorem refRight_c (p : Pl) {w : World} {F G : Nat → Prop} {A : Option Addr} {l c : Nat} {B : Option Addr} {bl bc : Nat} (h : NdsR w F p.root.kids A l c) (h2 : IntsR w G p.cells B bl bc) (hF : ∀ x, F x ∨ G x → x < w.heap.size) :
    CallsX E.P 25 #[plA p A l c B bl bc] w (IsV (.bool (refKind p != 0)) w) never := by
  refine vc25 ?_
  intro id hid w1 hE hi
  exact callI (refKind_c p (h.ext hE) (h2.ext hE) (fun x hx => by have := hF x hx; have := hE.size; omega)) fun w2 hE2 => ⟨rfl, hE.trans hE2⟩
end
section
open Go Go.Vx Go.Proofs
theorem test77 (x : Int) {w : World} : CallsX E.P 77 #[.int .i64 x] w (IsV (.bool (decide (x < 0) || decide (x > 4))) w) never := by
  have r := Upd.refl w no
  refine vc77 ⟨fun h => ⟨by rw [h]; rfl, r⟩, fun h => ⟨by rw [h]; rfl, r⟩⟩
theorem cellsBad_cons (x : Int) (l : List Int) : cellsBad (x :: l) = ((decide (x < 0) || decide (x > 4)) || cellsBad l) := by
  rw [cellsBad]; cases decide (x < 0) <;> cases decide (x > 4) <;> rfl
theorem bad_c (zs : List Int) {w : World} {G : Nat → Prop} {B : Option Addr} {bl bc : Nat} (h2 : IntsR w G zs B bl bc) : CallsX E.P 76 #[.slice B bl bc, .func (.func 77) #[] #[]] w (IsV (.bool (cellsBad zs)) w) never := by
  obtain rfl := h2.len
  have hl := h2.lt
  refine vc76 ?_
  refine ⟨fun v w2 => (∃ x : Int, v = .int .i64 x ∧ decide (x ≥ 0) = cellsBad zs) ∧ Ext w w2, never, vc108 ?_, ?_, never_any⟩
  · refine loop0 (kids := zs) rfl (by omega) (Upd.refl w _) (fun _ => cellsBad) (fun I m j w2 hj hg hE2 k => ?_) (fun w2 hg hE2 => ?_)
    · rw [cellsBad_cons] at hg
      refine h2.idx hj fun ad ha => (h2.ext hE2).cell ha hj ?_
      refine callB (test77 _) fun w3 hE3 => ⟨fun ht => ?_, fun ht => ?_⟩
      · exact ⟨⟨_, rfl, by rw [← hg, ht]; simp⟩, hE2.trans hE3⟩
      · rw [ht, Bool.false_or] at hg
        exact k _ hg (hE2.trans hE3)
    · exact ⟨⟨_, rfl, by rw [← hg]; rfl⟩, hE2⟩
  · rintro v w2 ⟨⟨x, rfl, hx⟩, hE⟩
    exact ⟨x, rfl, no, hE, Away.no _, by rw [hx], hE⟩
set_option maxRecDepth 20000
set_option maxHeartbeats 1000000
theorem catch_idle (p : Addr) (w : World) :
    CallsD Tryz.prog 78 #[.pointer (some p)] .returning w fun e u' w' => e = .returned (.tuple #[]) ∧ u' = .returning ∧ w' = w := by
  refine callsD_of_wpS Tryz.func78 rfl fun c₀ cs hu => ?_
  apply wpS_seq
  apply wpS_region
  simp [wpOpsS, go_sem, recoverD, hu, Tryz.ntmps78, Exit.thenS]
  refine wpS_of_wp ?_
  have ht : (#[Value.pointer (some p)] ++ (Array.replicate 9 undef).setIfInBounds 3 Value.nilIface) = #[Value.pointer (some p), undef, undef, undef, Value.nilIface, undef, undef, undef, undef, undef] := rfl
  rw [ht]
  go_wp2
  cases c₀
  simp_all [bodyPostS, results, Tryz.results78]
theorem one_cell {w : World} {b : Nat} {x : Value} {t : Nat} (h : w.heap[b]? = some (.cells #[x] t (0, 0))) : w.cell? ⟨b, 0, none⟩ = some x ∧ w.frozen? ⟨b, 0, none⟩ = false := by
  constructor
  · simp only [World.cell?, h]; rfl
  · simp only [World.frozen?, h]; rfl
theorem alloc_keep {w : World} {b : Nat} {o o2 : Obj} (h : w.heap[b]? = some o) : (w.alloc o2).heap[b]? = some o := by
  have := lt_of_get h
  simp only [World.alloc, Array.getElem?_push]
  rw [if_neg (by omega)]; exact h
theorem alloc_new {w : World} {o : Obj} : (w.alloc o).heap[w.heap.size]? = some o := by show (w.heap.push o)[w.heap.size]? = some o; exact Array.getElem?_push_size
theorem catch_unfit (b : Nat) (older : List PanicEntry) (x : Int) (w : World) (h : w.heap[b]? = some (.cells #[.int .i64 x] 3 (0, 0))) :
    CallsD Tryz.prog 78 #[.pointer (some ⟨b, 0, none⟩)] (.panicking ({ v := .iface 98 (.agg #[]), recovered := false } :: older)) w fun e u' w' =>
      e = .returned (.tuple #[]) ∧ u' = .panicking ({ v := .iface 98 (.agg #[]), recovered := true } :: older) ∧ w' = (w.alloc (.cells #[] 98)).setCell ⟨b, 0, none⟩ (.int .i64 0) := by
  refine callsD_of_wpS Tryz.func78 rfl fun c₀ cs hu => ?_
  apply wpS_seq
  apply wpS_region
  simp [wpOpsS, go_sem, recoverD, hu, Tryz.ntmps78, Exit.thenS]
  refine wpS_of_wp ?_
  have ht : (#[Value.pointer (some ⟨b, 0, none⟩)] ++ (Array.replicate 9 undef).setIfInBounds 3 (.iface 98 (.agg #[]))) = #[Value.pointer (some ⟨b, 0, none⟩), undef, undef, undef, .iface 98 (.agg #[]), undef, undef, undef, undef, undef] := rfl
  rw [ht]
  have hta : ∀ w : World, Sem.run Tryz.prog (Instr.typeAssert (.iface 98 (.agg #[])) 20 98 true) w = .ok (.tuple #[.agg #[], .bool true]) w := fun w => by simp only [Instr.typeAssert, Sem.run_bind, run_underlying (Tryz.underlying98) w, Result.andThen_ok, if_pos, Sem.run_pure]
  obtain ⟨hc, hz⟩ := one_cell (alloc_keep (o2 := .cells #[] 98) h)
  go_wp2
  refine ⟨rfl, _, rfl, _, results_none rfl _ _ _, rfl, rfl, rfl⟩
theorem alloc_ext (w : World) (o : Obj) : Ext w (w.alloc o) :=
  ⟨rfl, rfl, rfl, by simp only [World.size_alloc]; omega, fun k hk _ => by simp only [World.alloc, Array.getElem?_push]; rw [if_neg (by omega)]⟩
theorem set_upd (w : World) (b : Nat) (v : Value) : Upd w (w.setCell ⟨b, 0, none⟩ v) (fun x => x = b) :=
  ⟨rfl, rfl, rfl, by simp [World.setCell], fun k hk hs => by simp only [World.setCell, Array.getElem?_modify]; rw [if_neg (fun e => hs e.symm)]⟩
theorem set_at {w : World} {b : Nat} {x : Value} {t : Nat} (h : w.heap[b]? = some (.cells #[x] t (0, 0))) (v : Value) : (w.setCell ⟨b, 0, none⟩ v).heap[b]? = some (.cells #[v] t (0, 0)) := by
  simp only [World.setCell, Array.getElem?_modify, h]; simp
theorem res49 {tm : Array Value} {w : World} {b : Nat} {x : Int} (h : tm[2]?.getD undef = .pointer (some ⟨b, 0, none⟩)) (hh : w.heap[b]? = some (.cells #[.int .i64 x] 3 (0, 0))) : (results Tryz.f49 tm).run Tryz.prog w = .ok (.int .i64 x) w := by
  obtain ⟨hc, hz⟩ := one_cell hh
  simp [results, Tryz.results49, go_sem, h, hc]
theorem start_lst {w w2 : World} {G : Nat → Prop} {zs : List Int} {B : Option Addr} {bc : Nat} (h2 : IntsR w G zs B zs.length bc) (hE : Ext w w2) (hG : ∀ x, G x → x < w.heap.size) :
    Lst (((w2.alloc (.map #[] 0)).alloc (.map #[] 0)).alloc (.cells #[.slice B zs.length bc, .map (some w2.heap.size), .map (some (w2.heap.size + 1)), .int .i64 0] 103)) (w2.heap.size + 1 + 1) w2.heap.size (w2.heap.size + 1) zs B bc
      ⟨0, List.replicate zs.length none, List.replicate zs.length 0, true⟩ := by
  have hs := hE.size
  have e1 : w2.heap.size + 1 = (w2.alloc (.map #[] 0)).heap.size := by simp
  have e2 : w2.heap.size + 1 + 1 = ((w2.alloc (.map #[] 0)).alloc (.map #[] 0)).heap.size := by simp
  have hE3 := ((alloc_ext w2 (.map #[] 0)).trans (alloc_ext _ (.map #[] 0))).trans (alloc_ext _ (.cells #[.slice B zs.length bc, .map (some w2.heap.size), .map (some (w2.heap.size + 1)), .int .i64 0] 103))
  refine ⟨by rw [e2]; exact alloc_new, ?_, ⟨fun _ => none, ⟨[], 0, alloc_keep (alloc_keep alloc_new), fun _ _ => rfl, by simp [bornOk]⟩, fun i x hx => ?_⟩, ⟨fun _ => none, ⟨[], 0, by rw [e1]; exact alloc_keep alloc_new, fun _ _ => rfl, by simp [bornOk]⟩, fun i y hy => ?_⟩, by simp, by simp, by omega, by omega, by omega⟩
  · exact RowIn.mono (RowIn.upd h2 (hE.trans hE3) (no_no _)) fun x hx hS => by
      have := hG x hx
      rcases hS with e | e | e <;> omega
  · have := List.getElem?_eq_some_iff.1 hx
    obtain ⟨hi, hx⟩ := this
    simp at hx
    subst hx; rfl
  · obtain ⟨hi, hy⟩ := List.getElem?_eq_some_iff.1 hy
    simp at hy
theorem kind49 (p : Pl) {w : World} {F G : Nat → Prop} {A : Option Addr} {l c : Nat} {B : Option Addr} {bl bc : Nat} (h : NdsR w F p.root.kids A l c) (h2 : IntsR w G p.cells B bl bc) (hF : ∀ x, F x ∨ G x → x < w.heap.size) :
    CallsX E.P 49 #[plA p A l c B bl bc] w (IsV (.int .i64 (planKind p)) w) never := by
  refine ⟨?_⟩
  show Calls Tryz.prog 49 _ _ _
  have hmf : ∀ (fn : Fn) (first cap : Array Value) (w : World), (Instr.makeFunc fn first cap).run Tryz.prog w = .ok (.func fn first cap) w := fun _ _ _ _ => rfl
  have hmk : ∀ (t : Nat) (w : World), Sem.run Tryz.prog (Instr.makeMap t none) w = .ok (.map (some w.heap.size)) (w.alloc (.map #[] 0)) := fun _ _ => rfl
  obtain rfl := h2.len
  have hE1 : Ext w ((w.alloc (Obj.cells #[.int .i64 p.root.k, .int .i64 p.root.n, .string p.root.s, .slice A l c, .slice B p.cells.length bc] 27)).alloc (Obj.cells #[.int .i64 0] 3)) := (alloc_ext _ _).trans (alloc_ext _ _)
  have k1 : ((w.alloc (Obj.cells #[.int .i64 p.root.k, .int .i64 p.root.n, .string p.root.s, .slice A l c, .slice B p.cells.length bc] 27)).alloc (Obj.cells #[.int .i64 0] 3)).heap[w.heap.size]? = some (Obj.cells #[.int .i64 p.root.k, .int .i64 p.root.n, .string p.root.s, .slice A l c, .slice B p.cells.length bc] 27) := alloc_keep alloc_new
  have k2 : ((w.alloc (Obj.cells #[.int .i64 p.root.k, .int .i64 p.root.n, .string p.root.s, .slice A l c, .slice B p.cells.length bc] 27)).alloc (Obj.cells #[.int .i64 0] 3)).heap[w.heap.size + 1]? = some (Obj.cells #[.int .i64 0] 3) := by
    have := alloc_new (w := w.alloc (Obj.cells #[.int .i64 p.root.k, .int .i64 p.root.n, .string p.root.s, .slice A l c, .slice B p.cells.length bc] 27)) (o := Obj.cells #[.int .i64 0] 3)
    rwa [World.size_alloc] at this
  have k3 : w.heap.size + 2 ≤ ((w.alloc (Obj.cells #[.int .i64 p.root.k, .int .i64 p.root.n, .string p.root.s, .slice A l c, .slice B p.cells.length bc] 27)).alloc (Obj.cells #[.int .i64 0] 3)).heap.size := by simp
  go_enter_defers Tryz.func49, Tryz.ntmps49
  go_wp2_with fail
  · generalize ((w.alloc (Obj.cells #[.int .i64 p.root.k, .int .i64 p.root.n, .string p.root.s, .slice A l c, .slice B p.cells.length bc] 27)).alloc (Obj.cells #[.int .i64 0] 3)) = w1 at *
    refine (bad_c p.cells (h2.ext hE1)).out.mono ?_
    rintro (v | _ | _) w2 hR
    · obtain ⟨rfl, hE2⟩ := hR
      have g1 : w2.heap[w.heap.size]? = _ := (hE2.keep _ (lt_of_get k1) (fun h => h)).trans k1
      have g2 : w2.heap[w.heap.size + 1]? = _ := (hE2.keep _ (lt_of_get k2) (fun h => h)).trans k2
      have hs2 := hE2.size
      have hE02 := hE1.trans hE2
      have c4 : w2.cell? ⟨w.heap.size, 4, none⟩ = some (.slice B p.cells.length bc) := by simp only [World.cell?, g1]; rfl
      obtain ⟨c5, z5⟩ := one_cell g2
      have g3 : (((w2.alloc (.map #[] 0)).alloc (.map #[] 0)).alloc (.cells #[.slice B p.cells.length bc, .map (some w2.heap.size), .map (some (w2.heap.size + 1)), .int .i64 0] 103)).heap[w.heap.size]? = _ := alloc_keep (alloc_keep (alloc_keep g1))
      have g4 : (((w2.alloc (.map #[] 0)).alloc (.map #[] 0)).alloc (.cells #[.slice B p.cells.length bc, .map (some w2.heap.size), .map (some (w2.heap.size + 1)), .int .i64 0] 103)).heap[w.heap.size + 1]? = _ := alloc_keep (alloc_keep (alloc_keep g2))
      have hE03 := hE02.trans (((alloc_ext w2 (.map #[] 0)).trans (alloc_ext _ (.map #[] 0))).trans (alloc_ext _ (.cells #[.slice B p.cells.length bc, .map (some w2.heap.size), .map (some (w2.heap.size + 1)), .int .i64 0] 103)))
      have hL := start_lst h2 hE02 (fun x hx => hF x (.inr hx))
      have d0 : (((w2.alloc (.map #[] 0)).alloc (.map #[] 0)).alloc (.cells #[.slice B p.cells.length bc, .map (some w2.heap.size), .map (some (w2.heap.size + 1)), .int .i64 0] 103)).cell? ⟨w.heap.size, 0, none⟩ = some (.int .i64 p.root.k) := by rw [World.cell?, g3]; rfl
      have d1 : (((w2.alloc (.map #[] 0)).alloc (.map #[] 0)).alloc (.cells #[.slice B p.cells.length bc, .map (some w2.heap.size), .map (some (w2.heap.size + 1)), .int .i64 0] 103)).cell? ⟨w.heap.size, 1, none⟩ = some (.int .i64 p.root.n) := by rw [World.cell?, g3]; rfl
      have d2 : (((w2.alloc (.map #[] 0)).alloc (.map #[] 0)).alloc (.cells #[.slice B p.cells.length bc, .map (some w2.heap.size), .map (some (w2.heap.size + 1)), .int .i64 0] 103)).cell? ⟨w.heap.size, 2, none⟩ = some (.string p.root.s) := by rw [World.cell?, g3]; rfl
      have d3 : (((w2.alloc (.map #[] 0)).alloc (.map #[] 0)).alloc (.cells #[.slice B p.cells.length bc, .map (some w2.heap.size), .map (some (w2.heap.size + 1)), .int .i64 0] 103)).cell? ⟨w.heap.size, 3, none⟩ = some (.slice A l c) := by rw [World.cell?, g3]; rfl
      cases hb : cellsBad p.cells with
      | true =>
        go_wp2_with fail
        refine ⟨.int .i64 0, res49 rfl (set_at g2 _), ?_, Upd.step hE02 (set_upd _ _ _) (by intro x hx; omega)⟩
        rw [planKind, hb, if_pos rfl]
        split <;> rfl
      | false =>
        go_wp2_with fail
        have hpk1 : ∀ r, lookK p.cells p.root.size 0 0 ⟨0, List.replicate p.cells.length none, List.replicate p.cells.length 0, true⟩ p.root = some r → planKind p = r.1 := fun r e => by
          rw [planKind, hb, if_neg (by simp; omega), if_neg Bool.false_ne_true, e]
        have hpk0 : lookK p.cells p.root.size 0 0 ⟨0, List.replicate p.cells.length none, List.replicate p.cells.length 0, true⟩ p.root = none → planKind p = 0 := fun e => by
          rw [planKind, hb, if_neg (by simp; omega), if_neg Bool.false_ne_true, e]
        refine (kindK_c p.root.size p.root (Nat.le_refl _) 0 0 _ hL (NdsG.mono (h.ext hE03) fun x hx hS => by
          have := hF x (.inl hx)
          have := hE02.size
          rcases hS with e | e | e <;> omega)).out.mono ?_
        have hk4 : ∀ {w4 : World}, Upd (((w2.alloc (.map #[] 0)).alloc (.map #[] 0)).alloc (.cells #[.slice B p.cells.length bc, .map (some w2.heap.size), .map (some (w2.heap.size + 1)), .int .i64 0] 103)) w4 (S3 (w2.heap.size + 1 + 1) w2.heap.size (w2.heap.size + 1)) →
            w4.heap[w.heap.size + 1]? = some (.cells #[.int .i64 0] 3 (0, 0)) ∧ Ext w w4 := fun {w4} hU => by
          refine ⟨(hU.keep _ (lt_of_get g4) (fun hS => ?_)).trans g4, Upd.step hE03 hU fun x hx => ?_⟩
          · rcases hS with e | e | e <;> omega
          · have := hE02.size
            rcases hx with e | e | e <;> omega
        rintro (v | ch | _) w4 hR
        · obtain ⟨pr, hpr, rfl, hL4, hU⟩ := hR
          obtain ⟨hc4, hE4⟩ := hk4 hU
          obtain ⟨e5, e6⟩ := one_cell hc4
          go_wp2_with fail
          refine leaves_cons (f := 78) (args := #[.pointer (some ⟨w.heap.size + 1, 0, none⟩)]) (by simp) (by simp [go_sem]) ?_
          refine (catch_idle _ _).mono ?_
          rintro e u' w'' ⟨rfl, rfl, rfl⟩
          exact ⟨.int .i64 pr.1, res49 rfl (set_at hc4 _), by rw [hpk1 _ hpr], Upd.step hE4 (set_upd _ _ _) (by intro x hx; omega)⟩
        · obtain ⟨hnone, rfl, hU⟩ := hR
          obtain ⟨hc4, hE4⟩ := hk4 hU
          refine leaves_cons (f := 78) (args := #[.pointer (some ⟨w.heap.size + 1, 0, none⟩)]) (by simp) (by simp [go_sem]) ?_
          refine (catch_unfit (w.heap.size + 1) [] 0 w4 hc4).mono ?_
          rintro e u' w'' ⟨rfl, rfl, rfl⟩
          exact ⟨.int .i64 0, res49 rfl (set_at (alloc_keep hc4) _), by rw [hpk0 hnone], Upd.step (hE4.trans (alloc_ext _ _)) (set_upd _ _ _) (by intro x hx; omega)⟩
        · exact hR.elim
    · exact hR.elim
    · exact hR.elim
  · refine ⟨.int .i64 0, res49 rfl k2, ?_, hE1⟩
    rename_i hx
    rw [planKind, if_pos (by simp; omega)]
theorem planKind_c (p : Pl) {w : World} {F G : Nat → Prop} {A : Option Addr} {l c : Nat} {B : Option Addr} {bl bc : Nat} (h : NdsR w F p.root.kids A l c) (h2 : IntsR w G p.cells B bl bc) (hF : ∀ x, F x ∨ G x → x < w.heap.size) :
    CallsX E.P 49 #[plA p A l c B bl bc] w (IsV (.int .i64 (refKind p)) w) never := planKind_eq p ▸ kind49 p h h2 hF
theorem planRight_c (p : Pl) {w : World} {F G : Nat → Prop} {A : Option Addr} {l c : Nat} {B : Option Addr} {bl bc : Nat} (h : NdsR w F p.root.kids A l c) (h2 : IntsR w G p.cells B bl bc) (hF : ∀ x, F x ∨ G x → x < w.heap.size) :
    CallsX E.P 28 #[plA p A l c B bl bc] w (IsV (.bool (refKind p != 0)) w) never := by
  refine vc28 ?_
  intro id hid w1 hE hi
  exact callI (planKind_c p (h.ext hE) (h2.ext hE) (fun x hx => by have := hF x hx; have := hE.size; omega)) fun w2 hE2 => ⟨rfl, hE.trans hE2⟩
def rightB (p : Pl) : Bool := refKind p != 0
theorem right_le {p : Pl} (h : rightB p = true) : p.cells.length ≤ 256 := by
  unfold rightB refKind at h
  split at h
  · cases h
  · rename_i h2; simp at h2; omega
end
section
open Go Go.Vx Go.Proofs
end
section
open Go Go.Vx Go.Proofs
end
section
open Go Go.Vx Go.Proofs Go.ChangeShapes Go.WideShapes Go.ChangeAt Go.RowKit Go.Joins
set_option maxRecDepth 100000
set_option maxHeartbeats 400000
def Old (w : World) : Nat → Prop := fun b => b < w.heap.size
section
variable {H : Type}
theorem weights_mem_all {e : TypeId} {x : DataW H} {m : Nat} (hm : m ∈ x.weights Tryz.prog e) : ∀ {l : List (DataW H)}, x ∈ l → m ∈ DataW.weightsAll Tryz.prog e l
  | y :: l, h => by
    rw [DataW.weightsAll, List.mem_append]
    rcases List.mem_cons.1 h with rfl | h
    · exact .inl hm
    · exact .inr (weights_mem_all hm h)
def Fits (t : TypeId) (d : DataW H) : Prop := ∀ m ∈ d.weights Tryz.prog t, m ≤ reachBytes
theorem Fits.slice {t e : TypeId} (ht : Tryz.prog.underlying t = some (.slice e)) {elems spare : List (DataW H)} (h : Fits t (.slice elems spare)) : elems.length * Tryz.prog.bytesOf e ≤ reachBytes ∧ ∀ x ∈ elems, Fits e x := by
  unfold Fits at h
  simp only [DataW.weights, ht, List.mem_cons, List.mem_append] at h
  refine ⟨Nat.le_trans (Nat.mul_le_mul_right _ (Nat.le_add_right _ _)) (h _ (.inl rfl)), fun x hx m hm => h m (.inr (.inl (weights_mem_all hm hx)))⟩
theorem Fits.part {t : TypeId} {fs : Array Field} (ht : Tryz.prog.underlying t = some (.struct fs)) {parts : List (DataW H)} (h : Fits t (.agg parts)) {j : Nat} {f : Field} {x : DataW H} (hf : fs[j]? = some f) (hx : parts[j]? = some x) : Fits f.type x := fun m hm => h m (by
  simp only [DataW.weights, ht]
  exact DataW.weights_mem_each (j := j) (by rw [List.getElem?_map, Array.getElem?_toList, hf]; rfl) hx m hm)
end
section
variable {H : Type} {enc : TypeId × Value → H} {w : World} {sp : Nat → Bool} {hd : Bool}
end
theorem below_ext {w w' : World} (k : Ext w w') : Below w.heap.size w w' := ⟨k.os, k.tape, k.output, k.size, fun i hi => k.keep i hi fun h => h⟩
theorem post_true {H : Type} {enc : TypeId × Value → H} {fn : Func} {s : ChangeSpec} {t tb : TypeId} (hp : fn.params = #[t]) (hr : fn.resultTypes = #[tb]) (hb : Tryz.prog.underlying tb = some .bool) (hs : s.vars = []) (hf : ∀ d, s.fn H [d] = { results := [.lit (.bool true)], args := [d] })
    (hl : laidOutB Tryz.prog = true) (hrd : Tryz.prog.readableRec t = true) (ht : t < Tryz.prog.types.size) {W W' : World} {args : Array Value} {ds gs : List (DataW H)} {before : List MemPlace} (hW : DataW.Whole enc Tryz.prog fn.params.toList s.vars false W args.toList ds gs before) (k : Ext W W') :
    s.post enc Tryz.prog fn false true false false W args (.bool true) W' := by
  have hW' := hW
  obtain ⟨p, q, hA, hV, rfl, hfz, hnd⟩ := hW
  rw [hp] at hA
  rw [hs] at hV
  obtain ⟨v, d, e1, e2, h0⟩ := trodAll_one hA
  obtain ⟨rfl, rfl⟩ := trodVars_none hV
  subst e2
  have hlt := DataW.Whole.lt hW'
  have hB := below_ext k
  refine ⟨[d], [], _, [], p, [], hW', ?_, ?_, ?_, hB.frame _, fun h => nomatch h⟩
  · have e3 : s.fn H ([d] ++ []) = { results := [.lit (.bool true)], args := [d] } := hf d
    rw [e3, hr]
    exact trodAll_mk1 (shut_bool hb true)
  · have e3 : s.fn H ([d] ++ []) = { results := [.lit (.bool true)], args := [d] } := hf d
    rw [e3, hp, e1]
    exact trodAll_mk1 (WideElems.Trod_stays hl hrd ht h0 (fun x hx => hB.same (hlt x (List.mem_append_left _ hx))) (fun x hx => decide_eq_true (hlt x (List.mem_append_left _ hx))))
  · rw [hs]
    have e3 : s.fn H ([d] ++ []) = { results := [.lit (.bool true)], args := [d] } := hf d
    rw [e3]
    rfl
theorem laidOut : laidOutB Tryz.prog = true := by kernel_rfl
end
section
open Go Go.Vx Go.Proofs Go.ChangeShapes Go.WideShapes Go.ChangeAt Go.RowKit Go.Joins
set_option maxRecDepth 100000
theorem readable9 : Tryz.prog.readableRec 9 = true := by kernel_rfl
theorem types9 : 9 < Tryz.prog.types.size := of_decide_eq_true (by kernel_rfl)
theorem text_calls {H : Type} {enc : TypeId × Value → H} {f : FuncId} {fn : Func} {s : ChangeSpec} {tb : TypeId} (hp : fn.params = #[9]) (hr : fn.resultTypes = #[tb]) (hb : Tryz.prog.underlying tb = some .bool) (hs : s.vars = []) (hf : ∀ d, s.fn H [d] = { results := [.lit (.bool true)], args := [d] })
    (law : ∀ (x : ByteArray) {w : World}, CallsX E.P f #[.string x] w (IsV (.bool true) w) never)
    {W : World} {base : Nat} {args : Array Value} {ds gs : List (DataW H)} {before : List MemPlace} (hval : ∀ (j : Nat) t v, fn.params[j]? = some t → args[j]? = some v → Value.okWide Tryz.prog W .any base t v) (hW : DataW.Whole enc Tryz.prog fn.params.toList s.vars false W args.toList ds gs before) :
    Calls Tryz.prog f args W fun e W' => ∃ v, e = .returned v ∧ s.post enc Tryz.prog fn false true false false W args v W' := by
  have hW' := hW
  obtain ⟨p, q, hA, hV, _, _, _⟩ := hW
  rw [hp] at hA
  obtain ⟨v, d, rfl, rfl, h0⟩ := trodAll_one hA
  obtain ⟨x, rfl, rfl, rfl, _⟩ := ChangeMaps.open_string Tryz.underlying9 (hval 0 9 v (by rw [hp]; rfl) rfl) h0
  refine (law x).out.mono fun e W' h => ?_
  cases e with
  | returned v =>
    have h : v = Value.bool true ∧ Ext W W' := h
    obtain ⟨rfl, hE⟩ := h
    exact ⟨_, rfl, post_true hp hr hb hs hf laidOut readable9 types9 hW' hE⟩
  | panicked ch => exact (h : never ch W').elim
  | outgrown => exact h.elim
end
section
open Go Go.Vx Go.Proofs
set_option maxRecDepth 100000
variable {w : World} {R : Value → World → Prop} {X : ContX}
theorem vc6 {a0 a1 : Int} {a2 : ByteArray} {a3 : Option Addr} {a3l a3c : Nat} {a4 : Option Addr} {a4l a4c : Nat}  (h : 
 nB w fun id => fL w [] fun w1 => id < w1.heap.size → cB 8 #[Ap a0 a1 a2 a3 a3l a3c a4 a4l a4c] w1 [id] X fun x w2 => dB x (R (.bool true) w2) (cB 21 #[] w2 [id] X fun x1 w21 => cQ 22 #[Ap a0 a1 a2 a3 a3l a3c a4 a4l a4c] w21 [id] X fun x2 x3 x4 a n c a1_1 n1 c1 x5 w22 => nB w22 fun id1 => fL w22 [] fun w11 => id1 < w11.heap.size → cP 11 #[Ap a0 a1 a2 a3 a3l a3c a4 a4l a4c] w11 [id, id1] X fun x6 x7 x8 a2_1 n2 c2 a3_1 n3 c3 w23 => nB w23 fun id2 => fL w23 [] fun w12 => id2 < w12.heap.size → ∃ (I : Int → World → Prop), ∃ (m : Int → Nat), I 0 w12 ∧ ∀ (jk : Nat → Value) (x9 : Int) (w24 : World), I x9 w24 → dB (decide (x9 < 2)) (cQ 23 #[Ap x6 x7 x8 a2_1 n2 c2 a3_1 n3 c3] w24 [id, id1, id2] X fun x10 x11 x12 a4_1 n4 c4 a5 n5 c5 x13 w25 => nB w25 fun id3 => fL w25 [] fun w13 => id3 < w13.heap.size → cB 13 #[Ap x10 x11 x12 a4_1 n4 c4 a5 n5 c5, Ap x2 x3 x4 a n c a1_1 n1 c1] w13 [id, id1, id2, id3] X fun x14 w26 => cB 14 #[Ap x6 x7 x8 a2_1 n2 c2 a3_1 n3 c3, Ap a0 a1 a2 a3 a3l a3c a4 a4l a4c] w26 [id, id1, id2, id3] X fun x15 w27 => dB (!x1) (R (.bool false) w27) (dB (!x14) (R (.bool false) w27) (dB (!x15) (R (.bool false) w27) (dB (x13 != x5) (R (.bool false) w27) (cU 15 #[Ap x10 x11 x12 a4_1 n4 c4 a5 n5 c5] w27 [id, id1, id2, id3] X fun v8 w28 => cB 14 #[Ap x6 x7 x8 a2_1 n2 c2 a3_1 n3 c3, Ap a0 a1 a2 a3 a3l a3c a4 a4l a4c] w28 [id, id1, id2, id3] X fun x16 w29 => dB (!x16) (R (.bool false) w29) (I (w64 (x9 + 1)) w29 ∧ m (w64 (x9 + 1)) < m x9)))))) (R (.bool true) w24))
 ) : CallsX E.P 6 #[Ap a0 a1 a2 a3 a3l a3c a4 a4l a4c] w R X :=
  calls_vc E_ok ⟨[(7, ⟨[(7, .int .i64)], []⟩)], []⟩ (f := 6) Tryz.func6 rfl [(Ap a0 a1 a2 a3 a3l a3c a4 a4l a4c, .no)] [] (bls0) nod0 (plain_of rfl) (shs_of ⟨trivial, trivial⟩) h (by kernel_rfl)
theorem vc7 {a : ByteArray}  (h : 
 ∃ R1 X', CallsX E.P 16 #[.string a] w R1 X' ∧ (∀ v w2, R1 v w2 → ∃ x x1, ∃ x2 a1, ∃ n c, ∃ x3 x4 x5, v = .tuple #[Ae x x1 x2 a1 n c x3, .int .i64 x4, .int .i64 x5] ∧ ∃ S, Upd w w2 S ∧ Away [] S ∧ nB w2 fun id => fL w2 [] fun w1 => id < w1.heap.size → cQ 17 #[Ae x x1 x2 a1 n c x3] w1 [id] X fun x6 x7 x8 a2 n1 c1 a3 n2 c2 x9 w21 => nB w21 fun id1 => dB (x4 != 0) (fL w21 [] fun w11 => id1 < w11.heap.size → cB 21 #[] w11 [id, id1] X fun x10 w22 => R (.bool x10) w22) (dB (x9 != 0) (fL w21 [] fun w12 => id1 < w12.heap.size → cB 21 #[] w12 [id, id1] X fun x11 w24 => R (.bool x11) w24) (fL w21 [] fun w13 => id1 < w13.heap.size → cB 6 #[Ap x6 x7 x8 a2 n1 c1 a3 n2 c2] w13 [id, id1] X fun x12 w26 => R (.bool x12) w26))) ∧ PX X' X
 ) : CallsX E.P 7 #[.string a] w R X :=
  calls_vc E_ok ⟨[], []⟩ (f := 7) Tryz.func7 rfl [(.string a, .no)] [] (bls0) nod0 (plain_of rfl) (shs_of ⟨trivial, trivial⟩) h (by kernel_rfl)
theorem vc22 {a0 a1 : Int} {a2 : ByteArray} {a3 : Option Addr} {a3l a3c : Nat} {a4 : Option Addr} {a4l a4c : Nat}  (h : 
 nB w fun id => nB w fun id1 => fL w [] fun w1 => id < w1.heap.size → id1 < w1.heap.size → cB 25 #[Ap a0 a1 a2 a3 a3l a3c a4 a4l a4c] w1 [id, id1] X fun x w2 => dB (!x) (fL w2 [id1] fun w11 => R (.tuple #[Ap 0 0 (ByteArray.mk #[]) none 0 0 none 0 0, .int .i64 140]) w11) (fL w2 [] fun w12 => cA 45 #[Av a0 a1 a2 a3 a3l a3c] w12 [id, id1] X fun x1 x2 x3 a n c w21 => ∃ R3, RunsTo E.P (Builtin.append_ #[25, 25] 25 #[.slice none 0 0, .slice a4 a4l a4c]) w21 R3 ∧ ∀ v2 w22, R3 v2 w22 → ∃ a1 n1 c1, v2 = .slice a1 n1 c1 ∧ ∃ S2, Upd w21 w22 S2 ∧ Away [id, id1] S2 ∧ fL w22 [id1] fun w13 => R (.tuple #[Ap x1 x2 x3 a n c a1 n1 c1, .int .i64 0]) w13)
 ) : CallsX E.P 22 #[Ap a0 a1 a2 a3 a3l a3c a4 a4l a4c] w R X :=
  calls_vc E_ok ⟨[], []⟩ (f := 22) Tryz.func22 rfl [(Ap a0 a1 a2 a3 a3l a3c a4 a4l a4c, .no)] [] (bls0) nod0 (plain_of rfl) (shs_of ⟨trivial, trivial⟩) h (by kernel_rfl)
theorem vc23 {a0 a1 : Int} {a2 : ByteArray} {a3 : Option Addr} {a3l a3c : Nat} {a4 : Option Addr} {a4l a4c : Nat}  (h : 
 nB w fun id => nB w fun id1 => fL w [] fun w1 => id < w1.heap.size → id1 < w1.heap.size → cB 28 #[Ap a0 a1 a2 a3 a3l a3c a4 a4l a4c] w1 [id, id1] X fun x w2 => dB (!x) (fL w2 [id1] fun w11 => R (.tuple #[Ap 0 0 (ByteArray.mk #[]) none 0 0 none 0 0, .int .i64 140]) w11) (fL w2 [] fun w12 => cA 46 #[Av a0 a1 a2 a3 a3l a3c] w12 [id, id1] X fun x1 x2 x3 a n c w21 => cS 29 #[.slice a4 a4l a4c] w21 [id, id1] X fun a1 n1 c1 w22 => cS 32 #[.slice a1 n1 c1] w22 [id, id1] X fun a2 n2 c2 w23 => fL w23 [id1] fun w13 => R (.tuple #[Ap x1 x2 x3 a n c a2 n2 c2, .int .i64 0]) w13)
 ) : CallsX E.P 23 #[Ap a0 a1 a2 a3 a3l a3c a4 a4l a4c] w R X :=
  calls_vc E_ok ⟨[], []⟩ (f := 23) Tryz.func23 rfl [(Ap a0 a1 a2 a3 a3l a3c a4 a4l a4c, .no)] [] (bls0) nod0 (plain_of rfl) (shs_of ⟨trivial, trivial⟩) h (by kernel_rfl)
theorem vc45 {a0 a1 : Int} {a2 : ByteArray} {a3 : Option Addr} {a3l a3c : Nat}  (h : 
 nB w fun id => nB w fun id1 => nB w fun id2 => fL w [] fun w1 => id < w1.heap.size → id1 < w1.heap.size → id2 < w1.heap.size → ∃ (I : Int → Option Addr → Nat → Nat → World → Prop), ∃ (m : Int → Option Addr → Nat → Nat → Nat), I 0 none 0 0 w1 ∧ ∀ (jk : Nat → Value) (x : Int) (a : Option Addr) (n c : Nat) (w2 : World), I x a n c w2 → dB (decide (x < (↑a3l : Int))) (iX x a3l a3 fun ad => lA w2 (Addr.add ad (Int.toNat x * 4)) fun x1 x2 x3 a1 n1 c1 => cA 45 #[Av x1 x2 x3 a1 n1 c1] w2 [id, id1, id2] X fun x4 x5 x6 a2 n2 c2 w21 => nB w21 fun id3 => nB w21 fun id4 => fL w21 [] fun w11 => id3 < w11.heap.size → id4 < w11.heap.size → hA w11 id4 #[.int .i64 x4, .int .i64 x5, .string x6, .slice a2 n2 c2] 24 → ∃ R2, RunsTo E.P (Builtin.append_ #[22, 22] 22 #[.slice a n c, .slice (some ⟨id4, 0, none⟩) 1 1]) w11 R2 ∧ ∀ v1 w22, R2 v1 w22 → ∃ a3 n3 c3, v1 = .slice a3 n3 c3 ∧ ∃ S1, Upd w11 w22 S1 ∧ Away [id, id1, id2, id3, id4] S1 ∧ fL w22 [id2] fun w12 => hA w12 id4 #[.int .i64 x4, .int .i64 x5, .string x6, .slice a2 n2 c2] 24 → I (w64 (x + 1)) a3 n3 c3 w12 ∧ m (w64 (x + 1)) a3 n3 c3 < m x a n c) (dB (a0 == 6) (cA 63 #[Av a0 a1 a2 a n c] w2 [id, id1, id2] X fun x7 x8 x9 a4 n4 c4 w24 => fL w24 [id1] fun w13 => R (Av x7 x8 x9 a4 n4 c4) w13) (dB (a0 == 7) (cA 63 #[Av a0 a1 a2 a n c] w2 [id, id1, id2] X fun x10 x11 x12 a5 n5 c5 w26 => fL w26 [id1] fun w14 => R (Av x10 x11 x12 a5 n5 c5) w14) (dB (a0 == 26) (cA 63 #[Av a0 a1 a2 a n c] w2 [id, id1, id2] X fun x13 x14 x15 a6 n6 c6 w28 => fL w28 [id1] fun w15 => R (Av x13 x14 x15 a6 n6 c6) w15) (dB (a0 == 8) (cA 64 #[Av a0 a1 a2 a n c] w2 [id, id1, id2] X fun x16 x17 x18 a7 n7 c7 w210 => fL w210 [id1] fun w16 => R (Av x16 x17 x18 a7 n7 c7) w16) (dB (a0 == 9) (cA 64 #[Av a0 a1 a2 a n c] w2 [id, id1, id2] X fun x19 x20 x21 a8 n8 c8 w212 => fL w212 [id1] fun w17 => R (Av x19 x20 x21 a8 n8 c8) w17) (dB (a0 == 10) (cA 64 #[Av a0 a1 a2 a n c] w2 [id, id1, id2] X fun x22 x23 x24 a9 n9 c9 w214 => fL w214 [id1] fun w18 => R (Av x22 x23 x24 a9 n9 c9) w18) (dB (a0 == 11) (cA 64 #[Av a0 a1 a2 a n c] w2 [id, id1, id2] X fun x25 x26 x27 a10 n10 c10 w216 => fL w216 [id1] fun w19 => R (Av x25 x26 x27 a10 n10 c10) w19) (dB (a0 == 12) (cA 64 #[Av a0 a1 a2 a n c] w2 [id, id1, id2] X fun x28 x29 x30 a11 n11 c11 w218 => fL w218 [id1] fun w110 => R (Av x28 x29 x30 a11 n11 c11) w110) (dB (a0 == 13) (cA 65 #[Av a0 a1 a2 a n c] w2 [id, id1, id2] X fun x31 x32 x33 a12 n12 c12 w220 => fL w220 [id1] fun w111 => R (Av x31 x32 x33 a12 n12 c12) w111) (dB (a0 == 14) (cA 65 #[Av a0 a1 a2 a n c] w2 [id, id1, id2] X fun x34 x35 x36 a13 n13 c13 w222 => fL w222 [id1] fun w112 => R (Av x34 x35 x36 a13 n13 c13) w112) (dB (a0 == 15) (cA 65 #[Av a0 a1 a2 a n c] w2 [id, id1, id2] X fun x37 x38 x39 a14 n14 c14 w224 => fL w224 [id1] fun w113 => R (Av x37 x38 x39 a14 n14 c14) w113) (dB (a0 == 16) (cA 65 #[Av a0 a1 a2 a n c] w2 [id, id1, id2] X fun x40 x41 x42 a15 n15 c15 w226 => fL w226 [id1] fun w114 => R (Av x40 x41 x42 a15 n15 c15) w114) (dB (a0 == 17) (cA 66 #[Av a0 a1 a2 a n c] w2 [id, id1, id2] X fun x43 x44 x45 a16 n16 c16 w228 => fL w228 [id1] fun w115 => R (Av x43 x44 x45 a16 n16 c16) w115) (dB (a0 == 18) (cA 66 #[Av a0 a1 a2 a n c] w2 [id, id1, id2] X fun x46 x47 x48 a17 n17 c17 w230 => fL w230 [id1] fun w116 => R (Av x46 x47 x48 a17 n17 c17) w116) (dB (a0 == 19) (iX 0 n a fun ad1 => lI w2 (Addr.add (Addr.add ad1 0) 0) fun x49 => dB (x49 == 2) (iX 0 n a fun ad2 => fL w2 [] fun w117 => lI w117 (Addr.add (Addr.add ad2 0) 1) fun x50 => iX (w64 (2 - x50)) n a fun ad3 => lA w117 (Addr.add ad3 (Int.toNat (w64 (2 - x50)) * 4)) fun x51 x52 x53 a18 n18 c18 => fL w117 [id1] fun w118 => R (Av x51 x52 x53 a18 n18 c18) w118) (fL w2 [id1] fun w119 => R (Av a0 a1 a2 a n c) w119)) (dB (a0 == 21) (cA 67 #[Av a0 a1 a2 a n c] w2 [id, id1, id2] X fun x54 x55 x56 a19 n19 c19 w232 => fL w232 [id1] fun w120 => R (Av x54 x55 x56 a19 n19 c19) w120) (fL w2 [id1] fun w121 => R (Av a0 a1 a2 a n c) w121)))))))))))))))))
 ) : CallsX E.P 45 #[Av a0 a1 a2 a3 a3l a3c] w R X :=
  calls_vc E_ok ⟨[(3, ⟨[(4, .int .i64)], [(2, 3, .slc)]⟩)], []⟩ (f := 45) Tryz.func45 rfl [(Av a0 a1 a2 a3 a3l a3c, .no)] [] (bls0) nod0 (plain_of rfl) (shs_of ⟨trivial, trivial⟩) h (by kernel_rfl)
theorem vc46 {a0 a1 : Int} {a2 : ByteArray} {a3 : Option Addr} {a3l a3c : Nat}  (h : 
 nB w fun id => nB w fun id1 => nB w fun id2 => fL w [] fun w1 => id < w1.heap.size → id1 < w1.heap.size → id2 < w1.heap.size → ∃ (I : Int → Option Addr → Nat → Nat → World → Prop), ∃ (m : Int → Option Addr → Nat → Nat → Nat), I 0 none 0 0 w1 ∧ ∀ (jk : Nat → Value) (x : Int) (a : Option Addr) (n c : Nat) (w2 : World), I x a n c w2 → dB (decide (x < (↑a3l : Int))) (iX x a3l a3 fun ad => lA w2 (Addr.add ad (Int.toNat x * 4)) fun x1 x2 x3 a1 n1 c1 => nB w2 fun id3 => fL w2 [] fun w11 => id3 < w11.heap.size → cA 46 #[Av x1 x2 x3 a1 n1 c1] w11 [id, id1, id2, id3] X fun x4 x5 x6 a2 n2 c2 w21 => nB w21 fun id4 => fL w21 [] fun w12 => id4 < w12.heap.size → hA w12 id4 #[.int .i64 x4, .int .i64 x5, .string x6, .slice a2 n2 c2] 24 → ∃ R2, RunsTo E.P (Builtin.append_ #[22, 22] 22 #[.slice a n c, .slice (some ⟨id4, 0, none⟩) 1 1]) w12 R2 ∧ ∀ v1 w22, R2 v1 w22 → ∃ a3 n3 c3, v1 = .slice a3 n3 c3 ∧ ∃ S1, Upd w12 w22 S1 ∧ Away [id, id1, id2, id3, id4] S1 ∧ fL w22 [id2] fun w13 => hA w13 id4 #[.int .i64 x4, .int .i64 x5, .string x6, .slice a2 n2 c2] 24 → I (w64 (x + 1)) a3 n3 c3 w13 ∧ m (w64 (x + 1)) a3 n3 c3 < m x a n c) (cS 68 #[.slice a n c] w2 [id, id1, id2] X fun a4 n4 c4 w24 => dB (a0 == 6) (iX 0 n4 a4 fun ad1 => fL w24 [id2] fun w14 => lA w14 (Addr.add ad1 0) fun x7 x8 x9 a5 n5 c5 => nB w14 fun id5 => dB (x7 == 1) (dB (x8 != -9223372036854775808) (fL w14 [] fun w15 => id5 < w15.heap.size → cA 69 #[.int .i64 (w64 (0 - x8))] w15 [id, id1, id2, id5] X fun x10 x11 x12 a6 n6 c6 w25 => fL w25 [id1] fun w16 => R (Av x10 x11 x12 a6 n6 c6) w16) (fL w14 [id1] fun w17 => id5 < w17.heap.size → R (Av a0 a1 a2 a4 n4 c4) w17)) (fL w14 [id1] fun w18 => id5 < w18.heap.size → R (Av a0 a1 a2 a4 n4 c4) w18)) (dB (a0 == 7) (iX 0 n4 a4 fun ad2 => fL w24 [id2] fun w19 => lA w19 (Addr.add ad2 0) fun x13 x14 x15 a7 n7 c7 => nB w19 fun id6 => dB (x13 == 2) (fL w19 [] fun w110 => id6 < w110.heap.size → cA 70 #[.bool (x14 == 0)] w110 [id, id1, id2, id6] X fun x16 x17 x18 a8 n8 c8 w27 => fL w27 [id1] fun w111 => R (Av x16 x17 x18 a8 n8 c8) w111) (dB (x13 == 7) (iX 0 n7 a7 fun ad3 => fL w19 [] fun w112 => id6 < w112.heap.size → lA w112 (Addr.add ad3 0) fun x19 x20 x21 a9 n9 c9 => fL w112 [id1] fun w113 => R (Av x19 x20 x21 a9 n9 c9) w113) (fL w19 [id1] fun w114 => id6 < w114.heap.size → R (Av a0 a1 a2 a4 n4 c4) w114))) (dB (a0 == 26) (iX 0 n4 a4 fun ad4 => fL w24 [id2] fun w115 => lA w115 (Addr.add ad4 0) fun x22 x23 x24 a10 n10 c10 => nB w115 fun id7 => dB (x22 == 1) (fL w115 [id1] fun w116 => id7 < w116.heap.size → R (Av x22 x23 x24 a10 n10 c10) w116) (dB (x22 == 2) (fL w115 [id1] fun w117 => id7 < w117.heap.size → R (Av x22 x23 x24 a10 n10 c10) w117) (fL w115 [id1] fun w118 => id7 < w118.heap.size → R (Av a0 a1 a2 a4 n4 c4) w118))) (dB (a0 == 8) (fL w24 [id2] fun w119 => cA 71 #[Av a0 a1 a2 a4 n4 c4] w119 [id, id1, id2] X fun x25 x26 x27 a11 n11 c11 w29 => fL w29 [id1] fun w120 => R (Av x25 x26 x27 a11 n11 c11) w120) (dB (a0 == 9) (fL w24 [id2] fun w121 => cA 71 #[Av a0 a1 a2 a4 n4 c4] w121 [id, id1, id2] X fun x28 x29 x30 a12 n12 c12 w211 => fL w211 [id1] fun w122 => R (Av x28 x29 x30 a12 n12 c12) w122) (dB (a0 == 10) (fL w24 [id2] fun w123 => cA 71 #[Av a0 a1 a2 a4 n4 c4] w123 [id, id1, id2] X fun x31 x32 x33 a13 n13 c13 w213 => fL w213 [id1] fun w124 => R (Av x31 x32 x33 a13 n13 c13) w124) (dB (a0 == 11) (fL w24 [id2] fun w125 => cA 71 #[Av a0 a1 a2 a4 n4 c4] w125 [id, id1, id2] X fun x34 x35 x36 a14 n14 c14 w215 => fL w215 [id1] fun w126 => R (Av x34 x35 x36 a14 n14 c14) w126) (dB (a0 == 12) (fL w24 [id2] fun w127 => cA 71 #[Av a0 a1 a2 a4 n4 c4] w127 [id, id1, id2] X fun x37 x38 x39 a15 n15 c15 w217 => fL w217 [id1] fun w128 => R (Av x37 x38 x39 a15 n15 c15) w128) (dB (a0 == 13) (fL w24 [id2] fun w129 => cA 72 #[Av a0 a1 a2 a4 n4 c4] w129 [id, id1, id2] X fun x40 x41 x42 a16 n16 c16 w219 => fL w219 [id1] fun w130 => R (Av x40 x41 x42 a16 n16 c16) w130) (dB (a0 == 14) (fL w24 [id2] fun w131 => cA 72 #[Av a0 a1 a2 a4 n4 c4] w131 [id, id1, id2] X fun x43 x44 x45 a17 n17 c17 w221 => fL w221 [id1] fun w132 => R (Av x43 x44 x45 a17 n17 c17) w132) (dB (a0 == 15) (fL w24 [id2] fun w133 => cA 72 #[Av a0 a1 a2 a4 n4 c4] w133 [id, id1, id2] X fun x46 x47 x48 a18 n18 c18 w223 => fL w223 [id1] fun w134 => R (Av x46 x47 x48 a18 n18 c18) w134) (dB (a0 == 16) (fL w24 [id2] fun w135 => cA 72 #[Av a0 a1 a2 a4 n4 c4] w135 [id, id1, id2] X fun x49 x50 x51 a19 n19 c19 w225 => fL w225 [id1] fun w136 => R (Av x49 x50 x51 a19 n19 c19) w136) (dB (a0 == 17) (fL w24 [id2] fun w137 => cA 73 #[Av a0 a1 a2 a4 n4 c4] w137 [id, id1, id2] X fun x52 x53 x54 a20 n20 c20 w227 => fL w227 [id1] fun w138 => R (Av x52 x53 x54 a20 n20 c20) w138) (dB (a0 == 18) (fL w24 [id2] fun w139 => cA 73 #[Av a0 a1 a2 a4 n4 c4] w139 [id, id1, id2] X fun x55 x56 x57 a21 n21 c21 w229 => fL w229 [id1] fun w140 => R (Av x55 x56 x57 a21 n21 c21) w140) (dB (a0 == 19) (fL w24 [id2] fun w141 => cA 73 #[Av a0 a1 a2 a4 n4 c4] w141 [id, id1, id2] X fun x58 x59 x60 a22 n22 c22 w231 => fL w231 [id1] fun w142 => R (Av x58 x59 x60 a22 n22 c22) w142) (dB (a0 == 21) (fL w24 [id2] fun w143 => cA 74 #[Av a0 a1 a2 a4 n4 c4] w143 [id, id1, id2] X fun x61 x62 x63 a23 n23 c23 w233 => fL w233 [id1] fun w144 => R (Av x61 x62 x63 a23 n23 c23) w144) (fL w24 [id1, id2] fun w145 => R (Av a0 a1 a2 a4 n4 c4) w145)))))))))))))))))
 ) : CallsX E.P 46 #[Av a0 a1 a2 a3 a3l a3c] w R X :=
  calls_vc E_ok ⟨[(3, ⟨[(19, .int .i64)], [(2, 3, .slc)]⟩)], []⟩ (f := 46) Tryz.func46 rfl [(Av a0 a1 a2 a3 a3l a3c, .no)] [] (bls0) nod0 (plain_of rfl) (shs_of ⟨trivial, trivial⟩) h (by kernel_rfl)
theorem vc63 {a0 a1 : Int} {a2 : ByteArray} {a3 : Option Addr} {a3l a3c : Nat}  (h : 
 nB w fun id => nB w fun id1 => iX 0 a3l a3 fun ad => fL w [] fun w1 => id < w1.heap.size → id1 < w1.heap.size → lA w1 (Addr.add ad 0) fun x x1 x2 a n c => nB w1 fun id2 => dB (a0 == 6) (dB (x == 1) (dB (x1 != -9223372036854775808) (fL w1 [] fun w11 => id2 < w11.heap.size → cA 97 #[.int .i64 (w64 (0 - x1))] w11 [id, id1, id2] X fun x3 x4 x5 a1 n1 c1 w2 => fL w2 [id1] fun w12 => R (Av x3 x4 x5 a1 n1 c1) w12) (fL w1 [id1] fun w13 => id2 < w13.heap.size → R (Av a0 a1 a2 a3 a3l a3c) w13)) (fL w1 [id1] fun w14 => id2 < w14.heap.size → R (Av a0 a1 a2 a3 a3l a3c) w14)) (dB (a0 == 7) (dB (x == 2) (fL w1 [] fun w15 => id2 < w15.heap.size → cA 98 #[.bool (x1 == 0)] w15 [id, id1, id2] X fun x6 x7 x8 a2 n2 c2 w22 => fL w22 [id1] fun w16 => R (Av x6 x7 x8 a2 n2 c2) w16) (dB (x == 7) (iX 0 n a fun ad1 => fL w1 [] fun w17 => id2 < w17.heap.size → lA w17 (Addr.add ad1 0) fun x9 x10 x11 a3 n3 c3 => fL w17 [id1] fun w18 => R (Av x9 x10 x11 a3 n3 c3) w18) (fL w1 [id1] fun w19 => id2 < w19.heap.size → R (Av a0 a1 a2 a3 a3l a3c) w19))) (dB (a0 == 26) (dB (x == 1) (fL w1 [id1] fun w110 => id2 < w110.heap.size → R (Av x x1 x2 a n c) w110) (dB (x == 2) (fL w1 [id1] fun w111 => id2 < w111.heap.size → R (Av x x1 x2 a n c) w111) (fL w1 [id1] fun w112 => id2 < w112.heap.size → R (Av a0 a1 a2 a3 a3l a3c) w112))) (fL w1 [id1] fun w113 => id2 < w113.heap.size → R (Av a0 a1 a2 a3 a3l a3c) w113)))
 ) : CallsX E.P 63 #[Av a0 a1 a2 a3 a3l a3c] w R X :=
  calls_vc E_ok ⟨[], []⟩ (f := 63) Tryz.func63 rfl [(Av a0 a1 a2 a3 a3l a3c, .no)] [] (bls0) nod0 (plain_of rfl) (shs_of ⟨trivial, trivial⟩) h (by kernel_rfl)
theorem vc64 {a0 a1 : Int} {a2 : ByteArray} {a3 : Option Addr} {a3l a3c : Nat}  (h : 
 nB w fun id => nB w fun id1 => iX 0 a3l a3 fun ad => fL w [] fun w1 => id < w1.heap.size → id1 < w1.heap.size → lA w1 (Addr.add ad 0) fun x x1 x2 a n c => nB w1 fun id2 => iX 1 a3l a3 fun ad1 => fL w1 [] fun w11 => id2 < w11.heap.size → lA w11 (Addr.add ad1 4) fun x3 x4 x5 a1_1 n1 c1 => nB w11 fun id3 => ∃ (I : Int → Int → ByteArray → Option Addr → Nat → Nat → World → Prop), dB (x == 1) (dB (x3 == 1) (fL w11 [] fun w12 => id3 < w12.heap.size → ∃ R1 X', CallsX E.P 99 #[.int .i64 a0, .int .i64 x1, .int .i64 x4] w12 R1 X' ∧ (∀ v w2, R1 v w2 → ∃ x6 x7, v = .tuple #[.int .i64 x6, .int .i64 x7] ∧ ∃ S, Upd w12 w2 S ∧ Away [id, id1, id2, id3] S ∧ dB (x7 == 0) (cA 97 #[.int .i64 x6] w2 [id, id1, id2, id3] X fun x8 x9 x10 a2 n2 c2 w21 => fL w21 [id1] fun w13 => R (Av x8 x9 x10 a2 n2 c2) w13) (I 0 0 (ByteArray.mk #[]) none 0 0 w2)) ∧ PX X' X) (fL w11 [] fun w14 => id3 < w14.heap.size → I 0 0 (ByteArray.mk #[]) none 0 0 w14)) (fL w11 [] fun w15 => id3 < w15.heap.size → I 0 0 (ByteArray.mk #[]) none 0 0 w15) ∧ ∀ (jk : Nat → Value) (x11 x12 : Int) (x13 : ByteArray) (a3_1 : Option Addr) (n3 c3 : Nat) (w24 : World), I x11 x12 x13 a3_1 n3 c3 w24 → ∃ (I1 : Bool → World → Prop), dB (a0 == 8) (cB 100 #[Av x x1 x2 a n c, .int .i64 1, .int .i64 0] w24 [id, id1, id2, id3] X fun x14 w25 => I1 x14 w25) (I1 false w24) ∧ ∀ (jk1 : Nat → Value) (x15 : Bool) (w27 : World), I1 x15 w27 → dB x15 (fL w27 [id1] fun w16 => R (Av x3 x4 x5 a1_1 n1 c1) w16) (∃ (I2 : Bool → World → Prop), dB (a0 == 8) (cB 100 #[Av x3 x4 x5 a1_1 n1 c1, .int .i64 1, .int .i64 0] w27 [id, id1, id2, id3] X fun x16 w28 => I2 x16 w28) (dB (a0 == 9) (cB 100 #[Av x3 x4 x5 a1_1 n1 c1, .int .i64 1, .int .i64 0] w27 [id, id1, id2, id3] X fun x17 w210 => I2 x17 w210) (I2 false w27)) ∧ ∀ (jk2 : Nat → Value) (x18 : Bool) (w212 : World), I2 x18 w212 → dB x18 (fL w212 [id1] fun w17 => R (Av x x1 x2 a n c) w17) (∃ (I3 : Bool → World → Prop), dB (a0 == 10) (cB 100 #[Av x x1 x2 a n c, .int .i64 1, .int .i64 1] w212 [id, id1, id2, id3] X fun x19 w213 => I3 x19 w213) (I3 false w212) ∧ ∀ (jk3 : Nat → Value) (x20 : Bool) (w215 : World), I3 x20 w215 → dB x20 (fL w215 [id1] fun w18 => R (Av x3 x4 x5 a1_1 n1 c1) w18) (∃ (I4 : Bool → World → Prop), dB (a0 == 10) (cB 100 #[Av x3 x4 x5 a1_1 n1 c1, .int .i64 1, .int .i64 1] w215 [id, id1, id2, id3] X fun x21 w216 => I4 x21 w216) (dB (a0 == 11) (cB 100 #[Av x3 x4 x5 a1_1 n1 c1, .int .i64 1, .int .i64 1] w215 [id, id1, id2, id3] X fun x22 w218 => I4 x22 w218) (I4 false w215)) ∧ ∀ (jk4 : Nat → Value) (x23 : Bool) (w220 : World), I4 x23 w220 → dB x23 (fL w220 [id1] fun w19 => R (Av x x1 x2 a n c) w19) (fL w220 [id1] fun w110 => R (Av a0 a1 a2 a3 a3l a3c) w110))))
 ) : CallsX E.P 64 #[Av a0 a1 a2 a3 a3l a3c] w R X :=
  calls_vc E_ok ⟨[], [(7, ⟨[], [(1, 0, .int .i64), (1, 1, .int .i64), (1, 2, .str), (1, 3, .slc)]⟩), (8, ⟨[(37, .bool)], []⟩), (10, ⟨[(46, .bool)], []⟩), (12, ⟨[(60, .bool)], []⟩), (14, ⟨[(69, .bool)], []⟩)]⟩ (f := 64) Tryz.func64 rfl [(Av a0 a1 a2 a3 a3l a3c, .no)] [] (bls0) nod0 (plain_of rfl) (shs_of ⟨trivial, trivial⟩) h (by kernel_rfl)
theorem vc65 {a0 a1 : Int} {a2 : ByteArray} {a3 : Option Addr} {a3l a3c : Nat}  (h : 
 nB w fun id => nB w fun id1 => iX 0 a3l a3 fun ad => fL w [] fun w1 => id < w1.heap.size → id1 < w1.heap.size → lA w1 (Addr.add ad 0) fun x x1 x2 a n c => nB w1 fun id2 => iX 1 a3l a3 fun ad1 => fL w1 [] fun w11 => id2 < w11.heap.size → lA w11 (Addr.add ad1 4) fun x3 x4 x5 a1_1 n1 c1 => nB w11 fun id3 => dB (x != x3) (fL w11 [id1] fun w12 => id3 < w12.heap.size → R (Av a0 a1 a2 a3 a3l a3c) w12) (dB (x != 1) (dB (x != 2) (fL w11 [id1] fun w13 => id3 < w13.heap.size → R (Av a0 a1 a2 a3 a3l a3c) w13) (dB (a0 == 13) (fL w11 [] fun w14 => id3 < w14.heap.size → cA 98 #[.bool (x1 == x4)] w14 [id, id1, id2, id3] X fun x6 x7 x8 a2 n2 c2 w2 => fL w2 [id1] fun w15 => R (Av x6 x7 x8 a2 n2 c2) w15) (dB (a0 == 14) (fL w11 [] fun w16 => id3 < w16.heap.size → cA 98 #[.bool (x1 != x4)] w16 [id, id1, id2, id3] X fun x9 x10 x11 a3 n3 c3 w22 => fL w22 [id1] fun w17 => R (Av x9 x10 x11 a3 n3 c3) w17) (dB (a0 == 15) (fL w11 [] fun w18 => id3 < w18.heap.size → cA 98 #[.bool (decide (x1 < x4))] w18 [id, id1, id2, id3] X fun x12 x13 x14 a4 n4 c4 w24 => fL w24 [id1] fun w19 => R (Av x12 x13 x14 a4 n4 c4) w19) (fL w11 [] fun w110 => id3 < w110.heap.size → cA 98 #[.bool (decide (x1 ≤ x4))] w110 [id, id1, id2, id3] X fun x15 x16 x17 a5 n5 c5 w26 => fL w26 [id1] fun w111 => R (Av x15 x16 x17 a5 n5 c5) w111))))) (dB (a0 == 13) (fL w11 [] fun w112 => id3 < w112.heap.size → cA 98 #[.bool (x1 == x4)] w112 [id, id1, id2, id3] X fun x18 x19 x20 a6 n6 c6 w28 => fL w28 [id1] fun w113 => R (Av x18 x19 x20 a6 n6 c6) w113) (dB (a0 == 14) (fL w11 [] fun w114 => id3 < w114.heap.size → cA 98 #[.bool (x1 != x4)] w114 [id, id1, id2, id3] X fun x21 x22 x23 a7 n7 c7 w210 => fL w210 [id1] fun w115 => R (Av x21 x22 x23 a7 n7 c7) w115) (dB (a0 == 15) (fL w11 [] fun w116 => id3 < w116.heap.size → cA 98 #[.bool (decide (x1 < x4))] w116 [id, id1, id2, id3] X fun x24 x25 x26 a8 n8 c8 w212 => fL w212 [id1] fun w117 => R (Av x24 x25 x26 a8 n8 c8) w117) (fL w11 [] fun w118 => id3 < w118.heap.size → cA 98 #[.bool (decide (x1 ≤ x4))] w118 [id, id1, id2, id3] X fun x27 x28 x29 a9 n9 c9 w214 => fL w214 [id1] fun w119 => R (Av x27 x28 x29 a9 n9 c9) w119)))))
 ) : CallsX E.P 65 #[Av a0 a1 a2 a3 a3l a3c] w R X :=
  calls_vc E_ok ⟨[], []⟩ (f := 65) Tryz.func65 rfl [(Av a0 a1 a2 a3 a3l a3c, .no)] [] (bls0) nod0 (plain_of rfl) (shs_of ⟨trivial, trivial⟩) h (by kernel_rfl)
theorem vc66 {a0 a1 : Int} {a2 : ByteArray} {a3 : Option Addr} {a3l a3c : Nat}  (h : 
 nB w fun id => nB w fun id1 => iX 0 a3l a3 fun ad => fL w [] fun w1 => id < w1.heap.size → id1 < w1.heap.size → lA w1 (Addr.add ad 0) fun x x1 x2 a n c => nB w1 fun id2 => iX 1 a3l a3 fun ad1 => fL w1 [] fun w11 => id2 < w11.heap.size → lA w11 (Addr.add ad1 4) fun x3 x4 x5 a1_1 n1 c1 => nB w11 fun id3 => dB (a0 == 18) (fL w11 [] fun w12 => id3 < w12.heap.size → cB 100 #[Av x x1 x2 a n c, .int .i64 2, .int .i64 0] w12 [id, id1, id2, id3] X fun x6 w2 => dB x6 (fL w2 [id1] fun w13 => R (Av x3 x4 x5 a1_1 n1 c1) w13) (dB (x == 2) (fL w2 [id1] fun w14 => R (Av x x1 x2 a n c) w14) (cB 100 #[Av x3 x4 x5 a1_1 n1 c1, .int .i64 2, .int .i64 0] w2 [id, id1, id2, id3] X fun x7 w21 => dB x7 (fL w21 [id1] fun w15 => R (Av x x1 x2 a n c) w15) (fL w21 [id1] fun w16 => R (Av a0 a1 a2 a3 a3l a3c) w16)))) (fL w11 [] fun w17 => id3 < w17.heap.size → cB 100 #[Av x x1 x2 a n c, .int .i64 2, .int .i64 1] w17 [id, id1, id2, id3] X fun x8 w24 => dB x8 (fL w24 [id1] fun w18 => R (Av x3 x4 x5 a1_1 n1 c1) w18) (dB (x == 2) (fL w24 [id1] fun w19 => R (Av x x1 x2 a n c) w19) (cB 100 #[Av x3 x4 x5 a1_1 n1 c1, .int .i64 2, .int .i64 1] w24 [id, id1, id2, id3] X fun x9 w25 => dB x9 (fL w25 [id1] fun w110 => R (Av x x1 x2 a n c) w110) (fL w25 [id1] fun w111 => R (Av a0 a1 a2 a3 a3l a3c) w111))))
 ) : CallsX E.P 66 #[Av a0 a1 a2 a3 a3l a3c] w R X :=
  calls_vc E_ok ⟨[], []⟩ (f := 66) Tryz.func66 rfl [(Av a0 a1 a2 a3 a3l a3c, .no)] [] (bls0) nod0 (plain_of rfl) (shs_of ⟨trivial, trivial⟩) h (by kernel_rfl)
theorem vc67 {a0 a1 : Int} {a2 : ByteArray} {a3 : Option Addr} {a3l a3c : Nat}  (h : 
 nB w fun id => nB w fun id1 => iX 0 a3l a3 fun ad => fL w [] fun w1 => id < w1.heap.size → id1 < w1.heap.size → lA w1 (Addr.add ad 0) fun x x1 x2 a n c => nB w1 fun id2 => iX 1 a3l a3 fun ad1 => fL w1 [] fun w11 => id2 < w11.heap.size → lA w11 (Addr.add ad1 4) fun x3 x4 x5 a1_1 n1 c1 => nB w11 fun id3 => ∃ (I : Bool → World → Prop), dB (x == 25) (fL w11 [] fun w12 => id3 < w12.heap.size → I ((↑n : Int) == 0) w12) (fL w11 [] fun w13 => id3 < w13.heap.size → I false w13) ∧ ∀ (jk : Nat → Value) (x6 : Bool) (w2 : World), I x6 w2 → ∃ (I1 : Bool → World → Prop), dB (a1 == 1) (dB x6 (I1 true w2) (dB (x == 22) (cB 100 #[Av x3 x4 x5 a1_1 n1 c1, .int .i64 2, .int .i64 1] w2 [id, id1, id2, id3] X fun x7 w21 => I1 x7 w21) (I1 false w2))) (I1 false w2) ∧ ∀ (jk1 : Nat → Value) (x8 : Bool) (w23 : World), I1 x8 w23 → dB x8 (cA 98 #[.bool true] w23 [id, id1, id2, id3] X fun x9 x10 x11 a2 n2 c2 w24 => fL w24 [id1] fun w14 => R (Av x9 x10 x11 a2 n2 c2) w14) (∃ (I2 : Bool → World → Prop), dB (a1 == 2) (dB x6 (I2 true w23) (dB (x == 22) (cB 100 #[Av x3 x4 x5 a1_1 n1 c1, .int .i64 2, .int .i64 0] w23 [id, id1, id2, id3] X fun x12 w26 => I2 x12 w26) (I2 false w23))) (I2 false w23) ∧ ∀ (jk2 : Nat → Value) (x13 : Bool) (w28 : World), I2 x13 w28 → dB x13 (cA 98 #[.bool false] w28 [id, id1, id2, id3] X fun x14 x15 x16 a3 n3 c3 w29 => fL w29 [id1] fun w15 => R (Av x14 x15 x16 a3 n3 c3) w15) (∃ (I3 : Bool → World → Prop), dB (a1 == 3) (dB x6 (I3 true w28) (dB (x == 22) (cB 100 #[Av x3 x4 x5 a1_1 n1 c1, .int .i64 2, .int .i64 0] w28 [id, id1, id2, id3] X fun x17 w211 => I3 x17 w211) (I3 false w28))) (I3 false w28) ∧ ∀ (jk3 : Nat → Value) (x18 : Bool) (w213 : World), I3 x18 w213 → dB x18 (cA 97 #[.int .i64 0] w213 [id, id1, id2, id3] X fun x19 x20 x21 a4 n4 c4 w214 => fL w214 [id1] fun w16 => R (Av x19 x20 x21 a4 n4 c4) w16) (∃ (I4 : Bool → World → Prop), dB (a1 == 4) (I4 x6 w213) (I4 false w213) ∧ ∀ (jk4 : Nat → Value) (x22 : Bool) (w216 : World), I4 x22 w216 → dB x22 (cA 97 #[.int .i64 0] w216 [id, id1, id2, id3] X fun x23 x24 x25 a5 n5 c5 w217 => fL w217 [id1] fun w17 => R (Av x23 x24 x25 a5 n5 c5) w17) (fL w216 [id1] fun w18 => R (Av a0 a1 a2 a3 a3l a3c) w18))))
 ) : CallsX E.P 67 #[Av a0 a1 a2 a3 a3l a3c] w R X :=
  calls_vc E_ok ⟨[], [(4, ⟨[(5, .bool)], []⟩), (6, ⟨[(27, .bool)], []⟩), (8, ⟨[(42, .bool)], []⟩), (10, ⟨[(57, .bool)], []⟩), (12, ⟨[(72, .bool)], []⟩)]⟩ (f := 67) Tryz.func67 rfl [(Av a0 a1 a2 a3 a3l a3c, .no)] [] (bls0) nod0 (plain_of rfl) (shs_of ⟨trivial, trivial⟩) h (by kernel_rfl)
theorem vc69 {a : Int}  (h : 
 nB w fun id => fL w [] fun w1 => id < w1.heap.size → R (Av 1 a (ByteArray.mk #[]) none 0 0) w1
 ) : CallsX E.P 69 #[.int .i64 a] w R X :=
  calls_vc E_ok ⟨[], []⟩ (f := 69) Tryz.func69 rfl [(.int .i64 a, .no)] [] (bls0) nod0 (plain_of rfl) (shs_of ⟨trivial, trivial⟩) h (by kernel_rfl)
theorem vc70 {a : Bool}  (h : 
 nB w fun id => dB a (fL w [] fun w1 => id < w1.heap.size → R (Av 2 1 (ByteArray.mk #[]) none 0 0) w1) (fL w [] fun w11 => id < w11.heap.size → R (Av 2 0 (ByteArray.mk #[]) none 0 0) w11)
 ) : CallsX E.P 70 #[.bool a] w R X :=
  calls_vc E_ok ⟨[], []⟩ (f := 70) Tryz.func70 rfl [(.bool a, .no)] [] (bls0) nod0 (plain_of rfl) (shs_of ⟨trivial, trivial⟩) h (by kernel_rfl)
theorem vc71 {a0 a1 : Int} {a2 : ByteArray} {a3 : Option Addr} {a3l a3c : Nat}  (h : 
 nB w fun id => nB w fun id1 => iX 0 a3l a3 fun ad => fL w [] fun w1 => id < w1.heap.size → id1 < w1.heap.size → lA w1 (Addr.add ad 0) fun x x1 x2 a n c => iX 1 a3l a3 fun ad1 => lA w1 (Addr.add ad1 4) fun x3 x4 x5 a1_1 n1 c1 => nB w1 fun id2 => nB w1 fun id3 => ∃ (I : Int → Int → ByteArray → Option Addr → Nat → Nat → World → Prop), (∃ (I1 : Bool → World → Prop), dB (x == 1) (fL w1 [] fun w11 => id2 < w11.heap.size → id3 < w11.heap.size → I1 (x3 == 1) w11) (fL w1 [] fun w12 => id2 < w12.heap.size → id3 < w12.heap.size → I1 false w12) ∧ ∀ (jk : Nat → Value) (x6 : Bool) (w2 : World), I1 x6 w2 → dB x6 (∃ R1 X', CallsX E.P 101 #[.int .i64 a0, .int .i64 x1, .int .i64 x4] w2 R1 X' ∧ (∀ v w21, R1 v w21 → ∃ x7 x8, v = .tuple #[.int .i64 x7, .bool x8] ∧ ∃ S, Upd w2 w21 S ∧ Away [id, id1, id2, id3] S ∧ dB x8 (cA 69 #[.int .i64 x7] w21 [id, id1, id2, id3] X fun x9 x10 x11 a2 n2 c2 w22 => fL w22 [id1] fun w13 => R (Av x9 x10 x11 a2 n2 c2) w13) (I 0 0 (ByteArray.mk #[]) none 0 0 w21)) ∧ PX X' X) (I 0 0 (ByteArray.mk #[]) none 0 0 w2)) ∧ ∀ (jk1 : Nat → Value) (x12 x13 : Int) (x14 : ByteArray) (a3_1 : Option Addr) (n3 c3 : Nat) (w25 : World), I x12 x13 x14 a3_1 n3 c3 w25 → dB (a0 == 8) (cB 102 #[Av x x1 x2 a n c, .int .i64 1, .int .i64 0] w25 [id, id1, id2, id3] X fun x15 w26 => dB x15 (fL w26 [id1] fun w14 => R (Av x3 x4 x5 a1_1 n1 c1) w14) (cB 102 #[Av x3 x4 x5 a1_1 n1 c1, .int .i64 1, .int .i64 0] w26 [id, id1, id2, id3] X fun x16 w27 => dB x16 (fL w27 [id1] fun w15 => R (Av x x1 x2 a n c) w15) (fL w27 [id1] fun w16 => R (Av a0 a1 a2 a3 a3l a3c) w16))) (dB (a0 == 9) (cB 102 #[Av x3 x4 x5 a1_1 n1 c1, .int .i64 1, .int .i64 0] w25 [id, id1, id2, id3] X fun x17 w210 => dB x17 (fL w210 [id1] fun w17 => R (Av x x1 x2 a n c) w17) (fL w210 [id1] fun w18 => R (Av a0 a1 a2 a3 a3l a3c) w18)) (dB (a0 == 10) (cB 102 #[Av x x1 x2 a n c, .int .i64 1, .int .i64 1] w25 [id, id1, id2, id3] X fun x18 w212 => dB x18 (fL w212 [id1] fun w19 => R (Av x3 x4 x5 a1_1 n1 c1) w19) (cB 102 #[Av x3 x4 x5 a1_1 n1 c1, .int .i64 1, .int .i64 1] w212 [id, id1, id2, id3] X fun x19 w213 => dB x19 (fL w213 [id1] fun w110 => R (Av x x1 x2 a n c) w110) (fL w213 [id1] fun w111 => R (Av a0 a1 a2 a3 a3l a3c) w111))) (dB (a0 == 11) (cB 102 #[Av x3 x4 x5 a1_1 n1 c1, .int .i64 1, .int .i64 1] w25 [id, id1, id2, id3] X fun x20 w216 => dB x20 (fL w216 [id1] fun w112 => R (Av x x1 x2 a n c) w112) (fL w216 [id1] fun w113 => R (Av a0 a1 a2 a3 a3l a3c) w113)) (fL w25 [id1] fun w114 => R (Av a0 a1 a2 a3 a3l a3c) w114))))
 ) : CallsX E.P 71 #[Av a0 a1 a2 a3 a3l a3c] w R X :=
  calls_vc E_ok ⟨[(150001, ⟨[], []⟩)], [(6, ⟨[], [(1, 0, .int .i64), (1, 1, .int .i64), (1, 2, .str), (1, 3, .slc)]⟩), (3, ⟨[(22, .bool)], []⟩)]⟩ (f := 71) Tryz.func71 rfl [(Av a0 a1 a2 a3 a3l a3c, .no)] [] (bls0) nod0 (plain_of rfl) (shs_of ⟨trivial, trivial⟩) h (by kernel_rfl)
theorem vc72 {a0 a1 : Int} {a2 : ByteArray} {a3 : Option Addr} {a3l a3c : Nat}  (h : 
 nB w fun id => nB w fun id1 => iX 0 a3l a3 fun ad => fL w [] fun w1 => id < w1.heap.size → id1 < w1.heap.size → lA w1 (Addr.add ad 0) fun x x1 x2 a n c => iX 1 a3l a3 fun ad1 => lA w1 (Addr.add ad1 4) fun x3 x4 x5 a1_1 n1 c1 => nB w1 fun id2 => nB w1 fun id3 => ∃ (I : Bool → World → Prop), dB (x != x3) (fL w1 [] fun w11 => id2 < w11.heap.size → id3 < w11.heap.size → I true w11) (dB (x != 1) (fL w1 [] fun w12 => id2 < w12.heap.size → id3 < w12.heap.size → I (x != 2) w12) (fL w1 [] fun w13 => id2 < w13.heap.size → id3 < w13.heap.size → I false w13)) ∧ ∀ (jk : Nat → Value) (x6 : Bool) (w2 : World), I x6 w2 → dB x6 (fL w2 [id1] fun w14 => R (Av a0 a1 a2 a3 a3l a3c) w14) (dB (a0 == 13) (cA 70 #[.bool (x1 == x4)] w2 [id, id1, id2, id3] X fun x7 x8 x9 a2 n2 c2 w21 => fL w21 [id1] fun w15 => R (Av x7 x8 x9 a2 n2 c2) w15) (dB (a0 == 14) (cA 70 #[.bool (x1 != x4)] w2 [id, id1, id2, id3] X fun x10 x11 x12 a3 n3 c3 w23 => fL w23 [id1] fun w16 => R (Av x10 x11 x12 a3 n3 c3) w16) (dB (a0 == 15) (cA 70 #[.bool (decide (x1 < x4))] w2 [id, id1, id2, id3] X fun x13 x14 x15 a4 n4 c4 w25 => fL w25 [id1] fun w17 => R (Av x13 x14 x15 a4 n4 c4) w17) (cA 70 #[.bool (decide (x1 ≤ x4))] w2 [id, id1, id2, id3] X fun x16 x17 x18 a5 n5 c5 w27 => fL w27 [id1] fun w18 => R (Av x16 x17 x18 a5 n5 c5) w18))))
 ) : CallsX E.P 72 #[Av a0 a1 a2 a3 a3l a3c] w R X :=
  calls_vc E_ok ⟨[(150001, ⟨[], []⟩)], [(3, ⟨[(27, .bool)], []⟩)]⟩ (f := 72) Tryz.func72 rfl [(Av a0 a1 a2 a3 a3l a3c, .no)] [] (bls0) nod0 (plain_of rfl) (shs_of ⟨trivial, trivial⟩) h (by kernel_rfl)
theorem vc73 {a0 a1 : Int} {a2 : ByteArray} {a3 : Option Addr} {a3l a3c : Nat}  (h : 
 nB w fun id => nB w fun id1 => iX 0 a3l a3 fun ad => fL w [] fun w1 => id < w1.heap.size → id1 < w1.heap.size → lA w1 (Addr.add ad 0) fun x x1 x2 a n c => nB w1 fun id2 => dB (a0 == 19) (dB (x == 2) (iX (w64 (2 - x1)) a3l a3 fun ad1 => fL w1 [] fun w11 => id2 < w11.heap.size → lA w11 (Addr.add ad1 (Int.toNat (w64 (2 - x1)) * 4)) fun x3 x4 x5 a1 n1 c1 => fL w11 [id1] fun w12 => R (Av x3 x4 x5 a1 n1 c1) w12) (fL w1 [id1] fun w13 => id2 < w13.heap.size → R (Av a0 a1 a2 a3 a3l a3c) w13)) (dB (a0 == 17) (dB (a0 == 18) (iX 1 a3l a3 fun ad2 => fL w1 [] fun w14 => id2 < w14.heap.size → lA w14 (Addr.add ad2 4) fun x6 x7 x8 a2_1 n2 c2 => nB w14 fun id3 => fL w14 [] fun w15 => id3 < w15.heap.size → cB 102 #[Av x x1 x2 a n c, .int .i64 2, .int .i64 0] w15 [id, id1, id2, id3] X fun x9 w2 => dB x9 (fL w2 [id1] fun w16 => R (Av x6 x7 x8 a2_1 n2 c2) w16) (dB (x == 2) (fL w2 [id1] fun w17 => R (Av x x1 x2 a n c) w17) (cB 102 #[Av x6 x7 x8 a2_1 n2 c2, .int .i64 2, .int .i64 0] w2 [id, id1, id2, id3] X fun x10 w21 => dB x10 (fL w21 [id1] fun w18 => R (Av x x1 x2 a n c) w18) (fL w21 [id1] fun w19 => R (Av a0 a1 a2 a3 a3l a3c) w19)))) (iX 1 a3l a3 fun ad3 => fL w1 [] fun w110 => id2 < w110.heap.size → lA w110 (Addr.add ad3 4) fun x11 x12 x13 a3_1 n3 c3 => nB w110 fun id4 => fL w110 [] fun w111 => id4 < w111.heap.size → cB 102 #[Av x x1 x2 a n c, .int .i64 2, .int .i64 1] w111 [id, id1, id2, id4] X fun x14 w24 => dB x14 (fL w24 [id1] fun w112 => R (Av x11 x12 x13 a3_1 n3 c3) w112) (dB (x == 2) (fL w24 [id1] fun w113 => R (Av x x1 x2 a n c) w113) (cB 102 #[Av x11 x12 x13 a3_1 n3 c3, .int .i64 2, .int .i64 1] w24 [id, id1, id2, id4] X fun x15 w25 => dB x15 (fL w25 [id1] fun w114 => R (Av x x1 x2 a n c) w114) (fL w25 [id1] fun w115 => R (Av a0 a1 a2 a3 a3l a3c) w115))))) (dB (a0 == 18) (dB (a0 == 18) (iX 1 a3l a3 fun ad4 => fL w1 [] fun w116 => id2 < w116.heap.size → lA w116 (Addr.add ad4 4) fun x16 x17 x18 a4 n4 c4 => nB w116 fun id5 => fL w116 [] fun w117 => id5 < w117.heap.size → cB 102 #[Av x x1 x2 a n c, .int .i64 2, .int .i64 0] w117 [id, id1, id2, id5] X fun x19 w28 => dB x19 (fL w28 [id1] fun w118 => R (Av x16 x17 x18 a4 n4 c4) w118) (dB (x == 2) (fL w28 [id1] fun w119 => R (Av x x1 x2 a n c) w119) (cB 102 #[Av x16 x17 x18 a4 n4 c4, .int .i64 2, .int .i64 0] w28 [id, id1, id2, id5] X fun x20 w29 => dB x20 (fL w29 [id1] fun w120 => R (Av x x1 x2 a n c) w120) (fL w29 [id1] fun w121 => R (Av a0 a1 a2 a3 a3l a3c) w121)))) (iX 1 a3l a3 fun ad5 => fL w1 [] fun w122 => id2 < w122.heap.size → lA w122 (Addr.add ad5 4) fun x21 x22 x23 a5 n5 c5 => nB w122 fun id6 => fL w122 [] fun w123 => id6 < w123.heap.size → cB 102 #[Av x x1 x2 a n c, .int .i64 2, .int .i64 1] w123 [id, id1, id2, id6] X fun x24 w212 => dB x24 (fL w212 [id1] fun w124 => R (Av x21 x22 x23 a5 n5 c5) w124) (dB (x == 2) (fL w212 [id1] fun w125 => R (Av x x1 x2 a n c) w125) (cB 102 #[Av x21 x22 x23 a5 n5 c5, .int .i64 2, .int .i64 1] w212 [id, id1, id2, id6] X fun x25 w213 => dB x25 (fL w213 [id1] fun w126 => R (Av x x1 x2 a n c) w126) (fL w213 [id1] fun w127 => R (Av a0 a1 a2 a3 a3l a3c) w127))))) (fL w1 [id1] fun w128 => id2 < w128.heap.size → R (Av a0 a1 a2 a3 a3l a3c) w128)))
 ) : CallsX E.P 73 #[Av a0 a1 a2 a3 a3l a3c] w R X :=
  calls_vc E_ok ⟨[], []⟩ (f := 73) Tryz.func73 rfl [(Av a0 a1 a2 a3 a3l a3c, .no)] [] (bls0) nod0 (plain_of rfl) (shs_of ⟨trivial, trivial⟩) h (by kernel_rfl)
theorem vc74 {a0 a1 : Int} {a2 : ByteArray} {a3 : Option Addr} {a3l a3c : Nat}  (h : 
 nB w fun id => nB w fun id1 => iX 0 a3l a3 fun ad => fL w [] fun w1 => id < w1.heap.size → id1 < w1.heap.size → lA w1 (Addr.add ad 0) fun x x1 x2 a n c => iX 1 a3l a3 fun ad1 => lA w1 (Addr.add ad1 4) fun x3 x4 x5 a1_1 n1 c1 => nB w1 fun id2 => nB w1 fun id3 => dB (x == 25) (∃ (I : Bool → World → Prop), dB (x == 22) (fL w1 [] fun w11 => id2 < w11.heap.size → id3 < w11.heap.size → I (x3 == 2) w11) (fL w1 [] fun w12 => id2 < w12.heap.size → id3 < w12.heap.size → I false w12) ∧ ∀ (jk : Nat → Value) (x6 : Bool) (w2 : World), I x6 w2 → dB (a1 == 1) (∃ (I1 : Bool → World → Prop), dB ((↑n : Int) == 0) (I1 true w2) (dB x6 (I1 (x4 == 1) w2) (I1 false w2)) ∧ ∀ (jk1 : Nat → Value) (x7 : Bool) (w21 : World), I1 x7 w21 → dB x7 (cA 70 #[.bool true] w21 [id, id1, id2, id3] X fun x8 x9 x10 a2 n2 c2 w22 => fL w22 [id1] fun w13 => R (Av x8 x9 x10 a2 n2 c2) w13) (fL w21 [id1] fun w14 => R (Av a0 a1 a2 a3 a3l a3c) w14)) (dB (a1 == 2) (∃ (I2 : Bool → World → Prop), dB ((↑n : Int) == 0) (I2 true w2) (dB x6 (I2 (x4 == 0) w2) (I2 false w2)) ∧ ∀ (jk2 : Nat → Value) (x11 : Bool) (w24 : World), I2 x11 w24 → dB x11 (cA 70 #[.bool false] w24 [id, id1, id2, id3] X fun x12 x13 x14 a3 n3 c3 w25 => fL w25 [id1] fun w15 => R (Av x12 x13 x14 a3 n3 c3) w15) (fL w24 [id1] fun w16 => R (Av a0 a1 a2 a3 a3l a3c) w16)) (dB (a1 == 3) (∃ (I3 : Bool → World → Prop), dB ((↑n : Int) == 0) (I3 true w2) (dB x6 (I3 (x4 == 0) w2) (I3 false w2)) ∧ ∀ (jk3 : Nat → Value) (x15 : Bool) (w27 : World), I3 x15 w27 → dB x15 (cA 69 #[.int .i64 0] w27 [id, id1, id2, id3] X fun x16 x17 x18 a4 n4 c4 w28 => fL w28 [id1] fun w17 => R (Av x16 x17 x18 a4 n4 c4) w17) (fL w27 [id1] fun w18 => R (Av a0 a1 a2 a3 a3l a3c) w18)) (dB (a1 == 4) (dB ((↑n : Int) == 0) (cA 69 #[.int .i64 0] w2 [id, id1, id2, id3] X fun x19 x20 x21 a5 n5 c5 w210 => fL w210 [id1] fun w19 => R (Av x19 x20 x21 a5 n5 c5) w19) (fL w2 [id1] fun w110 => R (Av a0 a1 a2 a3 a3l a3c) w110)) (fL w2 [id1] fun w111 => R (Av a0 a1 a2 a3 a3l a3c) w111))))) (∃ (I4 : Bool → World → Prop), dB (x == 22) (fL w1 [] fun w112 => id2 < w112.heap.size → id3 < w112.heap.size → I4 (x3 == 2) w112) (fL w1 [] fun w113 => id2 < w113.heap.size → id3 < w113.heap.size → I4 false w113) ∧ ∀ (jk4 : Nat → Value) (x22 : Bool) (w212 : World), I4 x22 w212 → dB (a1 == 1) (∃ (I5 : Bool → World → Prop), dB x22 (I5 (x4 == 1) w212) (I5 false w212) ∧ ∀ (jk5 : Nat → Value) (x23 : Bool) (w213 : World), I5 x23 w213 → dB x23 (cA 70 #[.bool true] w213 [id, id1, id2, id3] X fun x24 x25 x26 a6 n6 c6 w214 => fL w214 [id1] fun w114 => R (Av x24 x25 x26 a6 n6 c6) w114) (fL w213 [id1] fun w115 => R (Av a0 a1 a2 a3 a3l a3c) w115)) (dB (a1 == 2) (∃ (I6 : Bool → World → Prop), dB x22 (I6 (x4 == 0) w212) (I6 false w212) ∧ ∀ (jk6 : Nat → Value) (x27 : Bool) (w216 : World), I6 x27 w216 → dB x27 (cA 70 #[.bool false] w216 [id, id1, id2, id3] X fun x28 x29 x30 a7 n7 c7 w217 => fL w217 [id1] fun w116 => R (Av x28 x29 x30 a7 n7 c7) w116) (fL w216 [id1] fun w117 => R (Av a0 a1 a2 a3 a3l a3c) w117)) (dB (a1 == 3) (∃ (I7 : Bool → World → Prop), dB x22 (I7 (x4 == 0) w212) (I7 false w212) ∧ ∀ (jk7 : Nat → Value) (x31 : Bool) (w219 : World), I7 x31 w219 → dB x31 (cA 69 #[.int .i64 0] w219 [id, id1, id2, id3] X fun x32 x33 x34 a8 n8 c8 w220 => fL w220 [id1] fun w118 => R (Av x32 x33 x34 a8 n8 c8) w118) (fL w219 [id1] fun w119 => R (Av a0 a1 a2 a3 a3l a3c) w119)) (dB (a1 == 4) (fL w212 [id1] fun w120 => R (Av a0 a1 a2 a3 a3l a3c) w120) (fL w212 [id1] fun w121 => R (Av a0 a1 a2 a3 a3l a3c) w121)))))
 ) : CallsX E.P 74 #[Av a0 a1 a2 a3 a3l a3c] w R X :=
  calls_vc E_ok ⟨[(150001, ⟨[], []⟩)], [(4, ⟨[(6, .bool)], []⟩), (7, ⟨[(44, .bool)], []⟩), (10, ⟨[(56, .bool)], []⟩), (13, ⟨[(68, .bool)], []⟩)]⟩ (f := 74) Tryz.func74 rfl [(Av a0 a1 a2 a3 a3l a3c, .no)] [] (bls0) nod0 (plain_of rfl) (shs_of ⟨trivial, trivial⟩) h (by kernel_rfl)
theorem vc97 {a : Int}  (h : 
 nB w fun id => fL w [] fun w1 => id < w1.heap.size → R (Av 1 a (ByteArray.mk #[]) none 0 0) w1
 ) : CallsX E.P 97 #[.int .i64 a] w R X :=
  calls_vc E_ok ⟨[], []⟩ (f := 97) Tryz.func97 rfl [(.int .i64 a, .no)] [] (bls0) nod0 (plain_of rfl) (shs_of ⟨trivial, trivial⟩) h (by kernel_rfl)
theorem vc98 {a : Bool}  (h : 
 nB w fun id => dB a (fL w [] fun w1 => id < w1.heap.size → R (Av 2 1 (ByteArray.mk #[]) none 0 0) w1) (fL w [] fun w11 => id < w11.heap.size → R (Av 2 0 (ByteArray.mk #[]) none 0 0) w11)
 ) : CallsX E.P 98 #[.bool a] w R X :=
  calls_vc E_ok ⟨[], []⟩ (f := 98) Tryz.func98 rfl [(.bool a, .no)] [] (bls0) nod0 (plain_of rfl) (shs_of ⟨trivial, trivial⟩) h (by kernel_rfl)
theorem vc99 {a b c : Int}  (h : 
 dB (a == 8) (dB (decide (c > 0)) (dB (decide (b > w64 (9223372036854775807 - c))) (R (.tuple #[.int .i64 0, .int .i64 1]) w) (dB (decide (c < 0)) (dB (decide (b < w64 (-9223372036854775808 - c))) (R (.tuple #[.int .i64 0, .int .i64 1]) w) (R (.tuple #[.int .i64 (w64 (b + c)), .int .i64 0]) w)) (R (.tuple #[.int .i64 (w64 (b + c)), .int .i64 0]) w))) (dB (decide (c < 0)) (dB (decide (b < w64 (-9223372036854775808 - c))) (R (.tuple #[.int .i64 0, .int .i64 1]) w) (R (.tuple #[.int .i64 (w64 (b + c)), .int .i64 0]) w)) (R (.tuple #[.int .i64 (w64 (b + c)), .int .i64 0]) w))) (dB (a == 9) (dB (decide (c < 0)) (dB (decide (b > w64 (9223372036854775807 + c))) (R (.tuple #[.int .i64 0, .int .i64 1]) w) (dB (decide (c > 0)) (dB (decide (b < w64 (-9223372036854775808 + c))) (R (.tuple #[.int .i64 0, .int .i64 1]) w) (R (.tuple #[.int .i64 (w64 (b - c)), .int .i64 0]) w)) (R (.tuple #[.int .i64 (w64 (b - c)), .int .i64 0]) w))) (dB (decide (c > 0)) (dB (decide (b < w64 (-9223372036854775808 + c))) (R (.tuple #[.int .i64 0, .int .i64 1]) w) (R (.tuple #[.int .i64 (w64 (b - c)), .int .i64 0]) w)) (R (.tuple #[.int .i64 (w64 (b - c)), .int .i64 0]) w))) (dB (a == 10) (dB (b == 0) (R (.tuple #[.int .i64 0, .int .i64 0]) w) (dB (c == 0) (R (.tuple #[.int .i64 0, .int .i64 0]) w) (dB (b == -1) (dB (c == -9223372036854775808) (R (.tuple #[.int .i64 0, .int .i64 1]) w) (dB (c == -1) (dB (b == -9223372036854775808) (R (.tuple #[.int .i64 0, .int .i64 1]) w) (∃ x, Sem.run E.P (binSem BinOp.quo 3 (Operand.tmp 80) (Operand.tmp 81) (.int .i64 (w64 (b * c))) (.int .i64 c)) w = Result.ok (.int .i64 x) w ∧ dB (x != b) (R (.tuple #[.int .i64 0, .int .i64 1]) w) (R (.tuple #[.int .i64 (w64 (b * c)), .int .i64 0]) w))) (∃ x1, Sem.run E.P (binSem BinOp.quo 3 (Operand.tmp 80) (Operand.tmp 81) (.int .i64 (w64 (b * c))) (.int .i64 c)) w = Result.ok (.int .i64 x1) w ∧ dB (x1 != b) (R (.tuple #[.int .i64 0, .int .i64 1]) w) (R (.tuple #[.int .i64 (w64 (b * c)), .int .i64 0]) w)))) (dB (c == -1) (dB (b == -9223372036854775808) (R (.tuple #[.int .i64 0, .int .i64 1]) w) (∃ x2, Sem.run E.P (binSem BinOp.quo 3 (Operand.tmp 80) (Operand.tmp 81) (.int .i64 (w64 (b * c))) (.int .i64 c)) w = Result.ok (.int .i64 x2) w ∧ dB (x2 != b) (R (.tuple #[.int .i64 0, .int .i64 1]) w) (R (.tuple #[.int .i64 (w64 (b * c)), .int .i64 0]) w))) (∃ x3, Sem.run E.P (binSem BinOp.quo 3 (Operand.tmp 80) (Operand.tmp 81) (.int .i64 (w64 (b * c))) (.int .i64 c)) w = Result.ok (.int .i64 x3) w ∧ dB (x3 != b) (R (.tuple #[.int .i64 0, .int .i64 1]) w) (R (.tuple #[.int .i64 (w64 (b * c)), .int .i64 0]) w)))))) (dB (c == 0) (R (.tuple #[.int .i64 0, .int .i64 4]) w) (dB (c == -1) (dB (a == 12) (R (.tuple #[.int .i64 0, .int .i64 0]) w) (∃ R1 X', CallsX E.P 99 #[.int .i64 9, .int .i64 0, .int .i64 b] w R1 X' ∧ (∀ v w2, R1 v w2 → ∃ x4 x5, v = .tuple #[.int .i64 x4, .int .i64 x5] ∧ ∃ S, Upd w w2 S ∧ Away [] S ∧ R (.tuple #[.int .i64 x4, .int .i64 x5]) w2) ∧ PX X' X)) (dB (a == 11) (∃ x6, Sem.run E.P (binSem BinOp.quo 3 (Operand.tmp 101) (Operand.tmp 102) (.int .i64 b) (.int .i64 c)) w = Result.ok (.int .i64 x6) w ∧ R (.tuple #[.int .i64 x6, .int .i64 0]) w) (∃ x7, Sem.run E.P (binSem BinOp.rem 3 (Operand.tmp 104) (Operand.tmp 105) (.int .i64 b) (.int .i64 c)) w = Result.ok (.int .i64 x7) w ∧ R (.tuple #[.int .i64 x7, .int .i64 0]) w))))))
 ) : CallsX E.P 99 #[.int .i64 a, .int .i64 b, .int .i64 c] w R X :=
  calls_vc E_ok ⟨[], []⟩ (f := 99) Tryz.func99 rfl [(.int .i64 a, .no), (.int .i64 b, .no), (.int .i64 c, .no)] [] (bls0) nod0 (plain_of rfl) (shs_of ⟨trivial, trivial, trivial, trivial⟩) h (by kernel_rfl)
theorem vc100 {a0 a1 : Int} {a2 : ByteArray} {a3 : Option Addr} {a3l a3c : Nat} {b c : Int}  (h : 
 nB w fun id => dB (a0 == b) (fL w [] fun w1 => id < w1.heap.size → R (.bool (a1 == c)) w1) (fL w [] fun w11 => id < w11.heap.size → R (.bool false) w11)
 ) : CallsX E.P 100 #[Av a0 a1 a2 a3 a3l a3c, .int .i64 b, .int .i64 c] w R X :=
  calls_vc E_ok ⟨[], []⟩ (f := 100) Tryz.func100 rfl [(Av a0 a1 a2 a3 a3l a3c, .no), (.int .i64 b, .no), (.int .i64 c, .no)] [] (bls0) nod0 (plain_of rfl) (shs_of ⟨trivial, trivial, trivial, trivial⟩) h (by kernel_rfl)
theorem vc101 {a b c : Int}  (h : 
 dB (a == 8) (R (.tuple #[.int .i64 (w64 (b + c)), .bool (decide (w64 (b + c) < b) == decide (c < 0))]) w) (dB (a == 9) (R (.tuple #[.int .i64 (w64 (b - c)), .bool (decide (w64 (b - c) > b) == decide (c < 0))]) w) (dB (a == 10) (∃ R1 X', CallsX E.P 124 #[Value.int IntKind.u64 (IntKind.wrap IntKind.u64 (if w64 (0 - b) > b then w64 (0 - b) else b)), Value.int IntKind.u64 (IntKind.wrap IntKind.u64 (if w64 (0 - c) > c then w64 (0 - c) else c))] w R1 X' ∧ (∀ v w2, R1 v w2 → ∃ x x1, v = .tuple #[Value.int IntKind.u64 x, Value.int IntKind.u64 x1] ∧ ∃ S, Upd w w2 S ∧ Away [] S ∧ dB (b == -9223372036854775808) (dB (b == 0) (R (.tuple #[.int .i64 (w64 (b * c)), .bool true]) w2) (dB (c == 0) (R (.tuple #[.int .i64 (w64 (b * c)), .bool true]) w2) (dB (b == 1) (R (.tuple #[.int .i64 (w64 (b * c)), .bool true]) w2) (R (.tuple #[.int .i64 (w64 (b * c)), .bool (c == 1)]) w2)))) (dB (c == -9223372036854775808) (dB (b == 0) (R (.tuple #[.int .i64 (w64 (b * c)), .bool true]) w2) (dB (c == 0) (R (.tuple #[.int .i64 (w64 (b * c)), .bool true]) w2) (dB (b == 1) (R (.tuple #[.int .i64 (w64 (b * c)), .bool true]) w2) (R (.tuple #[.int .i64 (w64 (b * c)), .bool (c == 1)]) w2)))) (dB (x == 0) (dB (decide (x1 ≤ 9223372036854775807)) (R (.tuple #[.int .i64 (w64 (b * c)), .bool true]) w2) (dB (x == 0) (dB (x1 == 9223372036854775808) (R (.tuple #[.int .i64 (w64 (b * c)), .bool !decide (b < 0) == decide (c < 0)]) w2) (R (.tuple #[.int .i64 (w64 (b * c)), .bool false]) w2)) (R (.tuple #[.int .i64 (w64 (b * c)), .bool false]) w2))) (dB (x == 0) (dB (x1 == 9223372036854775808) (R (.tuple #[.int .i64 (w64 (b * c)), .bool !decide (b < 0) == decide (c < 0)]) w2) (R (.tuple #[.int .i64 (w64 (b * c)), .bool false]) w2)) (R (.tuple #[.int .i64 (w64 (b * c)), .bool false]) w2))))) ∧ PX X' X) (dB (a == 11) (dB (c == 0) (R (.tuple #[.int .i64 0, .bool false]) w) (dB (b == -9223372036854775808) (dB (c == -1) (R (.tuple #[.int .i64 0, .bool false]) w) (∃ x2, Sem.run E.P (binSem BinOp.quo 3 (Operand.tmp 112) (Operand.tmp 113) (.int .i64 b) (.int .i64 c)) w = Result.ok (.int .i64 x2) w ∧ R (.tuple #[.int .i64 x2, .bool true]) w)) (∃ x3, Sem.run E.P (binSem BinOp.quo 3 (Operand.tmp 112) (Operand.tmp 113) (.int .i64 b) (.int .i64 c)) w = Result.ok (.int .i64 x3) w ∧ R (.tuple #[.int .i64 x3, .bool true]) w))) (dB (c == 0) (R (.tuple #[.int .i64 0, .bool false]) w) (dB (c == -1) (R (.tuple #[.int .i64 0, .bool true]) w) (∃ x4, Sem.run E.P (binSem BinOp.rem 3 (Operand.tmp 120) (Operand.tmp 121) (.int .i64 b) (.int .i64 c)) w = Result.ok (.int .i64 x4) w ∧ R (.tuple #[.int .i64 x4, .bool true]) w))))))
 ) : CallsX E.P 101 #[.int .i64 a, .int .i64 b, .int .i64 c] w R X :=
  calls_vc E_ok ⟨[], []⟩ (f := 101) Tryz.func101 rfl [(.int .i64 a, .no), (.int .i64 b, .no), (.int .i64 c, .no)] [] (bls0) nod0 (plain_of rfl) (shs_of ⟨trivial, trivial, trivial, trivial⟩) h (by kernel_rfl)
theorem vc102 {a0 a1 : Int} {a2 : ByteArray} {a3 : Option Addr} {a3l a3c : Nat} {b c : Int}  (h : 
 nB w fun id => dB (a0 == b) (fL w [] fun w1 => id < w1.heap.size → R (.bool (a1 == c)) w1) (fL w [] fun w11 => id < w11.heap.size → R (.bool false) w11)
 ) : CallsX E.P 102 #[Av a0 a1 a2 a3 a3l a3c, .int .i64 b, .int .i64 c] w R X :=
  calls_vc E_ok ⟨[], []⟩ (f := 102) Tryz.func102 rfl [(Av a0 a1 a2 a3 a3l a3c, .no), (.int .i64 b, .no), (.int .i64 c, .no)] [] (bls0) nod0 (plain_of rfl) (shs_of ⟨trivial, trivial, trivial, trivial⟩) h (by kernel_rfl)
theorem vc124 {a b : Int}  (h : 
 ∃ x, Sem.run E.P (binSem BinOp.and 138 (Operand.tmp 14) (Operand.const (Value.int IntKind.u64 4294967295)) (Value.int IntKind.u64 a) (Value.int IntKind.u64 4294967295)) w = Result.ok (Value.int IntKind.u64 x) w ∧ ∃ x1, Sem.run E.P (binSem BinOp.shr 138 (Operand.tmp 16) (Operand.const (Value.int IntKind.u64 32)) (Value.int IntKind.u64 a) (Value.int IntKind.u64 32)) w = Result.ok (Value.int IntKind.u64 x1) w ∧ ∃ x2, Sem.run E.P (binSem BinOp.and 138 (Operand.tmp 18) (Operand.const (Value.int IntKind.u64 4294967295)) (Value.int IntKind.u64 b) (Value.int IntKind.u64 4294967295)) w = Result.ok (Value.int IntKind.u64 x2) w ∧ ∃ x3, Sem.run E.P (binSem BinOp.shr 138 (Operand.tmp 20) (Operand.const (Value.int IntKind.u64 32)) (Value.int IntKind.u64 b) (Value.int IntKind.u64 32)) w = Result.ok (Value.int IntKind.u64 x3) w ∧ ∃ x4, Sem.run E.P (binSem BinOp.shr 138 (Operand.tmp 28) (Operand.const (Value.int IntKind.u64 32)) (Value.int IntKind.u64 (IntKind.wrap IntKind.u64 (x * x2))) (Value.int IntKind.u64 32)) w = Result.ok (Value.int IntKind.u64 x4) w ∧ ∃ x5, Sem.run E.P (binSem BinOp.and 138 (Operand.tmp 31) (Operand.const (Value.int IntKind.u64 4294967295)) (Value.int IntKind.u64 (IntKind.wrap IntKind.u64 (IntKind.wrap IntKind.u64 (x1 * x2) + x4))) (Value.int IntKind.u64 4294967295)) w = Result.ok (Value.int IntKind.u64 x5) w ∧ ∃ x6, Sem.run E.P (binSem BinOp.shr 138 (Operand.tmp 33) (Operand.const (Value.int IntKind.u64 32)) (Value.int IntKind.u64 (IntKind.wrap IntKind.u64 (IntKind.wrap IntKind.u64 (x1 * x2) + x4))) (Value.int IntKind.u64 32)) w = Result.ok (Value.int IntKind.u64 x6) w ∧ ∃ x7, Sem.run E.P (binSem BinOp.shr 138 (Operand.tmp 45) (Operand.const (Value.int IntKind.u64 32)) (Value.int IntKind.u64 (IntKind.wrap IntKind.u64 (x5 + IntKind.wrap IntKind.u64 (x * x3)))) (Value.int IntKind.u64 32)) w = Result.ok (Value.int IntKind.u64 x7) w ∧ R (.tuple #[Value.int IntKind.u64 (IntKind.wrap IntKind.u64 (IntKind.wrap IntKind.u64 (IntKind.wrap IntKind.u64 (x1 * x3) + x6) + x7)), Value.int IntKind.u64 (IntKind.wrap IntKind.u64 (a * b))]) w
 ) : CallsX E.P 124 #[.int .u64 a, .int .u64 b] w R X :=
  calls_vc E_ok ⟨[], []⟩ (f := 124) Tryz.func124 rfl [(.int .u64 a, .no), (.int .u64 b, .no)] [] (bls0) nod0 (plain_of rfl) (shs_of ⟨trivial, trivial, trivial⟩) h (by kernel_rfl)
end
end Go.Vx.Tryz
namespace Go.Vx
open Go
section
def InI (x : Int) : Prop := -9223372036854775808 ≤ x ∧ x ≤ 9223372036854775807
theorem w64_in (x : Int) : InI (w64 x) := by
  simp only [InI, w64, IntKind.wrap, IntKind.bits, IntKind.signed, Bool.true_and]
  split <;> rename_i hc <;> simp at hc <;> omega
theorem w64_mod (x : Int) : ∃ m : Int, w64 x = x - 18446744073709551616 * m := by
  refine ⟨(x - w64 x) / 18446744073709551616, ?_⟩
  simp only [w64, IntKind.wrap, IntKind.bits, IntKind.signed, Bool.true_and]
  split <;> rename_i hc <;> simp at hc <;> omega
def inB (x : Int) : Bool := decide (-9223372036854775808 ≤ x) && decide (x ≤ 9223372036854775807)
theorem inB_iff {x : Int} : inB x = true ↔ InI x := by simp [inB, InI]
def mulP (b c hi lo : Int) : Bool :=
  if b == -9223372036854775808 || c == -9223372036854775808 then b == 0 || c == 0 || b == 1 || c == 1
  else (hi == 0 && decide (lo ≤ 9223372036854775807)) || (hi == 0 && lo == 9223372036854775808 && !(decide (b < 0) == decide (c < 0)))
def u64of (x : Int) : Nat := (IntKind.wrap .u64 (if w64 (0 - x) > x then w64 (0 - x) else x)).toNat
def recP (k b c : Int) : Int × Bool :=
  if k == 8 then (w64 (b + c), decide (w64 (b + c) < b) == decide (c < 0))
  else if k == 9 then (w64 (b - c), decide (w64 (b - c) > b) == decide (c < 0))
  else if k == 10 then (w64 (b * c), mulP b c ((u64of b * u64of c / 18446744073709551616 : Nat) : Int) ((u64of b * u64of c % 18446744073709551616 : Nat) : Int))
  else if k == 11 then if c == 0 then (0, false) else if b == -9223372036854775808 && c == -1 then (0, false) else (w64 (b.tdiv c), true)
  else if c == 0 then (0, false) else if c == -1 then (0, true) else (b.tmod c, true)
def addR (b c : Int) : Int × Int :=
  if (decide (c > 0) && decide (b > w64 (9223372036854775807 - c))) || (decide (c < 0) && decide (b < w64 (-9223372036854775808 - c))) then (0, 1) else (w64 (b + c), 0)
def subR (b c : Int) : Int × Int :=
  if (decide (c < 0) && decide (b > w64 (9223372036854775807 + c))) || (decide (c > 0) && decide (b < w64 (-9223372036854775808 + c))) then (0, 1) else (w64 (b - c), 0)
def mulR (b c : Int) : Int × Int :=
  if b == 0 || c == 0 then (0, 0)
  else if (b == -1 && c == -9223372036854775808) || (c == -1 && b == -9223372036854775808) || w64 ((w64 (b * c)).tdiv c) != b then (0, 1) else (w64 (b * c), 0)
def recR (k b c : Int) : Int × Int :=
  if k == 8 then addR b c else if k == 9 then subR b c else if k == 10 then mulR b c
  else if c == 0 then (0, 4) else if c == -1 then (if k == 12 then (0, 0) else subR 0 b) else if k == 11 then (w64 (b.tdiv c), 0) else (b.tmod c, 0)
def rkP (k b c : Int) : Option Int := if (recP k b c).2 = true then some (recP k b c).1 else none
def rkR (k b c : Int) : Option Int := if (recR k b c).2 == 0 then some (recR k b c).1 else none
def fitI (x : Int) : Option Int := if inB x = true then some x else none
theorem ite_opt {p q : Bool} {x y : Int} (h : p = q) (h2 : p = true → x = y) : (if p = true then some x else none) = if q = true then some y else none := by
  subst h; cases p with
  | true => rw [h2 rfl]
  | false => rfl
theorem ite_opt' {p q : Bool} {x y : Int} (h : p = q) (h2 : q = true → x = y) : (if p = true then some x else none) = if q = true then some y else none := ite_opt h fun e => h2 (h ▸ e)
theorem rkP_add {b c : Int} (hb : InI b) (hc : InI c) : rkP 8 b c = fitI (b + c) := by
  obtain ⟨b1, b2⟩ := hb
  obtain ⟨c1, c2⟩ := hc
  refine ite_opt ?_ fun h => ?_ <;> simp only [recP, beq_self_eq_true, if_true] at *
  · simp only [inB, w64, IntKind.wrap, IntKind.bits, IntKind.signed, Bool.true_and]
    split <;> rename_i hc <;> simp at hc <;> rw [Bool.eq_iff_iff] <;> simp <;> omega
  · simp only [w64, IntKind.wrap, IntKind.bits, IntKind.signed, Bool.true_and] at h ⊢
    split at h <;> rename_i hc <;> simp at hc h <;> simp [hc] <;> omega
theorem rkP_sub {b c : Int} (hb : InI b) (hc : InI c) : rkP 9 b c = fitI (b - c) := by
  obtain ⟨b1, b2⟩ := hb
  obtain ⟨c1, c2⟩ := hc
  refine ite_opt ?_ fun h => ?_ <;> simp only [recP, beq_self_eq_true, if_true, show ((9 : Int) == 8) = false from rfl, Bool.false_eq_true, if_false] at *
  · simp only [inB, w64, IntKind.wrap, IntKind.bits, IntKind.signed, Bool.true_and]
    split <;> rename_i hc <;> simp at hc <;> rw [Bool.eq_iff_iff] <;> simp <;> omega
  · simp only [w64, IntKind.wrap, IntKind.bits, IntKind.signed, Bool.true_and] at h ⊢
    split at h <;> rename_i hc <;> simp at hc h <;> simp [hc] <;> omega
theorem pair_opt {p : Bool} {e x : Int} {y : Int} (he : e ≠ 0) {q : Bool} (h : p = !q) (h2 : q = true → x = y) : (if (if p = true then ((0 : Int), e) else (x, 0)).2 == 0 then some (if p = true then ((0 : Int), e) else (x, 0)).1 else none) = if q = true then some y else none := by
  subst h; cases q with
  | true => simp [h2 rfl]
  | false => simp [he]
theorem rkR_add {b c : Int} (hb : InI b) (hc : InI c) : rkR 8 b c = fitI (b + c) := by
  obtain ⟨b1, b2⟩ := hb
  obtain ⟨c1, c2⟩ := hc
  have e : recR 8 b c = addR b c := rfl
  unfold rkR
  rw [e]
  refine pair_opt (by decide) ?_ fun h => ?_
  · simp only [inB, w64, IntKind.wrap, IntKind.bits, IntKind.signed, Bool.true_and]
    split <;> rename_i h1 <;> split <;> rename_i h2 <;> simp at h1 h2 <;> rw [Bool.eq_iff_iff] <;> simp <;> omega
  · simp only [inB, Bool.and_eq_true, decide_eq_true_eq] at h
    exact w64_id h.1 h.2
theorem rkR_sub {b c : Int} (hb : InI b) (hc : InI c) : rkR 9 b c = fitI (b - c) := by
  obtain ⟨b1, b2⟩ := hb
  obtain ⟨c1, c2⟩ := hc
  have e : recR 9 b c = subR b c := rfl
  unfold rkR
  rw [e]
  refine pair_opt (by decide) ?_ fun h => ?_
  · simp only [inB, w64, IntKind.wrap, IntKind.bits, IntKind.signed, Bool.true_and]
    split <;> rename_i h1 <;> split <;> rename_i h2 <;> simp at h1 h2 <;> rw [Bool.eq_iff_iff] <;> simp <;> omega
  · simp only [inB, Bool.and_eq_true, decide_eq_true_eq] at h
    exact w64_id h.1 h.2
theorem u64of_abs {x : Int} (h : InI x) (hm : x ≠ -9223372036854775808) : u64of x = x.natAbs := by
  obtain ⟨h1, h2⟩ := h
  have e : w64 (0 - x) = -x := by rw [w64_id (by omega) (by omega)]; omega
  unfold u64of
  rw [e]
  simp only [IntKind.wrap, IntKind.bits, IntKind.signed, Bool.false_and, Bool.false_eq_true, if_false]
  split <;> omega
theorem natAbs_mul_sign (b c : Int) : ((b.natAbs * c.natAbs : Nat) : Int) = if decide (b < 0) == decide (c < 0) then b * c else -(b * c) := by
  rw [Int.natCast_mul]
  have hb : (b.natAbs : Int) = if b < 0 then -b else b := by split <;> omega
  have hc : (c.natAbs : Int) = if c < 0 then -c else c := by split <;> omega
  rw [hb, hc]
  by_cases h1 : b < 0 <;> by_cases h2 : c < 0 <;> simp [h1, h2, Int.neg_mul, Int.mul_neg]
theorem rkP_mul {b c : Int} (hb : InI b) (hc : InI c) : rkP 10 b c = fitI (b * c) := by
  refine ite_opt' ?_ fun h => ?_
  · show mulP b c _ _ = _
    unfold mulP
    by_cases h1 : b = -9223372036854775808
    · subst h1
      obtain ⟨c1, c2⟩ := hc
      rw [Bool.eq_iff_iff]
      simp [inB]
      omega
    · by_cases h2 : c = -9223372036854775808
      · subst h2
        obtain ⟨c1, c2⟩ := hb
        rw [Bool.eq_iff_iff]
        simp [inB]
        omega
      · rw [u64of_abs hb h1, u64of_abs hc h2]
        have hs := natAbs_mul_sign b c
        have e1 : (b == -9223372036854775808) = false := by simpa using h1
        have e2 : (c == -9223372036854775808) = false := by simpa using h2
        rw [e1, e2]
        simp only [Bool.or_self, Bool.false_eq_true, if_false]
        generalize b.natAbs * c.natAbs = n at hs ⊢
        generalize b * c = q at hs ⊢
        rw [Bool.eq_iff_iff]
        simp only [inB, Bool.or_eq_true, Bool.and_eq_true, beq_iff_eq, decide_eq_true_eq, Bool.not_eq_true', beq_eq_false_iff_ne, ne_eq]
        by_cases h3 : b < 0 <;> by_cases h4 : c < 0 <;> simp [h3, h4] at hs ⊢ <;> omega
  · show w64 (b * c) = b * c
    simp only [inB, Bool.and_eq_true, decide_eq_true_eq] at h
    exact w64_id h.1 h.2
theorem tdiv_back {p c a : Int} (hc : c ≠ 0) (h : p.tdiv c = a) : (p - c * a).natAbs < c.natAbs := by
  have h1 := Int.tmod_add_mul_tdiv p c
  have h2 := Int.natAbs_tmod p c
  rw [h] at h1
  have e : p - c * a = p.tmod c := by omega
  rw [e, h2]
  exact Nat.mod_lt _ (by omega)
theorem rkR_mul {b c : Int} (hb : InI b) (hc : InI c) : rkR 10 b c = fitI (b * c) := by
  have e : recR 10 b c = mulR b c := rfl
  unfold rkR
  rw [e]
  unfold mulR
  by_cases h0 : b = 0
  · subst h0; simp [fitI, inB]
  by_cases h1 : c = 0
  · subst h1; simp [fitI, inB]
  have e0 : (b == 0) = false := by simpa using h0
  have e1 : (c == 0) = false := by simpa using h1
  rw [e0, e1]
  simp only [Bool.or_self, Bool.false_eq_true, if_false]
  refine pair_opt (by decide) ?_ fun h => ?_
  · rw [Bool.eq_iff_iff]
    simp only [Bool.or_eq_true, Bool.and_eq_true, beq_iff_eq, bne_iff_ne, ne_eq, Bool.not_eq_true']
    obtain ⟨b1, b2⟩ := hb
    obtain ⟨c1, c2⟩ := hc
    by_cases h2 : b = -1 ∧ c = -9223372036854775808
    · obtain ⟨rfl, rfl⟩ := h2; simp [inB]
    by_cases h3 : c = -1 ∧ b = -9223372036854775808
    · obtain ⟨rfl, rfl⟩ := h3; simp [inB]
    simp only [h2, h3, false_or]
    obtain ⟨m, hm⟩ := w64_mod (b * c)
    obtain ⟨w1, w2⟩ := w64_in (b * c)
    constructor
    · intro hne
      cases hr : inB (b * c) with
      | false => rfl
      | true =>
        simp only [inB, Bool.and_eq_true, decide_eq_true_eq] at hr
        exfalso
        refine hne ?_
        rw [w64_id hr.1 hr.2, Int.mul_tdiv_cancel _ h1, w64_id b1 b2]
    · intro hr heq
      have hd : (w64 (b * c)).tdiv c = b := by
        by_cases hq : InI ((w64 (b * c)).tdiv c)
        · rw [w64_id hq.1 hq.2] at heq; exact heq
        · exfalso
          have hle : ((w64 (b * c)).tdiv c).natAbs = (w64 (b * c)).natAbs / c.natAbs := Int.natAbs_tdiv (w64 (b * c)) c
          have hc1 : c = -1 := by
            by_cases hc2 : 2 ≤ c.natAbs
            · have := Nat.div_le_div_left (a := (w64 (b * c)).natAbs) hc2 (by omega)
              exfalso; refine hq ⟨?_, ?_⟩ <;> omega
            · by_cases hc3 : c = 1
              · subst hc3; rw [Int.tdiv_one] at hq; exact absurd ⟨w1, w2⟩ hq
              · omega
          subst hc1
          have e3 : (w64 (b * -1)).tdiv (-1) = -(w64 (b * -1)) := by rw [Int.tdiv_neg, Int.tdiv_one]
          rw [e3] at hq heq
          have e4 : w64 (b * -1) = -9223372036854775808 := by
            apply Classical.byContradiction
            intro hne
            exact hq ⟨by omega, by omega⟩
          rw [e4] at heq
          exact h3 ⟨rfl, by rw [← heq]; decide⟩
      have hb2 := tdiv_back h1 hd
      have hcb : c * b = b * c := Int.mul_comm _ _
      rw [hcb, hm] at hb2
      have hm0 : m = 0 := by omega
      subst hm0
      simp [inB] at hr
      omega
  · simp only [inB, Bool.and_eq_true, decide_eq_true_eq] at h
    exact w64_id h.1 h.2
theorem rk_div {b c : Int} (hb : InI b) (hc : InI c) : rkP 11 b c = rkR 11 b c := by
  have e1 : recP 11 b c = if c == 0 then (0, false) else if b == -9223372036854775808 && c == -1 then (0, false) else (w64 (b.tdiv c), true) := rfl
  have e2 : recR 11 b c = if c == 0 then (0, 4) else if c == -1 then subR 0 b else (w64 (b.tdiv c), 0) := rfl
  have hs := rkR_sub (b := 0) (c := b) ⟨by decide, by decide⟩ hb
  unfold rkP rkR
  rw [e1, e2]
  by_cases h0 : c = 0
  · subst h0; rfl
  by_cases h1 : c = -1
  · subst h1
    have e : recR 9 0 b = subR 0 b := rfl
    unfold rkR at hs
    rw [e] at hs
    rw [show ((-1 : Int) == 0) = false from rfl]
    simp only [Bool.false_eq_true, if_false, beq_self_eq_true, if_true, Bool.and_true]
    rw [hs]
    by_cases h2 : b = -9223372036854775808
    · subst h2; rfl
    · have e4 : (b == -9223372036854775808) = false := by simpa using h2
      rw [e4]
      have hr : inB (0 - b) = true := by obtain ⟨b1, b2⟩ := hb; simp [inB]; omega
      simp only [Bool.false_eq_true, if_false, if_true, fitI, hr, Option.some.injEq]
      rw [Int.tdiv_neg, Int.tdiv_one]
      obtain ⟨b1, b2⟩ := hb
      rw [w64_id (by omega) (by omega)]; omega
  · have e3 : (c == 0) = false := by simpa using h0
    have e4 : (c == -1) = false := by simpa using h1
    rw [e3, e4]
    simp
theorem rk_rem {b c : Int} : rkP 12 b c = rkR 12 b c := by
  have e1 : recP 12 b c = if c == 0 then (0, false) else if c == -1 then (0, true) else (b.tmod c, true) := rfl
  have e2 : recR 12 b c = if c == 0 then (0, 4) else if c == -1 then (0, 0) else (b.tmod c, 0) := rfl
  unfold rkP rkR
  rw [e1, e2]
  by_cases h0 : c = 0
  · subst h0; rfl
  by_cases h1 : c = -1
  · subst h1; rfl
  have e3 : (c == 0) = false := by simpa using h0
  have e4 : (c == -1) = false := by simpa using h1
  rw [e3, e4]; rfl
theorem rk_one {k b c : Int} (hk : k = 8 ∨ k = 9 ∨ k = 10 ∨ k = 11 ∨ k = 12) (hb : InI b) (hc : InI c) : rkP k b c = rkR k b c := by
  rcases hk with rfl | rfl | rfl | rfl | rfl
  · rw [rkP_add hb hc, rkR_add hb hc]
  · rw [rkP_sub hb hc, rkR_sub hb hc]
  · rw [rkP_mul hb hc, rkR_mul hb hc]
  · exact rk_div hb hc
  · exact rk_rem
theorem rkP_in {k b c v : Int} (hc : InI c) (h : rkP k b c = some v) : InI v := by
  unfold rkP at h
  split at h
  · simp only [Option.some.injEq] at h
    subst h
    unfold recP
    repeat' split
    all_goals first | exact w64_in _ | exact ⟨by decide, by decide⟩ | skip
    rename_i h0 _
    obtain ⟨c1, c2⟩ := hc
    have h0 : c ≠ 0 := by simpa using h0
    have h1 := Int.natAbs_tmod b c
    have h2 := Nat.mod_lt b.natAbs (y := c.natAbs) (by omega)
    show InI (b.tmod c)
    exact ⟨by omega, by omega⟩
  · cases h
end
section
open Go
def numN (n : Int) : Nd := .mk 1 n (ByteArray.mk #[]) []
def truN (b : Bool) : Nd := .mk 2 (if b = true then 1 else 0) (ByteArray.mk #[]) []
def isN (n : Nd) (k v : Int) : Bool := if n.k == k then n.n == v else false
def singleV (n x : Nd) : Nd :=
  if n.k == 6 then (if x.k == 1 then if x.n != -9223372036854775808 then numN (w64 (0 - x.n)) else n else n)
  else if n.k == 7 then (if x.k == 2 then truN (x.n == 0) else if x.k == 7 then x.kid 0 else n)
  else if n.k == 26 then (if x.k == 1 then x else if x.k == 2 then x else n)
  else n
def sumsV (r : Option Int) (n x y : Nd) : Nd :=
  match r with
  | some v => numN v
  | none =>
    if n.k == 8 then (if isN x 1 0 then y else if isN y 1 0 then x else n)
    else if n.k == 9 then (if isN y 1 0 then x else n)
    else if n.k == 10 then (if isN x 1 1 then y else if isN y 1 1 then x else n)
    else if n.k == 11 then (if isN y 1 1 then x else n)
    else n
def sumsR (rk : Int → Int → Int → Option Int) (n x y : Nd) : Option Int := if x.k == 1 then if y.k == 1 then rk n.k x.n y.n else none else none
def comparedV (n x y : Nd) : Nd :=
  if x.k != y.k then n else if (if x.k != 1 then x.k != 2 else false) then n
  else if n.k == 13 then truN (x.n == y.n) else if n.k == 14 then truN (x.n != y.n) else if n.k == 15 then truN (decide (x.n < y.n)) else truN (decide (x.n ≤ y.n))
def ifV (n x : Nd) : Nd := if x.k == 2 then n.kid (w64 (2 - x.n)).toNat else n
def joinedV (g : Int) (n x y : Nd) : Nd := if isN x 2 g then y else if x.k == 2 then x else if isN y 2 g then x else n
def quantV (n x y : Nd) : Nd :=
  let none_ := if x.k == 25 then (x.kids.length : Int) == 0 else false
  let idle (v : Int) := if x.k == 22 then isN y 2 v else false
  if n.n == 1 then (if none_ || idle 1 then truN true else n)
  else if n.n == 2 then (if none_ || idle 0 then truN false else n)
  else if n.n == 3 then (if none_ || idle 0 then numN 0 else n)
  else if n.n == 4 then (if none_ then numN 0 else n)
  else n
def foldV (rk : Int → Int → Int → Option Int) (n : Nd) : Nd :=
  if n.k == 6 || n.k == 7 || n.k == 26 then singleV n (n.kid 0)
  else if n.k == 8 || n.k == 9 || n.k == 10 || n.k == 11 || n.k == 12 then sumsV (sumsR rk n (n.kid 0) (n.kid 1)) n (n.kid 0) (n.kid 1)
  else if n.k == 13 || n.k == 14 || n.k == 15 || n.k == 16 then comparedV n (n.kid 0) (n.kid 1)
  else if n.k == 17 then joinedV 1 n (n.kid 0) (n.kid 1)
  else if n.k == 18 then joinedV 0 n (n.kid 0) (n.kid 1)
  else if n.k == 19 then ifV n (n.kid 0)
  else if n.k == 21 then quantV n (n.kid 0) (n.kid 1)
  else n
mutual
def foldN (rk : Int → Int → Int → Option Int) : Nd → Nd
  | .mk k v s l => foldV rk (.mk k v s (foldL rk l))
def foldL (rk : Int → Int → Int → Option Int) : List Nd → List Nd
  | [] => []
  | x :: l => foldN rk x :: foldL rk l
end
theorem foldL_map (rk : Int → Int → Int → Option Int) : ∀ (l : List Nd), foldL rk l = l.map (foldN rk)
  | [] => rfl
  | x :: l => by rw [foldL, foldL_map rk l]; rfl
mutual
def forms : Nd → Bool
  | .mk k v s l => formB k v s l.length && formsL l
def formsL : List Nd → Bool
  | [] => true
  | x :: l => forms x && formsL l
end
theorem formsL_iff : ∀ {l : List Nd}, formsL l = true ↔ ∀ x ∈ l, forms x = true
  | [] => by simp [formsL]
  | x :: l => by rw [formsL, Bool.and_eq_true, formsL_iff (l := l)]; simp
theorem forms_kid {n : Nd} (h : forms n = true) {j : Nat} (hj : j < n.kids.length) : forms (n.kid j) = true := by
  obtain ⟨k, v, s, l⟩ := n
  rw [forms, Bool.and_eq_true] at h
  have hj : j < l.length := hj
  have : Nd.kid (.mk k v s l) j = l[j] := by show l.getD j nd0 = _; rw [List.getD_eq_getElem?_getD, List.getElem?_eq_getElem hj]; rfl
  rw [this]
  exact formsL_iff.1 h.2 _ (List.getElem_mem hj)
theorem form_of {n : Nd} (h : forms n = true) : formB n.k n.n n.s n.kids.length = true := by
  obtain ⟨k, v, s, l⟩ := n
  rw [forms, Bool.and_eq_true] at h
  exact h.1
theorem strE : strEq (ByteArray.mk #[]) (ByteArray.mk #[]) = true := strEq_rfl _
theorem forms_num (v : Int) : forms (numN v) = true := by
  unfold numN
  rw [forms, formsL]
  simp [formB, strE]
theorem forms_tru (b : Bool) : forms (truN b) = true := by
  unfold truN
  rw [forms, formsL]
  cases b <;> simp [formB, strE]
theorem form_one {k v : Int} {s : ByteArray} {l : Int} (h : formB k v s l = true) (hk : k = 6 ∨ k = 7 ∨ k = 26) : l = 1 := by
  rcases hk with rfl | rfl | rfl <;> simp [formB] at h <;> omega
theorem form_two {k v : Int} {s : ByteArray} {l : Int} (h : formB k v s l = true) (hk : k = 8 ∨ k = 9 ∨ k = 10 ∨ k = 11 ∨ k = 12 ∨ k = 13 ∨ k = 14 ∨ k = 15 ∨ k = 16 ∨ k = 17 ∨ k = 18 ∨ k = 21) : l = 2 := by
  rcases hk with rfl | rfl | rfl | rfl | rfl | rfl | rfl | rfl | rfl | rfl | rfl | rfl <;> simp [formB] at h <;> omega
theorem form_three {v : Int} {s : ByteArray} {l : Int} (h : formB 19 v s l = true) : l = 3 := by
  simp [formB] at h; omega
theorem form_bool {v : Int} {s : ByteArray} {l : Int} (h : formB 2 v s l = true) : v = 0 ∨ v = 1 := by
  simp [formB] at h; omega
mutual
def inR : Nd → Bool
  | .mk _ v _ l => inB v && inRL l
def inRL : List Nd → Bool
  | [] => true
  | x :: l => inR x && inRL l
end
theorem inRL_iff : ∀ {l : List Nd}, inRL l = true ↔ ∀ x ∈ l, inR x = true
  | [] => by simp [inRL]
  | x :: l => by rw [inRL, Bool.and_eq_true, inRL_iff (l := l)]; simp
theorem inR_n {n : Nd} (h : inR n = true) : InI n.n := by
  obtain ⟨k, v, s, l⟩ := n
  rw [inR, Bool.and_eq_true] at h
  exact inB_iff.1 h.1
theorem inR_kid {n : Nd} (h : inR n = true) {j : Nat} (hj : j < n.kids.length) : inR (n.kid j) = true := by
  obtain ⟨k, v, s, l⟩ := n
  rw [inR, Bool.and_eq_true] at h
  have hj : j < l.length := hj
  have : Nd.kid (.mk k v s l) j = l[j] := by show l.getD j nd0 = _; rw [List.getD_eq_getElem?_getD, List.getElem?_eq_getElem hj]; rfl
  rw [this]
  exact inRL_iff.1 h.2 _ (List.getElem_mem hj)
theorem inR_num {v : Int} (h : InI v) : inR (numN v) = true := by
  unfold numN
  rw [inR, inRL, inB_iff.2 h]; rfl
theorem inR_tru (b : Bool) : inR (truN b) = true := by
  unfold truN
  rw [inR, inRL]
  cases b <;> simp [inB]
inductive Becomes (n : Nd) : Nd → Prop
  | self : Becomes n n
  | kid (j : Nat) : j < n.kids.length → Becomes n (n.kid j)
  | kid2 : 0 < n.kids.length → 0 < (n.kid 0).kids.length → Becomes n ((n.kid 0).kid 0)
  | num (v : Int) : InI v → Becomes n (numN v)
  | tru (b : Bool) : Becomes n (truN b)
theorem Becomes.forms {n m : Nd} (h : Becomes n m) (hf : forms n = true) : forms m = true := by
  cases h with
  | self => exact hf
  | kid j hj => exact forms_kid hf hj
  | kid2 h0 h1 => exact forms_kid (forms_kid hf h0) h1
  | num v hv => exact forms_num v
  | tru b => exact forms_tru b
theorem Becomes.inR {n m : Nd} (h : Becomes n m) (hf : inR n = true) : inR m = true := by
  cases h with
  | self => exact hf
  | kid j hj => exact inR_kid hf hj
  | kid2 h0 h1 => exact inR_kid (inR_kid hf h0) h1
  | num v hv => exact inR_num hv
  | tru b => exact inR_tru b
theorem kid_sz2 {n : Nd} {j : Nat} (hj : j < n.kids.length) : (n.kid j).size < n.size := by
  have := kid_lt hj
  have e : n.kid j = n.kids[j] := by show n.kids.getD j nd0 = _; rw [List.getD_eq_getElem?_getD, List.getElem?_eq_getElem hj]; rfl
  rw [e]; exact this
theorem num_size (v : Int) : (numN v).size = 1 := by simp [numN, Nd.size, Nd.sizes]
theorem tru_size (b : Bool) : (truN b).size = 1 := by simp [truN, Nd.size, Nd.sizes]
theorem size_pos (n : Nd) : 1 ≤ n.size := by cases n; simp only [Nd.size]; omega
theorem Becomes.size {n m : Nd} (h : Becomes n m) : m.size ≤ n.size := by
  have := size_pos n
  cases h with
  | self => exact Nat.le_refl _
  | kid j hj => have := kid_sz2 hj; omega
  | kid2 h0 h1 => have := kid_sz2 h0; have := kid_sz2 h1; omega
  | num v hv => rw [num_size]; omega
  | tru b => rw [tru_size]; omega
theorem ite_b {n x y : Nd} {c : Prop} [Decidable c] (h1 : c → Becomes n x) (h2 : ¬ c → Becomes n y) : Becomes n (if c then x else y) := by
  split
  · exact h1 ‹_›
  · exact h2 ‹_›
def GoodR (rk : Int → Int → Int → Option Int) : Prop := ∀ k b c v, InI b → InI c → rk k b c = some v → InI v
theorem foldV_b {rk : Int → Int → Int → Option Int} (hrk : GoodR rk) {n : Nd} (hf : forms n = true) (hr : inR n = true) : Becomes n (foldV rk n) := by
  have hfm := form_of hf
  have self := fun (_ : ¬ (True → False)) => Becomes.self (n := n)
  unfold foldV
  refine ite_b (fun h => ?_) fun h => ite_b (fun h => ?_) fun h => ite_b (fun h => ?_) fun h => ite_b (fun h => ?_) fun h => ite_b (fun h => ?_) fun h => ite_b (fun h => ?_) fun h => ite_b (fun h => ?_) fun h => .self
  · simp only [Bool.or_eq_true, beq_iff_eq] at h
    have h1 : 0 < n.kids.length := by have := form_one hfm (by omega); omega
    unfold singleV
    refine ite_b (fun _ => ite_b (fun _ => ite_b (fun _ => .num _ (w64_in _)) fun _ => .self) fun _ => .self) fun _ => ite_b (fun _ => ite_b (fun _ => .tru _) fun _ => ite_b (fun h7 => ?_) fun _ => .self) fun _ => ite_b (fun _ => ite_b (fun _ => .kid 0 h1) fun _ => ite_b (fun _ => .kid 0 h1) fun _ => .self) fun _ => .self
    have h7 : (n.kid 0).k = 7 := by simpa using h7
    have := form_one (form_of (forms_kid hf h1)) (.inr (.inl h7))
    exact .kid2 h1 (by omega)
  · simp only [Bool.or_eq_true, beq_iff_eq] at h
    have h2 : n.kids.length = 2 := by have := form_two hfm (by omega); omega
    have k0 := inR_n (inR_kid hr (j := 0) (by omega))
    have k1 := inR_n (inR_kid hr (j := 1) (by omega))
    unfold sumsV
    split
    · rename_i v hv
      unfold sumsR at hv
      split at hv
      · split at hv
        · exact .num v (hrk _ _ _ _ k0 k1 hv)
        · cases hv
      · cases hv
    · refine ite_b (fun _ => ite_b (fun _ => .kid 1 (by omega)) fun _ => ite_b (fun _ => .kid 0 (by omega)) fun _ => .self) fun _ => ite_b (fun _ => ite_b (fun _ => .kid 0 (by omega)) fun _ => .self) fun _ =>
        ite_b (fun _ => ite_b (fun _ => .kid 1 (by omega)) fun _ => ite_b (fun _ => .kid 0 (by omega)) fun _ => .self) fun _ => ite_b (fun _ => ite_b (fun _ => .kid 0 (by omega)) fun _ => .self) fun _ => .self
  · unfold comparedV
    exact ite_b (fun _ => .self) fun _ => ite_b (fun _ => .self) fun _ => ite_b (fun _ => .tru _) fun _ => ite_b (fun _ => .tru _) fun _ => ite_b (fun _ => .tru _) fun _ => .tru _
  · have h2 : n.kids.length = 2 := by have h : n.k = 17 := by simpa using h
                                      have := form_two hfm (by omega); omega
    exact ite_b (fun _ => .kid 1 (by omega)) fun _ => ite_b (fun _ => .kid 0 (by omega)) fun _ => ite_b (fun _ => .kid 0 (by omega)) fun _ => .self
  · have h2 : n.kids.length = 2 := by have h : n.k = 18 := by simpa using h
                                      have := form_two hfm (by omega); omega
    exact ite_b (fun _ => .kid 1 (by omega)) fun _ => ite_b (fun _ => .kid 0 (by omega)) fun _ => ite_b (fun _ => .kid 0 (by omega)) fun _ => .self
  · have h : n.k = 19 := by simpa using h
    rw [h] at hfm
    have h3 := form_three hfm
    refine ite_b (fun h2 => ?_) fun _ => .self
    have h2 : (n.kid 0).k = 2 := by simpa using h2
    have hb := form_of (forms_kid hf (j := 0) (by omega))
    rw [h2] at hb
    refine .kid _ ?_
    rcases form_bool hb with e | e <;> rw [e]
    · rw [show (w64 (2 - 0)).toNat = 2 from by decide]; omega
    · rw [show (w64 (2 - 1)).toNat = 1 from by decide]; omega
  · unfold quantV
    exact ite_b (fun _ => ite_b (fun _ => .tru _) fun _ => .self) fun _ => ite_b (fun _ => ite_b (fun _ => .tru _) fun _ => .self) fun _ => ite_b (fun _ => ite_b (fun _ => .num _ ⟨by decide, by decide⟩) fun _ => .self) fun _ => ite_b (fun _ => ite_b (fun _ => .num _ ⟨by decide, by decide⟩) fun _ => .self) fun _ => .self
theorem foldV_eq {n : Nd} (hf : forms n = true) (hr : inR n = true) : foldV rkP n = foldV rkR n := by
  have hfm := form_of hf
  unfold foldV
  split
  · rfl
  · split
    · rename_i h
      simp only [Bool.or_eq_true, beq_iff_eq] at h
      have h2 : n.kids.length = 2 := by have := form_two hfm (by omega); omega
      have k0 := inR_n (inR_kid hr (j := 0) (by omega))
      have k1 := inR_n (inR_kid hr (j := 1) (by omega))
      have : sumsR rkP n (n.kid 0) (n.kid 1) = sumsR rkR n (n.kid 0) (n.kid 1) := by
        unfold sumsR
        rw [rk_one (by omega) k0 k1]
      rw [this]
    · rfl
theorem goodP : GoodR rkP := fun _ _ _ _ _ hc h => rkP_in hc h
mutual
theorem foldN_ok : ∀ (n : Nd), forms n = true → inR n = true → forms (foldN rkP n) = true ∧ inR (foldN rkP n) = true ∧ (foldN rkP n).size ≤ n.size ∧ foldN rkP n = foldN rkR n
  | .mk k v s l, hf, hr => by
    rw [forms, Bool.and_eq_true] at hf
    rw [inR, Bool.and_eq_true] at hr
    obtain ⟨h1, h2, h3, h4, h5⟩ := foldL_ok l hf.2 hr.2
    rw [foldN, foldN, ← h4]
    have hf2 : forms (.mk k v s (foldL rkP l)) = true := by rw [forms, Bool.and_eq_true, h5]; exact ⟨hf.1, h1⟩
    have hr2 : inR (.mk k v s (foldL rkP l)) = true := by rw [inR, Bool.and_eq_true]; exact ⟨hr.1, h2⟩
    have hb := foldV_b goodP hf2 hr2
    refine ⟨hb.forms hf2, hb.inR hr2, Nat.le_trans hb.size ?_, foldV_eq hf2 hr2⟩
    simp only [Nd.size]; omega
theorem foldL_ok : ∀ (l : List Nd), formsL l = true → inRL l = true → formsL (foldL rkP l) = true ∧ inRL (foldL rkP l) = true ∧ Nd.sizes (foldL rkP l) ≤ Nd.sizes l ∧ foldL rkP l = foldL rkR l ∧ (foldL rkP l).length = l.length
  | [], _, _ => ⟨rfl, rfl, Nat.le_refl _, rfl, rfl⟩
  | x :: l, hf, hr => by
    rw [formsL, Bool.and_eq_true] at hf
    rw [inRL, Bool.and_eq_true] at hr
    obtain ⟨a1, a2, a3, a4⟩ := foldN_ok x hf.1 hr.1
    obtain ⟨h1, h2, h3, h4, h5⟩ := foldL_ok l hf.2 hr.2
    rw [foldL, foldL, ← a4, ← h4]
    refine ⟨by rw [formsL, a1, h1]; rfl, by rw [inRL, a2, h2]; rfl, ?_, rfl, by simp [h5]⟩
    simp only [Nd.sizes]; omega
end
end
end Go.Vx
namespace Go.Vx.Tryz
open Go Go.Vx Go.Proofs
section
abbrev NdP (w0 : World) (o : Bool) (F : Nat → Prop) (r : Nd) : Value → World → Prop := fun v w' => ∃ A l c, v = ndA r A l c ∧ NdsG w' o F r.kids A l c ∧ Ext w0 w'
theorem nds_nilo {w : World} {o : Bool} {F : Nat → Prop} : NdsG w o F [] none 0 0 := by
  cases o with
  | true => exact nds_nil
  | false => exact nds_nil.plain
theorem fl {w0 w w1 : World} {id : Nat} (h : Ext w0 w) (k : Upd w w1 (setOf [id])) (hid : w0.heap.size ≤ id) : Ext w0 w1 :=
  Upd.step h k fun b hb => by simp only [setOf, no, or_false] at hb; omega
theorem is_c100 (n : Nd) (k v : Int) {A : Option Addr} {l c : Nat} {w : World} : CallsX E.P 100 #[ndA n A l c, .int .i64 k, .int .i64 v] w (IsV (.bool (isN n k v)) w) never := by
  refine vc100 fun id hid => ⟨fun h w1 hE _ => ⟨?_, hE⟩, fun h w1 hE _ => ⟨?_, hE⟩⟩ <;> rw [isN, h] <;> rfl
theorem is_c102 (n : Nd) (k v : Int) {A : Option Addr} {l c : Nat} {w : World} : CallsX E.P 102 #[ndA n A l c, .int .i64 k, .int .i64 v] w (IsV (.bool (isN n k v)) w) never := by
  refine vc102 fun id hid => ⟨fun h w1 hE _ => ⟨?_, hE⟩, fun h w1 hE _ => ⟨?_, hE⟩⟩ <;> rw [isN, h] <;> rfl
theorem num_c97 (v : Int) {w : World} {o : Bool} {F : Nat → Prop} : CallsX E.P 97 #[.int .i64 v] w (NdP w o F (numN v)) never :=
  vc97 fun id hid w1 hE _ => ⟨_, _, _, rfl, nds_nilo, hE⟩
theorem num_c69 (v : Int) {w : World} {o : Bool} {F : Nat → Prop} : CallsX E.P 69 #[.int .i64 v] w (NdP w o F (numN v)) never :=
  vc69 fun id hid w1 hE _ => ⟨_, _, _, rfl, nds_nilo, hE⟩
theorem tru_c98 (b : Bool) {w : World} {o : Bool} {F : Nat → Prop} : CallsX E.P 98 #[.bool b] w (NdP w o F (truN b)) never :=
  vc98 fun id hid => ⟨fun h w1 hE _ => by subst h; exact ⟨_, _, _, rfl, nds_nilo, hE⟩, fun h w1 hE _ => by subst h; exact ⟨_, _, _, rfl, nds_nilo, hE⟩⟩
theorem tru_c70 (b : Bool) {w : World} {o : Bool} {F : Nat → Prop} : CallsX E.P 70 #[.bool b] w (NdP w o F (truN b)) never :=
  vc70 fun id hid => ⟨fun h w1 hE _ => by subst h; exact ⟨_, _, _, rfl, nds_nilo, hE⟩, fun h w1 hE _ => by subst h; exact ⟨_, _, _, rfl, nds_nilo, hE⟩⟩
theorem quo_run (o1 o2 : Operand) {a b : Int} (h : b ≠ 0) {w : World} : Sem.run E.P (binSem .quo 3 o1 o2 (.int .i64 a) (.int .i64 b)) w = .ok (.int .i64 (w64 (a.tdiv b))) w := by
  simp [binSem, eqGuard, binOp, Op.intDiv, h]
theorem rem_run (o1 o2 : Operand) {a b : Int} (h : b ≠ 0) {w : World} : Sem.run E.P (binSem .rem 3 o1 o2 (.int .i64 a) (.int .i64 b)) w = .ok (.int .i64 (a.tmod b)) w := by
  simp [binSem, eqGuard, binOp, Op.intDiv, h]
theorem mask_run (o1 o2 : Operand) {a : Nat} (ha : a < 18446744073709551616) {w : World} : Sem.run E.P (binSem .and 138 o1 o2 (.int .u64 (a : Int)) (.int .u64 4294967295)) w = .ok (.int .u64 ((a % 4294967296 : Nat) : Int)) w := by
  have h := bits_and_u64_nat a 4294967295 ha (by omega)
  have e : a &&& 4294967295 = a % 4294967296 := Nat.and_two_pow_sub_one_eq_mod a 32
  rw [e] at h
  simp [binSem, eqGuard, binOp, Op.intBits]
  simpa [bits] using h
theorem shr_run (o1 o2 : Operand) {a : Nat} {w : World} : Sem.run E.P (binSem .shr 138 o1 o2 (.int .u64 (a : Int)) (.int .u64 32)) w = .ok (.int .u64 ((a / 4294967296 : Nat) : Int)) w := by
  have e : (2 : Int) ^ (min 32 IntKind.u64.bits) = 4294967296 := by decide
  have h : (a : Int).fdiv 4294967296 = (a : Int) / 4294967296 := Int.fdiv_eq_ediv_of_nonneg _ (by omega)
  simp [binSem, eqGuard, binOp, Op.shift]
  rw [e, h]
theorem wrapU {a : Nat} (ha : a < 18446744073709551616) : IntKind.wrap .u64 (a : Int) = (a : Int) := by
  simp only [IntKind.wrap, IntKind.bits, IntKind.signed, Bool.false_and, Bool.false_eq_true, if_false]; omega
theorem wrapV (a : Nat) : IntKind.wrap .u64 (a : Int) = ((a % 18446744073709551616 : Nat) : Int) := by
  simp only [IntKind.wrap, IntKind.bits, IntKind.signed, Bool.false_and, Bool.false_eq_true, if_false]; omega
theorem mul64_c {x y : Nat} (hx : x < 18446744073709551616) (hy : y < 18446744073709551616) {w : World} :
    CallsX E.P 124 #[.int .u64 (x : Int), .int .u64 (y : Int)] w (fun v w' => v = .tuple #[.int .u64 ((x * y / 18446744073709551616 : Nat) : Int), .int .u64 ((x * y % 18446744073709551616 : Nat) : Int)] ∧ Ext w w') never := by
  obtain ⟨bd, bt, bw, hhi⟩ := Lib.mul64_hi x y hx hy
  have ba := Lib.half_mul_le (a := x / 4294967296) (b := y / 4294967296) (by omega) (by omega)
  have bb := Lib.half_mul_le (a := x / 4294967296) (b := y % 4294967296) (by omega) (by omega)
  have bc := Lib.half_mul_le (a := x % 4294967296) (b := y / 4294967296) (by omega) (by omega)
  refine vc124 ⟨_, mask_run _ _ hx, _, shr_run _ _, _, mask_run _ _ hy, _, shr_run _ _, ?_⟩
  rw [← Int.natCast_mul, wrapU bd]
  refine ⟨_, shr_run _ _, ?_⟩
  rw [← Int.natCast_mul, wrapU (by omega), ← Int.natCast_add, wrapU bt]
  refine ⟨_, mask_run _ _ bt, _, shr_run _ _, ?_⟩
  rw [← Int.natCast_mul, wrapU (a := x % 4294967296 * (y / 4294967296)) (by omega), ← Int.natCast_add, wrapU bw]
  refine ⟨_, shr_run _ _, ?_⟩
  rw [← Int.natCast_mul, wrapU (a := x / 4294967296 * (y / 4294967296)) (by omega), ← Int.natCast_add, wrapU (by omega), ← Int.natCast_add, wrapU (by omega), hhi, ← Int.natCast_mul, wrapV]
  exact ⟨rfl, Upd.refl _ _⟩
end
section
open Go Go.Vx Go.Proofs
abbrev RkR (w : World) (r : Int × Int) : Value → World → Prop := fun v w' => v = .tuple #[.int .i64 r.1, .int .i64 r.2] ∧ Ext w w'
abbrev RkP (w : World) (r : Int × Bool) : Value → World → Prop := fun v w' => v = .tuple #[.int .i64 r.1, .bool r.2] ∧ Ext w w'
theorem retR {w : World} {r : Int × Int} {x y : Int} (e : r = (x, y)) : RkR w r (.tuple #[.int .i64 x, .int .i64 y]) w := ⟨by rw [e], Upd.refl _ _⟩
theorem retP {w w' : World} {r : Int × Bool} {x : Int} {y : Bool} (hE : Ext w w') (e : r = (x, y)) : RkP w r (.tuple #[.int .i64 x, .bool y]) w' := ⟨by rw [e], hE⟩
theorem nt {c : Bool} (h : c = false) : ¬ c = true := by rw [h]; exact Bool.false_ne_true
theorem reckon_9 (b c : Int) {w : World} : CallsX E.P 99 #[.int .i64 9, .int .i64 b, .int .i64 c] w (RkR w (subR b c)) never := by
  refine vc99 ⟨fun h => absurd h (by decide), fun _ => ⟨fun _ => ⟨fun h1 => ⟨fun h2 => retR (by rw [subR, h1, h2]; rfl), fun h2 => ⟨fun h3 => ⟨fun h4 => retR (by rw [subR, h1, h2, h3, h4]; rfl), fun h4 => retR (by rw [subR, h1, h2, h3, h4]; rfl)⟩, fun h3 => retR (by rw [subR, h1, h2, h3]; rfl)⟩⟩, fun h1 =>
    ⟨fun h3 => ⟨fun h4 => retR (by rw [subR, h1, h3, h4]; rfl), fun h4 => retR (by rw [subR, h1, h3, h4]; rfl)⟩, fun h3 => retR (by rw [subR, h1, h3]; rfl)⟩⟩, fun h => absurd h (by decide)⟩⟩
theorem reckon_c (a b c : Int) {w : World} : CallsX E.P 99 #[.int .i64 a, .int .i64 b, .int .i64 c] w (RkR w (recR a b c)) never := by
  have ne0 : ∀ {x : Int}, (x == 0) = false → x ≠ 0 := fun h => by simpa using h
  refine vc99 ⟨fun h8 => ?_, fun h8 => ⟨fun h9 => ?_, fun h9 => ⟨fun h10 => ?_, fun h10 => ?_⟩⟩⟩
  · have e : recR a b c = addR b c := by rw [recR, h8]; rfl
    rw [e]
    exact ⟨fun h1 => ⟨fun h2 => retR (by rw [addR, h1, h2]; rfl), fun h2 => ⟨fun h3 => ⟨fun h4 => retR (by rw [addR, h1, h2, h3, h4]; rfl), fun h4 => retR (by rw [addR, h1, h2, h3, h4]; rfl)⟩, fun h3 => retR (by rw [addR, h1, h2, h3]; rfl)⟩⟩, fun h1 =>
      ⟨fun h3 => ⟨fun h4 => retR (by rw [addR, h1, h3, h4]; rfl), fun h4 => retR (by rw [addR, h1, h3, h4]; rfl)⟩, fun h3 => retR (by rw [addR, h1, h3]; rfl)⟩⟩
  · have e : recR a b c = subR b c := by rw [recR, h8, h9]; rfl
    rw [e]
    exact ⟨fun h1 => ⟨fun h2 => retR (by rw [subR, h1, h2]; rfl), fun h2 => ⟨fun h3 => ⟨fun h4 => retR (by rw [subR, h1, h2, h3, h4]; rfl), fun h4 => retR (by rw [subR, h1, h2, h3, h4]; rfl)⟩, fun h3 => retR (by rw [subR, h1, h2, h3]; rfl)⟩⟩, fun h1 =>
      ⟨fun h3 => ⟨fun h4 => retR (by rw [subR, h1, h3, h4]; rfl), fun h4 => retR (by rw [subR, h1, h3, h4]; rfl)⟩, fun h3 => retR (by rw [subR, h1, h3]; rfl)⟩⟩
  · have e : recR a b c = mulR b c := by rw [recR, h8, h9, h10]; rfl
    rw [e]
    have tail : ∀ {o1 o2 : Operand}, (b == 0) = false → (c == 0) = false → ((b == -1) && (c == -9223372036854775808)) = false → ((c == -1) && (b == -9223372036854775808)) = false →
        ∃ x, Sem.run E.P (binSem BinOp.quo 3 o1 o2 (.int .i64 (w64 (b * c))) (.int .i64 c)) w = Result.ok (.int .i64 x) w ∧ ((x != b) = true → RkR w (mulR b c) (.tuple #[.int .i64 0, .int .i64 1]) w) ∧ ((x != b) = false → RkR w (mulR b c) (.tuple #[.int .i64 (w64 (b * c)), .int .i64 0]) w) := fun q1 q2 q3 q4 =>
      ⟨_, quo_run _ _ (ne0 q2), fun h => retR (by rw [mulR, q1, q2, q3, q4, h]; rfl), fun h => retR (by rw [mulR, q1, q2, q3, q4, h]; rfl)⟩
    exact ⟨fun h1 => retR (by rw [mulR, h1]; rfl), fun h1 => ⟨fun h2 => retR (by rw [mulR, h1, h2]; rfl), fun h2 => ⟨fun h3 => ⟨fun h4 => retR (by rw [mulR, h1, h2, h3, h4]; rfl), fun h4 => ⟨fun h5 => ⟨fun h6 => retR (by rw [mulR, h1, h2, h3, h4, h5, h6]; rfl), fun h6 => tail h1 h2 (by rw [h3, h4]; rfl) (by rw [h5, h6]; rfl)⟩, fun h5 => tail h1 h2 (by rw [h3, h4]; rfl) (by rw [h5]; rfl)⟩⟩,
      fun h3 => ⟨fun h5 => ⟨fun h6 => retR (by rw [mulR, h1, h2, h3, h5, h6]; rfl), fun h6 => tail h1 h2 (by rw [h3]; rfl) (by rw [h5, h6]; rfl)⟩, fun h5 => tail h1 h2 (by rw [h3]; rfl) (by rw [h5]; rfl)⟩⟩⟩⟩
  · refine ⟨fun h1 => retR (by rw [recR, h8, h9, h10, h1]; rfl), fun h1 => ⟨fun h2 => ⟨fun h3 => retR (by rw [recR, h8, h9, h10, h1, h2, h3]; rfl), fun h3 => ?_⟩, fun h2 => ⟨fun h3 => ⟨_, quo_run _ _ (ne0 h1), retR (by rw [recR, h8, h9, h10, h1, h2, h3]; rfl)⟩, fun h3 => ⟨_, rem_run _ _ (ne0 h1), retR (by rw [recR, h8, h9, h10, h1, h2, h3]; rfl)⟩⟩⟩⟩
    have e : recR a b c = subR 0 b := by rw [recR, h8, h9, h10, h1, h2, h3]; rfl
    refine ⟨_, _, reckon_9 0 b, ?_, never_any⟩
    rintro v w2 ⟨rfl, hE⟩
    exact ⟨_, _, rfl, no, hE, Away.no _, by rw [e], hE⟩
theorem u64of_lt (x : Int) : u64of x < 18446744073709551616 := by
  unfold u64of
  simp only [IntKind.wrap, IntKind.bits, IntKind.signed, Bool.false_and, Bool.false_eq_true, if_false]
  omega
theorem u64of_cast (x : Int) : ((u64of x : Nat) : Int) = IntKind.wrap .u64 (if w64 (0 - x) > x then w64 (0 - x) else x) := by
  unfold u64of
  simp only [IntKind.wrap, IntKind.bits, IntKind.signed, Bool.false_and, Bool.false_eq_true, if_false]
  omega
theorem reckoned_c (a b c : Int) {w : World} : CallsX E.P 101 #[.int .i64 a, .int .i64 b, .int .i64 c] w (RkP w (recP a b c)) never := by
  have ne0 : ∀ {x : Int}, (x == 0) = false → x ≠ 0 := fun h => by simpa using h
  have eR : ∀ w', Ext w w' → Ext w w' := fun _ h => h
  have rf : Ext w w := Upd.refl _ _
  refine vc101 ⟨fun h8 => retP rf (by rw [recP, h8]; rfl), fun h8 => ⟨fun h9 => retP rf (by rw [recP, h8, h9]; rfl), fun h9 => ⟨fun h10 => ?_, fun h10 => ⟨fun h11 => ⟨fun h1 => retP rf (by rw [recP, h8, h9, h10, h11, h1]; rfl), fun h1 =>
    ⟨fun h2 => ⟨fun h3 => retP rf (by rw [recP, h8, h9, h10, h11, h1, h2, h3]; rfl), fun h3 => ⟨_, quo_run _ _ (ne0 h1), retP rf (by rw [recP, h8, h9, h10, h11, h1, h2, h3]; rfl)⟩⟩, fun h2 => ⟨_, quo_run _ _ (ne0 h1), retP rf (by rw [recP, h8, h9, h10, h11, h1, h2]; rfl)⟩⟩⟩,
    fun h11 => ⟨fun h1 => retP rf (by rw [recP, h8, h9, h10, h11, h1]; rfl), fun h1 => ⟨fun h2 => retP rf (by rw [recP, h8, h9, h10, h11, h1, h2]; rfl), fun h2 => ⟨_, rem_run _ _ (ne0 h1), retP rf (by rw [recP, h8, h9, h10, h11, h1, h2]; rfl)⟩⟩⟩⟩⟩⟩⟩
  have e : recP a b c = (w64 (b * c), mulP b c ((u64of b * u64of c / 18446744073709551616 : Nat) : Int) ((u64of b * u64of c % 18446744073709551616 : Nat) : Int)) := by rw [recP, h8, h9, h10]; rfl
  rw [e]
  have hm := mul64_c (u64of_lt b) (u64of_lt c) (w := w)
  rw [u64of_cast, u64of_cast] at hm
  refine ⟨_, _, hm, ?_, never_any⟩
  rintro v w2 ⟨rfl, hE⟩
  refine ⟨_, _, rfl, no, hE, Away.no _, ?_⟩
  generalize ((u64of b * u64of c / 18446744073709551616 : Nat) : Int) = hi
  generalize ((u64of b * u64of c % 18446744073709551616 : Nat) : Int) = lo
  have side : ∀ {p : Bool}, mulP b c hi lo = p → RkP w (w64 (b * c), mulP b c hi lo) (.tuple #[.int .i64 (w64 (b * c)), .bool p]) w2 := fun q => retP hE (by rw [q])
  exact ⟨fun h1 => ⟨fun h2 => side (by rw [mulP, h1, h2]; rfl), fun h2 => ⟨fun h3 => side (by rw [mulP, h1, h2, h3]; rfl), fun h3 => ⟨fun h4 => side (by rw [mulP, h1, h2, h3, h4]; rfl), fun h4 => side (by rw [mulP, h1, h2, h3, h4]; rfl)⟩⟩⟩,
    fun h1 => ⟨fun h0 => ⟨fun h2 => side (by rw [mulP, h1, h0, h2]; rfl), fun h2 => ⟨fun h3 => side (by rw [mulP, h1, h0, h2, h3]; rfl), fun h3 => ⟨fun h4 => side (by rw [mulP, h1, h0, h2, h3, h4]; rfl), fun h4 => side (by rw [mulP, h1, h0, h2, h3, h4]; rfl)⟩⟩⟩,
      fun h0 => ⟨fun h2 => ⟨fun h3 => side (by rw [mulP, h1, h0, h2, h3]; rfl), fun h3 => ⟨fun _ => ⟨fun h4 => side (by rw [mulP, h1, h0, h2, h3, h4]; rfl), fun h4 => side (by rw [mulP, h1, h0, h2, h3, h4]; rfl)⟩, fun h => absurd h2 (nt h)⟩⟩,
        fun h2 => ⟨fun h => absurd h (nt h2), fun _ => side (by rw [mulP, h1, h0, h2]; rfl)⟩⟩⟩⟩
end
section
open Go Go.Vx Go.Proofs
section
variable {w w1 w2 w3 : World} {o : Bool} {F : Nat → Prop} {n r r' : Nd} {A : Option Addr} {l c : Nat}
theorem kid_at {j : Nat} (hj : j < n.kids.length) : n.kid j = n.kids[j] := by
  show n.kids.getD j nd0 = _; rw [List.getD_eq_getElem?_getD, List.getElem?_eq_getElem hj]; rfl
theorem kidN (h : NdsG w o F n.kids A l c) (hE : Ext w w1) {j : Nat} (hj : j < n.kids.length) {ad : Addr} (ha : A = some ad) {K : Int → Int → ByteArray → Option Addr → Nat → Nat → Prop}
    (k : ∀ A1 l1 c1, NdsG w o F (n.kid j).kids A1 l1 c1 → K (n.kid j).k (n.kid j).n (n.kid j).s A1 l1 c1) :
    ∃ x2 x3, ∃ x4 a, ∃ n c, CellsIn w1 (ad.add (Int.toNat (j : Int) * 4)) [.int .i64 x2, .int .i64 x3, .string x4, .slice a n c] ∧ K x2 x3 x4 a n c := by
  obtain ⟨A1, l1, c1, h1, h2⟩ := h.get ha hj
  rw [← kid_at hj] at h1 h2
  exact ⟨_, _, _, _, _, _, h1.ext hE (fun h => h), k _ _ _ h2⟩
theorem retN (e : r' = r) (q : NdsG w o F r.kids A l c) (hE : Ext w w2) : NdP w o F r' (ndA r A l c) w2 := ⟨_, _, _, by rw [e], by rw [e]; exact q.ext hE, hE⟩
theorem retC {S : Nat → Prop} (e : r' = r) (q : NdsG w1 o no r.kids A l c) (hU : Upd w1 w2 S) (hE : Ext w w2) : NdP w o F r' (ndA r A l c) w2 :=
  ⟨_, _, _, by rw [e], by rw [e]; exact (q.upd hU (fun _ h => h.elim)).mono (fun _ h => h.elim), hE⟩
end
section
variable {w : World} {o : Bool} {F : Nat → Prop} {n : Nd} {A : Option Addr} {l c : Nat}
theorem single_c (hr : NdsG w o F n.kids A l c) (hl : 0 < n.kids.length) (h7 : n.k = 7 → (n.kid 0).k = 7 → 0 < (n.kid 0).kids.length) :
    CallsX E.P 63 #[ndA n A l c] w (NdP w o F (singleV n (n.kid 0))) never := by
  refine vc63 fun id hid id1 hid1 => hr.idx (j := 0) hl fun ad ha w1 hE1 _ _ => kidN hr hE1 (j := 0) hl ha fun A1 l1 c1 q1 id2 hid2 => ?_
  have hE1 : Ext w w1 := hE1
  have s1 := hE1.size
  generalize n.kid 0 = x at *
  have self : ∀ {w2 : World}, Upd w1 w2 (setOf [id1]) → singleV n x = n → NdP w o F (singleV n x) (ndA n A l c) w2 := fun hU e => retN e hr (fl hE1 hU hid1)
  refine ⟨fun h6 => ⟨fun k1 => ⟨fun kn w2 hE2 _ => callN (num_c97 _ (o := o) (F := no)) fun A3 l3 c3 w3 hE3 q3 w4 hU4 => retC (by rw [singleV, h6, k1, kn]; rfl) q3 hU4 (fl ((hE1.trans hE2).trans hE3) hU4 hid1),
      fun kn w2 hU _ => self hU (by rw [singleV, h6, k1, kn]; rfl)⟩, fun k1 w2 hU _ => self hU (by rw [singleV, h6, k1]; rfl)⟩,
    fun h6 => ⟨fun h7' => ⟨fun k2 w2 hE2 _ => callN (tru_c98 _ (o := o) (F := no)) fun A3 l3 c3 w3 hE3 q3 w4 hU4 => retC (by rw [singleV, h6, h7', k2]; rfl) q3 hU4 (fl ((hE1.trans hE2).trans hE3) hU4 hid1),
      fun k2 => ⟨fun k7 => ?_, fun k7 w2 hU _ => self hU (by rw [singleV, h6, h7', k2, k7]; rfl)⟩⟩, fun h7' => ⟨fun h26 => ⟨fun k1 w2 hU _ => retN (by rw [singleV, h6, h7', h26, k1]; rfl) q1 (fl hE1 hU hid1),
        fun k1 => ⟨fun k2 w2 hU _ => retN (by rw [singleV, h6, h7', h26, k1, k2]; rfl) q1 (fl hE1 hU hid1), fun k2 w2 hU _ => self hU (by rw [singleV, h6, h7', h26, k1, k2]; rfl)⟩⟩, fun h26 w2 hU _ => self hU (by rw [singleV, h6, h7', h26]; rfl)⟩⟩⟩
  have hx : 0 < x.kids.length := h7 (by simpa using h7') (by simpa using k7)
  refine q1.idx (j := 0) hx fun ad1 ha1 w2 hE2 _ => kidN q1 (hE1.trans hE2) (j := 0) hx ha1 fun A2 l2 c2 q2 w3 hU => ?_
  exact retN (by rw [singleV, h6, h7', k2, k7]; rfl) q2 (fl (hE1.trans hE2) hU hid1)
theorem joined_c (hr : NdsG w o F n.kids A l c) (hl : 1 < n.kids.length) : CallsX E.P 66 #[ndA n A l c] w (NdP w o F (joinedV (if n.k == 18 then 0 else 1) n (n.kid 0) (n.kid 1))) never := by
  refine vc66 fun id hid id1 hid1 => hr.idx (j := 0) (by omega) fun ad ha w1 hE1 _ _ => kidN hr hE1 (j := 0) (by omega) ha fun A1 l1 c1 q1 id2 hid2 => hr.idx (j := 1) hl fun ad1 ha1 w2 hE2 _ => ?_
  have hE12 : Ext w w2 := Ext.trans hE1 hE2
  refine kidN hr hE12 (j := 1) hl ha1 fun A2 l2 c2 q2 id3 hid3 => ?_
  generalize n.kid 0 = x at *
  generalize n.kid 1 = y at *
  have key : ∀ (g : Int) {w3 : World} {ids : List Nat}, Ext w w3 → ∀ {X : ContX}, ∃ R1 X', CallsX E.P 100 #[ndA x A1 l1 c1, .int .i64 2, .int .i64 g] w3 R1 X' ∧ (∀ v w4, R1 v w4 → ∃ x6, v = .bool x6 ∧ ∃ S, Upd w3 w4 S ∧ Away ids S ∧
      (x6 = true → ∀ w5, Upd w4 w5 (setOf [id1]) → NdP w o F (joinedV g n x y) (ndA y A2 l2 c2) w5) ∧ (x6 = false → ((x.k == 2) = true → ∀ w5, Upd w4 w5 (setOf [id1]) → NdP w o F (joinedV g n x y) (ndA x A1 l1 c1) w5) ∧
        ((x.k == 2) = false → ∃ R2 X'1, CallsX E.P 100 #[ndA y A2 l2 c2, .int .i64 2, .int .i64 g] w4 R2 X'1 ∧ (∀ v1 w5, R2 v1 w5 → ∃ x7, v1 = .bool x7 ∧ ∃ S, Upd w4 w5 S ∧ Away ids S ∧
          (x7 = true → ∀ w6, Upd w5 w6 (setOf [id1]) → NdP w o F (joinedV g n x y) (ndA x A1 l1 c1) w6) ∧ (x7 = false → ∀ w6, Upd w5 w6 (setOf [id1]) → NdP w o F (joinedV g n x y) (ndA n A l c) w6)) ∧ PX X'1 X))) ∧ PX X' X := fun g w3 ids h3 X =>
    callB (is_c100 x 2 g) fun w4 hE4 => ⟨fun t w5 hU => retN (by rw [joinedV, t]; rfl) q2 (fl (h3.trans hE4) hU hid1), fun t => ⟨fun k w5 hU => retN (by rw [joinedV, t, k]; rfl) q1 (fl (h3.trans hE4) hU hid1),
      fun k => callB (is_c100 y 2 g) fun w5 hE5 => ⟨fun t2 w6 hU => retN (by rw [joinedV, t, k, t2]; rfl) q1 (fl ((h3.trans hE4).trans hE5) hU hid1), fun t2 w6 hU => retN (by rw [joinedV, t, k, t2]; rfl) hr (fl ((h3.trans hE4).trans hE5) hU hid1)⟩⟩⟩
  refine ⟨fun h w3 hE3 _ => ?_, fun h w3 hE3 _ => ?_⟩ <;> rw [h]
  · exact key 0 (hE12.trans hE3)
  · exact key 1 (hE12.trans hE3)
theorem compared_c65 (hr : NdsG w o F n.kids A l c) (hl : 1 < n.kids.length) : CallsX E.P 65 #[ndA n A l c] w (NdP w o F (comparedV n (n.kid 0) (n.kid 1))) never := by
  refine vc65 fun id hid id1 hid1 => hr.idx (j := 0) (by omega) fun ad ha w1 hE1 _ _ => kidN hr hE1 (j := 0) (by omega) ha fun A1 l1 c1 q1 id2 hid2 => hr.idx (j := 1) hl fun ad1 ha1 w2 hE2 _ => ?_
  have hE12 : Ext w w2 := Ext.trans hE1 hE2
  refine kidN hr hE12 (j := 1) hl ha1 fun A2 l2 c2 q2 id3 hid3 => ?_
  generalize n.kid 0 = x at *
  generalize n.kid 1 = y at *
  have self : ∀ {w3 : World}, Upd w2 w3 (setOf [id1]) → comparedV n x y = n → NdP w o F (comparedV n x y) (ndA n A l c) w3 := fun hU e => retN e hr (fl hE12 hU hid1)
  have tru : ∀ (b : Bool) {w3 : World} {ids : List Nat}, Ext w2 w3 → comparedV n x y = truN b → ∀ {X : ContX}, ∃ R1 X', CallsX E.P 98 #[.bool b] w3 R1 X' ∧ (∀ v w4, R1 v w4 → ∃ x6 x7, ∃ x8 a2, ∃ n2 c2, v = .agg #[.int .i64 x6, .int .i64 x7, .string x8, .slice a2 n2 c2] ∧ ∃ S, Upd w3 w4 S ∧ Away ids S ∧
      ∀ w5, Upd w4 w5 (setOf [id1]) → NdP w o F (comparedV n x y) (.agg #[.int .i64 x6, .int .i64 x7, .string x8, .slice a2 n2 c2]) w5) ∧ PX X' X := fun b w3 ids h3 e X =>
    callN (tru_c98 b (o := o) (F := no)) fun A3 l3 c3 w4 hE4 q3 w5 hU => retC e q3 hU (fl ((hE12.trans h3).trans hE4) hU hid1)
  refine ⟨fun h1 w3 hU _ => self hU (by rw [comparedV, h1]; rfl), fun h1 => ⟨fun h2 => ⟨fun h3 w3 hU _ => self hU (by rw [comparedV, h1, h2, h3]; rfl), fun h3 => ?_⟩, fun h2 => ?_⟩⟩
  · exact ⟨fun h4 w3 hE3 _ => tru _ hE3 (by rw [comparedV, h1, h2, h3, h4]; rfl), fun h4 => ⟨fun h5 w3 hE3 _ => tru _ hE3 (by rw [comparedV, h1, h2, h3, h4, h5]; rfl), fun h5 =>
      ⟨fun h6 w3 hE3 _ => tru _ hE3 (by rw [comparedV, h1, h2, h3, h4, h5, h6]; rfl), fun h6 w3 hE3 _ => tru _ hE3 (by rw [comparedV, h1, h2, h3, h4, h5, h6]; rfl)⟩⟩⟩
  · exact ⟨fun h4 w3 hE3 _ => tru _ hE3 (by rw [comparedV, h1, h2, h4]; rfl), fun h4 => ⟨fun h5 w3 hE3 _ => tru _ hE3 (by rw [comparedV, h1, h2, h4, h5]; rfl), fun h5 =>
      ⟨fun h6 w3 hE3 _ => tru _ hE3 (by rw [comparedV, h1, h2, h4, h5, h6]; rfl), fun h6 w3 hE3 _ => tru _ hE3 (by rw [comparedV, h1, h2, h4, h5, h6]; rfl)⟩⟩⟩
theorem compared_c72 (hr : NdsG w o F n.kids A l c) (hl : 1 < n.kids.length) : CallsX E.P 72 #[ndA n A l c] w (NdP w o F (comparedV n (n.kid 0) (n.kid 1))) never := by
  refine vc72 fun id hid id1 hid1 => hr.idx (j := 0) (by omega) fun ad ha w1 hE1 _ _ => kidN hr hE1 (j := 0) (by omega) ha fun A1 l1 c1 q1 => hr.idx (j := 1) hl fun ad1 ha1 => ?_
  have hE1 : Ext w w1 := hE1
  refine kidN hr hE1 (j := 1) hl ha1 fun A2 l2 c2 q2 id2 hid2 id3 hid3 => ?_
  generalize n.kid 0 = x at *
  generalize n.kid 1 = y at *
  refine ⟨fun b w2 => b = (if x.k != y.k then true else if x.k != 1 then x.k != 2 else false) ∧ Ext w w2, ⟨fun h1 w2 hE2 _ _ => ⟨by rw [h1]; rfl, hE1.trans hE2⟩, fun h1 => ⟨fun h2 w2 hE2 _ _ => ⟨by rw [h1, h2]; rfl, hE1.trans hE2⟩, fun h2 w2 hE2 _ _ => ⟨by rw [h1, h2]; rfl, hE1.trans hE2⟩⟩⟩, ?_⟩
  rintro _ b w2 ⟨hb, hE2⟩
  have tru : ∀ (b : Bool) {w3 : World} {ids : List Nat}, Ext w w3 → comparedV n x y = truN b → ∀ {X : ContX}, ∃ R1 X', CallsX E.P 70 #[.bool b] w3 R1 X' ∧ (∀ v w4, R1 v w4 → ∃ x6 x7, ∃ x8 a2, ∃ n2 c2, v = .agg #[.int .i64 x6, .int .i64 x7, .string x8, .slice a2 n2 c2] ∧ ∃ S, Upd w3 w4 S ∧ Away ids S ∧
      ∀ w5, Upd w4 w5 (setOf [id1]) → NdP w o F (comparedV n x y) (.agg #[.int .i64 x6, .int .i64 x7, .string x8, .slice a2 n2 c2]) w5) ∧ PX X' X := fun b w3 ids h3 e X =>
    callN (tru_c70 b (o := o) (F := no)) fun A3 l3 c3 w4 hE4 q3 w5 hU => retC e q3 hU (fl (h3.trans hE4) hU hid1)
  have ev : comparedV n x y = if b = true then n else if n.k == 13 then truN (x.n == y.n) else if n.k == 14 then truN (x.n != y.n) else if n.k == 15 then truN (decide (x.n < y.n)) else truN (decide (x.n ≤ y.n)) := by
    rw [hb, comparedV]
    cases h1 : (x.k != y.k) <;> cases h2 : (x.k != 1) <;> simp
  refine ⟨fun h w3 hU => retN (by rw [ev, h]; rfl) hr (fl hE2 hU hid1), fun h => ⟨fun h4 => tru _ hE2 (by rw [ev, h, h4]; rfl), fun h4 => ⟨fun h5 => tru _ hE2 (by rw [ev, h, h4, h5]; rfl), fun h5 =>
      ⟨fun h6 => tru _ hE2 (by rw [ev, h, h4, h5, h6]; rfl), fun h6 => tru _ hE2 (by rw [ev, h, h4, h5, h6]; rfl)⟩⟩⟩⟩
end
end
end Go.Vx.Tryz
namespace Go.Vx
section
theorem sumsV_chain (n x y : Nd) : sumsV none n x y =
    if (if n.k == 8 then isN x 1 0 else false) = true then y else if (if n.k == 8 then isN y 1 0 else if n.k == 9 then isN y 1 0 else false) = true then x
    else if (if n.k == 10 then isN x 1 1 else false) = true then y else if (if n.k == 10 then isN y 1 1 else if n.k == 11 then isN y 1 1 else false) = true then x else n := by
  unfold sumsV
  by_cases h8 : n.k = 8
  · simp [h8]
  by_cases h9 : n.k = 9
  · simp [h9]
  by_cases h10 : n.k = 10
  · simp [h10]
  by_cases h11 : n.k = 11
  · simp [h11]
  simp [h8, h9, h10, h11]
end
end Go.Vx
namespace Go.Vx.Tryz
open Go Go.Vx Go.Proofs
section
section
variable {w : World} {o : Bool} {F : Nat → Prop} {n : Nd} {A : Option Addr} {l c : Nat}
theorem sums_c64 (hr : NdsG w o F n.kids A l c) (hl : 1 < n.kids.length) : CallsX E.P 64 #[ndA n A l c] w (NdP w o F (sumsV (sumsR rkR n (n.kid 0) (n.kid 1)) n (n.kid 0) (n.kid 1))) never := by
  refine vc64 fun id hid id1 hid1 => hr.idx (j := 0) (by omega) fun ad ha w1 hE1 _ _ => kidN hr hE1 (j := 0) (by omega) ha fun A1 l1 c1 q1 id2 hid2 => hr.idx (j := 1) hl fun ad1 ha1 w2 hE2 _ => ?_
  have hE12 : Ext w w2 := Ext.trans hE1 hE2
  refine kidN hr hE12 (j := 1) hl ha1 fun A2 l2 c2 q2 id3 hid3 => ?_
  generalize n.kid 0 = x at *
  generalize n.kid 1 = y at *
  refine ⟨fun _ _ _ _ _ _ w3 => sumsR rkR n x y = none ∧ Ext w w3, ⟨fun k1 => ⟨fun k2 w3 hE3 _ => ⟨_, _, reckon_c n.k x.n y.n, ?_, never_any⟩, fun k2 w3 hE3 _ => ⟨by rw [sumsR, k1, k2]; rfl, hE12.trans hE3⟩⟩, fun k1 w3 hE3 _ => ⟨by rw [sumsR, k1]; rfl, hE12.trans hE3⟩⟩, ?_⟩
  · have hE3 : Ext w2 w3 := hE3
    rintro v w4 ⟨rfl, hE4⟩
    have e : sumsR rkR n x y = rkR n.k x.n y.n := by rw [sumsR, k1, k2]; rfl
    refine ⟨_, _, rfl, no, hE4, Away.no _, fun h0 => ?_, fun h0 => ⟨by rw [e, rkR, h0]; rfl, (hE12.trans hE3).trans hE4⟩⟩
    have e2 : sumsR rkR n x y = some (recR n.k x.n y.n).1 := by rw [e, rkR, h0]; rfl
    rw [e2]
    exact callN (num_c97 _ (o := o) (F := no)) fun A3 l3 c3 w5 hE5 q3 w6 hU => retC rfl q3 hU (fl (((hE12.trans hE3).trans hE4).trans hE5) hU hid1)
  · rintro _ _ _ _ _ _ _ w3 ⟨e, hE3⟩
    rw [e, sumsV_chain]
    refine ⟨fun b w4 => b = (if n.k == 8 then isN x 1 0 else false) ∧ Ext w w4, ⟨fun h => callB (is_c100 x 1 0) fun w4 hE4 => ⟨by rw [h]; rfl, hE3.trans hE4⟩, fun h => ⟨by rw [h]; rfl, hE3⟩⟩, ?_⟩
    rintro _ b1 w4 ⟨hb1, hE4⟩
    rw [← hb1]
    refine ⟨fun t w5 hU => retN (by rw [if_pos t]) q2 (fl hE4 hU hid1), fun t => ?_⟩
    rw [if_neg (nt t)]
    refine ⟨fun b w5 => b = (if n.k == 8 then isN y 1 0 else if n.k == 9 then isN y 1 0 else false) ∧ Ext w w5, ⟨fun h => callB (is_c100 y 1 0) fun w5 hE5 => ⟨by rw [h]; rfl, hE4.trans hE5⟩, fun h => ⟨fun h2 => callB (is_c100 y 1 0) fun w5 hE5 => ⟨by rw [h, h2]; rfl, hE4.trans hE5⟩, fun h2 => ⟨by rw [h, h2]; rfl, hE4⟩⟩⟩, ?_⟩
    rintro _ b2 w5 ⟨hb2, hE5⟩
    rw [← hb2]
    refine ⟨fun t w6 hU => retN (by rw [if_pos t]) q1 (fl hE5 hU hid1), fun t => ?_⟩
    rw [if_neg (nt t)]
    refine ⟨fun b w6 => b = (if n.k == 10 then isN x 1 1 else false) ∧ Ext w w6, ⟨fun h => callB (is_c100 x 1 1) fun w6 hE6 => ⟨by rw [h]; rfl, hE5.trans hE6⟩, fun h => ⟨by rw [h]; rfl, hE5⟩⟩, ?_⟩
    rintro _ b3 w6 ⟨hb3, hE6⟩
    rw [← hb3]
    refine ⟨fun t w7 hU => retN (by rw [if_pos t]) q2 (fl hE6 hU hid1), fun t => ?_⟩
    rw [if_neg (nt t)]
    refine ⟨fun b w7 => b = (if n.k == 10 then isN y 1 1 else if n.k == 11 then isN y 1 1 else false) ∧ Ext w w7, ⟨fun h => callB (is_c100 y 1 1) fun w7 hE7 => ⟨by rw [h]; rfl, hE6.trans hE7⟩, fun h => ⟨fun h2 => callB (is_c100 y 1 1) fun w7 hE7 => ⟨by rw [h, h2]; rfl, hE6.trans hE7⟩, fun h2 => ⟨by rw [h, h2]; rfl, hE6⟩⟩⟩, ?_⟩
    rintro _ b4 w7 ⟨hb4, hE7⟩
    rw [← hb4]
    exact ⟨fun t w8 hU => retN (by rw [if_pos t]) q1 (fl hE7 hU hid1), fun t w8 hU => retN (by rw [if_neg (nt t)]) hr (fl hE7 hU hid1)⟩
theorem sums_c71 (hr : NdsG w o F n.kids A l c) (hl : 1 < n.kids.length) : CallsX E.P 71 #[ndA n A l c] w (NdP w o F (sumsV (sumsR rkP n (n.kid 0) (n.kid 1)) n (n.kid 0) (n.kid 1))) never := by
  refine vc71 fun id hid id1 hid1 => hr.idx (j := 0) (by omega) fun ad ha w1 hE1 _ _ => kidN hr hE1 (j := 0) (by omega) ha fun A1 l1 c1 q1 => hr.idx (j := 1) hl fun ad1 ha1 => ?_
  have hE1 : Ext w w1 := hE1
  refine kidN hr hE1 (j := 1) hl ha1 fun A2 l2 c2 q2 id2 hid2 id3 hid3 => ?_
  generalize n.kid 0 = x at *
  generalize n.kid 1 = y at *
  refine ⟨fun _ _ _ _ _ _ w3 => sumsR rkP n x y = none ∧ Ext w w3, ⟨fun b w3 => b = (if x.k == 1 then y.k == 1 else false) ∧ Ext w w3, ⟨fun k1 w3 hE3 _ _ => ⟨by rw [k1]; rfl, hE1.trans hE3⟩, fun k1 w3 hE3 _ _ => ⟨by rw [k1]; rfl, hE1.trans hE3⟩⟩, ?_⟩, ?_⟩
  · rintro _ b w3 ⟨hb, hE3⟩
    have e : sumsR rkP n x y = if b = true then rkP n.k x.n y.n else none := by rw [hb, sumsR]; cases x.k == 1 <;> rfl
    refine ⟨fun t => ⟨_, _, reckoned_c n.k x.n y.n, ?_, never_any⟩, fun t => ⟨by rw [e, if_neg (nt t)], hE3⟩⟩
    rintro v w4 ⟨rfl, hE4⟩
    rw [if_pos t] at e
    refine ⟨_, _, rfl, no, hE4, Away.no _, fun h0 => ?_, fun h0 => ⟨by rw [e, rkP, h0]; rfl, hE3.trans hE4⟩⟩
    have e2 : sumsR rkP n x y = some (recP n.k x.n y.n).1 := by rw [e, rkP, h0]; rfl
    rw [e2]
    exact callN (num_c69 _ (o := o) (F := no)) fun A3 l3 c3 w5 hE5 q3 w6 hU => retC rfl q3 hU (fl ((hE3.trans hE4).trans hE5) hU hid1)
  · rintro _ _ _ _ _ _ _ w3 ⟨e, hE3⟩
    rw [e]
    refine ⟨fun h8 => callB (is_c102 x 1 0) fun w4 hE4 => ⟨fun t w5 hU => retN (by rw [sumsV, h8, t]; rfl) q2 (fl (hE3.trans hE4) hU hid1), fun t => callB (is_c102 y 1 0) fun w5 hE5 =>
        ⟨fun t2 w6 hU => retN (by rw [sumsV, h8, t, t2]; rfl) q1 (fl ((hE3.trans hE4).trans hE5) hU hid1), fun t2 w6 hU => retN (by rw [sumsV, h8, t, t2]; rfl) hr (fl ((hE3.trans hE4).trans hE5) hU hid1)⟩⟩,
      fun h8 => ⟨fun h9 => callB (is_c102 y 1 0) fun w4 hE4 => ⟨fun t w5 hU => retN (by rw [sumsV, h8, h9, t]; rfl) q1 (fl (hE3.trans hE4) hU hid1), fun t w5 hU => retN (by rw [sumsV, h8, h9, t]; rfl) hr (fl (hE3.trans hE4) hU hid1)⟩,
      fun h9 => ⟨fun h10 => callB (is_c102 x 1 1) fun w4 hE4 => ⟨fun t w5 hU => retN (by rw [sumsV, h8, h9, h10, t]; rfl) q2 (fl (hE3.trans hE4) hU hid1), fun t => callB (is_c102 y 1 1) fun w5 hE5 =>
        ⟨fun t2 w6 hU => retN (by rw [sumsV, h8, h9, h10, t, t2]; rfl) q1 (fl ((hE3.trans hE4).trans hE5) hU hid1), fun t2 w6 hU => retN (by rw [sumsV, h8, h9, h10, t, t2]; rfl) hr (fl ((hE3.trans hE4).trans hE5) hU hid1)⟩⟩,
      fun h10 => ⟨fun h11 => callB (is_c102 y 1 1) fun w4 hE4 => ⟨fun t w5 hU => retN (by rw [sumsV, h8, h9, h10, h11, t]; rfl) q1 (fl (hE3.trans hE4) hU hid1), fun t w5 hU => retN (by rw [sumsV, h8, h9, h10, h11, t]; rfl) hr (fl (hE3.trans hE4) hU hid1)⟩,
        fun h11 w4 hU => retN (by rw [sumsV, h8, h9, h10, h11]; rfl) hr (fl hE3 hU hid1)⟩⟩⟩⟩
end
end
end Go.Vx.Tryz
namespace Go.Vx
section
def qN (x : Nd) : Bool := if x.k == 25 then (x.kids.length : Int) == 0 else false
def qI (x y : Nd) (v : Int) : Bool := if x.k == 22 then isN y 2 v else false
theorem quantV_eq (n x y : Nd) : quantV n x y = if n.n == 1 then (if (qN x || qI x y 1) = true then truN true else n) else if n.n == 2 then (if (qN x || qI x y 0) = true then truN false else n)
    else if n.n == 3 then (if (qN x || qI x y 0) = true then numN 0 else n) else if n.n == 4 then (if qN x = true then numN 0 else n) else n := rfl
theorem quantV_chain (n x y : Nd) : quantV n x y =
    if (if n.n == 1 then if qN x then true else qI x y 1 else false) = true then truN true else if (if n.n == 2 then if qN x then true else qI x y 0 else false) = true then truN false
    else if (if n.n == 3 then if qN x then true else qI x y 0 else false) = true then numN 0 else if (if n.n == 4 then qN x else false) = true then numN 0 else n := by
  rw [quantV_eq]
  by_cases h1 : n.n = 1
  · cases h : qN x <;> simp [h1, h]
  by_cases h2 : n.n = 2
  · cases h : qN x <;> simp [h2, h]
  by_cases h3 : n.n = 3
  · cases h : qN x <;> simp [h3, h]
  by_cases h4 : n.n = 4
  · cases h : qN x <;> simp [h4, h]
  simp [h1, h2, h3, h4]
def logicV (n x y : Nd) : Nd := if n.k == 19 then ifV n x else if n.k == 17 then joinedV 1 n x y else if n.k == 18 then joinedV 0 n x y else n
end
end Go.Vx
namespace Go.Vx.Tryz
open Go Go.Vx Go.Proofs
section
section
variable {w : World} {o : Bool} {F : Nat → Prop} {n : Nd} {A : Option Addr} {l c : Nat}
theorem quant_c67 (hr : NdsG w o F n.kids A l c) (hl : 1 < n.kids.length) : CallsX E.P 67 #[ndA n A l c] w (NdP w o F (quantV n (n.kid 0) (n.kid 1))) never := by
  refine vc67 fun id hid id1 hid1 => hr.idx (j := 0) (by omega) fun ad ha w1 hE1 _ _ => kidN hr hE1 (j := 0) (by omega) ha fun A1 l1 c1 q1 id2 hid2 => hr.idx (j := 1) hl fun ad1 ha1 w2 hE2 _ => ?_
  have hE12 : Ext w w2 := Ext.trans hE1 hE2
  refine kidN hr hE12 (j := 1) hl ha1 fun A2 l2 c2 q2 id3 hid3 => ?_
  generalize n.kid 0 = x at *
  generalize n.kid 1 = y at *
  rw [quantV_chain]
  have hl1 := q1.len
  refine ⟨fun b w3 => b = qN x ∧ Ext w w3, ⟨fun h w3 hE3 _ => ⟨by rw [qN, h, hl1]; rfl, hE12.trans hE3⟩, fun h w3 hE3 _ => ⟨by rw [qN, h]; rfl, hE12.trans hE3⟩⟩, ?_⟩
  rintro _ z w3 ⟨hz, hE3⟩
  rw [← hz]
  refine ⟨fun b w4 => b = (if n.n == 1 then if z = true then true else qI x y 1 else false) ∧ Ext w w4, ⟨fun h => ⟨fun t => ⟨by rw [h, t]; rfl, hE3⟩, fun t => ⟨fun h2 => callB (is_c100 y 2 1) fun w4 hE4 => ⟨by rw [h, t, qI, h2]; rfl, hE3.trans hE4⟩, fun h2 => ⟨by rw [h, t, qI, h2]; rfl, hE3⟩⟩⟩, fun h => ⟨by rw [h]; rfl, hE3⟩⟩, ?_⟩
  rintro _ b1 w4 ⟨hb1, hE4⟩
  rw [← hb1]
  refine ⟨fun t => callN (tru_c98 true (o := o) (F := no)) fun A3 l3 c3 w5 hE5 q3 w6 hU => retC (by rw [if_pos t]) q3 hU (fl (hE4.trans hE5) hU hid1), fun t => ?_⟩
  rw [if_neg (nt t)]
  refine ⟨fun b w5 => b = (if n.n == 2 then if z = true then true else qI x y 0 else false) ∧ Ext w w5, ⟨fun h => ⟨fun t => ⟨by rw [h, t]; rfl, hE4⟩, fun t => ⟨fun h2 => callB (is_c100 y 2 0) fun w5 hE5 => ⟨by rw [h, t, qI, h2]; rfl, hE4.trans hE5⟩, fun h2 => ⟨by rw [h, t, qI, h2]; rfl, hE4⟩⟩⟩, fun h => ⟨by rw [h]; rfl, hE4⟩⟩, ?_⟩
  rintro _ b2 w5 ⟨hb2, hE5⟩
  rw [← hb2]
  refine ⟨fun t => callN (tru_c98 false (o := o) (F := no)) fun A3 l3 c3 w6 hE6 q3 w7 hU => retC (by rw [if_pos t]) q3 hU (fl (hE5.trans hE6) hU hid1), fun t => ?_⟩
  rw [if_neg (nt t)]
  refine ⟨fun b w6 => b = (if n.n == 3 then if z = true then true else qI x y 0 else false) ∧ Ext w w6, ⟨fun h => ⟨fun t => ⟨by rw [h, t]; rfl, hE5⟩, fun t => ⟨fun h2 => callB (is_c100 y 2 0) fun w6 hE6 => ⟨by rw [h, t, qI, h2]; rfl, hE5.trans hE6⟩, fun h2 => ⟨by rw [h, t, qI, h2]; rfl, hE5⟩⟩⟩, fun h => ⟨by rw [h]; rfl, hE5⟩⟩, ?_⟩
  rintro _ b3 w6 ⟨hb3, hE6⟩
  rw [← hb3]
  refine ⟨fun t => callN (num_c97 0 (o := o) (F := no)) fun A3 l3 c3 w7 hE7 q3 w8 hU => retC (by rw [if_pos t]) q3 hU (fl (hE6.trans hE7) hU hid1), fun t => ?_⟩
  rw [if_neg (nt t)]
  refine ⟨fun b w7 => b = (if n.n == 4 then z else false) ∧ Ext w w7, ⟨fun h => ⟨by rw [h]; rfl, hE6⟩, fun h => ⟨by rw [h]; rfl, hE6⟩⟩, ?_⟩
  rintro _ b4 w7 ⟨hb4, hE7⟩
  rw [← hb4]
  exact ⟨fun t => callN (num_c97 0 (o := o) (F := no)) fun A3 l3 c3 w8 hE8 q3 w9 hU => retC (by rw [if_pos t]) q3 hU (fl (hE7.trans hE8) hU hid1), fun t w8 hU => retN (by rw [if_neg (nt t)]) hr (fl hE7 hU hid1)⟩
theorem qI_eq {x y : Nd} {b : Bool} (hb : b = (if x.k == 22 then y.k == 2 else false)) (v : Int) : qI x y v = if b = true then y.n == v else false := by
  rw [hb, qI, isN]; cases x.k == 22 <;> simp
theorem quant_c74 (hr : NdsG w o F n.kids A l c) (hl : 1 < n.kids.length) : CallsX E.P 74 #[ndA n A l c] w (NdP w o F (quantV n (n.kid 0) (n.kid 1))) never := by
  refine vc74 fun id hid id1 hid1 => hr.idx (j := 0) (by omega) fun ad ha w1 hE1 _ _ => kidN hr hE1 (j := 0) (by omega) ha fun A1 l1 c1 q1 => hr.idx (j := 1) hl fun ad1 ha1 => ?_
  have hE1 : Ext w w1 := hE1
  refine kidN hr hE1 (j := 1) hl ha1 fun A2 l2 c2 q2 id2 hid2 id3 hid3 => ?_
  generalize n.kid 0 = x at *
  generalize n.kid 1 = y at *
  have hl1 := q1.len
  rw [quantV_eq]
  have ret70 : ∀ {b z : Bool} {r : Nd} {w3 : World} {ids : List Nat}, Ext w w3 → z = true → ∀ {X : ContX}, ∃ R1 X', CallsX E.P 70 #[.bool b] w3 R1 X' ∧ (∀ v w4, R1 v w4 → ∃ x6 x7, ∃ x8 a2, ∃ n2 c2, v = .agg #[.int .i64 x6, .int .i64 x7, .string x8, .slice a2 n2 c2] ∧ ∃ S, Upd w3 w4 S ∧ Away ids S ∧
      ∀ w5, Upd w4 w5 (setOf [id1]) → NdP w o F (if z = true then truN b else r) (.agg #[.int .i64 x6, .int .i64 x7, .string x8, .slice a2 n2 c2]) w5) ∧ PX X' X := fun h3 t X =>
    callN (tru_c70 _ (o := o) (F := no)) fun A3 l3 c3 w4 hE4 q3 w5 hU => retC (by rw [if_pos t]) q3 hU (fl (h3.trans hE4) hU hid1)
  have ret69 : ∀ {b : Int} {z : Bool} {r : Nd} {w3 : World} {ids : List Nat}, Ext w w3 → z = true → ∀ {X : ContX}, ∃ R1 X', CallsX E.P 69 #[.int .i64 b] w3 R1 X' ∧ (∀ v w4, R1 v w4 → ∃ x6 x7, ∃ x8 a2, ∃ n2 c2, v = .agg #[.int .i64 x6, .int .i64 x7, .string x8, .slice a2 n2 c2] ∧ ∃ S, Upd w3 w4 S ∧ Away ids S ∧
      ∀ w5, Upd w4 w5 (setOf [id1]) → NdP w o F (if z = true then numN b else r) (.agg #[.int .i64 x6, .int .i64 x7, .string x8, .slice a2 n2 c2]) w5) ∧ PX X' X := fun h3 t X =>
    callN (num_c69 _ (o := o) (F := no)) fun A3 l3 c3 w4 hE4 q3 w5 hU => retC (by rw [if_pos t]) q3 hU (fl (h3.trans hE4) hU hid1)
  have self : ∀ {z : Bool} {r : Nd} {w3 w4 : World}, Ext w w3 → z = false → Upd w3 w4 (setOf [id1]) → NdP w o F (if z = true then r else n) (ndA n A l c) w4 := fun hE t hU => retN (by rw [if_neg (nt t)]) hr (fl hE hU hid1)
  refine ⟨fun h25 => ?_, fun h25 => ?_⟩
  · have hz : qN x = ((l1 : Int) == 0) := by rw [qN, h25, hl1]; rfl
    rw [hz]
    refine ⟨fun b w3 => b = (if x.k == 22 then y.k == 2 else false) ∧ Ext w w3, ⟨fun h w3 hE3 _ _ => ⟨by rw [h]; rfl, hE1.trans hE3⟩, fun h w3 hE3 _ _ => ⟨by rw [h]; rfl, hE1.trans hE3⟩⟩, ?_⟩
    rintro _ b w3 ⟨hb, hE3⟩
    rw [qI_eq hb, qI_eq hb]
    refine ⟨fun h1 => ?_, fun h1 => ⟨fun h2 => ?_, fun h2 => ⟨fun h3 => ?_, fun h3 => ⟨fun h4 => ?_, fun h4 w4 hU => retN (by rw [h1, h2, h3, h4]; rfl) hr (fl hE3 hU hid1)⟩⟩⟩⟩
    · rw [if_pos h1]
      refine ⟨fun z w4 => z = ((l1 : Int) == 0 || (if b = true then y.n == 1 else false)) ∧ Ext w w4, ⟨fun t => ⟨by rw [t]; rfl, hE3⟩, fun t => ⟨fun t2 => ⟨by rw [t, t2]; rfl, hE3⟩, fun t2 => ⟨by rw [t, t2]; rfl, hE3⟩⟩⟩, ?_⟩
      rintro _ z w4 ⟨rfl, hE4⟩
      exact ⟨fun t => ret70 hE4 t, fun t w5 hU => self hE4 t hU⟩
    · rw [if_neg (nt h1), if_pos h2]
      refine ⟨fun z w4 => z = ((l1 : Int) == 0 || (if b = true then y.n == 0 else false)) ∧ Ext w w4, ⟨fun t => ⟨by rw [t]; rfl, hE3⟩, fun t => ⟨fun t2 => ⟨by rw [t, t2]; rfl, hE3⟩, fun t2 => ⟨by rw [t, t2]; rfl, hE3⟩⟩⟩, ?_⟩
      rintro _ z w4 ⟨rfl, hE4⟩
      exact ⟨fun t => ret70 hE4 t, fun t w5 hU => self hE4 t hU⟩
    · rw [if_neg (nt h1), if_neg (nt h2), if_pos h3]
      refine ⟨fun z w4 => z = ((l1 : Int) == 0 || (if b = true then y.n == 0 else false)) ∧ Ext w w4, ⟨fun t => ⟨by rw [t]; rfl, hE3⟩, fun t => ⟨fun t2 => ⟨by rw [t, t2]; rfl, hE3⟩, fun t2 => ⟨by rw [t, t2]; rfl, hE3⟩⟩⟩, ?_⟩
      rintro _ z w4 ⟨rfl, hE4⟩
      exact ⟨fun t => ret69 hE4 t, fun t w5 hU => self hE4 t hU⟩
    · rw [if_neg (nt h1), if_neg (nt h2), if_neg (nt h3), if_pos h4]
      exact ⟨fun t => ret69 hE3 t, fun t w5 hU => self hE3 t hU⟩
  · have hz : qN x = false := by rw [qN, h25]; rfl
    rw [hz]
    refine ⟨fun b w3 => b = (if x.k == 22 then y.k == 2 else false) ∧ Ext w w3, ⟨fun h w3 hE3 _ _ => ⟨by rw [h]; rfl, hE1.trans hE3⟩, fun h w3 hE3 _ _ => ⟨by rw [h]; rfl, hE1.trans hE3⟩⟩, ?_⟩
    rintro _ b w3 ⟨hb, hE3⟩
    rw [qI_eq hb, qI_eq hb]
    simp only [Bool.false_or]
    refine ⟨fun h1 => ?_, fun h1 => ⟨fun h2 => ?_, fun h2 => ⟨fun h3 => ?_, fun h3 => ⟨fun h4 w4 hU => retN (by rw [h1, h2, h3, h4]; rfl) hr (fl hE3 hU hid1), fun h4 w4 hU => retN (by rw [h1, h2, h3, h4]; rfl) hr (fl hE3 hU hid1)⟩⟩⟩⟩
    · rw [if_pos h1]
      refine ⟨fun z w4 => z = (if b = true then y.n == 1 else false) ∧ Ext w w4, ⟨fun t => ⟨by rw [t]; rfl, hE3⟩, fun t => ⟨by rw [t]; rfl, hE3⟩⟩, ?_⟩
      rintro _ z w4 ⟨rfl, hE4⟩
      exact ⟨fun t => ret70 hE4 t, fun t w5 hU => self hE4 t hU⟩
    · rw [if_neg (nt h1), if_pos h2]
      refine ⟨fun z w4 => z = (if b = true then y.n == 0 else false) ∧ Ext w w4, ⟨fun t => ⟨by rw [t]; rfl, hE3⟩, fun t => ⟨by rw [t]; rfl, hE3⟩⟩, ?_⟩
      rintro _ z w4 ⟨rfl, hE4⟩
      exact ⟨fun t => ret70 hE4 t, fun t w5 hU => self hE4 t hU⟩
    · rw [if_neg (nt h1), if_neg (nt h2), if_pos h3]
      refine ⟨fun z w4 => z = (if b = true then y.n == 0 else false) ∧ Ext w w4, ⟨fun t => ⟨by rw [t]; rfl, hE3⟩, fun t => ⟨by rw [t]; rfl, hE3⟩⟩, ?_⟩
      rintro _ z w4 ⟨rfl, hE4⟩
      exact ⟨fun t => ret69 hE4 t, fun t w5 hU => self hE4 t hU⟩
end
end
end Go.Vx.Tryz
