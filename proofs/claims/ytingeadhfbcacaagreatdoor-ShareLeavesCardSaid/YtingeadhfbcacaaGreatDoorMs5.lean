/- Texts of the walk, gathered. -/
import Derived.Test.YtingeadhfbcacaaGreatDoorMs4
import Derived.Test.YtingeadhfbcacaaGreatDoorMs1
import Derived.Test.YtingeadhfbcacaaGreatDoorMs2
import Derived.WalkKit
import Derived.Defers
import Derived.Recover
import Derived.Tactics2
import Derived.Shelf.Strconv.Itoa3
import Derived.Test.YtingeadhfbcacaaGreatDoorMs3
import Derived.Lib.ItoaLen
import Derived.MapKept
import Derived.DeepKeys3
import Derived.Test.YtingeadhfbcacaaGreatDoorRows
import Derived.ProofKit
import Derived.Deep.Slices
import Derived.SizedLaws
import Derived.Lib.SmallJoins
set_option linter.unusedSimpArgs false
set_option linter.unusedVariables false
namespace Go.Vx.Tryz
open Go Go.Vx Go.Proofs
variable {b g h : Nat} {zs : List Int} {C : Option Addr} {cc : Nat}
theorem quantK_c {kf : Int → Int → WS → Nd → Option (Int × WS)} {k v : Int} {s : ByteArray} {kids : List Nd} (h2 : 2 ≤ kids.length) (hs0 : SLk b g h zs C cc kf (kids.getD 0 nd0)) (hk1 : KL b g h zs C cc kf (kids.getD 1 nd0))
    {w : World} {A : Option Addr} {l c : Nat} (a q : Int) (st : WS) (hw : Lst w b g h zs C cc st) (hr : NdsR w (Fw b g h) kids A l c) :
    CallsX E.P 103 #[.pointer (some ⟨b, 0, none⟩), ndA (.mk k v s kids) A l c, .int .i64 a, .int .i64 q] w (LR b g h zs C cc w (quantL kf st v (kids.getD 0 nd0) (kids.getD 1 nd0) a q)) (LX b g h w (quantL kf st v (kids.getD 0 nd0) (kids.getD 1 nd0) a q)) := by
  obtain ⟨hb, hg, hh⟩ := hw.lt
  dsimp only [ndA, Nd.k, Nd.n, Nd.s, Nd.kids]
  refine vc135 hw.1 ?_
  intro id hid
  have aw : Away [id] (S3 b g h) := away_s3 hb hg hh (by simp; omega)
  generalize hres : quantL kf st v (kids.getD 0 nd0) (kids.getD 1 nd0) a q = res
  rw [quantL] at hres
  refine ⟨fun a1 n1 c1 r1 r2 x w2 => (C = a1 ∧ n1 = zs.length ∧ cc = c1 ∧ r1 = some g ∧ r2 = some h ∧ x = st.parts) ∧ (decide (v ≥ 1) && decide (v ≤ 6) && decide (q < 4)) = true ∧ LMem w2 b g h zs C cc st.ks st.ts ∧ Upd w w2 (S3 b g h), ⟨fun h1 => ⟨fun h6 w1 hE1 _ hh1 => ?_, fun h6 w1 hE1 _ hh1 => ?_⟩, fun h1 w1 hE1 _ hh1 => ?_⟩, ?_⟩
  · refine callM (st := st) (t := decide (q < 4)) ⟨hh1, hw.2.ext hE1⟩ (ext_s3 hE1) aw (fun e => by rw [← hres, h1, h6, e]; rfl) fun w2 ht hM2 hU2 => ?_
    exact ⟨⟨rfl, rfl, rfl, rfl, rfl, rfl⟩, by rw [h1, h6, ht]; rfl, hM2, (ext_s3 hE1).t3 hU2⟩
  · exact callM (st := st) (t := false) ⟨hh1, hw.2.ext hE1⟩ (ext_s3 hE1) aw (fun e => by rw [← hres, h1, h6]; rfl) fun w2 ht _ _ => by cases ht
  · exact callM (st := st) (t := false) ⟨hh1, hw.2.ext hE1⟩ (ext_s3 hE1) aw (fun e => by rw [← hres, h1]; rfl) fun w2 ht _ _ => by cases ht
  rintro _ _ _ _ _ _ _ w2 ⟨⟨rfl, rfl, rfl, rfl, rfl, rfl⟩, hc, hM2, hU2⟩
  have hs2 := hU2.size
  rw [hc, if_pos rfl] at hres
  refine hr.idxL 0 rfl (by omega) fun ad ha => (hr.s3 hU2).cellL ha 0 rfl (by omega) (d := nd0) fun A0 l0 c0 q0 hh2 => ?_
  refine callLU (hs0 a (w64 (q + 1)) st ⟨hh2, hM2⟩ q0) hU2 aw (fun e => by rw [← hres, e]; rfl) fun s1 w3 he3 hw3 hU3 => ?_
  have hU03 := hU2.t3 hU3
  rw [he3, Option.bind_some] at hres
  have last : ∀ {w4 : World} {A1 : Option Addr} {l1 c1 : Nat} (bd gv : Int), w4 = w3 → NdsR w4 (Fw b g h) (kids.getD 1 nd0).kids A1 l1 c1 → w4.heap[b]? = some (.cells (lcells zs C cc g h s1) 103 (0, 0)) → (if decide (v ≤ 3) then 2 else 1) = bd → (if decide (v ≤ 2) then 2 else 1) = gv →
      ∃ (R : Value → World → Prop) (X' : ContX), CallsX E.P 105 #[.pointer (some ⟨b, 0, none⟩), ndA (kids.getD 1 nd0) A1 l1 c1, .int .i64 bd, .int .i64 (w64 (a + 1)), .int .i64 (w64 (q + 1))] w4 R X' ∧ (∀ u w2, R u w2 → ∃ y : Value, u = y ∧ ∃ S, Upd w4 w2 S ∧ Away [id] S ∧ ∃ a1 n c1 r1 r2, ∃ x, w2.heap[b]? = some (Obj.cells #[.slice a1 n c1, .map r1, .map r2, .int .i64 x] 103) ∧ 4 = 4 ∧
        (w2.heap[b]? = some (Obj.cells #[.slice a1 n c1, .map r1, .map r2, .int .i64 x] 103) → LR b g h zs C cc w res (.int .i64 gv) w2)) ∧ ∀ ch w2, X' ch w2 → LX b g h w res ch w2 := by
    rintro w4 A1 l1 c1 bd gv rfl q1 hh4 rfl rfl
    refine callLU (ofK_c hk1 (w64 (a + 1)) (w64 (q + 1)) _ s1 ⟨hh4, hw3.2⟩ q1) hU03 aw (fun e => by rw [← hres, e]; rfl) fun s2 w5 he5 hw5 hU5 hh5 => ?_
    exact ⟨(_, s2), by rw [← hres, he5]; rfl, rfl, ⟨hh5, hw5.2⟩, hU03.t3 hU5⟩
  refine ⟨fun e3 => ⟨fun x w4 => w4 = w3 ∧ x = (if decide (v ≤ 2) then 2 else 1), ⟨fun e2 => ⟨rfl, by rw [e2]; rfl⟩, fun e2 => ⟨rfl, by rw [e2]; rfl⟩⟩, ?_⟩, fun e3 => ⟨fun x w4 => w4 = w3 ∧ x = (if decide (v ≤ 2) then 2 else 1), ⟨fun e2 => ⟨rfl, by rw [e2]; rfl⟩, fun e2 => ⟨rfl, by rw [e2]; rfl⟩⟩, ?_⟩⟩
  · rintro _ x w4 ⟨rfl, rfl⟩
    refine hr.idxL 1 rfl (by omega) fun ad1 ha1 => (hr.s3 hU03).cellL ha1 1 rfl (by omega) (d := nd0) fun A1 l1 c1 q1 hh4 => ?_
    exact last 2 _ rfl q1 hh4 (by rw [e3]; rfl) rfl
  · rintro _ x w4 ⟨rfl, rfl⟩
    refine hr.idxL 1 rfl (by omega) fun ad1 ha1 => (hr.s3 hU03).cellL ha1 1 rfl (by omega) (d := nd0) fun A1 l1 c1 q1 hh4 => ?_
    exact last 1 _ rfl q1 hh4 (by rw [e3]; rfl) rfl
end Go.Vx.Tryz
namespace Go.Vx.Tryz
open Go Go.Vx Go.Proofs
theorem mapK : MapT E.P 100 3 24 (.agg #[.int .i64 0, .int .i64 0, .string (ByteArray.mk #[]), .slice none 0 0]) := ⟨by kernel_rfl, by kernel_rfl, fun w => Tryz.zeroValue24 w⟩
theorem mapD : MapT E.P 101 3 3 (.int .i64 0) := ⟨by kernel_rfl, by kernel_rfl, fun w => Tryz.zeroValue3 w⟩
theorem callIX {P : Program} {f : Nat} {args : Array Value} {w : World} {X : ContX} {x : Int} (hc : CallsX P f args w (IsV (.int .i64 x) w) never) {K : Int → World → Prop} (k : ∀ w2, Ext w w2 → K x w2) :
    ∃ (R : Value → World → Prop) (X' : ContX), CallsX P f args w R X' ∧ (∀ v w2, R v w2 → ∃ y, v = .int .i64 y ∧ Upd w w2 no ∧ K y w2) ∧ ∀ ch w2, X' ch w2 → X ch w2 :=
  ⟨_, _, hc, fun _ w2 ⟨hv, hE⟩ => ⟨x, hv, hE, k w2 hE⟩, never_any⟩
theorem callBX {P : Program} {f : Nat} {args : Array Value} {w : World} {X : ContX} {x : Bool} (hc : CallsX P f args w (IsV (.bool x) w) never) {K : Bool → World → Prop} (k : ∀ w2, Ext w w2 → K x w2) :
    ∃ (R : Value → World → Prop) (X' : ContX), CallsX P f args w R X' ∧ (∀ v w2, R v w2 → ∃ y, v = .bool y ∧ Upd w w2 no ∧ K y w2) ∧ ∀ ch w2, X' ch w2 → X ch w2 :=
  ⟨_, _, hc, fun _ w2 ⟨hv, hE⟩ => ⟨x, hv, hE, k w2 hE⟩, never_any⟩
variable {b g h : Nat} {zs : List Int} {C : Option Addr} {cc : Nat}
theorem lookE {w : World} {ks : List (Option Nd)} {ts : List Int} (m : LMem w b g h zs C cc ks ts) {w' : World} (hE : Ext w w') {j : Nat} (hj : j < zs.length) :
    ∃ xk xn xs xa xl xc xi, Sem.run E.P (Instr.lookup 100 (.map (some g)) (.int .i64 (j : Int)) true) w' = .ok (.tuple #[.agg #[.int .i64 xk, .int .i64 xn, .string xs, .slice xa xl xc], .bool xi]) w' ∧
      ((ks.getD j none = none ∧ xi = false) ∨ ∃ y, ks.getD j none = some y ∧ xi = true ∧ xk = y.k ∧ xn = y.n ∧ xs = y.s ∧ NdsR w (Fw b g h) y.kids xa xl xc) := by
  obtain ⟨f, hG, hf⟩ := m.hk
  have hjk : j < ks.length := by have := m.kl; omega
  have h1 := hf j ks[j] (List.getElem?_eq_getElem hjk)
  have hd : ks.getD j none = ks[j] := by rw [List.getD_eq_getElem?_getD, List.getElem?_eq_getElem hjk]; rfl
  have hl := (hG.upd hE (fun h => h)).toF.look mapK (j : Int)
  rw [hd]
  cases hx : ks[j] with
  | none =>
    rw [hx] at h1
    have h1 : f j = none := h1
    rw [h1] at hl
    exact ⟨_, _, _, _, _, _, _, hl, .inl ⟨rfl, rfl⟩⟩
  | some y =>
    rw [hx] at h1
    obtain ⟨A, l, c, e, hA⟩ := h1
    rw [e] at hl
    exact ⟨_, _, _, _, _, _, _, hl, .inr ⟨y, rfl, rfl, rfl, rfl, rfl, hA⟩⟩
theorem lookD {w : World} {ks : List (Option Nd)} {ts : List Int} (m : LMem w b g h zs C cc ks ts) {j : Nat} (hj : j < zs.length) {y : Nd} (hy : ks.getD j none = some y) :
    Sem.run E.P (Instr.lookup 101 (.map (some h)) (.int .i64 (j : Int)) false) w = .ok (.int .i64 (ts.getD j 0)) w := by
  obtain ⟨f, hG, hf⟩ := m.ht
  have hjk : j < ks.length := by have := m.kl; omega
  have hd : ks.getD j none = ks[j] := by rw [List.getD_eq_getElem?_getD, List.getElem?_eq_getElem hjk]; rfl
  have h1 := hf j y (by rw [List.getElem?_eq_getElem hjk, ← hd, hy])
  have hl := hG.toF.lookV mapD (j : Int)
  rw [h1] at hl
  exact hl
theorem upd_g {w w' : World} (k : Upd w w' (fun x => x = g)) : Upd w w' (S3 b g h) := ⟨k.os, k.tape, k.output, k.size, fun x hx hS => k.keep x hx fun e => hS (.inr (.inl e))⟩
theorem upd_h {w w' : World} (k : Upd w w' (fun x => x = h)) : Upd w w' (S3 b g h) := ⟨k.os, k.tape, k.output, k.size, fun x hx hS => k.keep x hx fun e => hS (.inr (.inr e))⟩
theorem LMem.stored {w0 w1 w3 : World} {ks : List (Option Nd)} {ts : List Int} {j : Nat} {fk fd : Int → Option Value} {x : Nd} {A : Option Addr} {l c : Nat} {a : Int} (m : LMem w0 b g h zs C cc ks ts) (hj : j < zs.length)
    (hfk : ∀ (i : Nat) (y : Option Nd), ks[i]? = some y → KidV w0 (Fw b g h) y (fk i)) (hfd : ∀ (i : Nat) (y : Nd), ks[i]? = some (some y) → fd i = some (.int .i64 (ts.getD i 0)))
    (h1 : MapG w1 g (fun k' => if k' = (j : Int) then some (ndA x A l c) else fk k')) (hx : NdsR w1 (Fw b g h) x.kids A l c) (k01 : Upd w0 w1 (fun x => x = g))
    (h3 : MapG w3 h (fun k' => if k' = (j : Int) then some (.int .i64 a) else fd k')) (k13 : Upd w1 w3 (fun x => x = h)) :
    LMem w3 b g h zs C cc (ks.set j (some x)) (ts.set j a) := by
  have hF : ∀ y, Fw b g h y → ¬ (y = g) := fun y hy e => hy (.inr (.inl e))
  have hF2 : ∀ y, Fw b g h y → ¬ (y = h) := fun y hy e => hy (.inr (.inr e))
  have kt := m.kl
  have tt := m.tl
  refine ⟨RowIn.upd (RowIn.upd m.hc k01 hF) k13 hF2, ⟨_, h1.upd k13 m.gh, fun i y hy => ?_⟩, ⟨_, h3, fun i y hy => ?_⟩, by simpa using kt, by simpa using tt, m.bg, m.bh, m.gh⟩
  · have hil := (List.getElem?_eq_some_iff.1 hy).1
    simp only [List.length_set] at hil
    by_cases hij : j = i
    · subst hij
      rw [List.getElem?_set_self (by omega)] at hy
      cases hy
      exact ⟨A, l, c, by simp, hx.upd k13 hF2⟩
    · rw [List.getElem?_set_ne hij] at hy
      have hne : ¬ ((i : Int) = (j : Int)) := by omega
      simp only [hne, if_false]
      exact ((hfk i y hy).upd k01 (fun z hz _ => hF z hz)).upd k13 (fun z hz _ => hF2 z hz)
  · have hil := (List.getElem?_eq_some_iff.1 hy).1
    simp only [List.length_set] at hil
    by_cases hij : j = i
    · subst hij
      simp only [if_true]
      rw [List.getD_eq_getElem?_getD, List.getElem?_set_self (by omega)]; rfl
    · rw [List.getElem?_set_ne hij] at hy
      have hne : ¬ ((i : Int) = (j : Int)) := by omega
      simp only [hne, if_false]
      rw [hfd i y hy, List.getD_eq_getElem?_getD, List.getD_eq_getElem?_getD, List.getElem?_set_ne hij]
theorem cellK_c {kf : Int → Int → WS → Nd → Option (Int × WS)} {k v : Int} {s : ByteArray} {kids : List Nd} (h1 : 1 ≤ kids.length) (hk0 : KL b g h zs C cc kf (kids.getD 0 nd0))
    {w : World} {A : Option Addr} {l c : Nat} (a q : Int) (st : WS) (hw : Lst w b g h zs C cc st) (hr : NdsR w (Fw b g h) kids A l c) :
    CallsX E.P 104 #[.pointer (some ⟨b, 0, none⟩), ndA (.mk k v s kids) A l c, .int .i64 a, .int .i64 q] w (LR b g h zs C cc w (cellL zs (kf a q) st v (kids.getD 0 nd0) a)) (LX b g h w (cellL zs (kf a q) st v (kids.getD 0 nd0) a)) := by
  obtain ⟨hb, hg, hh⟩ := hw.lt
  dsimp only [ndA, Nd.k, Nd.n, Nd.s, Nd.kids]
  refine vc136 hw.1 ?_
  intro id hid
  have aw : Away [id] (S3 b g h) := away_s3 hb hg hh (by simp; omega)
  generalize hres : cellL zs (kf a q) st v (kids.getD 0 nd0) a = res
  rw [cellL] at hres
  refine ⟨fun a1 n1 c1 r1 r2 x w2 => (C = a1 ∧ n1 = zs.length ∧ cc = c1 ∧ r1 = some g ∧ r2 = some h ∧ x = st.parts) ∧ (decide (v ≥ 0) && decide (v < (zs.length : Int)) && decide (zs.getD v.toNat 0 ≤ a)) = true ∧ LMem w2 b g h zs C cc st.ks st.ts ∧ Upd w w2 (S3 b g h), ⟨fun e0 => ⟨fun e1 => ?_, fun e1 w1 hE1 _ hh1 => ?_⟩, fun e0 w1 hE1 _ hh1 => ?_⟩, ?_⟩
  · have e0' : 0 ≤ v := by simpa using e0
    obtain ⟨j, rfl⟩ : ∃ j : Nat, v = j := ⟨v.toNat, by omega⟩
    have hj : j < zs.length := by simpa using e1
    have hjt : Int.toNat (j : Int) = j := by omega
    have hz : zs.getD (Int.toNat (j : Int)) 0 = zs[j] := by rw [hjt, List.getD_eq_getElem?_getD, List.getElem?_eq_getElem hj]; rfl
    refine hw.2.hc.idx hj fun ad ha w1 hE1 _ => (hw.2.hc.ext hE1).cell ha hj fun hh1 => ?_
    refine callM (st := st) (t := decide (zs[j] ≤ a)) ⟨hh1, hw.2.ext hE1⟩ (ext_s3 hE1) aw (fun e => by rw [← hres, e0, e1, hz, e]; rfl) fun w2 ht hM2 hU2 => ?_
    exact ⟨⟨rfl, rfl, rfl, rfl, rfl, rfl⟩, by rw [e0, e1, hz, ht]; rfl, hM2, (ext_s3 hE1).t3 hU2⟩
  · exact callM (st := st) (t := false) ⟨hh1, hw.2.ext hE1⟩ (ext_s3 hE1) aw (fun e => by rw [← hres, e0, e1]; rfl) fun w2 ht _ _ => by cases ht
  · exact callM (st := st) (t := false) ⟨hh1, hw.2.ext hE1⟩ (ext_s3 hE1) aw (fun e => by rw [← hres, e0]; rfl) fun w2 ht _ _ => by cases ht
  rintro _ _ _ _ _ _ _ w2 ⟨⟨rfl, rfl, rfl, rfl, rfl, rfl⟩, hc, hM2, hU2⟩
  rw [if_pos hc] at hres
  simp only [Bool.and_eq_true] at hc
  have e0' : 0 ≤ v := by simpa using hc.1.1
  obtain ⟨j, rfl⟩ : ∃ j : Nat, v = j := ⟨v.toNat, by omega⟩
  have hj : j < zs.length := by simpa using hc.1.2
  have hjt : Int.toNat (j : Int) = j := by omega
  have hz : zs.getD (Int.toNat (j : Int)) 0 = zs[j] := by rw [hjt, List.getD_eq_getElem?_getD, List.getElem?_eq_getElem hj]; rfl
  refine ⟨fun y a1 n1 c1 r1 r2 x w3 => ∃ s1, (C = a1 ∧ n1 = zs.length ∧ cc = c1 ∧ r1 = some g ∧ r2 = some h ∧ x = s1.parts) ∧ kf a q st (kids.getD 0 nd0) = some (y, s1) ∧ LMem w3 b g h zs C cc s1.ks s1.ts ∧ Upd w w3 (S3 b g h), ?_, ?_⟩
  · refine hr.idxL 0 rfl (by omega) fun ad ha => (hr.s3 hU2).cellL ha 0 rfl (by omega) (d := nd0) fun A0 l0 c0 q0 hh2 => ?_
    exact callL (hk0 a q st ⟨hh2, hM2⟩ q0) hU2 aw (fun e => by rw [← hres, e]; rfl) fun y s1 w3 he hw3 hU3 => ⟨s1, ⟨rfl, rfl, rfl, rfl, rfl, rfl⟩, he, hw3.2, hU2.t3 hU3⟩
  rintro _ y _ _ _ _ _ _ w3 ⟨s1, ⟨rfl, rfl, rfl, rfl, rfl, rfl⟩, he, hM3, hU3⟩
  rw [he, Option.bind_some, hz] at hres
  have hs3 := hU3.size
  have hlt3 := hM3.lt
  have hb3 : b < w3.heap.size := by omega
  dsimp only at hres
  generalize hx0 : kids.getD 0 nd0 = x0 at hres he hk0
  have kz : ∀ {w4 : World} {ad : Addr}, Upd w w4 (S3 b g h) → A = some ad → ∀ {K : Int → Int → ByteArray → Option Addr → Nat → Nat → Prop}, (∀ A1 l1 c1, NdsR w4 (Fw b g h) x0.kids A1 l1 c1 → K x0.k x0.n x0.s A1 l1 c1) →
      ∃ x2 x3, ∃ x4 a, ∃ n c, CellsIn w4 (ad.add 0) [.int .i64 x2, .int .i64 x3, .string x4, .slice a n c] ∧ K x2 x3 x4 a n c := fun hU ha2 K hk => by
    exact (hr.s3 hU).cellL ha2 0 (off := 0) rfl (by omega) (d := nd0) (K := K) (by rw [hx0]; exact hk)
  have ki : ∀ {K : Addr → Prop}, (∀ ad, A = some ad → K ad) → ((0 : Int) ≤ 0 ∧ (0 : Int) < (l : Int)) ∧ ∃ ad, A = some ad ∧ K ad := fun hk => hr.idxL 0 rfl (by omega) hk
  refine ⟨fun w4 hE4 => ?_, fun id2 hid2 w4 hE4 hi4 => ?_⟩
  · obtain ⟨xk, xn, xs, xa, xl, xc, xi, hlook, hent⟩ := lookE hM3 hE4 hj
    have hs4 := hE4.size
    refine ⟨xk, xn, xs, xa, xl, xc, xi, hlook, fun id1 hid1 => ?_⟩
    have aw2 : Away [id, id1] (S3 b g h) := away_s3 hb hg hh (by simp; omega)
    have awG : Away [b, id, id1] (fun x => x = g) := away_of fun i hi hS => by
      simp only [List.mem_cons, List.not_mem_nil, or_false] at hi
      have := hM3.bg
      rcases hi with rfl | rfl | rfl <;> omega
    have awH : Away [b, id, id1] (fun x => x = h) := away_of fun i hi hS => by
      simp only [List.mem_cons, List.not_mem_nil, or_false] at hi
      have := hM3.bh
      rcases hi with rfl | rfl | rfl <;> omega
    refine ⟨fun a1 n1 c1 r1 r2 x w5 => (C = a1 ∧ n1 = zs.length ∧ cc = c1 ∧ r1 = some g ∧ r2 = some h ∧ x = s1.parts) ∧ (decide (hangs a x0 ≤ zs[j]) && fitsB s1 j a x0) = true ∧ LMem w5 b g h zs C cc s1.ks s1.ts ∧ Upd w w5 (S3 b g h), ki fun ad2 ha2 w14 hU14 hi14 => ?_, ?_⟩
    · have hE14 : Ext w3 w14 := hE4.trans hU14
      have hU014 := hU3.t3 (ext_s3 hE14)
      refine kz hU014 ha2 fun A1 l1 c1 q1 => (hM3.ext hE14).hc.idx hj fun ad3 ha3 => (hM3.ext hE14).hc.cell ha3 hj ?_
      refine callIX (phangs_c _ x0 (Nat.le_refl _) a q1) fun w5 hE5 => ⟨fun eh => ⟨fun ei hh5 => ?_, fun ei => ki fun ad4 ha4 => kz (hU014.t3 (ext_s3 hE5)) ha4 fun A2 l2 c2 q2 => ?_⟩, fun eh hh5 => ?_⟩
      · refine callM (st := s1) (t := true) ⟨hh5, hM3.ext (hE14.trans hE5)⟩ (hU014.t3 (ext_s3 hE5)) aw2 (fun e => by cases e) fun w6 ht hM6 hU6 => ⟨⟨rfl, rfl, rfl, rfl, rfl, rfl⟩, ?_, hM6, (hU014.t3 (ext_s3 hE5)).t3 hU6⟩
        rcases hent with ⟨hent, rfl⟩ | ⟨y0, hent, rfl, _⟩
        · rw [eh]; simp only [fitsB, hjt, hent, Bool.and_self]
        · cases ei
      · rcases hent with ⟨_, rfl⟩ | ⟨y0, hent, rfl, rfl, rfl, rfl, hy0⟩
        · cases ei
        have hy14 : NdsR w14 (Fw b g h) y0.kids xa xl xc := hy0.ext hE14
        refine callBX (psame_c _ y0 x0 (Nat.le_refl _) (hy14.ext hE5) q2) fun w6 hE6 => ⟨fun es => ⟨_, lookD (hM3.ext ((hE14.trans hE5).trans hE6)) hj hent, fun ed hh6 => ?_, fun ed => ?_⟩, fun es hh6 => ?_⟩
        · refine callM (st := s1) (t := true) ⟨hh6, hM3.ext ((hE14.trans hE5).trans hE6)⟩ (hU014.t3 (ext_s3 (hE5.trans hE6))) aw2 (fun e => by cases e) fun w7 ht hM7 hU7 => ⟨⟨rfl, rfl, rfl, rfl, rfl, rfl⟩, ?_, hM7, (hU014.t3 (ext_s3 (hE5.trans hE6))).t3 hU7⟩
          rw [eh]; simp only [fitsB, hjt, hent, es, ed, Bool.true_or, Bool.and_self]
        · refine callBX (rounds_c _ y0 (Nat.le_refl _) ((hy14.ext hE5).ext hE6)) fun w7 hE7 hh7 => ?_
          refine callM (st := s1) (t := !roundsN y0) ⟨hh7, hM3.ext (((hE14.trans hE5).trans hE6).trans hE7)⟩ (hU014.t3 (ext_s3 ((hE5.trans hE6).trans hE7))) aw2 (fun e => ?_) fun w8 ht hM8 hU8 => ⟨⟨rfl, rfl, rfl, rfl, rfl, rfl⟩, ?_, hM8, (hU014.t3 (ext_s3 ((hE5.trans hE6).trans hE7))).t3 hU8⟩
          · rw [← hres, eh]; simp only [fitsB, hjt, hent, es, ed, e, Bool.or_self, Bool.and_false, Bool.false_eq_true, if_false]
          · rw [eh]; simp only [fitsB, hjt, hent, es, ed, ht, Bool.or_true, Bool.and_self]
        · refine callM (st := s1) (t := false) ⟨hh6, hM3.ext ((hE14.trans hE5).trans hE6)⟩ (hU014.t3 (ext_s3 (hE5.trans hE6))) aw2 (fun e => ?_) fun w7 ht _ _ => by cases ht
          rw [← hres, eh]; simp only [fitsB, hjt, hent, es, Bool.false_and, Bool.and_false, Bool.false_eq_true, if_false]
      · refine callM (st := s1) (t := false) ⟨hh5, hM3.ext (hE14.trans hE5)⟩ (hU014.t3 (ext_s3 hE5)) aw2 (fun e => ?_) fun w7 ht _ _ => by cases ht
        rw [← hres, eh]; simp only [Bool.false_and, Bool.false_eq_true, if_false]
    · rintro _ _ _ _ _ _ _ w5 ⟨⟨rfl, rfl, rfl, rfl, rfl, rfl⟩, hfit, hM5, hU5⟩
      rw [if_pos hfit] at hres
      have hs5 := hU5.size
      have fin : ∀ {w6 w7 w8 w9 w10 : World} {fk fd : Int → Option Value} {A1 : Option Addr} {l1 c1 : Nat}, Ext w5 w6 → (∀ (i : Nat) (y : Option Nd), s1.ks[i]? = some y → KidV w6 (Fw b g h) y (fk i)) → (∀ (i : Nat) (y : Nd), s1.ks[i]? = some (some y) → fd i = some (.int .i64 (s1.ts.getD i 0))) →
          Upd w6 w7 (fun x => x = g) → MapG w8 g (fun k' => if k' = (j : Int) then some (ndA x0 A1 l1 c1) else fk k') → NdsR w8 (Fw b g h) x0.kids A1 l1 c1 → Upd w7 w8 (fun x => x = g) → Upd w8 w9 (fun x => x = h) → MapG w10 h (fun k' => if k' = (j : Int) then some (.int .i64 a) else fd k') → Upd w9 w10 (fun x => x = h) →
          w10.heap[b]? = some (.cells (lcells zs C cc g h s1) 103 (0, 0)) → LR b g h zs C cc w res (.int .i64 y) w10 := fun hE6 hfk hfd u67 hG8 q8 u78 u89 hG10 u910 hh10 => by
        refine ⟨(y, (cellOut (y, s1) j a x0).2), by rw [← hres]; rfl, rfl, ⟨hh10, ?_⟩, ((((hU5.t3 (ext_s3 hE6)).t3 (upd_g u67)).t3 (upd_g u78)).t3 (upd_h u89)).t3 (upd_h u910)⟩
        have := LMem.stored (m := hM5.ext hE6) hj hfk hfd hG8 q8 (u67.trans u78) hG10 (u89.trans u910)
        simp only [cellOut, hjt]
        exact this
      refine ki fun ad5 ha5 => ⟨fun w6 hE6 => kz (hU5.t3 (ext_s3 hE6)) ha5 fun A1 l1 c1 q1 => ?_, fun w6 hE6 => ?_⟩
      all_goals
        have hM6 := hM5.ext hE6
        obtain ⟨fk, hGk, hfk⟩ := hM6.hk
        obtain ⟨fd, hGd, hfd⟩ := hM6.ht
        have hgh := hM6.gh
        have hs6 := hE6.size
        refine ⟨_, hGk.entry mapK (j : Int), ?_⟩
        rintro _ w7 ⟨u, st7, rfl, hE7, u67, z7⟩
        refine ⟨u, _, rfl, _, u67, awG, ?_⟩
      · refine ⟨_, hE7.store (ndA x0 A1 l1 c1), ?_⟩
        rintro w8 ⟨hG8, u78, z8⟩
        refine ⟨_, u78, awG, _, ((hGd.upd u67 (fun e => hgh e.symm)).upd u78 (fun e => hgh e.symm)).entry mapD (j : Int), ?_⟩
        rintro _ w9 ⟨u9, st9, rfl, hE9, u89, z9⟩
        refine ⟨u9, _, rfl, _, u89, awH, _, hE9.store (.int .i64 a), ?_⟩
        rintro w10 ⟨hG10, u910, z10⟩
        have hF : ∀ y, Fw b g h y → ¬ (y = g) := fun y hy e => hy (.inr (.inl e))
        exact ⟨_, u910, awH, fun hh10 => fin hE6 hfk hfd u67 hG8 ((q1.upd u67 hF).upd u78 hF) u78 u89 hG10 u910 hh10⟩
      · refine kz ((hU5.t3 (ext_s3 hE6)).t3 (upd_g u67)) ha5 fun A1 l1 c1 q1 => ⟨_, hE7.store (ndA x0 A1 l1 c1), ?_⟩
        rintro w8 ⟨hG8, u78, z8⟩
        refine ⟨_, u78, awG, _, ((hGd.upd u67 (fun e => hgh e.symm)).upd u78 (fun e => hgh e.symm)).entry mapD (j : Int), ?_⟩
        rintro _ w9 ⟨u9, st9, rfl, hE9, u89, z9⟩
        refine ⟨u9, _, rfl, _, u89, awH, _, hE9.store (.int .i64 a), ?_⟩
        rintro w10 ⟨hG10, u910, z10⟩
        have hF : ∀ y, Fw b g h y → ¬ (y = g) := fun y hy e => hy (.inr (.inl e))
        exact ⟨_, u910, awH, fun hh10 => fin hE6 hfk hfd u67 hG8 (q1.upd u78 hF) u78 u89 hG10 u910 hh10⟩
  · obtain ⟨xk, xn, xs, xa, xl, xc, xi, hlook, hent⟩ := lookE hM3 hE4 hj
    have hs4 := hE4.size
    refine ⟨xk, xn, xs, xa, xl, xc, xi, hlook, ?_⟩
    have aw2 : Away [id, id2] (S3 b g h) := away_s3 hb hg hh (by simp; omega)
    have awG : Away [b, id, id2] (fun x => x = g) := away_of fun i hi hS => by
      simp only [List.mem_cons, List.not_mem_nil, or_false] at hi
      have := hM3.bg
      rcases hi with rfl | rfl | rfl <;> omega
    have awH : Away [b, id, id2] (fun x => x = h) := away_of fun i hi hS => by
      simp only [List.mem_cons, List.not_mem_nil, or_false] at hi
      have := hM3.bh
      rcases hi with rfl | rfl | rfl <;> omega
    refine ⟨fun a1 n1 c1 r1 r2 x w5 => (C = a1 ∧ n1 = zs.length ∧ cc = c1 ∧ r1 = some g ∧ r2 = some h ∧ x = s1.parts) ∧ (decide (hangs a x0 ≤ zs[j]) && fitsB s1 j a x0) = true ∧ LMem w5 b g h zs C cc s1.ks s1.ts ∧ Upd w w5 (S3 b g h), ki fun ad2 ha2 w14 hU14 => ?_, ?_⟩
    · have hE14 : Ext w3 w14 := hE4.step hU14 (fun x hx => by simp only [setOf, no, or_false] at hx; omega)
      have hU014 := hU3.t3 (ext_s3 hE14)
      refine kz hU014 ha2 fun A1 l1 c1 q1 => (hM3.ext hE14).hc.idx hj fun ad3 ha3 => (hM3.ext hE14).hc.cell ha3 hj ?_
      refine callIX (phangs_c _ x0 (Nat.le_refl _) a q1) fun w5 hE5 => ⟨fun eh => ⟨fun ei hh5 => ?_, fun ei => ki fun ad4 ha4 => kz (hU014.t3 (ext_s3 hE5)) ha4 fun A2 l2 c2 q2 => ?_⟩, fun eh hh5 => ?_⟩
      · refine callM (st := s1) (t := true) ⟨hh5, hM3.ext (hE14.trans hE5)⟩ (hU014.t3 (ext_s3 hE5)) aw2 (fun e => by cases e) fun w6 ht hM6 hU6 => ⟨⟨rfl, rfl, rfl, rfl, rfl, rfl⟩, ?_, hM6, (hU014.t3 (ext_s3 hE5)).t3 hU6⟩
        rcases hent with ⟨hent, rfl⟩ | ⟨y0, hent, rfl, _⟩
        · rw [eh]; simp only [fitsB, hjt, hent, Bool.and_self]
        · cases ei
      · rcases hent with ⟨_, rfl⟩ | ⟨y0, hent, rfl, rfl, rfl, rfl, hy0⟩
        · cases ei
        have hy14 : NdsR w14 (Fw b g h) y0.kids xa xl xc := hy0.ext hE14
        refine callBX (psame_c _ y0 x0 (Nat.le_refl _) (hy14.ext hE5) q2) fun w6 hE6 => ⟨fun es => ⟨_, lookD (hM3.ext ((hE14.trans hE5).trans hE6)) hj hent, fun ed hh6 => ?_, fun ed => ?_⟩, fun es hh6 => ?_⟩
        · refine callM (st := s1) (t := true) ⟨hh6, hM3.ext ((hE14.trans hE5).trans hE6)⟩ (hU014.t3 (ext_s3 (hE5.trans hE6))) aw2 (fun e => by cases e) fun w7 ht hM7 hU7 => ⟨⟨rfl, rfl, rfl, rfl, rfl, rfl⟩, ?_, hM7, (hU014.t3 (ext_s3 (hE5.trans hE6))).t3 hU7⟩
          rw [eh]; simp only [fitsB, hjt, hent, es, ed, Bool.true_or, Bool.and_self]
        · refine callBX (rounds_c _ y0 (Nat.le_refl _) ((hy14.ext hE5).ext hE6)) fun w7 hE7 hh7 => ?_
          refine callM (st := s1) (t := !roundsN y0) ⟨hh7, hM3.ext (((hE14.trans hE5).trans hE6).trans hE7)⟩ (hU014.t3 (ext_s3 ((hE5.trans hE6).trans hE7))) aw2 (fun e => ?_) fun w8 ht hM8 hU8 => ⟨⟨rfl, rfl, rfl, rfl, rfl, rfl⟩, ?_, hM8, (hU014.t3 (ext_s3 ((hE5.trans hE6).trans hE7))).t3 hU8⟩
          · rw [← hres, eh]; simp only [fitsB, hjt, hent, es, ed, e, Bool.or_self, Bool.and_false, Bool.false_eq_true, if_false]
          · rw [eh]; simp only [fitsB, hjt, hent, es, ed, ht, Bool.or_true, Bool.and_self]
        · refine callM (st := s1) (t := false) ⟨hh6, hM3.ext ((hE14.trans hE5).trans hE6)⟩ (hU014.t3 (ext_s3 (hE5.trans hE6))) aw2 (fun e => ?_) fun w7 ht _ _ => by cases ht
          rw [← hres, eh]; simp only [fitsB, hjt, hent, es, Bool.false_and, Bool.and_false, Bool.false_eq_true, if_false]
      · refine callM (st := s1) (t := false) ⟨hh5, hM3.ext (hE14.trans hE5)⟩ (hU014.t3 (ext_s3 hE5)) aw2 (fun e => ?_) fun w7 ht _ _ => by cases ht
        rw [← hres, eh]; simp only [Bool.false_and, Bool.false_eq_true, if_false]
    · rintro _ _ _ _ _ _ _ w5 ⟨⟨rfl, rfl, rfl, rfl, rfl, rfl⟩, hfit, hM5, hU5⟩
      rw [if_pos hfit] at hres
      have hs5 := hU5.size
      have fin : ∀ {w6 w7 w8 w9 w10 : World} {fk fd : Int → Option Value} {A1 : Option Addr} {l1 c1 : Nat}, Ext w5 w6 → (∀ (i : Nat) (y : Option Nd), s1.ks[i]? = some y → KidV w6 (Fw b g h) y (fk i)) → (∀ (i : Nat) (y : Nd), s1.ks[i]? = some (some y) → fd i = some (.int .i64 (s1.ts.getD i 0))) →
          Upd w6 w7 (fun x => x = g) → MapG w8 g (fun k' => if k' = (j : Int) then some (ndA x0 A1 l1 c1) else fk k') → NdsR w8 (Fw b g h) x0.kids A1 l1 c1 → Upd w7 w8 (fun x => x = g) → Upd w8 w9 (fun x => x = h) → MapG w10 h (fun k' => if k' = (j : Int) then some (.int .i64 a) else fd k') → Upd w9 w10 (fun x => x = h) →
          w10.heap[b]? = some (.cells (lcells zs C cc g h s1) 103 (0, 0)) → LR b g h zs C cc w res (.int .i64 y) w10 := fun hE6 hfk hfd u67 hG8 q8 u78 u89 hG10 u910 hh10 => by
        refine ⟨(y, (cellOut (y, s1) j a x0).2), by rw [← hres]; rfl, rfl, ⟨hh10, ?_⟩, ((((hU5.t3 (ext_s3 hE6)).t3 (upd_g u67)).t3 (upd_g u78)).t3 (upd_h u89)).t3 (upd_h u910)⟩
        have := LMem.stored (m := hM5.ext hE6) hj hfk hfd hG8 q8 (u67.trans u78) hG10 (u89.trans u910)
        simp only [cellOut, hjt]
        exact this
      refine ki fun ad5 ha5 => ⟨fun w6 hE6 => kz (hU5.t3 (ext_s3 hE6)) ha5 fun A1 l1 c1 q1 => ?_, fun w6 hE6 => ?_⟩
      all_goals
        have hM6 := hM5.ext hE6
        obtain ⟨fk, hGk, hfk⟩ := hM6.hk
        obtain ⟨fd, hGd, hfd⟩ := hM6.ht
        have hgh := hM6.gh
        have hs6 := hE6.size
        refine ⟨_, hGk.entry mapK (j : Int), ?_⟩
        rintro _ w7 ⟨u, st7, rfl, hE7, u67, z7⟩
        refine ⟨u, _, rfl, _, u67, awG, ?_⟩
      · refine ⟨_, hE7.store (ndA x0 A1 l1 c1), ?_⟩
        rintro w8 ⟨hG8, u78, z8⟩
        refine ⟨_, u78, awG, _, ((hGd.upd u67 (fun e => hgh e.symm)).upd u78 (fun e => hgh e.symm)).entry mapD (j : Int), ?_⟩
        rintro _ w9 ⟨u9, st9, rfl, hE9, u89, z9⟩
        refine ⟨u9, _, rfl, _, u89, awH, _, hE9.store (.int .i64 a), ?_⟩
        rintro w10 ⟨hG10, u910, z10⟩
        have hF : ∀ y, Fw b g h y → ¬ (y = g) := fun y hy e => hy (.inr (.inl e))
        exact ⟨_, u910, awH, fun hh10 => fin hE6 hfk hfd u67 hG8 ((q1.upd u67 hF).upd u78 hF) u78 u89 hG10 u910 hh10⟩
      · refine kz ((hU5.t3 (ext_s3 hE6)).t3 (upd_g u67)) ha5 fun A1 l1 c1 q1 => ⟨_, hE7.store (ndA x0 A1 l1 c1), ?_⟩
        rintro w8 ⟨hG8, u78, z8⟩
        refine ⟨_, u78, awG, _, ((hGd.upd u67 (fun e => hgh e.symm)).upd u78 (fun e => hgh e.symm)).entry mapD (j : Int), ?_⟩
        rintro _ w9 ⟨u9, st9, rfl, hE9, u89, z9⟩
        refine ⟨u9, _, rfl, _, u89, awH, _, hE9.store (.int .i64 a), ?_⟩
        rintro w10 ⟨hG10, u910, z10⟩
        have hF : ∀ y, Fw b g h y → ¬ (y = g) := fun y hy e => hy (.inr (.inl e))
        exact ⟨_, u910, awH, fun hh10 => fin hE6 hfk hfd u67 hG8 (q1.upd u78 hF) u78 u89 hG10 u910 hh10⟩
end Go.Vx.Tryz
namespace Go.Vx.Tryz
open Go Go.Vx Go.Proofs
variable {b g h : Nat} {zs : List Int} {C : Option Addr} {cc : Nat}
theorem plain127_c {kf : Int → Int → WS → Nd → Option (Int × WS)} {k v : Int} {s : ByteArray} {kids : List Nd} (hk : ∀ j (_ : j < kids.length), KL b g h zs C cc kf kids[j])
    {w : World} {A : Option Addr} {l c : Nat} (kn of gives a q : Int) (st : WS) (hw : Lst w b g h zs C cc st) (hr : NdsR w (Fw b g h) kids A l c) :
    CallsX E.P 80 #[.agg #[.int .i64 kn, .int .i64 of, .int .i64 gives, .func (.func 95) #[] #[]], .pointer (some ⟨b, 0, none⟩), ndA (.mk k v s kids) A l c, .int .i64 a, .int .i64 q] w
      (LR b g h zs C cc w (plainL (kf a q) kn of gives (testB 95 v a) st s kids)) (LX b g h w (plainL (kf a q) kn of gives (testB 95 v a) st s kids)) := by
  obtain ⟨hb, hg, hh⟩ := hw.lt
  have hl := hr.lt
  have hlen := hr.len
  dsimp only [ndA, Nd.k, Nd.n, Nd.s, Nd.kids]
  refine vc111_127 hw.1 ?_
  intro id hid id1 hid1
  have hi1 : ∀ i ∈ [id, id1], w.heap.size ≤ i := by simp; omega
  have aw : Away [id, id1] (S3 b g h) := away_s3 hb hg hh hi1
  have hz : ((l : Int) == kn) = ((kids.length : Int) == kn) := by rw [hlen]
  generalize hres : plainL (kf a q) kn of gives (testB 95 v a) st s kids = res
  rw [plainL, ← hz] at hres
  refine ⟨fun a1 n1 c1 r1 r2 x w2 => (C = a1 ∧ n1 = zs.length ∧ cc = c1 ∧ r1 = some g ∧ r2 = some h ∧ x = st.parts) ∧ ((l : Int) == kn && strEq s (ByteArray.mk #[]) && testB 95 v a) = true ∧ LMem w2 b g h zs C cc st.ks st.ts ∧ Upd w w2 (S3 b g h), ⟨fun e1 => ⟨fun e2 w1 hE1 _ _ => ?_, fun e2 w1 hE1 _ _ hh1 => ?_⟩, fun e1 w1 hE1 _ _ hh1 => ?_⟩, ?_⟩
  · refine callB (test_c 95 (by decide) v a) fun w2 hE2 hh2 => ?_
    have hE02 : Ext w w2 := Ext.trans hE1 hE2
    refine callM (st := st) (t := testB 95 v a) ⟨hh2, hw.2.ext hE02⟩ (ext_s3 hE02) aw (fun e => by rw [← hres, e1, e2, e]; rfl) fun w3 ht hM3 hU3 => ⟨⟨rfl, rfl, rfl, rfl, rfl, rfl⟩, by rw [e1, e2, ht]; rfl, hM3, (ext_s3 hE02).t3 hU3⟩
  · exact callM (st := st) (t := false) ⟨hh1, hw.2.ext hE1⟩ (ext_s3 hE1) aw (fun e => by rw [← hres, e1, e2]; rfl) fun w2 ht _ _ => by cases ht
  · exact callM (st := st) (t := false) ⟨hh1, hw.2.ext hE1⟩ (ext_s3 hE1) aw (fun e => by rw [← hres, e1]; rfl) fun w2 ht _ _ => by cases ht
  rintro _ _ _ _ _ _ _ w2 ⟨⟨rfl, rfl, rfl, rfl, rfl, rfl⟩, hc, hM2, hU2⟩
  rw [if_pos hc] at hres
  exact loopK (s0 := st) [id, id1] hk hr hl ⟨hb, hg, hh⟩ hi1 hU2 hM2 (fun e => by rw [← hres, e]; rfl) fun s1 w5 he hM5 hU5 hh5 => ⟨(gives, s1), by rw [← hres, he]; rfl, rfl, ⟨hh5, hM5⟩, hU5⟩
theorem plain128_c {kf : Int → Int → WS → Nd → Option (Int × WS)} {k v : Int} {s : ByteArray} {kids : List Nd} (hk : ∀ j (_ : j < kids.length), KL b g h zs C cc kf kids[j])
    {w : World} {A : Option Addr} {l c : Nat} (kn of gives a q : Int) (st : WS) (hw : Lst w b g h zs C cc st) (hr : NdsR w (Fw b g h) kids A l c) :
    CallsX E.P 80 #[.agg #[.int .i64 kn, .int .i64 of, .int .i64 gives, .func (.func 96) #[] #[]], .pointer (some ⟨b, 0, none⟩), ndA (.mk k v s kids) A l c, .int .i64 a, .int .i64 q] w
      (LR b g h zs C cc w (plainL (kf a q) kn of gives (testB 96 v a) st s kids)) (LX b g h w (plainL (kf a q) kn of gives (testB 96 v a) st s kids)) := by
  obtain ⟨hb, hg, hh⟩ := hw.lt
  have hl := hr.lt
  have hlen := hr.len
  dsimp only [ndA, Nd.k, Nd.n, Nd.s, Nd.kids]
  refine vc111_128 hw.1 ?_
  intro id hid id1 hid1
  have hi1 : ∀ i ∈ [id, id1], w.heap.size ≤ i := by simp; omega
  have aw : Away [id, id1] (S3 b g h) := away_s3 hb hg hh hi1
  have hz : ((l : Int) == kn) = ((kids.length : Int) == kn) := by rw [hlen]
  generalize hres : plainL (kf a q) kn of gives (testB 96 v a) st s kids = res
  rw [plainL, ← hz] at hres
  refine ⟨fun a1 n1 c1 r1 r2 x w2 => (C = a1 ∧ n1 = zs.length ∧ cc = c1 ∧ r1 = some g ∧ r2 = some h ∧ x = st.parts) ∧ ((l : Int) == kn && strEq s (ByteArray.mk #[]) && testB 96 v a) = true ∧ LMem w2 b g h zs C cc st.ks st.ts ∧ Upd w w2 (S3 b g h), ⟨fun e1 => ⟨fun e2 w1 hE1 _ _ => ?_, fun e2 w1 hE1 _ _ hh1 => ?_⟩, fun e1 w1 hE1 _ _ hh1 => ?_⟩, ?_⟩
  · refine callB (test_c 96 (by decide) v a) fun w2 hE2 hh2 => ?_
    have hE02 : Ext w w2 := Ext.trans hE1 hE2
    refine callM (st := st) (t := testB 96 v a) ⟨hh2, hw.2.ext hE02⟩ (ext_s3 hE02) aw (fun e => by rw [← hres, e1, e2, e]; rfl) fun w3 ht hM3 hU3 => ⟨⟨rfl, rfl, rfl, rfl, rfl, rfl⟩, by rw [e1, e2, ht]; rfl, hM3, (ext_s3 hE02).t3 hU3⟩
  · exact callM (st := st) (t := false) ⟨hh1, hw.2.ext hE1⟩ (ext_s3 hE1) aw (fun e => by rw [← hres, e1, e2]; rfl) fun w2 ht _ _ => by cases ht
  · exact callM (st := st) (t := false) ⟨hh1, hw.2.ext hE1⟩ (ext_s3 hE1) aw (fun e => by rw [← hres, e1]; rfl) fun w2 ht _ _ => by cases ht
  rintro _ _ _ _ _ _ _ w2 ⟨⟨rfl, rfl, rfl, rfl, rfl, rfl⟩, hc, hM2, hU2⟩
  rw [if_pos hc] at hres
  exact loopK (s0 := st) [id, id1] hk hr hl ⟨hb, hg, hh⟩ hi1 hU2 hM2 (fun e => by rw [← hres, e]; rfl) fun s1 w5 he hM5 hU5 hh5 => ⟨(gives, s1), by rw [← hres, he]; rfl, rfl, ⟨hh5, hM5⟩, hU5⟩
theorem plain129_c {kf : Int → Int → WS → Nd → Option (Int × WS)} {k v : Int} {s : ByteArray} {kids : List Nd} (hk : ∀ j (_ : j < kids.length), KL b g h zs C cc kf kids[j])
    {w : World} {A : Option Addr} {l c : Nat} (kn of gives a q : Int) (st : WS) (hw : Lst w b g h zs C cc st) (hr : NdsR w (Fw b g h) kids A l c) :
    CallsX E.P 80 #[.agg #[.int .i64 kn, .int .i64 of, .int .i64 gives, .func (.func 97) #[] #[]], .pointer (some ⟨b, 0, none⟩), ndA (.mk k v s kids) A l c, .int .i64 a, .int .i64 q] w
      (LR b g h zs C cc w (plainL (kf a q) kn of gives (testB 97 v a) st s kids)) (LX b g h w (plainL (kf a q) kn of gives (testB 97 v a) st s kids)) := by
  obtain ⟨hb, hg, hh⟩ := hw.lt
  have hl := hr.lt
  have hlen := hr.len
  dsimp only [ndA, Nd.k, Nd.n, Nd.s, Nd.kids]
  refine vc111_129 hw.1 ?_
  intro id hid id1 hid1
  have hi1 : ∀ i ∈ [id, id1], w.heap.size ≤ i := by simp; omega
  have aw : Away [id, id1] (S3 b g h) := away_s3 hb hg hh hi1
  have hz : ((l : Int) == kn) = ((kids.length : Int) == kn) := by rw [hlen]
  generalize hres : plainL (kf a q) kn of gives (testB 97 v a) st s kids = res
  rw [plainL, ← hz] at hres
  refine ⟨fun a1 n1 c1 r1 r2 x w2 => (C = a1 ∧ n1 = zs.length ∧ cc = c1 ∧ r1 = some g ∧ r2 = some h ∧ x = st.parts) ∧ ((l : Int) == kn && strEq s (ByteArray.mk #[]) && testB 97 v a) = true ∧ LMem w2 b g h zs C cc st.ks st.ts ∧ Upd w w2 (S3 b g h), ⟨fun e1 => ⟨fun e2 w1 hE1 _ _ => ?_, fun e2 w1 hE1 _ _ hh1 => ?_⟩, fun e1 w1 hE1 _ _ hh1 => ?_⟩, ?_⟩
  · refine callB (test_c 97 (by decide) v a) fun w2 hE2 hh2 => ?_
    have hE02 : Ext w w2 := Ext.trans hE1 hE2
    refine callM (st := st) (t := testB 97 v a) ⟨hh2, hw.2.ext hE02⟩ (ext_s3 hE02) aw (fun e => by rw [← hres, e1, e2, e]; rfl) fun w3 ht hM3 hU3 => ⟨⟨rfl, rfl, rfl, rfl, rfl, rfl⟩, by rw [e1, e2, ht]; rfl, hM3, (ext_s3 hE02).t3 hU3⟩
  · exact callM (st := st) (t := false) ⟨hh1, hw.2.ext hE1⟩ (ext_s3 hE1) aw (fun e => by rw [← hres, e1, e2]; rfl) fun w2 ht _ _ => by cases ht
  · exact callM (st := st) (t := false) ⟨hh1, hw.2.ext hE1⟩ (ext_s3 hE1) aw (fun e => by rw [← hres, e1]; rfl) fun w2 ht _ _ => by cases ht
  rintro _ _ _ _ _ _ _ w2 ⟨⟨rfl, rfl, rfl, rfl, rfl, rfl⟩, hc, hM2, hU2⟩
  rw [if_pos hc] at hres
  exact loopK (s0 := st) [id, id1] hk hr hl ⟨hb, hg, hh⟩ hi1 hU2 hM2 (fun e => by rw [← hres, e]; rfl) fun s1 w5 he hM5 hU5 hh5 => ⟨(gives, s1), by rw [← hres, he]; rfl, rfl, ⟨hh5, hM5⟩, hU5⟩
theorem plain130_c {kf : Int → Int → WS → Nd → Option (Int × WS)} {k v : Int} {s : ByteArray} {kids : List Nd} (hk : ∀ j (_ : j < kids.length), KL b g h zs C cc kf kids[j])
    {w : World} {A : Option Addr} {l c : Nat} (kn of gives a q : Int) (st : WS) (hw : Lst w b g h zs C cc st) (hr : NdsR w (Fw b g h) kids A l c) {ab : Nat} (hab : w.heap[ab]? = some (.cells #[.int .i64 a] 3 (0, 0))) :
    CallsX E.P 80 #[.agg #[.int .i64 kn, .int .i64 of, .int .i64 gives, .func (.func 98) #[] #[.pointer (some ⟨ab, 0, none⟩)]], .pointer (some ⟨b, 0, none⟩), ndA (.mk k v s kids) A l c, .int .i64 a, .int .i64 q] w
      (LR b g h zs C cc w (plainL (kf a q) kn of gives (testB 98 v a) st s kids)) (LX b g h w (plainL (kf a q) kn of gives (testB 98 v a) st s kids)) := by
  obtain ⟨hb, hg, hh⟩ := hw.lt
  have hl := hr.lt
  have hlen := hr.len
  dsimp only [ndA, Nd.k, Nd.n, Nd.s, Nd.kids]
  refine vc111_130 hw.1 ?_
  intro id hid id1 hid1
  have hi1 : ∀ i ∈ [id, id1], w.heap.size ≤ i := by simp; omega
  have aw : Away [id, id1] (S3 b g h) := away_s3 hb hg hh hi1
  have hz : ((l : Int) == kn) = ((kids.length : Int) == kn) := by rw [hlen]
  generalize hres : plainL (kf a q) kn of gives (testB 98 v a) st s kids = res
  rw [plainL, ← hz] at hres
  refine ⟨fun a1 n1 c1 r1 r2 x w2 => (C = a1 ∧ n1 = zs.length ∧ cc = c1 ∧ r1 = some g ∧ r2 = some h ∧ x = st.parts) ∧ ((l : Int) == kn && strEq s (ByteArray.mk #[]) && testB 98 v a) = true ∧ LMem w2 b g h zs C cc st.ks st.ts ∧ Upd w w2 (S3 b g h), ⟨fun e1 => ⟨fun e2 w1 hE1 _ _ => ?_, fun e2 w1 hE1 _ _ hh1 => ?_⟩, fun e1 w1 hE1 _ _ hh1 => ?_⟩, ?_⟩
  · refine callB (around_c v a (by rw [Upd.keep hE1 ab (lt_of_get hab) (fun h => h)]; exact hab)) fun w2 hE2 hh2 => ?_
    have hE02 : Ext w w2 := Ext.trans hE1 hE2
    refine callM (st := st) (t := testB 98 v a) ⟨hh2, hw.2.ext hE02⟩ (ext_s3 hE02) aw (fun e => by rw [← hres, e1, e2, e]; rfl) fun w3 ht hM3 hU3 => ⟨⟨rfl, rfl, rfl, rfl, rfl, rfl⟩, by rw [e1, e2, ht]; rfl, hM3, (ext_s3 hE02).t3 hU3⟩
  · exact callM (st := st) (t := false) ⟨hh1, hw.2.ext hE1⟩ (ext_s3 hE1) aw (fun e => by rw [← hres, e1, e2]; rfl) fun w2 ht _ _ => by cases ht
  · exact callM (st := st) (t := false) ⟨hh1, hw.2.ext hE1⟩ (ext_s3 hE1) aw (fun e => by rw [← hres, e1]; rfl) fun w2 ht _ _ => by cases ht
  rintro _ _ _ _ _ _ _ w2 ⟨⟨rfl, rfl, rfl, rfl, rfl, rfl⟩, hc, hM2, hU2⟩
  rw [if_pos hc] at hres
  exact loopK (s0 := st) [id, id1] hk hr hl ⟨hb, hg, hh⟩ hi1 hU2 hM2 (fun e => by rw [← hres, e]; rfl) fun s1 w5 he hM5 hU5 hh5 => ⟨(gives, s1), by rw [← hres, he]; rfl, rfl, ⟨hh5, hM5⟩, hU5⟩
theorem plain131_c {kf : Int → Int → WS → Nd → Option (Int × WS)} {k v : Int} {s : ByteArray} {kids : List Nd} (hk : ∀ j (_ : j < kids.length), KL b g h zs C cc kf kids[j])
    {w : World} {A : Option Addr} {l c : Nat} (kn of gives a q : Int) (st : WS) (hw : Lst w b g h zs C cc st) (hr : NdsR w (Fw b g h) kids A l c) :
    CallsX E.P 80 #[.agg #[.int .i64 kn, .int .i64 of, .int .i64 gives, .func (.func 99) #[] #[]], .pointer (some ⟨b, 0, none⟩), ndA (.mk k v s kids) A l c, .int .i64 a, .int .i64 q] w
      (LR b g h zs C cc w (plainL (kf a q) kn of gives (testB 99 v a) st s kids)) (LX b g h w (plainL (kf a q) kn of gives (testB 99 v a) st s kids)) := by
  obtain ⟨hb, hg, hh⟩ := hw.lt
  have hl := hr.lt
  have hlen := hr.len
  dsimp only [ndA, Nd.k, Nd.n, Nd.s, Nd.kids]
  refine vc111_131 hw.1 ?_
  intro id hid id1 hid1
  have hi1 : ∀ i ∈ [id, id1], w.heap.size ≤ i := by simp; omega
  have aw : Away [id, id1] (S3 b g h) := away_s3 hb hg hh hi1
  have hz : ((l : Int) == kn) = ((kids.length : Int) == kn) := by rw [hlen]
  generalize hres : plainL (kf a q) kn of gives (testB 99 v a) st s kids = res
  rw [plainL, ← hz] at hres
  refine ⟨fun a1 n1 c1 r1 r2 x w2 => (C = a1 ∧ n1 = zs.length ∧ cc = c1 ∧ r1 = some g ∧ r2 = some h ∧ x = st.parts) ∧ ((l : Int) == kn && strEq s (ByteArray.mk #[]) && testB 99 v a) = true ∧ LMem w2 b g h zs C cc st.ks st.ts ∧ Upd w w2 (S3 b g h), ⟨fun e1 => ⟨fun e2 w1 hE1 _ _ => ?_, fun e2 w1 hE1 _ _ hh1 => ?_⟩, fun e1 w1 hE1 _ _ hh1 => ?_⟩, ?_⟩
  · refine callB (test_c 99 (by decide) v a) fun w2 hE2 hh2 => ?_
    have hE02 : Ext w w2 := Ext.trans hE1 hE2
    refine callM (st := st) (t := testB 99 v a) ⟨hh2, hw.2.ext hE02⟩ (ext_s3 hE02) aw (fun e => by rw [← hres, e1, e2, e]; rfl) fun w3 ht hM3 hU3 => ⟨⟨rfl, rfl, rfl, rfl, rfl, rfl⟩, by rw [e1, e2, ht]; rfl, hM3, (ext_s3 hE02).t3 hU3⟩
  · exact callM (st := st) (t := false) ⟨hh1, hw.2.ext hE1⟩ (ext_s3 hE1) aw (fun e => by rw [← hres, e1, e2]; rfl) fun w2 ht _ _ => by cases ht
  · exact callM (st := st) (t := false) ⟨hh1, hw.2.ext hE1⟩ (ext_s3 hE1) aw (fun e => by rw [← hres, e1]; rfl) fun w2 ht _ _ => by cases ht
  rintro _ _ _ _ _ _ _ w2 ⟨⟨rfl, rfl, rfl, rfl, rfl, rfl⟩, hc, hM2, hU2⟩
  rw [if_pos hc] at hres
  exact loopK (s0 := st) [id, id1] hk hr hl ⟨hb, hg, hh⟩ hi1 hU2 hM2 (fun e => by rw [← hres, e]; rfl) fun s1 w5 he hM5 hU5 hh5 => ⟨(gives, s1), by rw [← hres, he]; rfl, rfl, ⟨hh5, hM5⟩, hU5⟩
theorem plain134_c {kf : Int → Int → WS → Nd → Option (Int × WS)} {k v : Int} {s : ByteArray} {kids : List Nd} (hk : ∀ j (_ : j < kids.length), KL b g h zs C cc kf kids[j])
    {w : World} {A : Option Addr} {l c : Nat} (kn of gives a q : Int) (st : WS) (hw : Lst w b g h zs C cc st) (hr : NdsR w (Fw b g h) kids A l c) :
    CallsX E.P 80 #[.agg #[.int .i64 kn, .int .i64 of, .int .i64 gives, .func (.func 102) #[] #[]], .pointer (some ⟨b, 0, none⟩), ndA (.mk k v s kids) A l c, .int .i64 a, .int .i64 q] w
      (LR b g h zs C cc w (plainL (kf a q) kn of gives (testB 102 v a) st s kids)) (LX b g h w (plainL (kf a q) kn of gives (testB 102 v a) st s kids)) := by
  obtain ⟨hb, hg, hh⟩ := hw.lt
  have hl := hr.lt
  have hlen := hr.len
  dsimp only [ndA, Nd.k, Nd.n, Nd.s, Nd.kids]
  refine vc111_134 hw.1 ?_
  intro id hid id1 hid1
  have hi1 : ∀ i ∈ [id, id1], w.heap.size ≤ i := by simp; omega
  have aw : Away [id, id1] (S3 b g h) := away_s3 hb hg hh hi1
  have hz : ((l : Int) == kn) = ((kids.length : Int) == kn) := by rw [hlen]
  generalize hres : plainL (kf a q) kn of gives (testB 102 v a) st s kids = res
  rw [plainL, ← hz] at hres
  refine ⟨fun a1 n1 c1 r1 r2 x w2 => (C = a1 ∧ n1 = zs.length ∧ cc = c1 ∧ r1 = some g ∧ r2 = some h ∧ x = st.parts) ∧ ((l : Int) == kn && strEq s (ByteArray.mk #[]) && testB 102 v a) = true ∧ LMem w2 b g h zs C cc st.ks st.ts ∧ Upd w w2 (S3 b g h), ⟨fun e1 => ⟨fun e2 w1 hE1 _ _ => ?_, fun e2 w1 hE1 _ _ hh1 => ?_⟩, fun e1 w1 hE1 _ _ hh1 => ?_⟩, ?_⟩
  · refine callB (test_c 102 (by decide) v a) fun w2 hE2 hh2 => ?_
    have hE02 : Ext w w2 := Ext.trans hE1 hE2
    refine callM (st := st) (t := testB 102 v a) ⟨hh2, hw.2.ext hE02⟩ (ext_s3 hE02) aw (fun e => by rw [← hres, e1, e2, e]; rfl) fun w3 ht hM3 hU3 => ⟨⟨rfl, rfl, rfl, rfl, rfl, rfl⟩, by rw [e1, e2, ht]; rfl, hM3, (ext_s3 hE02).t3 hU3⟩
  · exact callM (st := st) (t := false) ⟨hh1, hw.2.ext hE1⟩ (ext_s3 hE1) aw (fun e => by rw [← hres, e1, e2]; rfl) fun w2 ht _ _ => by cases ht
  · exact callM (st := st) (t := false) ⟨hh1, hw.2.ext hE1⟩ (ext_s3 hE1) aw (fun e => by rw [← hres, e1]; rfl) fun w2 ht _ _ => by cases ht
  rintro _ _ _ _ _ _ _ w2 ⟨⟨rfl, rfl, rfl, rfl, rfl, rfl⟩, hc, hM2, hU2⟩
  rw [if_pos hc] at hres
  exact loopK (s0 := st) [id, id1] hk hr hl ⟨hb, hg, hh⟩ hi1 hU2 hM2 (fun e => by rw [← hres, e]; rfl) fun s1 w5 he hM5 hU5 hh5 => ⟨(gives, s1), by rw [← hres, he]; rfl, rfl, ⟨hh5, hM5⟩, hU5⟩
theorem other132_c {k v : Int} {s : ByteArray} {kids : List Nd} {r : Option (Int × WS)} {w : World} {A : Option Addr} {l c : Nat} (kn a q : Int) (st : WS) (hw : Lst w b g h zs C cc st) (hr : NdsR w (Fw b g h) kids A l c)
    (hin : ((kids.length : Int) == kn) = true → ∀ w2, Lst w2 b g h zs C cc st → NdsR w2 (Fw b g h) kids A l c →
      CallsX E.P 100 #[.pointer (some ⟨b, 0, none⟩), ndA (.mk k v s kids) A l c, .int .i64 a, .int .i64 q] w2 (LR b g h zs C cc w2 r) (LX b g h w2 r)) :
    CallsX E.P 81 #[.agg #[.int .i64 kn, .func (.func 100) #[] #[]], .pointer (some ⟨b, 0, none⟩), ndA (.mk k v s kids) A l c, .int .i64 a, .int .i64 q] w
      (LR b g h zs C cc w (if (kids.length : Int) == kn && strEq s (ByteArray.mk #[]) then r else none)) (LX b g h w (if (kids.length : Int) == kn && strEq s (ByteArray.mk #[]) then r else none)) := by
  obtain ⟨hb, hg, hh⟩ := hw.lt
  have hlen := hr.len
  dsimp only [ndA, Nd.k, Nd.n, Nd.s, Nd.kids] at *
  refine vc112_132 hw.1 ?_
  intro id hid id1 hid1
  have aw : Away [id, id1] (S3 b g h) := away_s3 hb hg hh (by simp; omega)
  have hz : ((l : Int) == kn) = ((kids.length : Int) == kn) := by rw [hlen]
  generalize hres : (if (kids.length : Int) == kn && strEq s (ByteArray.mk #[]) then r else none) = res
  rw [← hz] at hres
  refine ⟨fun a1 n1 c1 r1 r2 x w2 => (C = a1 ∧ n1 = zs.length ∧ cc = c1 ∧ r1 = some g ∧ r2 = some h ∧ x = st.parts) ∧ ((l : Int) == kn && strEq s (ByteArray.mk #[])) = true ∧ LMem w2 b g h zs C cc st.ks st.ts ∧ Upd w w2 (S3 b g h), ⟨fun e1 w1 hE1 _ _ hh1 => ?_, fun e1 w1 hE1 _ _ hh1 => ?_⟩, ?_⟩
  · refine callM (st := st) (t := strEq s (ByteArray.mk #[])) ⟨hh1, hw.2.ext hE1⟩ (ext_s3 hE1) aw (fun e => by rw [← hres, e1, e]; rfl) fun w3 ht hM3 hU3 => ⟨⟨rfl, rfl, rfl, rfl, rfl, rfl⟩, by rw [e1, ht]; rfl, hM3, (ext_s3 hE1).t3 hU3⟩
  · exact callM (st := st) (t := false) ⟨hh1, hw.2.ext hE1⟩ (ext_s3 hE1) aw (fun e => by rw [← hres, e1]; rfl) fun w2 ht _ _ => by cases ht
  rintro _ _ _ _ _ _ _ w2 ⟨⟨rfl, rfl, rfl, rfl, rfl, rfl⟩, hc, hM2, hU2⟩ hh2
  rw [if_pos hc] at hres
  subst hres
  simp only [Bool.and_eq_true] at hc
  exact callL (hin (by rw [← hz]; exact hc.1) w2 ⟨hh2, hM2⟩ (hr.s3 hU2)) hU2 aw (fun e => e) fun y s1 w4 he hw4 hU4 hh4 => ⟨(y, s1), he, rfl, ⟨hh4, hw4.2⟩, hU2.t3 hU4⟩
theorem other133_c {k v : Int} {s : ByteArray} {kids : List Nd} {r : Option (Int × WS)} {w : World} {A : Option Addr} {l c : Nat} (kn a q : Int) (st : WS) (hw : Lst w b g h zs C cc st) (hr : NdsR w (Fw b g h) kids A l c)
    (hin : ((kids.length : Int) == kn) = true → ∀ w2, Lst w2 b g h zs C cc st → NdsR w2 (Fw b g h) kids A l c →
      CallsX E.P 101 #[.pointer (some ⟨b, 0, none⟩), ndA (.mk k v s kids) A l c, .int .i64 a, .int .i64 q] w2 (LR b g h zs C cc w2 r) (LX b g h w2 r)) :
    CallsX E.P 81 #[.agg #[.int .i64 kn, .func (.func 101) #[] #[]], .pointer (some ⟨b, 0, none⟩), ndA (.mk k v s kids) A l c, .int .i64 a, .int .i64 q] w
      (LR b g h zs C cc w (if (kids.length : Int) == kn && strEq s (ByteArray.mk #[]) then r else none)) (LX b g h w (if (kids.length : Int) == kn && strEq s (ByteArray.mk #[]) then r else none)) := by
  obtain ⟨hb, hg, hh⟩ := hw.lt
  have hlen := hr.len
  dsimp only [ndA, Nd.k, Nd.n, Nd.s, Nd.kids] at *
  refine vc112_133 hw.1 ?_
  intro id hid id1 hid1
  have aw : Away [id, id1] (S3 b g h) := away_s3 hb hg hh (by simp; omega)
  have hz : ((l : Int) == kn) = ((kids.length : Int) == kn) := by rw [hlen]
  generalize hres : (if (kids.length : Int) == kn && strEq s (ByteArray.mk #[]) then r else none) = res
  rw [← hz] at hres
  refine ⟨fun a1 n1 c1 r1 r2 x w2 => (C = a1 ∧ n1 = zs.length ∧ cc = c1 ∧ r1 = some g ∧ r2 = some h ∧ x = st.parts) ∧ ((l : Int) == kn && strEq s (ByteArray.mk #[])) = true ∧ LMem w2 b g h zs C cc st.ks st.ts ∧ Upd w w2 (S3 b g h), ⟨fun e1 w1 hE1 _ _ hh1 => ?_, fun e1 w1 hE1 _ _ hh1 => ?_⟩, ?_⟩
  · refine callM (st := st) (t := strEq s (ByteArray.mk #[])) ⟨hh1, hw.2.ext hE1⟩ (ext_s3 hE1) aw (fun e => by rw [← hres, e1, e]; rfl) fun w3 ht hM3 hU3 => ⟨⟨rfl, rfl, rfl, rfl, rfl, rfl⟩, by rw [e1, ht]; rfl, hM3, (ext_s3 hE1).t3 hU3⟩
  · exact callM (st := st) (t := false) ⟨hh1, hw.2.ext hE1⟩ (ext_s3 hE1) aw (fun e => by rw [← hres, e1]; rfl) fun w2 ht _ _ => by cases ht
  rintro _ _ _ _ _ _ _ w2 ⟨⟨rfl, rfl, rfl, rfl, rfl, rfl⟩, hc, hM2, hU2⟩ hh2
  rw [if_pos hc] at hres
  subst hres
  simp only [Bool.and_eq_true] at hc
  exact callL (hin (by rw [← hz]; exact hc.1) w2 ⟨hh2, hM2⟩ (hr.s3 hU2)) hU2 aw (fun e => e) fun y s1 w4 he hw4 hU4 hh4 => ⟨(y, s1), he, rfl, ⟨hh4, hw4.2⟩, hU2.t3 hU4⟩
theorem other135_c {k v : Int} {s : ByteArray} {kids : List Nd} {r : Option (Int × WS)} {w : World} {A : Option Addr} {l c : Nat} (kn a q : Int) (st : WS) (hw : Lst w b g h zs C cc st) (hr : NdsR w (Fw b g h) kids A l c)
    (hin : ((kids.length : Int) == kn) = true → ∀ w2, Lst w2 b g h zs C cc st → NdsR w2 (Fw b g h) kids A l c →
      CallsX E.P 103 #[.pointer (some ⟨b, 0, none⟩), ndA (.mk k v s kids) A l c, .int .i64 a, .int .i64 q] w2 (LR b g h zs C cc w2 r) (LX b g h w2 r)) :
    CallsX E.P 81 #[.agg #[.int .i64 kn, .func (.func 103) #[] #[]], .pointer (some ⟨b, 0, none⟩), ndA (.mk k v s kids) A l c, .int .i64 a, .int .i64 q] w
      (LR b g h zs C cc w (if (kids.length : Int) == kn && strEq s (ByteArray.mk #[]) then r else none)) (LX b g h w (if (kids.length : Int) == kn && strEq s (ByteArray.mk #[]) then r else none)) := by
  obtain ⟨hb, hg, hh⟩ := hw.lt
  have hlen := hr.len
  dsimp only [ndA, Nd.k, Nd.n, Nd.s, Nd.kids] at *
  refine vc112_135 hw.1 ?_
  intro id hid id1 hid1
  have aw : Away [id, id1] (S3 b g h) := away_s3 hb hg hh (by simp; omega)
  have hz : ((l : Int) == kn) = ((kids.length : Int) == kn) := by rw [hlen]
  generalize hres : (if (kids.length : Int) == kn && strEq s (ByteArray.mk #[]) then r else none) = res
  rw [← hz] at hres
  refine ⟨fun a1 n1 c1 r1 r2 x w2 => (C = a1 ∧ n1 = zs.length ∧ cc = c1 ∧ r1 = some g ∧ r2 = some h ∧ x = st.parts) ∧ ((l : Int) == kn && strEq s (ByteArray.mk #[])) = true ∧ LMem w2 b g h zs C cc st.ks st.ts ∧ Upd w w2 (S3 b g h), ⟨fun e1 w1 hE1 _ _ hh1 => ?_, fun e1 w1 hE1 _ _ hh1 => ?_⟩, ?_⟩
  · refine callM (st := st) (t := strEq s (ByteArray.mk #[])) ⟨hh1, hw.2.ext hE1⟩ (ext_s3 hE1) aw (fun e => by rw [← hres, e1, e]; rfl) fun w3 ht hM3 hU3 => ⟨⟨rfl, rfl, rfl, rfl, rfl, rfl⟩, by rw [e1, ht]; rfl, hM3, (ext_s3 hE1).t3 hU3⟩
  · exact callM (st := st) (t := false) ⟨hh1, hw.2.ext hE1⟩ (ext_s3 hE1) aw (fun e => by rw [← hres, e1]; rfl) fun w2 ht _ _ => by cases ht
  rintro _ _ _ _ _ _ _ w2 ⟨⟨rfl, rfl, rfl, rfl, rfl, rfl⟩, hc, hM2, hU2⟩ hh2
  rw [if_pos hc] at hres
  subst hres
  simp only [Bool.and_eq_true] at hc
  exact callL (hin (by rw [← hz]; exact hc.1) w2 ⟨hh2, hM2⟩ (hr.s3 hU2)) hU2 aw (fun e => e) fun y s1 w4 he hw4 hU4 hh4 => ⟨(y, s1), he, rfl, ⟨hh4, hw4.2⟩, hU2.t3 hU4⟩
theorem other136_c {k v : Int} {s : ByteArray} {kids : List Nd} {r : Option (Int × WS)} {w : World} {A : Option Addr} {l c : Nat} (kn a q : Int) (st : WS) (hw : Lst w b g h zs C cc st) (hr : NdsR w (Fw b g h) kids A l c)
    (hin : ((kids.length : Int) == kn) = true → ∀ w2, Lst w2 b g h zs C cc st → NdsR w2 (Fw b g h) kids A l c →
      CallsX E.P 104 #[.pointer (some ⟨b, 0, none⟩), ndA (.mk k v s kids) A l c, .int .i64 a, .int .i64 q] w2 (LR b g h zs C cc w2 r) (LX b g h w2 r)) :
    CallsX E.P 81 #[.agg #[.int .i64 kn, .func (.func 104) #[] #[]], .pointer (some ⟨b, 0, none⟩), ndA (.mk k v s kids) A l c, .int .i64 a, .int .i64 q] w
      (LR b g h zs C cc w (if (kids.length : Int) == kn && strEq s (ByteArray.mk #[]) then r else none)) (LX b g h w (if (kids.length : Int) == kn && strEq s (ByteArray.mk #[]) then r else none)) := by
  obtain ⟨hb, hg, hh⟩ := hw.lt
  have hlen := hr.len
  dsimp only [ndA, Nd.k, Nd.n, Nd.s, Nd.kids] at *
  refine vc112_136 hw.1 ?_
  intro id hid id1 hid1
  have aw : Away [id, id1] (S3 b g h) := away_s3 hb hg hh (by simp; omega)
  have hz : ((l : Int) == kn) = ((kids.length : Int) == kn) := by rw [hlen]
  generalize hres : (if (kids.length : Int) == kn && strEq s (ByteArray.mk #[]) then r else none) = res
  rw [← hz] at hres
  refine ⟨fun a1 n1 c1 r1 r2 x w2 => (C = a1 ∧ n1 = zs.length ∧ cc = c1 ∧ r1 = some g ∧ r2 = some h ∧ x = st.parts) ∧ ((l : Int) == kn && strEq s (ByteArray.mk #[])) = true ∧ LMem w2 b g h zs C cc st.ks st.ts ∧ Upd w w2 (S3 b g h), ⟨fun e1 w1 hE1 _ _ hh1 => ?_, fun e1 w1 hE1 _ _ hh1 => ?_⟩, ?_⟩
  · refine callM (st := st) (t := strEq s (ByteArray.mk #[])) ⟨hh1, hw.2.ext hE1⟩ (ext_s3 hE1) aw (fun e => by rw [← hres, e1, e]; rfl) fun w3 ht hM3 hU3 => ⟨⟨rfl, rfl, rfl, rfl, rfl, rfl⟩, by rw [e1, ht]; rfl, hM3, (ext_s3 hE1).t3 hU3⟩
  · exact callM (st := st) (t := false) ⟨hh1, hw.2.ext hE1⟩ (ext_s3 hE1) aw (fun e => by rw [← hres, e1]; rfl) fun w2 ht _ _ => by cases ht
  rintro _ _ _ _ _ _ _ w2 ⟨⟨rfl, rfl, rfl, rfl, rfl, rfl⟩, hc, hM2, hU2⟩ hh2
  rw [if_pos hc] at hres
  subst hres
  simp only [Bool.and_eq_true] at hc
  exact callL (hin (by rw [← hz]; exact hc.1) w2 ⟨hh2, hM2⟩ (hr.s3 hU2)) hU2 aw (fun e => e) fun y s1 w4 he hw4 hU4 hh4 => ⟨(y, s1), he, rfl, ⟨hh4, hw4.2⟩, hU2.t3 hU4⟩
def ShpV (w : World) (a : Int) : Shp → Value → Prop
  | .plain kids of gives t, v => ∃ cap, v = .iface 121 (.agg #[.int .i64 kids, .int .i64 of, .int .i64 gives, .func (.func t) #[] cap]) ∧
      ((t ≠ 98 ∧ cap = #[]) ∨ (t = 98 ∧ ∃ ab, cap = #[.pointer (some ⟨ab, 0, none⟩)] ∧ w.heap[ab]? = some (.cells #[.int .i64 a] 3 (0, 0))))
  | .other kids t, v => v = .iface 124 (.agg #[.int .i64 kids, .func (.func t) #[] #[]])
  | .none, v => v = .nilIface
theorem shape_c (k v : Int) (s : ByteArray) (A : Option Addr) (l c : Nat) (a : Int) {w : World} :
    CallsX E.P 79 #[.agg #[.int .i64 k, .int .i64 v, .string s, .slice A l c], .int .i64 a] w (fun x w' => ShpV w' a (shapeF k v) x ∧ Ext w w') never := by
  refine vc110 ?_
  intro id hid id1 hid1
  refine ⟨fun e w1 hE _ _ _ => by obtain rfl : k = 1 := eq_of_beq e; exact ⟨⟨_, rfl, .inl ⟨by decide, rfl⟩⟩, hE⟩, fun c1 => ?_⟩
  refine ⟨fun e w1 hE _ _ _ => by obtain rfl : k = 2 := eq_of_beq e; exact ⟨⟨_, rfl, .inl ⟨by decide, rfl⟩⟩, hE⟩, fun c2 => ?_⟩
  refine ⟨fun e w1 hE _ _ _ => by obtain rfl : k = 3 := eq_of_beq e; exact ⟨⟨_, rfl, .inl ⟨by decide, rfl⟩⟩, hE⟩, fun c3 => ?_⟩
  refine ⟨fun e w1 hE _ _ hh => by obtain rfl : k = 5 := eq_of_beq e; exact ⟨⟨_, rfl, .inr ⟨rfl, id1, rfl, hh⟩⟩, hE⟩, fun c5 => ?_⟩
  refine ⟨fun e w1 hE _ _ _ => by obtain rfl : k = 6 := eq_of_beq e; exact ⟨⟨_, rfl, .inl ⟨by decide, rfl⟩⟩, hE⟩, fun c6 => ?_⟩
  refine ⟨fun e w1 hE _ _ _ => by obtain rfl : k = 7 := eq_of_beq e; exact ⟨⟨_, rfl, .inl ⟨by decide, rfl⟩⟩, hE⟩, fun c7 => ?_⟩
  refine ⟨fun e w1 hE _ _ _ => by obtain rfl : k = 8 := eq_of_beq e; exact ⟨⟨_, rfl, .inl ⟨by decide, rfl⟩⟩, hE⟩, fun c8 => ?_⟩
  refine ⟨fun e w1 hE _ _ _ => by obtain rfl : k = 9 := eq_of_beq e; exact ⟨⟨_, rfl, .inl ⟨by decide, rfl⟩⟩, hE⟩, fun c9 => ?_⟩
  refine ⟨fun e w1 hE _ _ _ => by obtain rfl : k = 10 := eq_of_beq e; exact ⟨⟨_, rfl, .inl ⟨by decide, rfl⟩⟩, hE⟩, fun c10 => ?_⟩
  refine ⟨fun e w1 hE _ _ _ => by obtain rfl : k = 11 := eq_of_beq e; exact ⟨⟨_, rfl, .inl ⟨by decide, rfl⟩⟩, hE⟩, fun c11 => ?_⟩
  refine ⟨fun e w1 hE _ _ _ => by obtain rfl : k = 12 := eq_of_beq e; exact ⟨⟨_, rfl, .inl ⟨by decide, rfl⟩⟩, hE⟩, fun c12 => ?_⟩
  refine ⟨fun e w1 hE _ _ _ => by obtain rfl : k = 15 := eq_of_beq e; exact ⟨⟨_, rfl, .inl ⟨by decide, rfl⟩⟩, hE⟩, fun c15 => ?_⟩
  refine ⟨fun e w1 hE _ _ _ => by obtain rfl : k = 16 := eq_of_beq e; exact ⟨⟨_, rfl, .inl ⟨by decide, rfl⟩⟩, hE⟩, fun c16 => ?_⟩
  refine ⟨fun e w1 hE _ _ _ => by obtain rfl : k = 17 := eq_of_beq e; exact ⟨⟨_, rfl, .inl ⟨by decide, rfl⟩⟩, hE⟩, fun c17 => ?_⟩
  refine ⟨fun e w1 hE _ _ _ => by obtain rfl : k = 18 := eq_of_beq e; exact ⟨⟨_, rfl, .inl ⟨by decide, rfl⟩⟩, hE⟩, fun c18 => ?_⟩
  refine ⟨fun e w1 hE _ _ _ => by obtain rfl : k = 13 := eq_of_beq e; exact ⟨rfl, hE⟩, fun c13 => ?_⟩
  refine ⟨fun e w1 hE _ _ _ => by obtain rfl : k = 14 := eq_of_beq e; exact ⟨rfl, hE⟩, fun c14 => ?_⟩
  refine ⟨fun e w1 hE _ _ _ => by obtain rfl : k = 19 := eq_of_beq e; exact ⟨rfl, hE⟩, fun c19 => ?_⟩
  refine ⟨fun e => by
    obtain rfl : k = 20 := eq_of_beq e
    exact ⟨fun e w1 hE _ _ _ => by obtain rfl : v = 1 := eq_of_beq e; exact ⟨⟨_, rfl, .inl ⟨by decide, rfl⟩⟩, hE⟩, fun d1 => ⟨fun e w1 hE _ _ _ => by obtain rfl : v = 2 := eq_of_beq e; exact ⟨⟨_, rfl, .inl ⟨by decide, rfl⟩⟩, hE⟩, fun d2 => ⟨fun e w1 hE _ _ _ => by obtain rfl : v = 3 := eq_of_beq e; exact ⟨⟨_, rfl, .inl ⟨by decide, rfl⟩⟩, hE⟩, fun d3 => ⟨fun e w1 hE _ _ _ => by obtain rfl : v = 10 := eq_of_beq e; exact ⟨⟨_, rfl, .inl ⟨by decide, rfl⟩⟩, hE⟩, fun d10 => fun w1 hE _ _ _ => ⟨by rw [show shapeF 20 v = .plain 1 3 1 102 by show (if (v == 1) = true then _ else _) = _; rw [iff0 d1, iff0 d2, iff0 d3, iff0 d10]]; exact ⟨_, rfl, .inl ⟨by decide, rfl⟩⟩, hE⟩⟩⟩⟩⟩, fun c20 => ?_⟩
  refine ⟨fun e w1 hE _ _ _ => by obtain rfl : k = 21 := eq_of_beq e; exact ⟨rfl, hE⟩, fun c21 => ?_⟩
  refine ⟨fun e w1 hE _ _ _ => by obtain rfl : k = 26 := eq_of_beq e; exact ⟨rfl, hE⟩, fun c26 => ?_⟩
  exact fun w1 hE _ _ _ => ⟨by rw [show shapeF k v = .none by unfold shapeF; rw [iff0 c1, iff0 c2, iff0 c3, iff0 c5, iff0 c6, iff0 c7, iff0 c8, iff0 c9, iff0 c10, iff0 c11, iff0 c12, iff0 c15, iff0 c16, iff0 c17, iff0 c18, iff0 c13, iff0 c14, iff0 c19, iff0 c20, iff0 c21, iff0 c26]]; exact rfl, hE⟩
end Go.Vx.Tryz
namespace Go.Vx.Tryz
open Go Go.Vx Go.Proofs
theorem zero125 (w : World) : Sem.run E.P (zeroValue 121) w = .ok (.agg #[.int .i64 0, .int .i64 0, .int .i64 0, .nilFunc]) w := Tryz.zeroValue121 w
theorem zero128 (w : World) : Sem.run E.P (zeroValue 124) w = .ok (.agg #[.int .i64 0, .nilFunc]) w := Tryz.zeroValue124 w
theorem ta125_hit (v : Value) (w : World) : Sem.run E.P (Instr.typeAssert (.iface 121 v) 118 121 true) w = .ok (.tuple #[v, .bool true]) w := by
  simp only [Instr.typeAssert, Sem.run_bind, run_underlying (P := E.P) (Tryz.underlying121) w, Result.andThen_ok, if_pos, Sem.run_pure]
theorem ta125_other (v : Value) (w : World) : Sem.run E.P (Instr.typeAssert (.iface 124 v) 118 121 true) w = .ok (.tuple #[.agg #[.int .i64 0, .int .i64 0, .int .i64 0, .nilFunc], .bool false]) w := by
  simp only [Instr.typeAssert, Sem.run_bind, run_underlying (P := E.P) (Tryz.underlying121) w, Result.andThen_ok, if_neg (show ¬ (124 : Nat) = 121 by decide), if_true, zero125 w, Sem.run_pure]
theorem ta125_nil (w : World) : Sem.run E.P (Instr.typeAssert .nilIface 118 121 true) w = .ok (.tuple #[.agg #[.int .i64 0, .int .i64 0, .int .i64 0, .nilFunc], .bool false]) w := by
  simp only [Instr.typeAssert, Sem.run_bind, run_underlying (P := E.P) (Tryz.underlying121) w, Result.andThen_ok, if_true, zero125 w, Sem.run_pure]
theorem ta128_hit (v : Value) (w : World) : Sem.run E.P (Instr.typeAssert (.iface 124 v) 118 124 true) w = .ok (.tuple #[v, .bool true]) w := by
  simp only [Instr.typeAssert, Sem.run_bind, run_underlying (P := E.P) (Tryz.underlying124) w, Result.andThen_ok, if_pos, Sem.run_pure]
theorem ta128_nil (w : World) : Sem.run E.P (Instr.typeAssert .nilIface 118 124 true) w = .ok (.tuple #[.agg #[.int .i64 0, .nilFunc], .bool false]) w := by
  simp only [Instr.typeAssert, Sem.run_bind, run_underlying (P := E.P) (Tryz.underlying124) w, Result.andThen_ok, if_true, zero128 w, Sem.run_pure]
def goodShp : Shp → Prop
  | .plain _ _ _ t => t = 95 ∨ t = 96 ∨ t = 97 ∨ t = 98 ∨ t = 99 ∨ t = 102
  | .other kn t => (kn = 2 ∧ t = 100) ∨ (kn = 3 ∧ t = 101) ∨ (kn = 2 ∧ t = 103) ∨ (kn = 1 ∧ t = 104)
  | .none => True
theorem good_if {c : Prop} [Decidable c] {x y : Shp} (hx : goodShp x) (hy : goodShp y) : goodShp (if c then x else y) := by split <;> assumption
theorem shape_good (k v : Int) : goodShp (shapeF k v) := by
  unfold shapeF
  repeat' apply good_if
  all_goals simp [goodShp]
variable {b g h : Nat} {zs : List Int} {C : Option Addr} {cc : Nat}
theorem kindK_c : ∀ (f : Nat) (n : Nd), n.size ≤ f → KL b g h zs C cc (lookK zs f) n := by
  intro f
  induction f with
  | zero => intro n hn; cases n with | mk k v s l => simp only [Nd.size] at hn; omega
  | succ f ih =>
    intro n hn w A l c a q st hw hr
    obtain ⟨hb, hg, hh⟩ := hw.lt
    obtain ⟨k, v, s, kids⟩ := n
    have hsz : Nd.sizes kids ≤ f := by simp only [Nd.size] at hn; omega
    have hk : ∀ j (_ : j < kids.length), KL b g h zs C cc (lookK zs f) kids[j] := fun j hj => ih _ (Nat.le_trans (Nd.size_lt (List.getElem_mem hj)) hsz)
    have hd : ∀ j, j < kids.length → KL b g h zs C cc (lookK zs f) (kids.getD j nd0) := fun j hj => by
      rw [List.getD_eq_getElem?_getD, List.getElem?_eq_getElem hj]; exact hk j hj
    dsimp only [ndA, Nd.k, Nd.n, Nd.s, Nd.kids] at *
    refine vc79 hw.1 ?_
    intro id hid w1 hU1 hi1 hh1
    have aw : Away [id] (S3 b g h) := away_s3 hb hg hh (by simp; omega)
    refine callM (st := st.inc) (t := decide (w64 (st.parts + 1) ≤ 4096)) (lst_put (st := st) hw.2 hU1 hh1 rfl rfl) (upd_s3 hU1) aw (fun e => by rw [lookK, e]; rfl) fun w2 ht hM2 hU2 => ?_
    have hU02 := (upd_s3 (g := g) (h := h) hU1).t3 hU2
    have hs2 := hU02.size
    generalize hres : lookK zs (f + 1) a q st (.mk k v s kids) = res
    rw [lookK, ht] at hres
    simp only [Bool.not_true, Bool.false_eq_true, if_false] at hres
    refine ⟨_, _, shape_c k v s A l c a, ?_, never_any⟩
    rintro v2 w3 ⟨hS, hE3⟩
    refine ⟨v2, rfl, no, hE3, Away.no _, ?_⟩
    have hU03 := hU02.t3 (ext_s3 hE3)
    have hs3 := hE3.size
    have hgood := shape_good k v
    generalize shapeF k v = sh at hS hres hgood
    cases sh with
    | none =>
      obtain rfl : v2 = .nilIface := hS
      exact ⟨false, _, _, _, _, ta125_nil _, (fun e => nomatch e), fun _ => ⟨false, _, _, ta128_nil _, (fun e => nomatch e), fun _ => ⟨hres.symm, rfl, hU03⟩⟩⟩
    | plain kn of gives t =>
      obtain ⟨cap, rfl, hcap⟩ := hS
      refine ⟨true, _, _, _, _, ta125_hit _ _, fun _ id1 hid1 => ⟨rfl, fun w4 hE4 hi4 hh4 => ?_⟩, fun e => nomatch e⟩
      have hU04 := hU03.t3 (ext_s3 hE4)
      have aw2 : Away [id, id1] (S3 b g h) := away_s3 hb hg hh (by simp; omega)
      have fin : ∀ {r : Option (Int × WS)} {fv : Value} (_ : r = res) (_ : CallsX E.P 80 #[.agg #[.int .i64 kn, .int .i64 of, .int .i64 gives, fv], .pointer (some ⟨b, 0, none⟩), .agg #[.int .i64 k, .int .i64 v, .string s, .slice A l c], .int .i64 a, .int .i64 q] w4 (LR b g h zs C cc w4 r) (LX b g h w4 r)), _ := fun {r fv} e hc =>
        callL (K := fun x4 a2 n1 c2 r2 r3 x5 w22 => w22.heap[b]? = some (Obj.cells (#[.slice a2 n1 c2, Value.map r2, Value.map r3, .int .i64 x5]) 103) → LR b g h zs C cc w res (.int .i64 x4) w22) (rc := res) hc hU04 aw2 (fun e2 => by rw [← e, e2]) fun y s1 w5 he hw5 hU5 hh5 => ⟨(y, s1), by rw [← e, he], rfl, ⟨hh5, hw5.2⟩, hU04.t3 hU5⟩
      have hL4 : Lst w4 b g h zs C cc st.inc := ⟨hh4, (LMem.ext (ks := st.inc.ks) (ts := st.inc.ts) hM2 hE3).ext hE4⟩
      have hr4 := hr.s3 hU04
      rcases hcap with ⟨hne, rfl⟩ | ⟨rfl, ab, rfl, hab⟩
      · rcases hgood with rfl | rfl | rfl | rfl | rfl | rfl
        · exact fin hres (plain127_c hk kn of gives a q st.inc hL4 hr4)
        · exact fin hres (plain128_c hk kn of gives a q st.inc hL4 hr4)
        · exact fin hres (plain129_c hk kn of gives a q st.inc hL4 hr4)
        · exact absurd rfl hne
        · exact fin hres (plain131_c hk kn of gives a q st.inc hL4 hr4)
        · exact fin hres (plain134_c hk kn of gives a q st.inc hL4 hr4)
      · exact fin hres (plain130_c hk kn of gives a q st.inc hL4 hr4 (by rw [Upd.keep hE4 ab (lt_of_get hab) (fun h => h)]; exact hab))
    | other kn t =>
      obtain rfl : v2 = _ := hS
      refine ⟨false, _, _, _, _, ta125_other _ _, (fun e => nomatch e), fun _ => ⟨true, _, _, ta128_hit _ _, fun _ id1 hid1 => ⟨rfl, fun w4 hE4 hi4 hh4 => ?_⟩, fun e => nomatch e⟩⟩
      have hU04 := hU03.t3 (ext_s3 hE4)
      have aw2 : Away [id, id1] (S3 b g h) := away_s3 hb hg hh (by simp; omega)
      have fin : ∀ {r : Option (Int × WS)} {fv : Value} (_ : r = res) (_ : CallsX E.P 81 #[.agg #[.int .i64 kn, fv], .pointer (some ⟨b, 0, none⟩), .agg #[.int .i64 k, .int .i64 v, .string s, .slice A l c], .int .i64 a, .int .i64 q] w4 (LR b g h zs C cc w4 r) (LX b g h w4 r)), _ := fun {r fv} e hc =>
        callL (K := fun x4 a2 n1 c2 r2 r3 x5 w22 => w22.heap[b]? = some (Obj.cells (#[.slice a2 n1 c2, Value.map r2, Value.map r3, .int .i64 x5]) 103) → LR b g h zs C cc w res (.int .i64 x4) w22) (rc := res) hc hU04 aw2 (fun e2 => by rw [← e, e2]) fun y s1 w5 he hw5 hU5 hh5 => ⟨(y, s1), by rw [← e, he], rfl, ⟨hh5, hw5.2⟩, hU04.t3 hU5⟩
      have hL4 : Lst w4 b g h zs C cc st.inc := ⟨hh4, (LMem.ext (ks := st.inc.ks) (ts := st.inc.ts) hM2 hE3).ext hE4⟩
      have hr4 := hr.s3 hU04
      have hlen : ∀ {m : Int}, ((kids.length : Int) == m) = true → (kids.length : Int) = m := fun e => eq_of_beq e
      rcases hgood with ⟨rfl, rfl⟩ | ⟨rfl, rfl⟩ | ⟨rfl, rfl⟩ | ⟨rfl, rfl⟩
      · exact fin hres (other132_c 2 a q st.inc hL4 hr4 fun e w5 hw5 hr5 => by
          have := hlen e; exact alikeK_c (by omega) (hd 0 (by omega)) (hd 1 (by omega)) a q st.inc hw5 hr5)
      · exact fin hres (other133_c 3 a q st.inc hL4 hr4 fun e w5 hw5 hr5 => by
          have := hlen e; exact choiceK_c (by omega) (hd 0 (by omega)) (hd 1 (by omega)) (hd 2 (by omega)) a q st.inc hw5 hr5)
      · exact fin hres (other135_c 2 a q st.inc hL4 hr4 fun e w5 hw5 hr5 => by
          have := hlen e
          refine quantK_c (by omega) (setK_c fun j hj => ih _ ?_) (hd 1 (by omega)) a q st.inc hw5 hr5
          have h1 := kid_lt hj
          have h2 : (kids.getD 0 nd0).size ≤ f := by
            rw [List.getD_eq_getElem?_getD, List.getElem?_eq_getElem (show 0 < kids.length by omega)]
            exact Nat.le_trans (Nd.size_lt (List.getElem_mem _)) hsz
          omega)
      · exact fin hres (other136_c 1 a q st.inc hL4 hr4 fun e w5 hw5 hr5 => by
          have := hlen e; exact cellK_c (by omega) (hd 0 (by omega)) a q st.inc hw5 hr5)
end Go.Vx.Tryz
namespace Go.Vx.Tryz
open Go Go.Vx Go.Proofs
theorem test77 (x : Int) {w : World} : CallsX E.P 52 #[.int .i64 x] w (IsV (.bool (decide (x < 0) || decide (x > 4))) w) never := by
  have r := Upd.refl w no
  refine vc77 ⟨fun h => ⟨by rw [h]; rfl, r⟩, fun h => ⟨by rw [h]; rfl, r⟩⟩
theorem cellsBad_cons (x : Int) (l : List Int) : cellsBad (x :: l) = ((decide (x < 0) || decide (x > 4)) || cellsBad l) := by
  rw [cellsBad]; cases decide (x < 0) <;> cases decide (x > 4) <;> rfl
theorem bad_c (zs : List Int) {w : World} {G : Nat → Prop} {B : Option Addr} {bl bc : Nat} (h2 : IntsR w G zs B bl bc) : CallsX E.P 51 #[.slice B bl bc, .func (.func 52) #[] #[]] w (IsV (.bool (cellsBad zs)) w) never := by
  obtain rfl := h2.len
  have hl := h2.lt
  refine vc76 ?_
  refine ⟨fun v w2 => (∃ x : Int, v = .int .i64 x ∧ decide (x ≥ 0) = cellsBad zs) ∧ Ext w w2, never, vc108 ?_, ?_, never_any⟩
  · refine loop0 (kids := zs) rfl (by omega) (Upd.refl w _) (fun _ => cellsBad) (fun I m j w2 hj hg hE2 k => ?_) (fun w2 hg hE2 => ?_)
    · rw [cellsBad_cons] at hg
      refine h2.idx hj fun ad ha => (h2.ext hE2).cell ha hj ?_
      refine callB (test77 _) fun w3 hE3 => ⟨fun ht => ?_, fun ht => ?_⟩
      · exact ⟨⟨_, rfl, by rw [← hg, ht]; simp⟩, hE2.trans hE3⟩
      · rw [ht, Bool.false_or] at hg
        exact k _ hg (hE2.trans hE3)
    · exact ⟨⟨_, rfl, by rw [← hg]; rfl⟩, hE2⟩
  · rintro v w2 ⟨⟨x, rfl, hx⟩, hE⟩
    exact ⟨x, rfl, no, hE, Away.no _, by rw [hx], hE⟩
set_option maxRecDepth 20000
set_option maxHeartbeats 1000000
theorem catch_idle (p : Addr) (w : World) :
    CallsD Tryz.prog 53 #[.pointer (some p)] .returning w fun e u' w' => e = .returned (.tuple #[]) ∧ u' = .returning ∧ w' = w := by
  refine callsD_of_wpS Tryz.func53 rfl fun c₀ cs hu => ?_
  apply wpS_seq
  apply wpS_region
  simp [wpOpsS, go_sem, recoverD, hu, Tryz.ntmps53, Exit.thenS]
  refine wpS_of_wp ?_
  have ht : (#[Value.pointer (some p)] ++ (Array.replicate 9 undef).setIfInBounds 3 Value.nilIface) = #[Value.pointer (some p), undef, undef, undef, Value.nilIface, undef, undef, undef, undef, undef] := rfl
  rw [ht]
  go_wp2
  cases c₀
  simp_all [bodyPostS, results, Tryz.results78]
theorem one_cell {w : World} {b : Nat} {x : Value} {t : Nat} (h : w.heap[b]? = some (.cells #[x] t (0, 0))) : w.cell? ⟨b, 0, none⟩ = some x ∧ w.frozen? ⟨b, 0, none⟩ = false := by
  constructor
  · simp only [World.cell?, h]; rfl
  · simp only [World.frozen?, h]; rfl
theorem alloc_keep {w : World} {b : Nat} {o o2 : Obj} (h : w.heap[b]? = some o) : (w.alloc o2).heap[b]? = some o := by
  have := lt_of_get h
  simp only [World.alloc, Array.getElem?_push]
  rw [if_neg (by omega)]; exact h
theorem alloc_new {w : World} {o : Obj} : (w.alloc o).heap[w.heap.size]? = some o := by show (w.heap.push o)[w.heap.size]? = some o; exact Array.getElem?_push_size
theorem catch_unfit (b : Nat) (older : List PanicEntry) (x : Int) (w : World) (h : w.heap[b]? = some (.cells #[.int .i64 x] 3 (0, 0))) :
    CallsD Tryz.prog 53 #[.pointer (some ⟨b, 0, none⟩)] (.panicking ({ v := .iface 98 (.agg #[]), recovered := false } :: older)) w fun e u' w' =>
      e = .returned (.tuple #[]) ∧ u' = .panicking ({ v := .iface 98 (.agg #[]), recovered := true } :: older) ∧ w' = (w.alloc (.cells #[] 98)).setCell ⟨b, 0, none⟩ (.int .i64 0) := by
  refine callsD_of_wpS Tryz.func53 rfl fun c₀ cs hu => ?_
  apply wpS_seq
  apply wpS_region
  simp [wpOpsS, go_sem, recoverD, hu, Tryz.ntmps53, Exit.thenS]
  refine wpS_of_wp ?_
  have ht : (#[Value.pointer (some ⟨b, 0, none⟩)] ++ (Array.replicate 9 undef).setIfInBounds 3 (.iface 98 (.agg #[]))) = #[Value.pointer (some ⟨b, 0, none⟩), undef, undef, undef, .iface 98 (.agg #[]), undef, undef, undef, undef, undef] := rfl
  rw [ht]
  have hta : ∀ w : World, Sem.run Tryz.prog (Instr.typeAssert (.iface 98 (.agg #[])) 20 98 true) w = .ok (.tuple #[.agg #[], .bool true]) w := fun w => by simp only [Instr.typeAssert, Sem.run_bind, run_underlying (Tryz.underlying98) w, Result.andThen_ok, if_pos, Sem.run_pure]
  obtain ⟨hc, hz⟩ := one_cell (alloc_keep (o2 := .cells #[] 98) h)
  go_wp2
  refine ⟨rfl, _, rfl, _, results_none rfl _ _ _, rfl, rfl, rfl⟩
theorem alloc_ext (w : World) (o : Obj) : Ext w (w.alloc o) :=
  ⟨rfl, rfl, rfl, by simp only [World.size_alloc]; omega, fun k hk _ => by simp only [World.alloc, Array.getElem?_push]; rw [if_neg (by omega)]⟩
theorem set_upd (w : World) (b : Nat) (v : Value) : Upd w (w.setCell ⟨b, 0, none⟩ v) (fun x => x = b) :=
  ⟨rfl, rfl, rfl, by simp [World.setCell], fun k hk hs => by simp only [World.setCell, Array.getElem?_modify]; rw [if_neg (fun e => hs e.symm)]⟩
theorem set_at {w : World} {b : Nat} {x : Value} {t : Nat} (h : w.heap[b]? = some (.cells #[x] t (0, 0))) (v : Value) : (w.setCell ⟨b, 0, none⟩ v).heap[b]? = some (.cells #[v] t (0, 0)) := by
  simp only [World.setCell, Array.getElem?_modify, h]; simp
theorem res49 {tm : Array Value} {w : World} {b : Nat} {x : Int} (h : tm[2]?.getD undef = .pointer (some ⟨b, 0, none⟩)) (hh : w.heap[b]? = some (.cells #[.int .i64 x] 3 (0, 0))) : (results Tryz.f32 tm).run Tryz.prog w = .ok (.int .i64 x) w := by
  obtain ⟨hc, hz⟩ := one_cell hh
  simp [results, Tryz.results49, go_sem, h, hc]
theorem start_lst {w w2 : World} {G : Nat → Prop} {zs : List Int} {B : Option Addr} {bc : Nat} (h2 : IntsR w G zs B zs.length bc) (hE : Ext w w2) (hG : ∀ x, G x → x < w.heap.size) :
    Lst (((w2.alloc (.map #[] 0)).alloc (.map #[] 0)).alloc (.cells #[.slice B zs.length bc, .map (some w2.heap.size), .map (some (w2.heap.size + 1)), .int .i64 0] 103)) (w2.heap.size + 1 + 1) w2.heap.size (w2.heap.size + 1) zs B bc
      ⟨0, List.replicate zs.length none, List.replicate zs.length 0, true⟩ := by
  have hs := hE.size
  have e1 : w2.heap.size + 1 = (w2.alloc (.map #[] 0)).heap.size := by simp
  have e2 : w2.heap.size + 1 + 1 = ((w2.alloc (.map #[] 0)).alloc (.map #[] 0)).heap.size := by simp
  have hE3 := ((alloc_ext w2 (.map #[] 0)).trans (alloc_ext _ (.map #[] 0))).trans (alloc_ext _ (.cells #[.slice B zs.length bc, .map (some w2.heap.size), .map (some (w2.heap.size + 1)), .int .i64 0] 103))
  refine ⟨by rw [e2]; exact alloc_new, ?_, ⟨fun _ => none, ⟨[], 0, alloc_keep (alloc_keep alloc_new), fun _ _ => rfl, by simp [bornOk]⟩, fun i x hx => ?_⟩, ⟨fun _ => none, ⟨[], 0, by rw [e1]; exact alloc_keep alloc_new, fun _ _ => rfl, by simp [bornOk]⟩, fun i y hy => ?_⟩, by simp, by simp, by omega, by omega, by omega⟩
  · exact RowIn.mono (RowIn.upd h2 (hE.trans hE3) (no_no _)) fun x hx hS => by
      have := hG x hx
      rcases hS with e | e | e <;> omega
  · have := List.getElem?_eq_some_iff.1 hx
    obtain ⟨hi, hx⟩ := this
    simp at hx
    subst hx; rfl
  · obtain ⟨hi, hy⟩ := List.getElem?_eq_some_iff.1 hy
    simp at hy
theorem kind49 (p : Pl) {w : World} {F G : Nat → Prop} {A : Option Addr} {l c : Nat} {B : Option Addr} {bl bc : Nat} (h : NdsR w F p.root.kids A l c) (h2 : IntsR w G p.cells B bl bc) (hF : ∀ x, F x ∨ G x → x < w.heap.size) :
    CallsX E.P 32 #[plA p A l c B bl bc] w (IsV (.int .i64 (planKind p)) w) never := by
  refine ⟨?_⟩
  show Calls Tryz.prog 32 _ _ _
  have hmf : ∀ (fn : Fn) (first cap : Array Value) (w : World), (Instr.makeFunc fn first cap).run Tryz.prog w = .ok (.func fn first cap) w := fun _ _ _ _ => rfl
  have hmk : ∀ (t : Nat) (w : World), Sem.run Tryz.prog (Instr.makeMap t none) w = .ok (.map (some w.heap.size)) (w.alloc (.map #[] 0)) := fun _ _ => rfl
  obtain rfl := h2.len
  have hE1 : Ext w ((w.alloc (Obj.cells #[.int .i64 p.root.k, .int .i64 p.root.n, .string p.root.s, .slice A l c, .slice B p.cells.length bc] 27)).alloc (Obj.cells #[.int .i64 0] 3)) := (alloc_ext _ _).trans (alloc_ext _ _)
  have k1 : ((w.alloc (Obj.cells #[.int .i64 p.root.k, .int .i64 p.root.n, .string p.root.s, .slice A l c, .slice B p.cells.length bc] 27)).alloc (Obj.cells #[.int .i64 0] 3)).heap[w.heap.size]? = some (Obj.cells #[.int .i64 p.root.k, .int .i64 p.root.n, .string p.root.s, .slice A l c, .slice B p.cells.length bc] 27) := alloc_keep alloc_new
  have k2 : ((w.alloc (Obj.cells #[.int .i64 p.root.k, .int .i64 p.root.n, .string p.root.s, .slice A l c, .slice B p.cells.length bc] 27)).alloc (Obj.cells #[.int .i64 0] 3)).heap[w.heap.size + 1]? = some (Obj.cells #[.int .i64 0] 3) := by
    have := alloc_new (w := w.alloc (Obj.cells #[.int .i64 p.root.k, .int .i64 p.root.n, .string p.root.s, .slice A l c, .slice B p.cells.length bc] 27)) (o := Obj.cells #[.int .i64 0] 3)
    rwa [World.size_alloc] at this
  have k3 : w.heap.size + 2 ≤ ((w.alloc (Obj.cells #[.int .i64 p.root.k, .int .i64 p.root.n, .string p.root.s, .slice A l c, .slice B p.cells.length bc] 27)).alloc (Obj.cells #[.int .i64 0] 3)).heap.size := by simp
  go_enter_defers Tryz.func32, Tryz.ntmps32
  go_wp2_with fail
  · generalize ((w.alloc (Obj.cells #[.int .i64 p.root.k, .int .i64 p.root.n, .string p.root.s, .slice A l c, .slice B p.cells.length bc] 27)).alloc (Obj.cells #[.int .i64 0] 3)) = w1 at *
    refine (bad_c p.cells (h2.ext hE1)).out.mono ?_
    rintro (v | _ | _) w2 hR
    · obtain ⟨rfl, hE2⟩ := hR
      have g1 : w2.heap[w.heap.size]? = _ := (hE2.keep _ (lt_of_get k1) (fun h => h)).trans k1
      have g2 : w2.heap[w.heap.size + 1]? = _ := (hE2.keep _ (lt_of_get k2) (fun h => h)).trans k2
      have hs2 := hE2.size
      have hE02 := hE1.trans hE2
      have c4 : w2.cell? ⟨w.heap.size, 4, none⟩ = some (.slice B p.cells.length bc) := by simp only [World.cell?, g1]; rfl
      obtain ⟨c5, z5⟩ := one_cell g2
      have g3 : (((w2.alloc (.map #[] 0)).alloc (.map #[] 0)).alloc (.cells #[.slice B p.cells.length bc, .map (some w2.heap.size), .map (some (w2.heap.size + 1)), .int .i64 0] 103)).heap[w.heap.size]? = _ := alloc_keep (alloc_keep (alloc_keep g1))
      have g4 : (((w2.alloc (.map #[] 0)).alloc (.map #[] 0)).alloc (.cells #[.slice B p.cells.length bc, .map (some w2.heap.size), .map (some (w2.heap.size + 1)), .int .i64 0] 103)).heap[w.heap.size + 1]? = _ := alloc_keep (alloc_keep (alloc_keep g2))
      have hE03 := hE02.trans (((alloc_ext w2 (.map #[] 0)).trans (alloc_ext _ (.map #[] 0))).trans (alloc_ext _ (.cells #[.slice B p.cells.length bc, .map (some w2.heap.size), .map (some (w2.heap.size + 1)), .int .i64 0] 103)))
      have hL := start_lst h2 hE02 (fun x hx => hF x (.inr hx))
      have d0 : (((w2.alloc (.map #[] 0)).alloc (.map #[] 0)).alloc (.cells #[.slice B p.cells.length bc, .map (some w2.heap.size), .map (some (w2.heap.size + 1)), .int .i64 0] 103)).cell? ⟨w.heap.size, 0, none⟩ = some (.int .i64 p.root.k) := by rw [World.cell?, g3]; rfl
      have d1 : (((w2.alloc (.map #[] 0)).alloc (.map #[] 0)).alloc (.cells #[.slice B p.cells.length bc, .map (some w2.heap.size), .map (some (w2.heap.size + 1)), .int .i64 0] 103)).cell? ⟨w.heap.size, 1, none⟩ = some (.int .i64 p.root.n) := by rw [World.cell?, g3]; rfl
      have d2 : (((w2.alloc (.map #[] 0)).alloc (.map #[] 0)).alloc (.cells #[.slice B p.cells.length bc, .map (some w2.heap.size), .map (some (w2.heap.size + 1)), .int .i64 0] 103)).cell? ⟨w.heap.size, 2, none⟩ = some (.string p.root.s) := by rw [World.cell?, g3]; rfl
      have d3 : (((w2.alloc (.map #[] 0)).alloc (.map #[] 0)).alloc (.cells #[.slice B p.cells.length bc, .map (some w2.heap.size), .map (some (w2.heap.size + 1)), .int .i64 0] 103)).cell? ⟨w.heap.size, 3, none⟩ = some (.slice A l c) := by rw [World.cell?, g3]; rfl
      cases hb : cellsBad p.cells with
      | true =>
        go_wp2_with fail
        refine ⟨.int .i64 0, res49 rfl (set_at g2 _), ?_, Upd.step hE02 (set_upd _ _ _) (by intro x hx; omega)⟩
        rw [planKind, hb, if_pos rfl]
        split <;> rfl
      | false =>
        go_wp2_with fail
        have hpk1 : ∀ r, lookK p.cells p.root.size 0 0 ⟨0, List.replicate p.cells.length none, List.replicate p.cells.length 0, true⟩ p.root = some r → planKind p = r.1 := fun r e => by
          rw [planKind, hb, if_neg (by simp; omega), if_neg Bool.false_ne_true, e]
        have hpk0 : lookK p.cells p.root.size 0 0 ⟨0, List.replicate p.cells.length none, List.replicate p.cells.length 0, true⟩ p.root = none → planKind p = 0 := fun e => by
          rw [planKind, hb, if_neg (by simp; omega), if_neg Bool.false_ne_true, e]
        refine (kindK_c p.root.size p.root (Nat.le_refl _) 0 0 _ hL (NdsG.mono (h.ext hE03) fun x hx hS => by
          have := hF x (.inl hx)
          have := hE02.size
          rcases hS with e | e | e <;> omega)).out.mono ?_
        have hk4 : ∀ {w4 : World}, Upd (((w2.alloc (.map #[] 0)).alloc (.map #[] 0)).alloc (.cells #[.slice B p.cells.length bc, .map (some w2.heap.size), .map (some (w2.heap.size + 1)), .int .i64 0] 103)) w4 (S3 (w2.heap.size + 1 + 1) w2.heap.size (w2.heap.size + 1)) →
            w4.heap[w.heap.size + 1]? = some (.cells #[.int .i64 0] 3 (0, 0)) ∧ Ext w w4 := fun {w4} hU => by
          refine ⟨(hU.keep _ (lt_of_get g4) (fun hS => ?_)).trans g4, Upd.step hE03 hU fun x hx => ?_⟩
          · rcases hS with e | e | e <;> omega
          · have := hE02.size
            rcases hx with e | e | e <;> omega
        rintro (v | ch | _) w4 hR
        · obtain ⟨pr, hpr, rfl, hL4, hU⟩ := hR
          obtain ⟨hc4, hE4⟩ := hk4 hU
          obtain ⟨e5, e6⟩ := one_cell hc4
          go_wp2_with fail
          refine leaves_cons (f := 53) (args := #[.pointer (some ⟨w.heap.size + 1, 0, none⟩)]) (by simp) (by simp [go_sem]) ?_
          refine (catch_idle _ _).mono ?_
          rintro e u' w'' ⟨rfl, rfl, rfl⟩
          exact ⟨.int .i64 pr.1, res49 rfl (set_at hc4 _), by rw [hpk1 _ hpr], Upd.step hE4 (set_upd _ _ _) (by intro x hx; omega)⟩
        · obtain ⟨hnone, rfl, hU⟩ := hR
          obtain ⟨hc4, hE4⟩ := hk4 hU
          refine leaves_cons (f := 53) (args := #[.pointer (some ⟨w.heap.size + 1, 0, none⟩)]) (by simp) (by simp [go_sem]) ?_
          refine (catch_unfit (w.heap.size + 1) [] 0 w4 hc4).mono ?_
          rintro e u' w'' ⟨rfl, rfl, rfl⟩
          exact ⟨.int .i64 0, res49 rfl (set_at (alloc_keep hc4) _), by rw [hpk0 hnone], Upd.step (hE4.trans (alloc_ext _ _)) (set_upd _ _ _) (by intro x hx; omega)⟩
        · exact hR.elim
    · exact hR.elim
    · exact hR.elim
  · refine ⟨.int .i64 0, res49 rfl k2, ?_, hE1⟩
    rename_i hx
    rw [planKind, if_pos (by simp; omega)]
theorem planKind_c (p : Pl) {w : World} {F G : Nat → Prop} {A : Option Addr} {l c : Nat} {B : Option Addr} {bl bc : Nat} (h : NdsR w F p.root.kids A l c) (h2 : IntsR w G p.cells B bl bc) (hF : ∀ x, F x ∨ G x → x < w.heap.size) :
    CallsX E.P 32 #[plA p A l c B bl bc] w (IsV (.int .i64 (refKind p)) w) never := planKind_eq p ▸ kind49 p h h2 hF
theorem planRight_c (p : Pl) {w : World} {F G : Nat → Prop} {A : Option Addr} {l c : Nat} {B : Option Addr} {bl bc : Nat} (h : NdsR w F p.root.kids A l c) (h2 : IntsR w G p.cells B bl bc) (hF : ∀ x, F x ∨ G x → x < w.heap.size) :
    CallsX E.P 17 #[plA p A l c B bl bc] w (IsV (.bool (refKind p != 0)) w) never := by
  refine vc28 ?_
  intro id hid w1 hE hi
  exact callI (planKind_c p (h.ext hE) (h2.ext hE) (fun x hx => by have := hF x hx; have := hE.size; omega)) fun w2 hE2 => ⟨rfl, hE.trans hE2⟩
def rightB (p : Pl) : Bool := refKind p != 0
theorem right_le {p : Pl} (h : rightB p = true) : p.cells.length ≤ 256 := by
  unfold rightB refKind at h
  split at h
  · cases h
  · rename_i h2; simp at h2; omega
end Go.Vx.Tryz
namespace Go.Vx
open Go
section
theorem hangsL_ge (b : Int) : ∀ (l : List Nd) (h : Int), h ≤ hangsL b h l
  | [], h => by rw [hangsL]; exact Int.le_refl _
  | x :: l, h => by
    rw [hangsL]
    have := hangsL_ge b l (if hangs b x > h then hangs b x else h)
    have h2 : h ≤ (if hangs b x > h then hangs b x else h) := by split <;> omega
    exact Int.le_trans h2 this
end
section
open Go
mutual
inductive HT (P Q : List Int) : Int → Nd → Nd → Nat → Nat → Prop
  | node (a k v : Int) (s : ByteArray) (l l' : List Nd) (m m1 : Nat) : k ≠ 26 → HTL P Q k a 0 l l' m m1 → HT P Q a (.mk k v s l) (.mk k v s l') m m1
  | cell (a v : Int) (s : ByteArray) (l : List Nd) (m : Nat) : HT P Q a (.mk 26 v s l) (.mk 26 v s l) m m
  | wrap (a k v : Int) (s : ByteArray) (l l' : List Nd) (m m1 : Nat) : k = 20 ∨ k = 21 → P.length + m < Q.length → Q.getD (P.length + m) 0 = hangs a (.mk k v s l) → 0 ≤ hangs a (.mk k v s l) → hangs a (.mk k v s l) ≤ a → hangs a (.mk k v s l') = hangs a (.mk k v s l) →
      HTL P Q k a 0 l l' (m + 1) m1 → HT P Q a (.mk k v s l) (.mk 26 ((P.length + m : Nat) : Int) (ByteArray.mk #[]) [.mk k v s l']) m m1
inductive HTL (P Q : List Int) : Int → Int → Int → List Nd → List Nd → Nat → Nat → Prop
  | nil (k a i : Int) (m : Nat) : HTL P Q k a i [] [] m m
  | cons (k a i : Int) (x x' : Nd) (l l' : List Nd) (m m1 m2 : Nat) : HT P Q (if k == 21 && i == 1 then w64 (a + 1) else a) x x' m m1 → HTL P Q k a (w64 (i + 1)) l l' m1 m2 → HTL P Q k a i (x :: l) (x' :: l') m m2
end
theorem HTL.len {P Q : List Int} {k a : Int} : ∀ {l l' : List Nd} {i : Int} {m m1 : Nat}, HTL P Q k a i l l' m m1 → l'.length = l.length
  | [], _, _, _, _, h => by cases h; rfl
  | x :: l, _, _, _, _, h => by
    cases h with
    | cons _ _ _ _ x' _ l' _ _ _ _ h2 => rw [List.length_cons, List.length_cons, h2.len]
structure RelW (P Q : List Int) (m : Nat) (st st' : WS) : Prop where
  ok : st.ok = true
  ok' : st'.ok = true
  pt : st'.parts = st.parts + m
  l1 : st.ks.length = P.length
  l2 : st.ts.length = P.length
  l3 : st'.ks.length = Q.length
  l4 : st'.ts.length = Q.length
  ks : ∀ v, v < P.length → st'.ks.getD v none = st.ks.getD v none
  ts : ∀ v, v < P.length → st'.ts.getD v 0 = st.ts.getD v 0
structure OutS (P Q : List Int) (m m1 z : Nat) (st st' s s' : WS) : Prop where
  rel : RelW P Q m1 s s'
  le : s.parts ≤ st.parts + z
  ge : 0 ≤ s.parts
  mm : m ≤ m1
  top : P.length + m1 ≤ Q.length
  hi : ∀ j, P.length + m ≤ j → j < P.length + m1 → 0 ≤ Q.getD j 0 ∧ Q.getD j 0 ≤ 4
  fr : ∀ j, P.length ≤ j → j < P.length + m ∨ P.length + m1 ≤ j → s'.ks.getD j none = st'.ks.getD j none
section
variable {P Q : List Int} {m m1 m2 z z2 : Nat} {st st' s s' t t' : WS}
theorem OutS.trans (h : OutS P Q m m1 z st st' s s') (k : OutS P Q m1 m2 z2 s s' t t') : OutS P Q m m2 (z + z2) st st' t t' where
  rel := k.rel
  le := by have := h.le; have := k.le; omega
  ge := k.ge
  mm := Nat.le_trans h.mm k.mm
  top := k.top
  hi := fun j h1 h2 => by
    by_cases hj : j < P.length + m1
    · exact h.hi j h1 hj
    · exact k.hi j (by omega) h2
  fr := fun j h1 h2 => by
    have := h.mm; have := k.mm
    rw [k.fr j h1 (by omega), h.fr j h1 (by omega)]
theorem OutS.none (h : OutS P Q m m1 z st st' s s') (hn : ∀ j, P.length + m ≤ j → st'.ks.getD j .none = .none) : ∀ j, P.length + m1 ≤ j → s'.ks.getD j .none = .none := fun j hj => by
  have := h.mm
  rw [h.fr j (by omega) (.inr hj)]; exact hn j (by omega)
theorem OutS.mono (h : OutS P Q m m1 z st st' s s') (hz : z ≤ z2) : OutS P Q m m1 z2 st st' s s' := { h with le := by have := h.le; omega }
theorem must_ok {r : Int × WS} {k : Int} (h : (mustW r k).ok = true) : r.1 = k ∧ mustW r k = r.2 := by
  unfold mustW at h ⊢
  split at h
  · simp [WS.bad] at h
  · rename_i hc
    exact ⟨by simpa using hc, if_neg hc⟩
end
section
variable {P Q : List Int} {kf kf' : Int → Int → WS → Nd → Int × WS} {f f' : Nat}
theorem setL_ok {g : WS → Nd → Int × WS} {x : Nd} {l : List Nd} {st : WS} (h : (setL g st (x :: l)).ok = true) : st.ok = true ∧ (setL g (mustW (g st x) 3) l).ok = true := by
  rw [setL] at h
  split at h
  · rename_i hs; exact ⟨hs, h⟩
  · rename_i hs; exact absurd h hs
end
end
section
open Go
def bodyK (cells : List Int) (kf : Int → Int → WS → Nd → Int × WS) (a q : Int) (st : WS) (k v : Int) (l : List Nd) : Int × WS :=
    if k == 1 then (1, st) else if k == 2 then (2, st) else if k == 3 then (3, st)
    else if k == 5 then if decide (v ≥ a) then (3, st.bad) else (3, st)
    else if k == 6 || k == 8 || k == 9 || k == 10 || k == 11 || k == 12 then (1, allW (kf a q) 1 st l)
    else if k == 7 || k == 17 || k == 18 then (2, allW (kf a q) 2 st l)
    else if k == 15 || k == 16 then (2, allW (kf a q) 1 st l)
    else if k == 13 || k == 14 then (2, mustW (kf a q (kf a q st (l.getD 0 nd0)).2 (l.getD 1 nd0)) (kf a q st (l.getD 0 nd0)).1)
    else if k == 19 then
      ((kf a q (mustW (kf a q st (l.getD 0 nd0)) 2) (l.getD 1 nd0)).1,
        mustW (kf a q (kf a q (mustW (kf a q st (l.getD 0 nd0)) 2) (l.getD 1 nd0)).2 (l.getD 2 nd0)) (kf a q (mustW (kf a q st (l.getD 0 nd0)) 2) (l.getD 1 nd0)).1)
    else if k == 20 then (givesI v, allW (kf a q) 3 st l)
    else if k == 21 then quantW kf st v (l.getD 0 nd0) (l.getD 1 nd0) a q
    else if k == 26 then cellW cells (kf a q) st v (l.getD 0 nd0) a
    else (0, st.bad)
theorem kindW_eq (cells : List Int) (f : Nat) (a q : Int) (st : WS) (k v : Int) (s : ByteArray) (l : List Nd) : kindW cells (f + 1) a q st (.mk k v s l) =
    if !st.ok then (0, st.inc.bad) else if decide (w64 (st.parts + 1) > 4096) then (0, st.inc.bad) else if !formB k v s l.length then (0, st.inc.bad) else bodyK cells (kindW cells f) a q st.inc k v l := by rw [kindW]; rfl
theorem parts_inc {x : Int} (h0 : 0 ≤ x) (h : x ≤ 4000) : w64 (x + 1) = x + 1 := w64_id (by omega) (by omega)
section
variable {P Q : List Int} {m : Nat} {st st' : WS}
theorem RelW.inc (h : RelW P Q m st st') (h0 : 0 ≤ st.parts) (h1 : st.parts ≤ 3000) (hm : m ≤ 256) : RelW P Q m st.inc st'.inc ∧ st.inc.parts = st.parts + 1 := by
  have e1 : st.inc.parts = st.parts + 1 := parts_inc h0 (by omega)
  have e2 : st'.inc.parts = st'.parts + 1 := parts_inc (by have := h.pt; omega) (by have := h.pt; omega)
  exact ⟨⟨h.ok, h.ok', by rw [e1, e2, h.pt]; omega, h.l1, h.l2, h.l3, h.l4, h.ks, h.ts⟩, e1⟩
end
section
variable {P Q : List Int} {kf kf' : Int → Int → WS → Nd → Int × WS} {f f' : Nat}
theorem HTL.two {k a i : Int} {x y : Nd} {l' : List Nd} {m m2 : Nat} (h : HTL P Q k a i [x, y] l' m m2) : ∃ x' y' m1, l' = [x', y'] ∧ HT P Q (if k == 21 && i == 1 then w64 (a + 1) else a) x x' m m1 ∧ HT P Q (if k == 21 && w64 (i + 1) == 1 then w64 (a + 1) else a) y y' m1 m2 := by
  cases h with
  | cons _ _ _ _ x' _ l1 _ m1 _ hx hl =>
    cases hl with
    | cons _ _ _ _ y' _ l2 _ m3 _ hy hl2 =>
      cases hl2
      exact ⟨x', y', m1, rfl, hx, hy⟩
theorem HTL.one {k a i : Int} {x : Nd} {l' : List Nd} {m m2 : Nat} (h : HTL P Q k a i [x] l' m m2) : ∃ x', l' = [x'] ∧ HT P Q (if k == 21 && i == 1 then w64 (a + 1) else a) x x' m m2 := by
  cases h with
  | cons _ _ _ _ x' _ l1 _ m1 _ hx hl =>
    cases hl
    exact ⟨x', rfl, hx⟩
end
end
section
open Go
theorem must_okr {r : Int × WS} {k : Int} (h : (mustW r k).ok = true) : r.2.ok = true := by
  have := must_ok h
  rw [← this.2]; exact h
theorem all_each {kf : WS → Nd → Int × WS} (hb : ∀ st n, st.ok = false → (kf st n).2.ok = false) {k : Int} : ∀ {l : List Nd} {st : WS}, (allW kf k st l).ok = true → ∀ x ∈ l, ∃ st2, (kf st2 x).2.ok = true
  | y :: l, st, h, x, hx => by
    rw [allW] at h
    rcases List.mem_cons.1 hx with rfl | hx
    · refine ⟨st, must_okr (k := k) ?_⟩
      cases e : (mustW (kf st x) k).ok with
      | true => rfl
      | false => rw [allW_bad hb k l _ e] at h; cases h
    · exact all_each hb h x hx
theorem set_each {kf : WS → Nd → Int × WS} : ∀ {l : List Nd} {st : WS}, (setL kf st l).ok = true → ∀ x ∈ l, ∃ st2, (kf st2 x).2.ok = true
  | y :: l, st, h, x, hx => by
    obtain ⟨hs, h⟩ := setL_ok h
    rcases List.mem_cons.1 hx with rfl | hx
    · refine ⟨st, must_okr (k := 3) ?_⟩
      cases e : (mustW (kf st x) 3).ok with
      | true => rfl
      | false => rw [setL_bad l _ e] at h; cases h
    · exact set_each h x hx
theorem set_forms {kf : WS → Nd → Int × WS} {n : Nd} {st : WS} (hk : ∀ x ∈ n.kids, ∀ st2, (kf st2 x).2.ok = true → forms x = true) (h : (setW kf st n).ok = true) : forms n = true := by
  obtain ⟨k, v, s, l⟩ := n
  rw [setW] at h
  split at h
  · cases h
  split at h
  · cases h
  split at h
  · cases h
  split at h
  · cases h
  rename_i hf
  rw [forms, Bool.and_eq_true]
  refine ⟨by simpa using hf, formsL_iff.2 fun x hx => ?_⟩
  obtain ⟨st2, h2⟩ := set_each h x hx
  exact hk x hx st2 h2
theorem cell_ok {cells : List Int} {kf : WS → Nd → Int × WS} {st : WS} {v a : Int} {x : Nd} (h : (cellW cells kf st v x a).2.ok = true) : (kf st x).2.ok = true := by
  unfold cellW at h
  split at h
  · cases h
  split at h
  · cases h
  split at h
  · cases h
  unfold cellTwo at h
  cases e : (kf st x).2.ok with
  | true => rfl
  | false => rw [e] at h; simp [e] at h
theorem form_zero {k v : Int} {s : ByteArray} {l : Int} (h : formB k v s l = true) (hk : k = 1 ∨ k = 2 ∨ k = 3 ∨ k = 5) : l = 0 := by
  rcases hk with rfl | rfl | rfl | rfl <;> simp [formB] at h <;> omega
theorem ite_ok {c : Prop} [Decidable c] {x y : Int × WS} (h : (if c then x else y).2.ok = true) : (c ∧ x.2.ok = true) ∨ (¬ c ∧ y.2.ok = true) := by
  by_cases hc : c
  · rw [if_pos hc] at h; exact .inl ⟨hc, h⟩
  · rw [if_neg hc] at h; exact .inr ⟨hc, h⟩
theorem kind_forms (cells : List Int) : ∀ (f : Nat) (n : Nd), n.size ≤ f → ∀ (a q : Int) (st : WS), (kindW cells f a q st n).2.ok = true → forms n = true := by
  intro f
  induction f with
  | zero => intro n hn; have := size_pos n; omega
  | succ f ih =>
    intro n hn a q st h
    obtain ⟨k, v, s, l⟩ := n
    rw [kindW_eq] at h
    split at h
    · cases h
    split at h
    · cases h
    split at h
    · cases h
    rename_i hf
    have hf : formB k v s l.length = true := by simpa using hf
    rw [forms, Bool.and_eq_true]
    refine ⟨hf, formsL_iff.2 fun x hx => ?_⟩
    have hsz : ∀ y ∈ l, y.size ≤ f := fun y hy => by have := Nd.size_lt hy; simp only [Nd.size] at hn; omega
    have fin : ∀ {a q : Int} {y : Nd} {st2 : WS}, y ∈ l → (kindW cells f a q st2 y).2.ok = true → forms y = true := fun hy h2 => ih _ (hsz _ hy) _ _ _ h2
    have hb : ∀ st n, st.ok = false → (kindW cells f a q st n).2.ok = false := fun st n h => kindW_bad cells f a q st n h
    have viaAll : ∀ {kk : Int}, (allW (kindW cells f a q) kk st.inc l).ok = true → forms x = true := fun h => by
      obtain ⟨st2, h2⟩ := all_each hb h x hx
      exact fin hx h2
    have nb : ∀ {s2 : WS}, ¬ (s2.bad.ok = true) := fun h => by cases h
    have leaf : ∀ (_ : (l.length : Int) = 0), forms x = true := fun e => by
      have : l = [] := List.length_eq_zero_iff.1 (by omega)
      subst this; cases hx
    unfold bodyK at h
    rcases ite_ok h with ⟨e, h⟩ | ⟨_, h⟩
    · have e : k = 1 := by simpa using e
      subst e; exact leaf (form_zero hf (by omega))
    rcases ite_ok h with ⟨e, h⟩ | ⟨_, h⟩
    · have e : k = 2 := by simpa using e
      subst e; exact leaf (form_zero hf (by omega))
    rcases ite_ok h with ⟨e, h⟩ | ⟨_, h⟩
    · have e : k = 3 := by simpa using e
      subst e; exact leaf (form_zero hf (by omega))
    rcases ite_ok h with ⟨e, h⟩ | ⟨_, h⟩
    · have e : k = 5 := by simpa using e
      subst e; exact leaf (form_zero hf (by omega))
    rcases ite_ok h with ⟨e, h⟩ | ⟨_, h⟩
    · exact viaAll h
    rcases ite_ok h with ⟨e, h⟩ | ⟨_, h⟩
    · exact viaAll h
    rcases ite_ok h with ⟨e, h⟩ | ⟨_, h⟩
    · exact viaAll h
    rcases ite_ok h with ⟨e, h⟩ | ⟨_, h⟩
    · have hl : l.length = 2 := by have := form_two hf (by simp only [Bool.or_eq_true, beq_iff_eq] at e; omega); omega
      have h2 := must_okr h
      rcases list2 (d := nd0) hl x hx with rfl | rfl
      · refine fin (a := a) (q := q) (st2 := st.inc) hx ?_
        cases e2 : (kindW cells f a q st.inc (l.getD 0 nd0)).2.ok with
        | true => rfl
        | false => rw [hb _ _ e2] at h2; cases h2
      · exact fin hx h2
    rcases ite_ok h with ⟨e, h⟩ | ⟨_, h⟩
    · have e : k = 19 := by simpa using e
      subst e
      have hl : l.length = 3 := by have := form_three hf; omega
      have h2 := must_okr h
      have h1 : (kindW cells f a q (mustW (kindW cells f a q st.inc (l.getD 0 nd0)) 2) (l.getD 1 nd0)).2.ok = true := by
        cases e2 : (kindW cells f a q (mustW (kindW cells f a q st.inc (l.getD 0 nd0)) 2) (l.getD 1 nd0)).2.ok with
        | true => rfl
        | false => rw [hb _ _ e2] at h2; cases h2
      have h0 : (mustW (kindW cells f a q st.inc (l.getD 0 nd0)) 2).ok = true := by
        cases e2 : (mustW (kindW cells f a q st.inc (l.getD 0 nd0)) 2).ok with
        | true => rfl
        | false => rw [hb _ _ e2] at h1; cases h1
      rcases list3 (d := nd0) hl x hx with rfl | rfl | rfl
      · exact fin hx (must_okr h0)
      · exact fin hx h1
      · exact fin hx h2
    rcases ite_ok h with ⟨e, h⟩ | ⟨_, h⟩
    · exact viaAll h
    rcases ite_ok h with ⟨e, g⟩ | ⟨_, h⟩
    · have e : k = 21 := by simpa using e
      subst e
      have hl : l.length = 2 := by have := form_two hf (by omega); omega
      unfold quantW at g
      rcases ite_ok g with ⟨_, g⟩ | ⟨_, g⟩
      · cases g
      have h2 := must_okr g
      rcases list2 (d := nd0) hl x hx with rfl | rfl
      · refine set_forms (kf := kindW cells f a (w64 (q + 1))) (st := st.inc) (fun y hy st2 h3 => ?_) ?_
        · have h4 := hsz _ hx
          have h5 : y.size ≤ f := by
            have := Nd.size_lt hy
            cases hk : l.getD 0 nd0 with
            | mk k0 v0 s0 l0 => rw [hk] at this h4; simp only [Nd.size, Nd.kids] at this h4; omega
          exact ih _ h5 _ _ _ h3
        · cases e2 : (setW (kindW cells f a (w64 (q + 1))) st.inc (l.getD 0 nd0)).ok with
          | true => rfl
          | false => rw [kindW_bad cells f _ _ _ _ e2] at h2; cases h2
      · exact fin hx h2
    rcases ite_ok h with ⟨e, g⟩ | ⟨_, h⟩
    · have e : k = 26 := by simpa using e
      subst e
      have hl : l.length = 1 := by have := form_one hf (by omega); omega
      have hx0 := list1 (d := nd0) hl x hx
      rw [hx0]
      exact fin (hx0 ▸ hx) (cell_ok g)
    · cases h
theorem right_forms {p : Pl} (h : refKind p ≠ 0) : forms p.root = true := by
  unfold refKind at h
  split at h
  · exact absurd rfl h
  split at h
  · exact absurd rfl h
  dsimp only at h
  split at h
  · exact absurd rfl h
  rename_i hk
  exact kind_forms _ _ _ (Nat.le_refl _) _ _ _ (by simpa using hk)
end
section
def repsPl (p : Pl) (right : Bool) : Pl × Int := if right then (⟨repsN 0 p.root, p.cells⟩, 0) else (⟨.mk 0 0 (ByteArray.mk #[]) [], []⟩, 140)
end
end Go.Vx
namespace Go.Vx.Tryz
open Go Go.Vx Go.Proofs
theorem rightB_forms {p : Pl} (h : rightB p = true) : forms p.root = true := right_forms (by unfold rightB at h; simpa using h)
theorem planReps_c (p : Pl) (hN : p.root.size < 2 ^ 30) {w : World} {F G : Nat → Prop} {A : Option Addr} {l c : Nat} {B : Option Addr} {bl bc : Nat} (h : NdsR w F p.root.kids A l c) (h2 : IntsR w G p.cells B bl bc) (hF : ∀ x, F x ∨ G x → x < w.heap.size) :
    CallsX E.P 11 #[plA p A l c B bl bc] w (fun v w' => ∃ A l c B bl bc F G, v = .tuple #[plA (repsPl p (rightB p)).1 A l c B bl bc, .int .i64 (repsPl p (rightB p)).2] ∧ PlO w' F G (repsPl p (rightB p)).1 A l c B bl bc ∧ (∀ x, F x ∨ G x → w.heap.size ≤ x ∧ x < w'.heap.size) ∧ Ext w w') never := by
  refine vcD11 ?_
  intro id hid id1 hid1 w1 hE1 hi0 hi1
  have hE1 : Ext w w1 := hE1
  have hs1 := hE1.size
  refine callB (planRight_c p (h.ext hE1) (h2.ext hE1) (fun x hx => by have := hF x hx; omega)) fun w2 hE2 => ⟨fun hx w3 hU3 => ?_, fun hx w3 hE3 => ?_⟩
  · have hx' : rightB p = false := by simpa [rightB] using hx
    rw [hx']
    exact ⟨_, _, _, _, _, _, no, no, rfl, ⟨nds_nil, intsO_nil, fun _ h => h.elim⟩, fun x h => by rcases h with h | h <;> exact h.elim, fl (hE1.trans hE2) hU3 hid1⟩
  · have hx' : rightB p = true := by simpa [rightB] using hx
    have hle := right_le hx'
    have hbl := h2.len
    have hE3 : Ext w2 w3 := hE3
    have hE03 := (hE1.trans hE2).trans hE3
    have hs2 := hE2.size
    have hs3 := hE3.size
    refine callN (reps_c _ hN p.root (Nat.le_refl _) (rightB_forms hx') 0 (h.ext hE03)) fun A4 l4 c4 w4 hE4 q4 => ?_
    refine callS (clone_c p.cells (h2.ext (hE03.trans hE4)) (by omega)) fun A5 l5 c5 w5 hE5 hB5 => ?_
    have hl5 := hB5.len
    refine call_clip (clip32_c hB5.cap) fun w6 hU6 => ?_
    have hs4 := hE4.size
    have hs5 := hE5.size
    have hs6 := hU6.size
    have hE05 := (hE03.trans hE4).trans hE5
    have hA5 : ∀ x, blkOf A5 x → w4.heap.size ≤ x ∧ x < w5.heap.size := fun x hx => by have := hB5.blk hx; exact ⟨this.1, this.2.1⟩
    have hd := RowB.doneF hB5 (by omega)
    rw [hx']
    refine ⟨A4, l4, c4, A5, l5, l5, Rng w3.heap.size w4.heap.size, blkOf A5, rfl, ⟨(q4.ext hE5).upd hU6 fun x hx hS => ?_, hd.updF hU6 fun x hx hS => ?_, fun x hx hg => ?_⟩, fun x hx => ?_, fl hE05 hU6 hid1⟩
    · have := hx.1; simp only [setOf, no, or_false] at hS; omega
    · have := hA5 x hx; simp only [setOf, no, or_false] at hS; omega
    · have := hA5 x hg; have := hx.2; omega
    · rcases hx with hx | hx
      · have := hx.1; have := hx.2; omega
      · have := hA5 x hx; omega
end Go.Vx.Tryz
namespace Go.Proofs
def Tryz.lays171i_ren : Go.Shelf.Ren := ⟨fun | 129 => 135 | 171 => 82 | 243 => 106 | 246 => 122 | 283 => 128 | 284 => 129 | 285 => 130 | 286 => 131 | 317 => 134 | 318 => 136 | 319 => 137 | 320 => 138 | 337 => 141 | 338 => 142 | n => n, fun | 0 => 0 | 2 => 2 | 3 => 3 | 4 => 4 | 5 => 5 | 9 => 9 | 20 => 20 | 37 => 131 | 46 => 154 | 51 => 152 | 53 => 144 | 171 => 143 | 173 => 147 | 212 => 151 | 213 => 153 | 232 => 161 | 233 => 162 | n => n, fun | 1 => 3 | 17 => 0 | 18 => 1 | 19 => 2 | n => n⟩
theorem Tryz.lays171i : LaysM.n171 Tryz.prog Tryz.lays171i_ren := { mixed := by kernel_rfl, f129 := Tryz.func135.trans (congrArg some (by kernel_rfl)), f171 := Tryz.func82.trans (congrArg some (by kernel_rfl)), f243 := Tryz.func106.trans (congrArg some (by kernel_rfl)), f246 := Tryz.func122.trans (congrArg some (by kernel_rfl)), f283 := Tryz.func128.trans (congrArg some (by kernel_rfl)), f284 := Tryz.func129.trans (congrArg some (by kernel_rfl)), f285 := Tryz.func130.trans (congrArg some (by kernel_rfl)), f286 := Tryz.func131.trans (congrArg some (by kernel_rfl)), f317 := Tryz.func134.trans (congrArg some (by kernel_rfl)), f318 := Tryz.func136.trans (congrArg some (by kernel_rfl)), f319 := Tryz.func137.trans (congrArg some (by kernel_rfl)), f320 := Tryz.func138.trans (congrArg some (by kernel_rfl)), f337 := Tryz.func141.trans (congrArg some (by kernel_rfl)), f338 := Tryz.func142.trans (congrArg some (by kernel_rfl)), t0 := Tryz.underlying0, a0 := Tryz.isAgg0, z0 := Tryz.sizeOf0, v0 := Tryz.zeroValue0, t2 := Tryz.underlying2, a2 := Tryz.isAgg2, z2 := Tryz.sizeOf2, v2 := Tryz.zeroValue2, t3 := Tryz.underlying3, a3 := Tryz.isAgg3, z3 := Tryz.sizeOf3, v3 := Tryz.zeroValue3, t4 := Tryz.underlying4, a4 := Tryz.isAgg4, z4 := Tryz.sizeOf4, v4 := Tryz.zeroValue4, t5 := Tryz.underlying5, a5 := Tryz.isAgg5, z5 := Tryz.sizeOf5, v5 := Tryz.zeroValue5, t9 := Tryz.underlying9, a9 := Tryz.isAgg9, z9 := Tryz.sizeOf9, v9 := Tryz.zeroValue9, t20 := Tryz.underlying20, a20 := Tryz.isAgg20, z20 := Tryz.sizeOf20, v20 := Tryz.zeroValue20, t37 := Tryz.underlying131, a37 := Tryz.isAgg131, z37 := Tryz.sizeOf131, v37 := Tryz.zeroValue131, t46 := Tryz.underlying154, a46 := Tryz.isAgg154, z46 := Tryz.sizeOf154, v46 := Tryz.zeroValue154, t51 := Tryz.underlying152, a51 := Tryz.isAgg152, z51 := Tryz.sizeOf152, v51 := Tryz.zeroValue152, t53 := Tryz.underlying144, a53 := Tryz.isAgg144, z53 := Tryz.sizeOf144, v53 := Tryz.zeroValue144, t171 := Tryz.underlying143, a171 := Tryz.isAgg143, z171 := Tryz.sizeOf143, v171 := Tryz.zeroValue143, t173 := Tryz.underlying147, a173 := Tryz.isAgg147, z173 := Tryz.sizeOf147, v173 := Tryz.zeroValue147, t212 := Tryz.underlying151, a212 := Tryz.isAgg151, z212 := Tryz.sizeOf151, v212 := Tryz.zeroValue151, t213 := Tryz.underlying153, a213 := Tryz.isAgg153, z213 := Tryz.sizeOf153, t232 := Tryz.underlying161, a232 := Tryz.isAgg161, z232 := Tryz.sizeOf161, v232 := Tryz.zeroValue161, t233 := Tryz.underlying162, a233 := Tryz.isAgg162, z233 := Tryz.sizeOf162, v233 := Tryz.zeroValue162, g17 := by kernel_rfl, g18 := by kernel_rfl, g19 := by kernel_rfl, i0 := by kernel_rfl, i2 := by kernel_rfl, i3 := by kernel_rfl, i4 := by kernel_rfl, i5 := by kernel_rfl, i9 := by kernel_rfl, i20 := by kernel_rfl, i37 := by kernel_rfl, i46 := by kernel_rfl, i51 := by kernel_rfl, i53 := by kernel_rfl, i171 := by kernel_rfl, i173 := by kernel_rfl, i212 := by kernel_rfl, i232 := by kernel_rfl, i233 := by kernel_rfl, m17 := by kernel_rfl, m18 := by kernel_rfl, m19 := by kernel_rfl }
end Go.Proofs
namespace Go.Vx.Tryz
open Go Go.Vx Go.Proofs
theorem shhangs_c (N : Nat) : ∀ (n : Nd), n.size ≤ N → ∀ {w : World} {F : Nat → Prop} {A : Option Addr} {l c : Nat} (a : Int), NdsR w F n.kids A l c →
    CallsX E.P 56 #[ndA n A l c, .int .i64 a] w (IsV (.int .i64 (hangs a n)) w) never := by
  induction N with
  | zero => intro n hn; cases n; simp [Nd.size] at hn
  | succ N ih =>
    intro n hn w F A l c a hr
    obtain ⟨k, n0, s, kids⟩ := n
    dsimp only [ndA, Nd.k, Nd.n, Nd.s, Nd.kids] at *
    obtain rfl := hr.len
    refine vcD56 ?_
    intro id hid
    refine ⟨fun h w1 => h = (if k == 5 then if n0 < a then w64 (n0 + 1) else 0 else 0) ∧ Ext w w1, ⟨fun h1 => ⟨fun h2 w1 hE _ => ⟨?_, hE⟩, fun h2 w1 hE _ => ⟨?_, hE⟩⟩, fun h1 w1 hE _ => ⟨?_, hE⟩⟩, ?_⟩
    · rw [if_pos h1, if_pos (by simpa using h2)]
    · rw [if_pos h1, if_neg (by simpa using h2)]
    · rw [if_neg (by simpa using h1)]
    rintro _ h w1 ⟨rfl, hE⟩
    refine loop1 hr.len hr.lt hE (fun _ => hangsL a) (fun I m x j w2 hj hg hE2 k => ?_) (fun x w2 hg hE2 => ?_)
    · rw [hangsL] at hg
      refine hr.idx hj fun ad ha => (hr.ext hE2).cell ha hj fun A1 l1 c1 h1 id1 hid1 w3 hE3 _ => ?_
      exact callI (ih _ (by have := kid_size hj; simp only [Nd.size] at hn; omega) a (h1.ext hE3)) fun w4 hE4 => k _ _ hg ((hE2.trans hE3).trans hE4)
    · exact ⟨by rw [hangsL] at hg; rw [hg]; rfl, hE2⟩
theorem shrounds_c (N : Nat) : ∀ (n : Nd), n.size ≤ N → ∀ {w : World} {F : Nat → Prop} {A : Option Addr} {l c : Nat}, NdsR w F n.kids A l c →
    CallsX E.P 57 #[ndA n A l c] w (IsV (.bool (roundsN n)) w) never := by
  induction N with
  | zero => intro n hn; cases n; simp [Nd.size] at hn
  | succ N ih =>
    intro n hn w F A l c hr
    obtain ⟨k, n0, s, kids⟩ := n
    dsimp only [ndA, Nd.k, Nd.n, Nd.s, Nd.kids] at *
    obtain rfl := hr.len
    refine vcD57 ?_
    intro id hid
    rw [roundsN]
    refine ⟨fun h1 w1 hE _ => ⟨by rw [if_pos h1], hE⟩, fun h1 w1 hE _ => ?_⟩
    simp only [h1, Bool.false_eq_true, if_false]
    refine callB (x := roundsL kids) (vcD83_57 ?_) fun w2 hE2 => ⟨rfl, hE.trans hE2⟩
    refine ⟨fun v w2 => (∃ x : Int, v = .int .i64 x ∧ decide (x ≥ 0) = roundsL kids) ∧ Ext w1 w2, never, vcD107_57 ?_, ?_, never_any⟩
    · refine loop0 hr.len hr.lt (Upd.refl _ _) (fun _ => roundsL) (fun I m j w2 hj hg hE2 k => ?_) (fun w2 hg hE2 => ?_)
      · rw [roundsL] at hg
        refine hr.idx hj fun ad ha => (hr.ext (hE.trans hE2)).cell ha hj fun A1 l1 c1 h1 => ?_
        refine callB (ih _ (by have := kid_size hj; simp only [Nd.size] at hn; omega) h1) fun w3 hE3 => ⟨fun h => ?_, fun h => ?_⟩ <;> simp only [h, Bool.false_eq_true, if_false, if_true] at hg
        · exact ⟨⟨_, rfl, by rw [← hg]; simp⟩, hE2.trans hE3⟩
        · exact k _ hg (hE2.trans hE3)
      · exact ⟨⟨_, rfl, by rw [roundsL] at hg; rw [← hg]; rfl⟩, hE2⟩
    · rintro v w2 ⟨⟨x, rfl, hx⟩, hE2⟩
      exact ⟨x, rfl, no, hE2, Away.no _, by dsimp only; rw [hx]; exact ⟨rfl, hE2⟩⟩
def Tab (w : World) : Prop := Lib.TabIs E.P w "internal/strconv.uint64pow10" .u64 Lib.pow10Tab
theorem tab_named : E.P.globalNamed "internal/strconv.uint64pow10" = some 0 := by kernel_rfl
theorem Tab.upd {w w' : World} {S : Nat → Prop} (h : Tab w) (k : Upd w w' S) (hs : ¬ S 0) : Tab w' := by
  unfold Tab Lib.TabIs World.var? at h ⊢
  rw [tab_named] at h ⊢
  simp only [Option.bind_some] at h ⊢
  have h0 : 0 < w.heap.size := by
    cases e : w.heap[0]? with
    | none => rw [e] at h; cases h
    | some o => exact lt_of_get e
  rw [k.keep 0 h0 hs]; exact h
theorem Tab.ext {w w' : World} (h : Tab w) (k : Ext w w') : Tab w' := h.upd k fun h => h
abbrev itoaB1 (n : Int) : ByteArray := ⟨(Lib.itoa n).toArray⟩
theorem itoa_c {n : Int} (hn : InI n) {w : World} (ht : Tab w) : CallsX E.P 82 #[.int .i64 n] w (IsV (.string (itoaB1 n)) w) never :=
  of_calls (Any.strconv_Itoa Tryz.lays171i n hn.1 hn.2 w ht) fun e w' ⟨he, k, os, hw⟩ => ⟨_, he, rfl, by
    rw [hw]
    refine ⟨rfl, rfl, rfl, by simp [«Sort».grow, World.drewN], fun i hi _ => ?_⟩
    simp only [«Sort».grow, World.drewN]
    rw [Array.getElem?_append_left hi]⟩
end Go.Vx.Tryz
namespace Go.Vx
open Go
section
def itoaB (n : Int) : ByteArray := ⟨(Lib.itoa n).toArray⟩
def dotB : ByteArray := ByteArray.mk #[46]
def opnB : ByteArray := ByteArray.mk #[40]
def clsB : ByteArray := ByteArray.mk #[41]
def saidHd (k v : Int) (s : ByteArray) : ByteArray := itoaB k ++ dotB ++ itoaB v ++ dotB ++ s ++ opnB
mutual
def saidF : Nd → ByteArray
  | .mk k v s l => saidsF (saidHd k v s) l ++ clsB
def saidsF : ByteArray → List Nd → ByteArray
  | acc, [] => acc
  | acc, x :: l => saidsF (acc ++ saidF x) l
end
theorem ba_app (a b : ByteArray) : (a ++ b).size = a.size + b.size := ByteArray.size_append
theorem saids_ge : ∀ (l : List Nd) (acc : ByteArray), acc.size ≤ (saidsF acc l).size
  | [], acc => by rw [saidsF]; exact Nat.le_refl _
  | x :: l, acc => by
    rw [saidsF]
    have := saids_ge l (acc ++ saidF x)
    rw [ba_app] at this; omega
theorem strEq_size {s : ByteArray} (h : strEq s (ByteArray.mk #[]) = true) : s.size = 0 := by
  have h := strEq_toList h
  rw [ByteArray.toList_eq, ByteArray.toList_eq] at h
  have h2 := congrArg List.length h
  have h3 : s.data.toList.length = s.size := by rw [Array.length_toList]; rfl
  rw [h3] at h2
  exact h2
theorem name_size {s : ByteArray} (h : isNameB s = true) : s.size ≤ 12 := by
  unfold isNameB at h
  split at h
  · cases h
  · split at h
    · cases h
    · rename_i h2; simp at h2; omega
theorem ite_form {c x y : Bool} {p : Prop} (h : (if c = true then x else y) = true) (h1 : c = true → x = true → p) (h2 : y = true → p) : p := by
  cases c with
  | true => exact h1 rfl h
  | false => exact h2 h
theorem form_bounds {k v : Int} {s : ByteArray} {l : Int} (h : formB k v s l = true) : 1 ≤ k ∧ k ≤ 26 ∧ s.size ≤ 12 := by
  have e0 : ∀ {s : ByteArray}, strEq s (ByteArray.mk #[]) = true → s.size ≤ 12 := fun h => by rw [strEq_size h]; omega
  unfold formB at h
  refine ite_form h (fun c h => ?_) fun h => ite_form h (fun c h => ?_) fun h => ite_form h (fun c h => ?_) fun h => ite_form h (fun c h => ?_) fun h => ite_form h (fun c h => ?_) fun h => ite_form h (fun c h => ?_) fun h =>
    ite_form h (fun c h => ?_) fun h => ite_form h (fun c h => ?_) fun h => ite_form h (fun c h => ?_) fun h => ite_form h (fun c h => ?_) fun h => ite_form h (fun c h => ?_) fun h => ite_form h (fun c h => ?_) fun h => by cases h
  all_goals simp only [Bool.or_eq_true, Bool.and_eq_true, beq_iff_eq, decide_eq_true_eq] at c h
  all_goals refine ⟨by omega, by omega, ?_⟩
  all_goals first | exact e0 h.1 | exact e0 h.1.1 | exact e0 h.1.2 | exact e0 h.2 | exact name_size h.2 | (exact e0 h.1.1.2)
theorem itoa_size {n : Int} (h : InI n) : (itoaB n).size ≤ 21 := by
  have := Lib.itoa_length_le n h.1 h.2
  have e : (itoaB n).size = (Lib.itoa n).length := by unfold itoaB; rw [ByteArray.size]; simp
  rw [e]; exact this
theorem hd_size {n : Nd} (hf : forms n = true) (hr : inR n = true) : (saidHd n.k n.n n.s).size ≤ 62 := by
  obtain ⟨k1, k2, s1⟩ := form_bounds (form_of hf)
  have a := itoa_size (n := n.k) ⟨by omega, by omega⟩
  have b := itoa_size (inR_n hr)
  have e1 : dotB.size = 1 := rfl
  have e2 : opnB.size = 1 := rfl
  unfold saidHd
  simp only [ba_app]
  omega
mutual
theorem said_le : ∀ (n : Nd), forms n = true → inR n = true → (saidF n).size ≤ 64 * n.size
  | .mk k v s l, hf, hr => by
    have h0 := hd_size hf hr
    have hf2 := hf
    have hr2 := hr
    rw [forms, Bool.and_eq_true] at hf2
    rw [inR, Bool.and_eq_true] at hr2
    have h1 := saids_le l (saidHd k v s) hf2.2 hr2.2
    rw [saidF, ba_app]
    have e3 : clsB.size = 1 := rfl
    simp only [Nd.size]
    have h0' : (saidHd k v s).size ≤ 62 := h0
    omega
theorem saids_le : ∀ (l : List Nd) (acc : ByteArray), formsL l = true → inRL l = true → (saidsF acc l).size ≤ acc.size + 64 * Nd.sizes l
  | [], acc, _, _ => by rw [saidsF]; omega
  | x :: l, acc, hf, hr => by
    rw [formsL, Bool.and_eq_true] at hf
    rw [inRL, Bool.and_eq_true] at hr
    have h1 := said_le x hf.1 hr.1
    have h2 := saids_le l (acc ++ saidF x) hf.2 hr.2
    rw [saidsF]
    rw [ba_app] at h2
    simp only [Nd.sizes]; omega
end
end
end Go.Vx
namespace Go.Vx.Tryz
open Go Go.Vx Go.Proofs
section
variable {f : Nat} {args : Array Value} {w : World} {X : ContX} {ids : List Nat}
theorem callT {x : ByteArray} (h : CallsX E.P f args w (IsV (.string x) w) never) {K : ByteArray → World → Prop} (k : ∀ w2, Ext w w2 → K x w2) :
    ∃ (R : Value → World → Prop) (X' : ContX), CallsX E.P f args w R X' ∧ (∀ v w2, R v w2 → ∃ y, v = .string y ∧ ∃ S, Upd w w2 S ∧ Away ids S ∧ K y w2) ∧ ∀ ch w2, X' ch w2 → X ch w2 :=
  ⟨_, _, h, fun _ w2 ⟨hv, hE⟩ => ⟨x, hv, no, hE, Away.no _, k w2 hE⟩, never_any⟩
end
theorem said_c (N : Nat) (hN : N < 2 ^ 30) : ∀ (n : Nd), n.size ≤ N → forms n = true → inR n = true → ∀ {w : World} {F : Nat → Prop} {A : Option Addr} {l c : Nat}, Tab w → NdsR w F n.kids A l c →
    CallsX E.P 55 #[ndA n A l c] w (IsV (.string (saidF n)) w) never := by
  induction N with
  | zero => intro n hn; cases n; simp [Nd.size] at hn
  | succ N ih =>
    intro n hn hf hr w F A l c ht hm
    obtain ⟨b1, b2, b3⟩ := form_bounds (form_of hf)
    have hkI : InI n.k := ⟨by omega, by omega⟩
    have hvI := inR_n hr
    have z1 := itoa_size hkI
    have z2 := itoa_size hvI
    have zd : dotB.size = 1 := rfl
    have zo : opnB.size = 1 := rfl
    have zc : clsB.size = 1 := rfl
    obtain ⟨k, v, s, kids⟩ := n
    have hle := said_le _ hf hr
    rw [forms, Bool.and_eq_true] at hf
    rw [inR, Bool.and_eq_true] at hr
    dsimp only [ndA, Nd.k, Nd.n, Nd.s, Nd.kids] at *
    obtain rfl := hm.len
    rw [saidF] at hle ⊢
    rw [ba_app] at hle
    refine vcD55 ?_
    intro id hid
    refine ⟨fun x w1 => x = saidHd k v s ∧ Ext w w1, fun w1 hE1 hi => ?_, ?_⟩
    · have hE1 : Ext w w1 := hE1
      refine callT (itoa_c hkI (ht.ext hE1)) fun w2 hE2 => ⟨⟨_, add_run _ _ _ _ (show _ + dotB.size ≤ _ by have : (itoaB k).size ≤ 21 := z1; show (itoaB k).size + dotB.size ≤ _; omega), ?_⟩, ?_⟩
      · refine callT (itoa_c hvI ((ht.ext hE1).ext hE2)) fun w3 hE3 => ⟨_, add_run _ _ (itoaB k ++ dotB) (itoaB v) (by rw [ba_app]; omega), _, add_run _ _ (itoaB k ++ dotB ++ itoaB v) dotB (by rw [ba_app, ba_app]; omega),
          _, add_run _ _ (itoaB k ++ dotB ++ itoaB v ++ dotB) s (by rw [ba_app, ba_app, ba_app]; omega), _, add_run _ _ (itoaB k ++ dotB ++ itoaB v ++ dotB ++ s) opnB (by rw [ba_app, ba_app, ba_app, ba_app]; omega), rfl, (hE1.trans hE2).trans hE3⟩
      · refine callT (itoa_c hvI ((ht.ext hE1).ext hE2)) fun w3 hE3 => ⟨_, add_run _ _ (itoaB k) dotB (by omega), _, add_run _ _ (itoaB k ++ dotB) (itoaB v) (by rw [ba_app]; omega), _, add_run _ _ (itoaB k ++ dotB ++ itoaB v) dotB (by rw [ba_app, ba_app]; omega),
          _, add_run _ _ (itoaB k ++ dotB ++ itoaB v ++ dotB) s (by rw [ba_app, ba_app, ba_app]; omega), _, add_run _ _ (itoaB k ++ dotB ++ itoaB v ++ dotB ++ s) opnB (by rw [ba_app, ba_app, ba_app, ba_app]; omega), rfl, (hE1.trans hE2).trans hE3⟩
    rintro _ x w1 ⟨rfl, hE1⟩
    have hkl := Nd.len_sizes kids
    simp only [Nd.size] at hle hn
    refine ⟨fun x i w2 => ∃ j : Nat, i = j ∧ j ≤ kids.length ∧ saidsF x (kids.drop j) = saidsF (saidHd k v s) kids ∧ Ext w w2, fun _ i => ((kids.length : Int) - i).toNat, ⟨0, rfl, Nat.zero_le _, by simp, hE1⟩, ?_⟩
    rintro _ x i w2 ⟨j, rfl, hj, hg, hE2⟩
    refine ⟨fun hlt => ?_, fun hge => ?_⟩
    · have hjl : j < kids.length := by simpa using hlt
      rw [drop_cons hjl, saidsF] at hg
      refine hm.idx hjl fun ad ha => (hm.ext hE2).cell ha hjl fun A1 l1 c1 q1 id1 hid1 w3 hE3 _ => ?_
      have hE3 : Ext w2 w3 := hE3
      refine callT (ih (by omega) _ (by have := kid_size hjl; omega) (formsL_iff.1 hf.2 _ (List.getElem_mem hjl)) (inRL_iff.1 hr.2 _ (List.getElem_mem hjl)) ((ht.ext hE2).ext hE3) (q1.ext hE3)) fun w4 hE4 => ?_
      have hbound := saids_ge (kids.drop (j + 1)) (x ++ saidF kids[j])
      rw [hg, ba_app] at hbound
      refine ⟨_, add_run _ _ x (saidF kids[j]) (by omega), ⟨j + 1, w64_succ (by omega), hjl, hg, (hE2.trans hE3).trans hE4⟩, ?_⟩
      rw [w64_succ (by omega)]; exact mea_succ hjl
    · have hje : j = kids.length := by simp at hge; omega
      subst hje
      rw [List.drop_length, saidsF] at hg
      refine ⟨_, add_run _ _ x clsB (by rw [hg]; omega), by rw [hg], hE2⟩
end Go.Vx.Tryz
namespace Go.Vx
open Go Go.MapKept Go.WideMaps
section
structure EncK (P : Program) (kt : Nat) (K : Type) (enc : K → Value) (ok : K → Prop) : Prop where
  inj : ∀ a b, enc a = enc b → a = b
  key : ∀ k, ok k → ∃ l, keyOf P kt (enc k) = some l
  law : KeyLaw P kt
structure MapQ (P : Program) (t kt et : Nat) (zv : Value) (K : Type) (enc : K → Value) (ok : K → Prop) : Prop where
  ht : P.underlying t = some (.map kt et)
  hk : EncK P kt K enc ok
  hz : ∀ w, (zeroValue et).run P w = .ok zv w
section
variable {K : Type}
def entK (enc : K → Value) (p : K × Value × Nat) : MapEntry := ⟨enc p.1, p.2.1, p.2.2⟩
structure RowsK (ok : K → Prop) (ps : List (K × Value × Nat)) (clock : Nat) : Prop where
  ok : ∀ (i : Nat) (p : K × Value × Nat), ps[i]? = some p → ok p.1
  keys : ∀ (i j : Nat) (p q : K × Value × Nat), ps[i]? = some p → ps[j]? = some q → p.1 = q.1 → i = j
  born : ∀ (i j : Nat) (p q : K × Value × Nat), ps[i]? = some p → ps[j]? = some q → p.2.2 = q.2.2 → i = j
  old : ∀ (i : Nat) (p : K × Value × Nat), ps[i]? = some p → p.2.2 < clock
def MapK (enc : K → Value) (ok : K → Prop) (w : World) (r : Nat) (f : K → Option Value) : Prop :=
  ∃ (ps : List (K × Value × Nat)) (clock : Nat), w.heap[r]? = some (.map (ps.map (entK enc)).toArray clock) ∧ RowsK ok ps clock ∧ ∀ k v, f k = some v ↔ ∃ (i : Nat) (p : K × Value × Nat), ps[i]? = some p ∧ p.1 = k ∧ p.2.1 = v
def MapR (enc : K → Value) (ok : K → Prop) (w : World) (r : Nat) (f : K → Option Value) (k : K) (st : Nat) : Prop :=
  ∃ (ps : List (K × Value × Nat)) (clock j : Nat) (p : K × Value × Nat), w.heap[r]? = some (.map (ps.map (entK enc)).toArray clock) ∧ RowsK ok ps clock ∧ ps[j]? = some p ∧ p.1 = k ∧ p.2.2 = st ∧
    ∀ k', k' ≠ k → ∀ v, f k' = some v ↔ ∃ (i : Nat) (p : K × Value × Nat), ps[i]? = some p ∧ p.1 = k' ∧ p.2.1 = v
variable {enc : K → Value} {ok : K → Prop} {w w' : World} {r : Nat} {f : K → Option Value} {S : Nat → Prop} {k : K} {st : Nat}
theorem MapK.lt (h : MapK enc ok w r f) : r < w.heap.size := by
  obtain ⟨ps, c, h, _⟩ := h; exact lt_of_get h
theorem MapK.upd (h : MapK enc ok w r f) (u : Upd w w' S) (hs : ¬ S r) : MapK enc ok w' r f := by
  obtain ⟨ps, c, h1, h2⟩ := h
  exact ⟨ps, c, by rw [u.keep r (lt_of_get h1) hs]; exact h1, h2⟩
theorem MapK.ext (h : MapK enc ok w r f) (u : Ext w w') : MapK enc ok w' r f := h.upd u fun h => h
theorem MapK.nil (h : w.heap[r]? = some (.map #[] 0)) : MapK enc ok w r fun _ => none :=
  ⟨[], 0, h, ⟨fun i p h => by simp at h, fun i j p q h => by simp at h, fun i j p q h => by simp at h, fun i p h => by simp at h⟩, fun k v => by simp⟩
theorem MapR.upd (h : MapR enc ok w r f k st) (u : Upd w w' S) (hs : ¬ S r) : MapR enc ok w' r f k st := by
  obtain ⟨ps, c, j, p, h1, h2⟩ := h
  exact ⟨ps, c, j, p, by rw [u.keep r (lt_of_get h1) hs]; exact h1, h2⟩
theorem get_entK {ps : List (K × Value × Nat)} {j : Nat} : (ps.map (entK enc))[j]? = (ps[j]?).map (entK enc) := by simp
section
variable {P : Program} {t kt et : Nat} {zv : Value}
theorem run_get_mapK {es : Array MapEntry} {c : Nat} (h : w.heap[r]? = some (.map es c)) : (getObj r).run P w = .ok (.map es c) w := by
  simp [getObj, Sem.run, h]
theorem EncK.find (E : EncK P kt K enc ok) {ps : List (K × Value × Nat)} {c : Nat} (h : RowsK ok ps c) (hk : ok k) (w : World) :
    ((Instr.findKey kt (enc k) (ps.map (entK enc))).run P w = .ok none w ∧ ∀ (i : Nat) (p : K × Value × Nat), ps[i]? = some p → p.1 ≠ k) ∨
    ∃ (j : Nat) (p : K × Value × Nat), (Instr.findKey kt (enc k) (ps.map (entK enc))).run P w = .ok (some (j, p.2.1)) w ∧ ps[j]? = some p ∧ p.1 = k := by
  obtain ⟨l, hl⟩ := E.key k hk
  rcases E.law.find w hl (ps.map (entK enc)) (fun e he => by
    obtain ⟨p, hp, rfl⟩ := List.mem_map.1 he
    obtain ⟨i, hi, hpi⟩ := List.getElem_of_mem hp
    exact E.key _ (h.ok i p (by rw [List.getElem?_eq_getElem hi, hpi]))) with ⟨h1, h2⟩ | ⟨j, e, h1, h2, h3⟩
  · refine .inl ⟨h1, fun i p hp e => ?_⟩
    exact h2 (entK enc p) (List.mem_map_of_mem (List.mem_of_getElem? hp)) (by rw [entK, e])
  · rw [get_entK] at h2
    cases hp : ps[j]? with
    | none => rw [hp] at h2; cases h2
    | some p =>
      rw [hp] at h2
      simp only [Option.map_some, Option.some.injEq] at h2
      subst h2
      exact .inr ⟨j, p, h1, hp, E.inj _ _ h3⟩
theorem MapK.look (T : MapQ P t kt et zv K enc ok) (h : MapK enc ok w r f) (hk : ok k) :
    Sem.run P (Instr.lookup t (.map (some r)) (enc k) true) w = .ok (match f k with | some v => .tuple #[v, .bool true] | none => .tuple #[zv, .bool false]) w := by
  obtain ⟨ps, c, h1, h2, h3⟩ := h
  obtain ⟨l, hl⟩ := T.hk.key k hk
  have hz := T.hz w
  rcases T.hk.find h2 hk w with ⟨h4, h5⟩ | ⟨j, p, h4, h5, h6⟩
  · have e : f k = none := by
      cases e : f k with
      | none => rfl
      | some v =>
        obtain ⟨i, p, hp, hpk, _⟩ := (h3 k v).1 e
        exact (h5 i p hp hpk).elim
    rw [e]
    simp [Instr.lookup, Sem.run_bind, run_underlying T.ht, Result.andThen_ok, run_get_mapK h1, Sem.run_pure, T.hk.law.check w _ hl, List.toList_toArray, h4, hz]
  · rw [(h3 k p.2.1).2 ⟨j, p, h5, h6, rfl⟩]
    simp [Instr.lookup, Sem.run_bind, run_underlying T.ht, Result.andThen_ok, run_get_mapK h1, Sem.run_pure, T.hk.law.check w _ hl, List.toList_toArray, h4, hz]
theorem MapK.lookV (T : MapQ P t kt et zv K enc ok) (h : MapK enc ok w r f) (hk : ok k) :
    Sem.run P (Instr.lookup t (.map (some r)) (enc k) false) w = .ok ((f k).getD zv) w := by
  obtain ⟨ps, c, h1, h2, h3⟩ := h
  obtain ⟨l, hl⟩ := T.hk.key k hk
  have hz := T.hz w
  rcases T.hk.find h2 hk w with ⟨h4, h5⟩ | ⟨j, p, h4, h5, h6⟩
  · have e : f k = none := by
      cases e : f k with
      | none => rfl
      | some v =>
        obtain ⟨i, p, hp, hpk, _⟩ := (h3 k v).1 e
        exact (h5 i p hp hpk).elim
    rw [e]
    simp [Instr.lookup, Sem.run_bind, run_underlying T.ht, Result.andThen_ok, run_get_mapK h1, Sem.run_pure, T.hk.law.check w _ hl, List.toList_toArray, h4, hz]
  · rw [(h3 k p.2.1).2 ⟨j, p, h5, h6, rfl⟩]
    simp [Instr.lookup, Sem.run_bind, run_underlying T.ht, Result.andThen_ok, run_get_mapK h1, Sem.run_pure, T.hk.law.check w _ hl, List.toList_toArray, h4, hz]
theorem upd_setK {o o' : Obj} (_ : w.heap[r]? = some o) : Upd w { w with heap := w.heap.setIfInBounds r o' } (fun x => x = r) :=
  ⟨rfl, rfl, rfl, by simp, fun k hk hS => by simp [Array.getElem?_setIfInBounds_ne (fun e => hS e.symm)]⟩
theorem RowsK.push {ps : List (K × Value × Nat)} {c : Nat} (h : RowsK ok ps c) (hk : ok k) (hn : ∀ (i : Nat) (p : K × Value × Nat), ps[i]? = some p → p.1 ≠ k) (v : Value) : RowsK ok (ps ++ [(k, v, c)]) (c + 1) := by
  have at_ : ∀ (i : Nat) (p : K × Value × Nat), (ps ++ [(k, v, c)])[i]? = some p → ps[i]? = some p ∨ i = ps.length ∧ p = (k, v, c) := fun i p hp => by
    rcases Nat.lt_or_ge i ps.length with hi | hi
    · rw [List.getElem?_append_left hi] at hp; exact .inl hp
    · rw [List.getElem?_append_right hi] at hp
      cases e : i - ps.length with
      | zero => rw [e] at hp; simp at hp; exact .inr ⟨by omega, hp.symm⟩
      | succ m => rw [e] at hp; simp at hp
  refine ⟨fun i p hp => ?_, fun i j p q hp hq e => ?_, fun i j p q hp hq e => ?_, fun i p hp => ?_⟩
  · rcases at_ i p hp with hp | ⟨_, rfl⟩
    · exact h.ok i p hp
    · exact hk
  · rcases at_ i p hp with hp | ⟨hi, rfl⟩ <;> rcases at_ j q hq with hq | ⟨hj, rfl⟩
    · exact h.keys i j p q hp hq e
    · exact (hn i p hp e).elim
    · exact (hn j q hq e.symm).elim
    · omega
  · rcases at_ i p hp with hp | ⟨hi, rfl⟩ <;> rcases at_ j q hq with hq | ⟨hj, rfl⟩
    · exact h.born i j p q hp hq e
    · have := h.old i p hp; dsimp only at e; omega
    · have := h.old j q hq; dsimp only at e; omega
    · omega
  · rcases at_ i p hp with hp | ⟨_, rfl⟩
    · have := h.old i p hp; omega
    · exact Nat.lt_succ_self _
theorem modify_keyK {j : Nat} {ps : List (K × Value × Nat)} {p : K × Value × Nat} (hp : ps[j]? = some p) : ((ps.map (entK enc)).modify j fun e => { e with key := enc p.1 }) = ps.map (entK enc) := by
  apply List.ext_getElem?
  intro i
  rw [List.getElem?_modify, get_entK]
  by_cases e : j = i
  · subst e; rw [hp]; simp [entK]
  · simp [e]
theorem modify_valK {j : Nat} {ps : List (K × Value × Nat)} {v : Value} : ((ps.map (entK enc)).modify j fun e => { e with val := v }) = (ps.modify j fun p => (p.1, v, p.2.2)).map (entK enc) := by
  apply List.ext_getElem?
  intro i
  rw [List.getElem?_modify, get_entK, get_entK, List.getElem?_modify]
  cases ps[i]? with
  | none => rfl
  | some p => by_cases e : j = i <;> simp [e, entK]
theorem get_valK {j i : Nat} {ps : List (K × Value × Nat)} {v : Value} {q : K × Value × Nat} (h : (ps.modify j fun p => (p.1, v, p.2.2))[i]? = some q) : ∃ p, ps[i]? = some p ∧ q.1 = p.1 ∧ q.2.2 = p.2.2 ∧ q.2.1 = if j = i then v else p.2.1 := by
  rw [List.getElem?_modify] at h
  cases hp : ps[i]? with
  | none => rw [hp] at h; cases h
  | some p =>
    rw [hp] at h
    by_cases e : j = i
    · simp [e] at h; subst h; exact ⟨p, rfl, rfl, rfl, by simp [e]⟩
    · simp [e] at h; subst h; exact ⟨p, rfl, rfl, rfl, by simp [e]⟩
theorem RowsK.val {ps : List (K × Value × Nat)} {c : Nat} (h : RowsK ok ps c) (j : Nat) (v : Value) : RowsK ok (ps.modify j fun p => (p.1, v, p.2.2)) c := by
  refine ⟨fun i p hp => ?_, fun i j p q hp hq e => ?_, fun i j p q hp hq e => ?_, fun i p hp => ?_⟩
  · obtain ⟨p', h1, h2, h3, _⟩ := get_valK hp; rw [h2]; exact h.ok i p' h1
  · obtain ⟨p', h1, h2, h3, _⟩ := get_valK hp
    obtain ⟨q', g1, g2, g3, _⟩ := get_valK hq
    exact h.keys i j p' q' h1 g1 (by rw [← h2, ← g2]; exact e)
  · obtain ⟨p', h1, h2, h3, _⟩ := get_valK hp
    obtain ⟨q', g1, g2, g3, _⟩ := get_valK hq
    exact h.born i j p' q' h1 g1 (by rw [← h3, ← g3]; exact e)
  · obtain ⟨p', h1, h2, h3, _⟩ := get_valK hp; rw [h3]; exact h.old i p' h1
variable [DecidableEq K]
theorem push_iff {ps : List (K × Value × Nat)} {c : Nat} {v : Value} (h3 : ∀ k v, f k = some v ↔ ∃ (i : Nat) (p : K × Value × Nat), ps[i]? = some p ∧ p.1 = k ∧ p.2.1 = v) (h5 : ∀ (i : Nat) (p : K × Value × Nat), ps[i]? = some p → p.1 ≠ k) (k' : K) (v' : Value) :
    (if k' = k then some v else f k') = some v' ↔ ∃ (i : Nat) (p : K × Value × Nat), (ps ++ [(k, v, c)])[i]? = some p ∧ p.1 = k' ∧ p.2.1 = v' := by
  by_cases e : k' = k
  · rw [if_pos e]
    constructor
    · intro hv
      cases hv
      exact ⟨ps.length, (k, v, c), by simp, e.symm, rfl⟩
    · rintro ⟨i, q, hq, e1, e2⟩
      rcases Nat.lt_or_ge i ps.length with hi | hi
      · rw [List.getElem?_append_left hi] at hq; exact (h5 i q hq (by rw [e1, e])).elim
      · rw [List.getElem?_append_right hi] at hq
        cases e3 : i - ps.length with
        | zero => rw [e3] at hq; simp at hq; subst hq; rw [← e2]
        | succ m => rw [e3] at hq; simp at hq
  · rw [if_neg e, h3]
    constructor
    · rintro ⟨i, p, hp, e1, e2⟩
      exact ⟨i, p, by rw [List.getElem?_append_left (List.getElem?_eq_some_iff.1 hp).1]; exact hp, e1, e2⟩
    · rintro ⟨i, p, hp, e1, e2⟩
      rcases Nat.lt_or_ge i ps.length with hi | hi
      · rw [List.getElem?_append_left hi] at hp; exact ⟨i, p, hp, e1, e2⟩
      · rw [List.getElem?_append_right hi] at hp
        cases e3 : i - ps.length with
        | zero => rw [e3] at hp; simp at hp; subst hp; exact (e e1.symm).elim
        | succ m => rw [e3] at hp; simp at hp
theorem MapK.entry (T : MapQ P t kt et zv K enc ok) (h : MapK enc ok w r f) (hk : ok k) :
    RunsTo P (Instr.mapEntry t (.map (some r)) (enc k)) w (fun v w' => ∃ (u : Value) (st : Nat), v = .tuple #[u, .int .i64 st] ∧ (MapR enc ok w' r f k st ∧ MapK enc ok w' r fun k' => if k' = k then some ((f k).getD zv) else f k') ∧ Upd w w' (fun x => x = r) ∧ w'.heap.size = w.heap.size) := by
  obtain ⟨ps, c, h1, h2, h3⟩ := h
  have hlt := lt_of_get h1
  obtain ⟨l, hl⟩ := T.hk.key k hk
  have hset : ∀ o : Obj, (setObj r o).run P w = .ok () { w with heap := w.heap.setIfInBounds r o } := fun o => run_setObj_map o h1
  rcases T.hk.find h2 hk w with ⟨h4, h5⟩ | ⟨j, p, h4, h5, h6⟩
  · refine ⟨_, { w with heap := w.heap.setIfInBounds r (.map ((ps.map (entK enc)).toArray.push (entK enc (k, zv, c))) (c + 1)) }, ?_, zv, c, rfl, ⟨⟨ps ++ [(k, zv, c)], c + 1, ps.length, (k, zv, c), by simp [hlt], h2.push hk h5 zv, by simp, rfl, rfl, fun k' hk' v => ?_⟩, ⟨ps ++ [(k, zv, c)], c + 1, by simp [hlt], h2.push hk h5 zv, fun k' v' => ?_⟩⟩, upd_setK h1, by simp⟩
    · simp only [Instr.mapEntry, Sem.run_bind, run_underlying T.ht, Result.andThen_ok, run_get_mapK h1, T.hk.law.check w _ hl, List.toList_toArray, h4, T.hz]
      rw [show ({ key := enc k, val := zv, born := c } : MapEntry) = entK enc (k, zv, c) from rfl, hset]
      rfl
    · rw [h3]
      constructor
      · rintro ⟨i, p, hp, e1, e2⟩
        exact ⟨i, p, by rw [List.getElem?_append_left (List.getElem?_eq_some_iff.1 hp).1]; exact hp, e1, e2⟩
      · rintro ⟨i, p, hp, e1, e2⟩
        rcases Nat.lt_or_ge i ps.length with hi | hi
        · rw [List.getElem?_append_left hi] at hp; exact ⟨i, p, hp, e1, e2⟩
        · rw [List.getElem?_append_right hi] at hp
          cases e : i - ps.length with
          | zero => rw [e] at hp; simp at hp; subst hp; exact (hk' e1.symm).elim
          | succ m => rw [e] at hp; simp at hp
    · have fn : f k = none := by
        cases e : f k with
        | none => rfl
        | some v =>
          obtain ⟨i, p, hp, hpk, _⟩ := (h3 k v).1 e
          exact (h5 i p hp hpk).elim
      rw [fn]
      exact push_iff h3 h5 k' v'
  · refine ⟨_, { w with heap := w.heap.setIfInBounds r (.map (ps.map (entK enc)).toArray c) }, ?_, p.2.1, p.2.2, rfl, ⟨⟨ps, c, j, p, by simp [hlt], h2, h5, h6, rfl, fun k' _ v => h3 k' v⟩, ⟨ps, c, by simp [hlt], h2, fun k' v' => ?_⟩⟩, upd_setK h1, by simp⟩
    rotate_left
    · have fk := (h3 k p.2.1).2 ⟨j, p, h5, h6, rfl⟩
      rw [fk, ← h3]
      dsimp only
      by_cases e : k' = k
      · rw [if_pos e, e, fk]; rfl
      · rw [if_neg e]
    simp only [Instr.mapEntry, Sem.run_bind, run_underlying T.ht, Result.andThen_ok, run_get_mapK h1, T.hk.law.check w _ hl, List.toList_toArray, h4]
    have hge : (ps.map (entK enc)).toArray[j]? = some (entK enc p) := by
      rw [List.getElem?_toArray, get_entK, h5]; rfl
    rw [hge]
    have hen : (((some (entK enc p)).map (fun e : MapEntry => e.key)).getD (enc k)) = enc k := by rw [← h6]; rfl
    rw [hen, T.hk.law.stays w hl, Result.andThen_ok]
    have hmo : (ps.map (entK enc)).toArray.modify j (fun e => { e with key := enc k }) = (ps.map (entK enc)).toArray := by
      rw [List.modify_toArray, ← h6, modify_keyK h5]
    rw [hmo, hset]
    rfl
theorem MapR.store (h : MapR enc ok w r f k st) (v : Value) :
    RunsU P (Instr.entryStore t (.map (some r)) (.int .i64 st) v) w (fun w' => MapK enc ok w' r (fun k' => if k' = k then some v else f k') ∧ Upd w w' (fun x => x = r) ∧ w'.heap.size = w.heap.size) := by
  obtain ⟨ps, c, j, p, h1, h2, hp, rfl, rfl, h3⟩ := h
  have hlt := lt_of_get h1
  have hset : ∀ o : Obj, (setObj r o).run P w = .ok () { w with heap := w.heap.setIfInBounds r o } := fun o => run_setObj_map o h1
  refine ⟨{ w with heap := w.heap.setIfInBounds r (.map ((ps.modify j fun p => (p.1, v, p.2.2)).map (entK enc)).toArray c) }, ?_, ⟨ps.modify j fun p => (p.1, v, p.2.2), c, by simp [hlt], h2.val j v, fun k' v' => ?_⟩, upd_setK h1, by simp⟩
  · have hf : (ps.map (entK enc)).toArray.findIdx? (fun e => (e.born : Int) == (p.2.2 : Int)) = some j := by
      rw [List.findIdx?_toArray]
      obtain ⟨hl, he⟩ := List.getElem?_eq_some_iff.1 hp
      rw [List.findIdx?_eq_some_iff_getElem]
      refine ⟨by simpa using hl, by simp [entK, he], fun i hi => ?_⟩
      have hil : i < ps.length := by omega
      simp only [List.getElem_map, entK, beq_iff_eq, Int.natCast_inj]
      intro e
      have := h2.born i j ps[i] p (List.getElem?_eq_getElem hil) hp e
      omega
    simp only [Instr.entryStore, Sem.run_bind, run_get_mapK h1, Result.andThen_ok, asInt, asIntOf, Sem.run_pure, hf]
    rw [List.modify_toArray, modify_valK, hset]
  · dsimp only
    by_cases e : k' = p.1
    · rw [if_pos e]
      constructor
      · intro hv
        cases hv
        exact ⟨j, (p.1, v, p.2.2), by rw [List.getElem?_modify, hp]; simp, e.symm, rfl⟩
      · rintro ⟨i, q, hq, e1, e2⟩
        obtain ⟨q', g1, g2, g3, g4⟩ := get_valK hq
        have hij := h2.keys j i p q' hp g1 (by rw [← g2, e1, e])
        rw [if_pos hij] at g4
        rw [← e2, g4]
    · rw [if_neg e, h3 k' e]
      constructor
      · rintro ⟨i, q, hq, e1, e2⟩
        have hij : j ≠ i := fun hij => by subst hij; rw [hp] at hq; cases hq; exact e e1.symm
        exact ⟨i, q, by rw [List.getElem?_modify, hq]; simp [hij], e1, e2⟩
      · rintro ⟨i, q, hq, e1, e2⟩
        obtain ⟨q', g1, g2, g3, g4⟩ := get_valK hq
        have hij : j ≠ i := fun hij => by subst hij; rw [hp] at g1; cases g1; exact e (by rw [← e1, g2])
        rw [if_neg hij] at g4
        exact ⟨i, q', g1, by rw [← g2, e1], by rw [← g4, e2]⟩
theorem MapK.set (T : MapQ P t kt et zv K enc ok) (h : MapK enc ok w r f) (hk : ok k) (v : Value) :
    RunsU P (Instr.mapUpdate t (.map (some r)) (enc k) v) w (fun w' => MapK enc ok w' r (fun k' => if k' = k then some v else f k') ∧ Upd w w' (fun x => x = r) ∧ w'.heap.size = w.heap.size) := by
  obtain ⟨ps, c, h1, h2, h3⟩ := h
  have hlt := lt_of_get h1
  obtain ⟨l, hl⟩ := T.hk.key k hk
  have hset : ∀ o : Obj, (setObj r o).run P w = .ok () { w with heap := w.heap.setIfInBounds r o } := fun o => run_setObj_map o h1
  rcases T.hk.find h2 hk w with ⟨h4, h5⟩ | ⟨j, p, h4, h5, h6⟩
  · refine ⟨{ w with heap := w.heap.setIfInBounds r (.map ((ps.map (entK enc)).toArray.push (entK enc (k, v, c))) (c + 1)) }, ?_, ⟨ps ++ [(k, v, c)], c + 1, by simp [hlt], h2.push hk h5 v, fun k' v' => ?_⟩, upd_setK h1, by simp⟩
    · simp only [Instr.mapUpdate, Sem.run_bind, run_underlying T.ht, Result.andThen_ok, run_get_mapK h1, T.hk.law.check w _ hl, List.toList_toArray, h4]
      exact hset _
    · exact push_iff h3 h5 k' v'
  · refine ⟨{ w with heap := w.heap.setIfInBounds r (.map ((ps.modify j fun p => (p.1, v, p.2.2)).map (entK enc)).toArray c) }, ?_, ⟨ps.modify j fun p => (p.1, v, p.2.2), c, by simp [hlt], h2.val j v, fun k' v' => ?_⟩, upd_setK h1, by simp⟩
    · simp only [Instr.mapUpdate, Sem.run_bind, run_underlying T.ht, Result.andThen_ok, run_get_mapK h1, T.hk.law.check w _ hl, List.toList_toArray, h4]
      have hge : (ps.map (entK enc)).toArray[j]? = some (entK enc p) := by
        rw [List.getElem?_toArray, get_entK, h5]; rfl
      rw [hge]
      have hen : (((some (entK enc p)).map (fun e : MapEntry => e.key)).getD (enc k)) = enc k := by rw [← h6]; rfl
      rw [hen, T.hk.law.stays w hl, Result.andThen_ok]
      have hmo : (ps.map (entK enc)).toArray.modify j (fun e => { e with key := enc k, val := v }) = ((ps.modify j fun p => (p.1, v, p.2.2)).map (entK enc)).toArray := by
        rw [List.modify_toArray, ← modify_valK]
        congr 1
        apply List.ext_getElem?
        intro i
        rw [List.getElem?_modify, List.getElem?_modify, get_entK]
        by_cases e : j = i
        · subst e; rw [h5]; simp [entK, h6]
        · simp [e]
      rw [hmo, hset]
    · subst h6
      dsimp only
      by_cases e : k' = p.1
      · rw [if_pos e]
        constructor
        · intro hv
          cases hv
          exact ⟨j, (p.1, v, p.2.2), by rw [List.getElem?_modify, h5]; simp, e.symm, rfl⟩
        · rintro ⟨i, q, hq, e1, e2⟩
          obtain ⟨q', g1, g2, g3, g4⟩ := get_valK hq
          have hij := h2.keys j i p q' h5 g1 (by rw [← g2, e1, e])
          rw [if_pos hij] at g4
          rw [← e2, g4]
      · rw [if_neg e, h3]
        constructor
        · rintro ⟨i, q, hq, e1, e2⟩
          have hij : j ≠ i := fun hij => by subst hij; rw [h5] at hq; cases hq; exact e e1.symm
          exact ⟨i, q, by rw [List.getElem?_modify, hq]; simp [hij], e1, e2⟩
        · rintro ⟨i, q, hq, e1, e2⟩
          obtain ⟨q', g1, g2, g3, g4⟩ := get_valK hq
          have hij : j ≠ i := fun hij => by subst hij; rw [h5] at g1; cases g1; exact e (by rw [← e1, g2])
          rw [if_neg hij] at g4
          exact ⟨i, q', g1, by rw [← g2, e1], by rw [← g4, e2]⟩
end
end
end
section
open Go
structure Key where
  call : Int
  hangs : Int
  around : Int
  kids : ByteArray
 deriving DecidableEq
def encKey (k : Key) : Value := .agg #[.int .i64 k.call, .int .i64 k.hangs, .int .i64 k.around, .string k.kids]
def okKey (k : Key) : Prop := InI k.call ∧ InI k.hangs ∧ InI k.around ∧ k.kids.size ≤ maxLen
def keyN (a : Int) (n : Nd) : Key := ⟨n.n, hangs a n, if roundsN n then a else 0, saidsF (ByteArray.mk #[]) n.kids⟩
theorem wf_inI {a : Int} (h : InI a) : (Lit.int .i64 a).wf = true := by
  obtain ⟨h1, h2⟩ := h
  simp only [Lit.wf, Bool.and_eq_true, decide_eq_true_eq]
  exact ⟨h1, by have : IntKind.max .i64 = 2 ^ 63 - 1 := rfl; rw [this]; omega⟩
theorem key_some {P : Program} {kt ti ts : Nat} {fs : Array Field} {k : Key} (h : okKey k) (hu : P.underlying kt = some (.struct fs)) (hf : fs.toList.map (fun f => (f.type, f.offset)) = [(ti, 0), (ti, 1), (ti, 2), (ts, 3)]) (hn : fs.all (fun f => f.name != "_") = true)
    (hc : P.cellsOf kt = 4) (hi : P.cellsOf ti = 1) (hs : P.cellsOf ts = 1) (ui : P.underlying ti = some (.int .i64)) (us : P.underlying ts = some .string) (ht : P.keyType kt = true) {m : Nat} (hm : P.types.size = m + 1) : ∃ l, keyOf P kt (encKey k) = some l := by
  obtain ⟨h1, h2, h3, h4⟩ := h
  have hmap := congrArg (List.mapM (m := Option) fun (p : Nat × Nat) => P.keyLits (m + 1) p.1 (([.int .i64 k.call, .int .i64 k.hangs, .int .i64 k.around, .string k.kids].drop p.2).take (P.cellsOf p.1))) hf
  rw [List.mapM_map] at hmap
  unfold keyOf
  rw [hu]
  simp only [encKey, Value.formed, hu, ht, hc, Bool.true_and]
  rw [if_pos (by rfl), hm, Program.keyLits.eq_def]
  simp only [hu, Value.cells, hc, hn]
  rw [if_pos (by simp)]
  simp only [Function.comp_def] at hmap
  rw [hmap]
  simp [List.mapM_cons, Program.keyLits, ui, us, hi, hs, wf_inI h1, wf_inI h2, wf_inI h3, h4]
end
end Go.Vx
namespace Go.Vx.Tryz
open Go Go.Vx Go.Proofs
theorem key_law : WideMaps.KeyLaw E.P 72 := deep_law (m := 4) (by decide) (by kernel_rfl) (by kernel_rfl) (by kernel_rfl)
noncomputable def fs72 : Array Field := match E.P.underlying 72 with | some (.struct fs) => fs | _ => #[]
theorem und72 : E.P.underlying 72 = some (.struct fs72) := by kernel_rfl
theorem fs72_at : fs72.toList.map (fun f => (f.type, f.offset)) = [(3, 0), (3, 1), (3, 2), (9, 3)] := by kernel_rfl
theorem fs72_name : fs72.all (fun f => f.name != "_") = true := by kernel_rfl
theorem cells72 : E.P.cellsOf 72 = 4 := by kernel_rfl
theorem cells3 : E.P.cellsOf 3 = 1 := by kernel_rfl
theorem cells9 : E.P.cellsOf 9 = 1 := by kernel_rfl
theorem und3 : E.P.underlying 3 = some (.int .i64) := by kernel_rfl
theorem und9 : E.P.underlying 9 = some .string := by kernel_rfl
theorem keyTy72 : E.P.keyType 72 = true := by kernel_rfl
theorem size_types : ∃ m, E.P.types.size = m + 1 := ⟨E.P.types.size - 1, by
  have : (decide (1 ≤ E.P.types.size)) = true := by kernel_rfl
  have := of_decide_eq_true this
  omega⟩
theorem key_of {k : Key} (h : okKey k) : ∃ l, keyOf E.P 72 (encKey k) = some l := by
  obtain ⟨m, hm⟩ := size_types
  exact key_some h und72 fs72_at fs72_name cells72 cells3 cells9 und3 und9 keyTy72 hm
theorem mapQ : MapQ E.P 49 72 3 (.int .i64 0) Key encKey okKey where
  ht := by kernel_rfl
  hk := ⟨fun a b h => by
    obtain ⟨a1, a2, a3, a4⟩ := a
    obtain ⟨b1, b2, b3, b4⟩ := b
    simp [encKey] at h
    obtain ⟨rfl, rfl, rfl, rfl⟩ := h
    rfl, fun k h => key_of h, key_law⟩
  hz := fun w => Tryz.zeroValue3 w
end Go.Vx.Tryz
namespace Go.Vx
open Go
section
mutual
theorem hangs_in (a : Int) : ∀ (n : Nd), InI (hangs a n)
  | .mk k v s l => by
    rw [hangs]
    refine hangsL_in a l _ ?_
    split
    · split
      · exact w64_in _
      · exact ⟨by decide, by decide⟩
    · exact ⟨by decide, by decide⟩
theorem hangsL_in (a : Int) : ∀ (l : List Nd) (h : Int), InI h → InI (hangsL a h l)
  | [], h, hh => by rw [hangsL]; exact hh
  | x :: l, h, hh => by
    rw [hangsL]
    refine hangsL_in a l _ ?_
    split
    · exact hangs_in a x
    · exact hh
end
theorem okKey_of {n : Nd} {a : Int} (hN : n.size < 2 ^ 30) (hf : forms n = true) (hr : inR n = true) (ha : InI a) : okKey (keyN a n) := by
  refine ⟨inR_n hr, hangs_in a n, ?_, ?_⟩
  · show InI (if roundsN n then a else 0)
    split
    · exact ha
    · exact ⟨by decide, by decide⟩
  · show (saidsF (ByteArray.mk #[]) n.kids).size ≤ maxLen
    obtain ⟨k, v, s, l⟩ := n
    rw [forms, Bool.and_eq_true] at hf
    rw [inR, Bool.and_eq_true] at hr
    have := saids_le l (ByteArray.mk #[]) hf.2 hr.2
    have e : (ByteArray.mk #[]).size = 0 := rfl
    simp only [Nd.size] at hN
    have e2 : maxLen = 2 ^ 63 - 1 := rfl
    show (saidsF (ByteArray.mk #[]) l).size ≤ _
    omega
end
end Go.Vx
namespace Go.Vx.Tryz
open Go Go.Vx Go.Proofs
theorem key_c (n : Nd) (hN : n.size < 2 ^ 30) (hf : forms n = true) (hr : inR n = true) (a : Int) {w : World} {F : Nat → Prop} {A : Option Addr} {l c : Nat} (ht : Tab w) (hm : NdsR w F n.kids A l c) :
    CallsX E.P 33 #[ndA n A l c, .int .i64 a] w (IsV (encKey (keyN a n)) w) never := by
  have hm0 := hm
  obtain ⟨k, v, s, kids⟩ := n
  rw [forms, Bool.and_eq_true] at hf
  rw [inR, Bool.and_eq_true] at hr
  dsimp only [Nd.k, Nd.n, Nd.s, Nd.kids] at *
  obtain rfl := hm.len
  have hle := saids_le kids (ByteArray.mk #[]) hf.2 hr.2
  have e0 : (ByteArray.mk #[]).size = 0 := rfl
  have hkl := Nd.len_sizes kids
  simp only [Nd.size] at hN
  refine vcD33 ?_
  intro id hid id1 hid1 w1 hE1 hi0 hi1
  have hE1 : Ext w w1 := hE1
  refine ⟨fun x i w2 => ∃ j : Nat, i = j ∧ j ≤ kids.length ∧ saidsF x (kids.drop j) = saidsF (ByteArray.mk #[]) kids ∧ Ext w w2, fun _ i => ((kids.length : Int) - i).toNat, ⟨0, rfl, Nat.zero_le _, by simp, hE1⟩, ?_⟩
  rintro _ x i w2 ⟨j, rfl, hj, hg, hE2⟩
  refine ⟨fun hlt => ?_, fun hge => ?_⟩
  · have hjl : j < kids.length := by simpa using hlt
    rw [drop_cons hjl, saidsF] at hg
    refine hm.idx hjl fun ad ha => (hm.ext hE2).cell ha hjl fun A1 l1 c1 q1 id1 hid1 w3 hE3 _ => ?_
    have hE3 : Ext w2 w3 := hE3
    refine callT (said_c (2 ^ 30 - 1) (by omega) _ (by have := kid_size hjl; omega) (formsL_iff.1 hf.2 _ (List.getElem_mem hjl)) (inRL_iff.1 hr.2 _ (List.getElem_mem hjl)) ((ht.ext hE2).ext hE3) (q1.ext hE3)) fun w4 hE4 => ?_
    have hbound := saids_ge (kids.drop (j + 1)) (x ++ saidF kids[j])
    rw [hg, ba_app] at hbound
    refine ⟨_, add_run _ _ x (saidF kids[j]) (by omega), ⟨j + 1, w64_succ (by omega), hjl, hg, (hE2.trans hE3).trans hE4⟩, ?_⟩
    rw [w64_succ (by omega)]; exact mea_succ hjl
  · have hje : j = kids.length := by simp at hge; omega
    subst hje
    rw [List.drop_length, saidsF] at hg
    refine callI (shhangs_c _ (.mk k v s kids) (Nat.le_refl _) a (hm0.ext hE2)) fun w3 hE3 => ?_
    refine callB (shrounds_c _ (.mk k v s kids) (Nat.le_refl _) ((hm0.ext hE2).ext hE3)) fun w4 hE4 => ⟨fun hx w5 hU5 => ⟨?_, fl ((hE2.trans hE3).trans hE4) hU5 hid1⟩, fun hx w5 hU5 => ⟨?_, fl ((hE2.trans hE3).trans hE4) hU5 hid1⟩⟩
    · have hx' : roundsN (.mk k v s kids) = false := by simpa using hx
      unfold keyN encKey
      rw [hx', hg]; rfl
    · have hx' : roundsN (.mk k v s kids) = true := by simpa using hx
      unfold keyN encKey
      rw [hx', hg]; rfl
end Go.Vx.Tryz
namespace Go.Vx
open Go
section
def CelR (w : World) (lo : Nat) (cs : List Int) (A : Option Addr) (l c : Nat) : Prop := w.ownsRow lo 3 1 (.slice A l c) l (cs.map fun z => .int .i64 z)
theorem CelR.len {w : World} {lo : Nat} {cs : List Int} {A : Option Addr} {l c : Nat} (h : CelR w lo cs A l c) : l = cs.length := by have := h.1; simp at this; omega
theorem CelR.upd {w w' : World} {lo : Nat} {cs : List Int} {A : Option Addr} {l c : Nat} {S : Nat → Prop} (h : CelR w lo cs A l c) (k : Upd w w' S) (hs : ∀ b, blkOf A b → ¬ S b) : CelR w' lo cs A l c := owns_upd' h k hs
theorem CelR.blk {w : World} {lo : Nat} {cs : List Int} {A : Option Addr} {l c : Nat} (h : CelR w lo cs A l c) {b : Nat} (hb : blkOf A b) : lo ≤ b ∧ b < w.heap.size := owns_blk h hb
theorem ints_flat : ∀ (cs : List Int), (cs.map fun z => ([.int .i64 z] : List Value)).flatten = cs.map fun z => .int .i64 z
  | [] => rfl
  | z :: cs => by rw [List.map_cons, List.flatten_cons, ints_flat cs]; rfl
theorem rowsInts {cs : List Int} {rows : List (List Value)} (h4 : rows.length = cs.length) (h5 : ∀ (i : Nat) (x : Int), cs[i]? = some x → rows.getD i [] = [.int .i64 x]) : rows = cs.map fun z => [.int .i64 z] := by
  apply List.ext_getElem?
  intro i
  rw [List.getElem?_map]
  cases hi : cs[i]? with
  | none =>
    have : cs.length ≤ i := by simpa using hi
    simp [this, h4]
  | some x =>
    have h := h5 i x hi
    have hl : i < rows.length := by rw [h4]; exact (List.getElem?_eq_some_iff.1 hi).1
    rw [List.getD_eq_getElem?_getD, List.getElem?_eq_getElem hl, Option.getD_some] at h
    rw [List.getElem?_eq_getElem hl, h]; rfl
theorem celR_of {w : World} {lo top : Nat} {cs : List Int} {A : Option Addr} {l c : Nat} (h : IntsB w lo top no no cs A l c) : CelR w lo cs A l c := by
  obtain ⟨rows, Fs, h1, h2, h3, h4, h5, _⟩ := h
  have := rowsInts h4 (fun i x hx => (h5 i x hx))
  rw [this, ints_flat] at h1
  exact h1
theorem CelR.ints {w : World} {lo : Nat} {cs : List Int} {A : Option Addr} {l c : Nat} (h : CelR w lo cs A l c) (hlo : lo ≤ w.heap.size) : IntsB w lo w.heap.size no no cs A l c := by
  refine ⟨cs.map fun z => [.int .i64 z], fun _ => no, ?_, fun r hr => ?_, by rw [h.len]; simp, by simp, fun i x hx => ?_, fun _ _ _ h => h.elim, fun _ _ _ _ _ _ h => h.elim, fun _ h => h.elim, hlo, Nat.le_refl _, fun b hb => ⟨(h.blk hb).1, (h.blk hb).2, fun h => h⟩⟩
  · rw [ints_flat]; exact h
  · obtain ⟨z, _, rfl⟩ := List.mem_map.1 hr; rfl
  · show _ = [Value.int .i64 x]
    rw [List.getD_eq_getElem?_getD, List.getElem?_map, hx]; rfl
def MapI (w : World) (r : Nat) (g : Key → Option Int) : Prop := MapK encKey okKey w r fun k => (g k).map fun z => .int .i64 z
def setK (g : Key → Option Int) (k : Key) (v : Int) : Key → Option Int := fun k' => if k' = k then some v else g k'
theorem setK_map (g : Key → Option Int) (k : Key) (v : Int) : (fun k' => (setK g k v k').map fun z => Value.int .i64 z) = fun k' => if k' = k then some (.int .i64 v) else (g k').map fun z => .int .i64 z := by
  funext k'
  unfold setK
  split <;> rfl
theorem MapI.upd {w w' : World} {r : Nat} {g : Key → Option Int} {S : Nat → Prop} (h : MapI w r g) (u : Upd w w' S) (hs : ¬ S r) : MapI w' r g := MapK.upd h u hs
theorem MapI.ext {w w' : World} {r : Nat} {g : Key → Option Int} (h : MapI w r g) (u : Ext w w') : MapI w' r g := MapK.ext h u
theorem MapI.lt {w : World} {r : Nat} {g : Key → Option Int} (h : MapI w r g) : r < w.heap.size := MapK.lt h
structure Shr (w : World) (b r0 r1 lo : Nat) (st hv : Key → Option Int) (cs : List Int) (A : Option Addr) (l c : Nat) : Prop where
  hb : w.heap[b]? = some (.cells #[.map (some r0), .map (some r1), .slice A l c] 52 (0, 0))
  m0 : MapI w r0 st
  m1 : MapI w r1 hv
  row : CelR w lo cs A l c
  ne : r0 ≠ r1
  lob : lo ≤ b ∧ lo ≤ r0 ∧ lo ≤ r1
def ShF (b r0 r1 : Nat) (A : Option Addr) : Nat → Prop := fun x => x = b ∨ x = r0 ∨ x = r1 ∨ blkOf A x
section
variable {w w' : World} {b r0 r1 lo : Nat} {st hv : Key → Option Int} {cs : List Int} {A A' : Option Addr} {l c : Nat} {S : Nat → Prop}
theorem Shr.upd (h : Shr w b r0 r1 lo st hv cs A l c) (u : Upd w w' S) (hs : ∀ x, ShF b r0 r1 A x → ¬ S x) : Shr w' b r0 r1 lo st hv cs A l c :=
  ⟨by rw [u.keep b (lt_of_get h.hb) (hs b (.inl rfl))]; exact h.hb, h.m0.upd u (hs r0 (.inr (.inl rfl))), h.m1.upd u (hs r1 (.inr (.inr (.inl rfl)))), h.row.upd u (fun x hx => hs x (.inr (.inr (.inr hx)))), h.ne, h.lob⟩
theorem Shr.ext (h : Shr w b r0 r1 lo st hv cs A l c) (u : Ext w w') : Shr w' b r0 r1 lo st hv cs A l c := h.upd u fun _ _ h => h
theorem Shr.blk (h : Shr w b r0 r1 lo st hv cs A l c) {x : Nat} (hx : ShF b r0 r1 A x) : lo ≤ x ∧ x < w.heap.size := by
  obtain ⟨h1, h2, h3⟩ := h.lob
  rcases hx with rfl | rfl | rfl | hx
  · exact ⟨h1, lt_of_get h.hb⟩
  · exact ⟨h2, h.m0.lt⟩
  · exact ⟨h3, h.m1.lt⟩
  · exact h.row.blk hx
theorem Shr.apart (h : Shr w b r0 r1 lo st hv cs A l c) : ¬ blkOf A b ∧ ¬ blkOf A r0 ∧ ¬ blkOf A r1 ∧ b ≠ r0 ∧ b ≠ r1 := by
  have hrow := h.row
  obtain ⟨ps, k, hm, _⟩ := h.m0
  obtain ⟨qs, k2, hm2, _⟩ := h.m1
  have hb := h.hb
  have hA : ∀ x, blkOf A x → ∃ cur, w.heap[x]? = some (.cells cur 3 (0, 0)) := fun x hx => by
    rcases hrow.2 with ⟨h2, _⟩ | ⟨g, cap, cur, h2, hg, hh, _⟩
    · cases h2; exact hx.elim
    · cases h2; cases hx; exact ⟨cur, hh⟩
  refine ⟨fun hx => ?_, fun hx => ?_, fun hx => ?_, fun e => ?_, fun e => ?_⟩
  · obtain ⟨cur, h1⟩ := hA b hx
    rw [hb] at h1
    simp at h1
  · obtain ⟨cur, h1⟩ := hA r0 hx
    rw [hm] at h1
    simp at h1
  · obtain ⟨cur, h1⟩ := hA r1 hx
    rw [hm2] at h1
    simp at h1
  · rw [e, hm] at hb; simp at hb
  · rw [e, hm2] at hb; simp at hb
theorem Upd.mono' {w w' : World} {S T : Nat → Prop} (h : Upd w w' S) (k : ∀ x, S x → T x) : Upd w w' T := ⟨h.os, h.tape, h.output, h.size, fun x hx hT => h.keep x hx fun hS => hT (k x hS)⟩
structure ShS (w w' : World) (b r0 r1 : Nat) (A A' : Option Addr) : Prop where
  u : Upd w w' (ShF b r0 r1 A)
  a : ∀ x, blkOf A' x → blkOf A x ∨ w.heap.size ≤ x
theorem ShS.of_ext (h : Ext w w') : ShS w w' b r0 r1 A A := ⟨Upd.trans'' h, fun _ h => .inl h⟩
theorem ShS.trans {w2 : World} {A2 : Option Addr} (h : ShS w w' b r0 r1 A A') (k : ShS w' w2 b r0 r1 A' A2) : ShS w w2 b r0 r1 A A2 := by
  refine ⟨⟨k.u.os.trans h.u.os, k.u.tape.trans h.u.tape, k.u.output.trans h.u.output, Nat.le_trans h.u.size k.u.size, fun x hx hS => ?_⟩, fun x hx => ?_⟩
  · rw [k.u.keep x (Nat.lt_of_lt_of_le hx h.u.size) (fun hk => hS ?_), h.u.keep x hx hS]
    rcases hk with h1 | h1 | h1 | h1
    · exact .inl h1
    · exact .inr (.inl h1)
    · exact .inr (.inr (.inl h1))
    · rcases h.a x h1 with h2 | h2
      · exact .inr (.inr (.inr h2))
      · omega
  · rcases k.a x hx with h1 | h1
    · exact h.a x h1
    · have := h.u.size; exact .inr (by omega)
theorem ShS.ext {w2 : World} (h : ShS w w' b r0 r1 A A') (k : Ext w' w2) : ShS w w2 b r0 r1 A A' := h.trans (ShS.of_ext k)
end
def cellF (st hv : Key → Option Int) (cs : List Int) (k : Key) : (Int × Bool) × (Key → Option Int) × List Int :=
  match hv k with
  | some c => ((c, true), hv, cs)
  | none => if (st k).getD 0 > 1 then if (cs.length : Int) < 256 then (((cs.length : Int), true), setK hv k cs.length, cs ++ [k.hangs]) else ((0, false), hv, cs) else ((0, false), hv, cs)
end
end Go.Vx
namespace Go.Vx.Tryz
open Go Go.Vx Go.Proofs
section
variable {w : World} {r : Nat} {g : Key → Option Int} {k : Key}
theorem mapI_look (h : MapI w r g) (hk : okKey k) : Sem.run E.P (Instr.lookup 49 (.map (some r)) (encKey k) true) w = .ok (.tuple #[.int .i64 ((g k).getD 0), .bool (g k).isSome]) w := by
  rw [MapK.look mapQ h hk]
  cases g k <;> rfl
theorem mapI_lookV (h : MapI w r g) (hk : okKey k) : Sem.run E.P (Instr.lookup 49 (.map (some r)) (encKey k) false) w = .ok (.int .i64 ((g k).getD 0)) w := by
  rw [MapK.lookV mapQ h hk]
  cases g k <;> rfl
theorem mapI_set (h : MapI w r g) (hk : okKey k) (v : Int) : RunsU E.P (Instr.mapUpdate 49 (.map (some r)) (encKey k) (.int .i64 v)) w (fun w' => MapI w' r (setK g k v) ∧ Upd w w' (fun x => x = r) ∧ w'.heap.size = w.heap.size) := by
  obtain ⟨w', hr, h1, h2⟩ := MapK.set mapQ h hk (.int .i64 v)
  exact ⟨w', hr, by unfold MapI; rw [setK_map]; exact h1, h2⟩
theorem mapI_bump (h : MapI w r g) (hk : okKey k) : ∃ x w', (Instr.mapEntry 49 (.map (some r)) (encKey k)).run E.P w = .ok x w' ∧ ∃ (u : Value) (st : Nat), x = .tuple #[u, .int .i64 st] ∧ (Upd w w' (fun x => x = r) ∧ w'.heap.size = w.heap.size) ∧
    MapR encKey okKey w' r (fun k => (g k).map fun z => .int .i64 z) k st ∧ MapI w' r (setK g k ((g k).getD 0)) := by
  obtain ⟨x, w', hr, u, st, h1, ⟨h2, h5⟩, h3, h4⟩ := MapK.entry mapQ h hk
  refine ⟨x, w', hr, u, st, h1, ⟨h3, h4⟩, h2, ?_⟩
  unfold MapI
  rw [setK_map]
  have e : ((g k).map fun z => Value.int .i64 z).getD (.int .i64 0) = .int .i64 ((g k).getD 0) := by cases g k <;> rfl
  rw [e] at h5
  exact h5
end
theorem cell_c {k : Key} (hk : okKey k) {w : World} {b r0 r1 lo : Nat} {st hv : Key → Option Int} {cs : List Int} {A : Option Addr} {l c : Nat} (h : Shr w b r0 r1 lo st hv cs A l c) (hlo : lo ≤ w.heap.size) :
    CallsX E.P 36 #[.pointer (some ⟨b, 0, none⟩), encKey k] w (fun v w' => ∃ A' l' c', v = .tuple #[.int .i64 (cellF st hv cs k).1.1, .bool (cellF st hv cs k).1.2] ∧ Shr w' b r0 r1 lo st (cellF st hv cs k).2.1 (cellF st hv cs k).2.2 A' l' c' ∧ ShS w w' b r0 r1 A A') never := by
  refine vcD36 h.hb ?_
  intro id hid w1 hE1 hi0
  have hE1 : Ext w w1 := hE1
  have hl := h.row.len
  refine ⟨_, _, mapI_look (h.ext hE1).m1 hk, fun hx w2 hE2 => ?_, fun hx w2 hE2 hb2 => ?_⟩
  · have hE2 : Ext w1 w2 := hE2
    have hE02 := hE1.trans hE2
    have hn : hv k = none := by cases e : hv k with | none => rfl | some z => rw [e] at hx; cases hx
    have h2 := h.ext hE02
    refine ⟨_, mapI_lookV h2.m0 hk, fun h1 => ⟨fun h256 w3 hE3 => ?_, fun h256 hb2 => ?_⟩, fun h1 hb2 => ?_⟩
    · have hE3 : Ext w2 w3 := hE3
      have hE03 := hE02.trans hE3
      have h3 := h.ext hE03
      have e : cellF st hv cs k = (((cs.length : Int), true), setK hv k cs.length, cs ++ [k.hangs]) := by
        unfold cellF
        rw [hn]
        simp only [decide_eq_true_eq] at h1 h256
        rw [hl] at h256
        simp only [if_pos h1, if_pos h256]
      rw [e]
      dsimp only
      obtain ⟨w4, hr4, hm4, hU4, hs4⟩ := mapI_set h3.m1 hk (l : Int)
      obtain ⟨ap1, ap2, ap3, ap4, ap5⟩ := h3.apart
      have hs3 := hE03.size
      refine ⟨fun w' => w' = w4, ⟨w4, hr4, rfl⟩, ?_⟩
      rintro w4 rfl
      refine ⟨_, hU4, away_of fun i hi hS => ?_, fun id1 hid1 w5 hE5 hi5 hc5 => ?_⟩
      · simp only [List.mem_cons, List.not_mem_nil, or_false] at hi
        rcases hi with rfl | rfl
        · exact ap5 hS
        · have := h.m1.lt; have := lt_of_get h.hb; omega
      have hE5 : Ext w4 w5 := hE5
      have hs5 := hE5.size
      have row5 : CelR w5 lo cs A l c := (h3.row.upd hU4 fun x hx hS => ap3 (by have hS : x = r1 := hS; rw [← hS]; exact hx)).upd hE5 fun _ _ h => h
      have hlen : l < 256 := by have := of_decide_eq_true h256; omega
      obtain ⟨v6, w6, hr6, A', c', hv6, ho6, hU6, hA6⟩ := append_row (ty := 25) (m := 1) (c2 := 1) sl25 row5 (news := [.int .i64 k.hangs]) rfl (cells_new hc5) (fun u hu => by cases List.mem_singleton.1 hu; rfl) (by omega) (by omega)
      refine ⟨fun v w' => v = v6 ∧ w' = w6, ⟨v6, w6, hr6, rfl, rfl⟩, ?_⟩
      rintro v6 w6 ⟨rfl, rfl⟩
      refine ⟨A', l + 1, c', hv6, _, hU6, away_of fun i hi hS => ?_, fun w7 hU7 hb7 hc7 => ⟨A', l + 1, c', ?_, ?_, ?_⟩⟩
      · simp only [List.mem_cons, List.not_mem_nil, or_false] at hi
        have := (h.row.blk hS).2
        rcases hi with rfl | rfl | rfl
        · exact ap1 hS
        · omega
        · omega
      · rw [hl]
      · have hs6 := hU6.size
        have hb3 := lt_of_get h3.hb
        have hr03 := h3.m0.lt
        have hr13 := h3.m1.lt
        have nA' : ∀ x, x < w5.heap.size → ¬ blkOf A x → ¬ blkOf A' x := fun x hx hn hA => by
          rcases hA6 x hA with h | h
          · exact hn h
          · omega
        refine ⟨hb7, ?_, ?_, ?_, h.ne, h.lob⟩
        · refine ((((h3.m0.upd hU4 h.ne).ext hE5).upd hU6 ap2)).upd hU7 fun hS => ?_
          simp only [setOf, no, or_false] at hS; exact ap4 hS.symm
        · rw [← hl]
          refine (((hm4.ext hE5).upd hU6 ap3)).upd hU7 fun hS => ?_
          simp only [setOf, no, or_false] at hS; exact ap5 hS.symm
        · have row6 : CelR w6 lo (cs ++ [k.hangs]) A' (l + 1) c' := by unfold CelR; rw [List.map_append]; exact ho6
          refine row6.upd hU7 fun x hx hS => ?_
          simp only [setOf, no, or_false] at hS
          subst hS
          rcases hA6 _ hx with hx | hx
          · exact ap1 hx
          · omega
      · have u37 : ShS w3 w7 b r0 r1 A A' := by
          have s4 : ShS w3 w5 b r0 r1 A A := (⟨Upd.mono' hU4 fun x hx => .inr (.inr (.inl hx)), fun _ h => .inl h⟩ : ShS w3 w4 b r0 r1 A A).ext hE5
          have s6 : ShS w5 w6 b r0 r1 A A' := ⟨Upd.mono' hU6 fun x hx => .inr (.inr (.inr hx)), fun x hx => (hA6 x hx).imp (fun h => h) fun h => by omega⟩
          have s7 : ShS w6 w7 b r0 r1 A' A' := ⟨Upd.mono' hU7 fun x hx => .inl (by simp only [setOf, no, or_false] at hx; exact hx), fun _ h => .inl h⟩
          exact (s4.trans s6).trans s7
        exact (ShS.of_ext hE03).trans u37
    · have e : cellF st hv cs k = ((0, false), hv, cs) := by
        unfold cellF
        rw [hn]
        simp only [decide_eq_true_eq] at h1
        simp only [decide_eq_false_iff_not] at h256
        rw [hl] at h256
        simp only [if_pos h1, if_neg h256]
      rw [e]
      exact ⟨A, l, c, by rw [hn]; rfl, h2, ShS.of_ext hE02⟩
    · have e : cellF st hv cs k = ((0, false), hv, cs) := by
        unfold cellF
        rw [hn]
        simp only [decide_eq_false_iff_not] at h1
        simp only [if_neg h1]
      rw [e]
      exact ⟨A, l, c, by rw [hn]; rfl, h2, ShS.of_ext hE02⟩
  · have hE2 : Ext w1 w2 := hE2
    cases e : hv k with
    | none => rw [e] at hx; cases hx
    | some z =>
      have e2 : cellF st hv cs k = ((z, true), hv, cs) := by unfold cellF; rw [e]
      rw [e2]
      exact ⟨A, l, c, rfl, h.ext (hE1.trans hE2), ShS.of_ext (hE1.trans hE2)⟩
end Go.Vx.Tryz
namespace Go.Vx
open Go
section
def bumpK (st : Key → Option Int) (k : Key) : Key → Option Int := setK st k (w64 ((st k).getD 0 + 1))
mutual
def countsN : Nd → Int → (Key → Option Int) → Key → Option Int
  | .mk k v s l, a, st => if k == 26 then st else countsL k a 0 l (if k == 20 then bumpK st (keyN a (.mk k v s l)) else st)
def countsL (k a : Int) : Int → List Nd → (Key → Option Int) → Key → Option Int
  | _, [], st => st
  | i, x :: l, st => countsL k a (w64 (i + 1)) l (countsN x (innerI k i a) st)
end
theorem inner_in {k i a : Int} (h : InI a) : InI (innerI k i a) := by
  unfold innerI
  split
  · split
    · exact w64_in _
    · exact h
  · exact h
end
end Go.Vx
namespace Go.Vx.Tryz
open Go Go.Vx Go.Proofs
theorem counts_c (N : Nat) (hN : N < 2 ^ 30) : ∀ (n : Nd), n.size ≤ N → forms n = true → inR n = true → ∀ (a : Int), InI a → ∀ {w : World} {F : Nat → Prop} {B : Option Addr} {bl bc : Nat} {b r0 r1 lo : Nat} {st hv : Key → Option Int} {cs : List Int} {A : Option Addr} {l c : Nat},
    Shr w b r0 r1 lo st hv cs A l c → 0 < lo → Tab w → NdsR w F n.kids B bl bc → (∀ x, F x → x < lo) →
    CallsX E.P 19 #[.pointer (some ⟨b, 0, none⟩), ndA n B bl bc, .int .i64 a] w (fun v w' => v = .tuple #[] ∧ Shr w' b r0 r1 lo (countsN n a st) hv cs A l c ∧ Upd w w' (fun x => x = r0)) never := by
  induction N with
  | zero => intro n hn; cases n; simp [Nd.size] at hn
  | succ N ih =>
    intro n hn hf hr a ha w F B bl bc b r0 r1 lo st hv cs A l c h hlo ht hm hF
    have hf0 := hf
    have hr0 := hr
    have hm0 := hm
    obtain ⟨ap1, ap2, ap3, ap4, ap5⟩ := h.apart
    obtain ⟨lob, lor0, lor1⟩ := h.lob
    have hbs := lt_of_get h.hb
    have hr0s := h.m0.lt
    obtain ⟨k, v, s, kids⟩ := n
    rw [forms, Bool.and_eq_true] at hf
    rw [inR, Bool.and_eq_true] at hr
    dsimp only [ndA, Nd.k, Nd.n, Nd.s, Nd.kids] at *
    obtain rfl := hm.len
    have hkl := Nd.len_sizes kids
    have hn2 := hn
    simp only [Nd.size] at hn2
    refine vcD19 h.hb ?_
    intro id hid
    refine ⟨fun h26 w1 hE1 hi0 hb1 => ?_, fun h26 => ?_⟩
    · have hE1 : Ext w w1 := hE1
      rw [countsN, if_pos h26]
      exact ⟨rfl, h.ext hE1, Upd.trans'' hE1⟩
    have h26' : ¬ (k == 26) = true := by rw [h26]; exact Bool.false_ne_true
    refine ⟨fun w1 => Shr w1 b r0 r1 lo (if k == 20 then bumpK st (keyN a (.mk k v s kids)) else st) hv cs A l c ∧ Upd w w1 (fun x => x = r0), ⟨fun h20 w1 hE1 hi0 => ?_, fun h20 w1 hE1 hi0 => ⟨?_, Upd.trans'' hE1⟩⟩, ?_⟩
    · have hE1 : Ext w w1 := hE1
      have hok := okKey_of (n := .mk k v s kids) (by omega) hf0 hr0 ha
      have hs1 := hE1.size
      rw [if_pos h20]
      refine ⟨_, _, key_c (.mk k v s kids) (by omega) hf0 hr0 a (ht.ext hE1) (hm0.ext hE1), ?_, never_any⟩
      rintro _ w2 ⟨rfl, hE2⟩
      generalize keyN a (.mk k v s kids) = key at hok
      have h2 := h.ext (hE1.trans hE2)
      have aw : Away [b, id] (fun x => x = r0) := away_of fun i hi hS => by
        simp only [List.mem_cons, List.not_mem_nil, or_false] at hi
        rcases hi with rfl | rfl
        · exact ap4 hS
        · omega
      have fin : ∀ {w3 w4 : World} {k1 : Int}, Upd w2 w3 (fun x => x = r0) → MapI w4 r0 (setK st key (w64 ((st key).getD 0 + 1))) → Upd w3 w4 (fun x => x = r0) →
          Shr w4 b r0 r1 lo (bumpK st key) hv cs A l c ∧ Upd w w4 (fun x => x = r0) := fun {w3 w4 k1} hU3 hM hU4 => by
        have hU34 : Upd w2 w4 (fun x => x = r0) := hU3.trans' hU4 fun x hx => hx
        refine ⟨⟨?_, hM, h2.m1.upd hU34 (fun e => h.ne e.symm), h2.row.upd hU34 (fun x hx e => ap2 (by rw [← show x = r0 from e]; exact hx)), h.ne, h.lob⟩, (Upd.trans'' (hE1.trans hE2)).trans' hU34 fun x hx => hx⟩
        rw [hU34.keep b (lt_of_get h2.hb) ap4]; exact h2.hb
      refine ⟨_, _, _, _, rfl, no, hE2, Away.no _, ⟨_, mapI_lookV h2.m0 hok, ?_⟩, ?_⟩
      · obtain ⟨x3, w3, hr3, u, s3, hx3, ⟨hU3, hs3⟩, hM3, hZ3⟩ := mapI_bump h2.m0 hok
        refine ⟨fun x w' => x = x3 ∧ w' = w3, ⟨x3, w3, hr3, rfl, rfl⟩, ?_⟩
        rintro x3 w3 ⟨rfl, rfl⟩
        refine ⟨u, s3, hx3, _, hU3, aw, ?_⟩
        obtain ⟨w4, hr4, hM4, hU4, hs4⟩ := MapR.store (P := E.P) (t := 49) hM3 (.int .i64 (w64 ((st key).getD 0 + 1)))
        refine ⟨fun w' => w' = w4, ⟨w4, hr4, rfl⟩, ?_⟩
        rintro w4 rfl
        exact ⟨_, hU4, aw, fin (k1 := 0) hU3 (by unfold MapI; rw [setK_map]; exact hM4) hU4⟩
      · obtain ⟨x3, w3, hr3, u, s3, hx3, ⟨hU3, hs3⟩, hM3, hZ3⟩ := mapI_bump h2.m0 hok
        refine ⟨fun x w' => x = x3 ∧ w' = w3, ⟨x3, w3, hr3, rfl, rfl⟩, ?_⟩
        rintro x3 w3 ⟨rfl, rfl⟩
        refine ⟨u, s3, hx3, _, hU3, aw, _, mapI_lookV hZ3 hok, ?_⟩
        have e : (setK st key ((st key).getD 0) key).getD 0 = (st key).getD 0 := by unfold setK; rw [if_pos rfl]; rfl
        rw [e]
        obtain ⟨w4, hr4, hM4, hU4, hs4⟩ := MapR.store (P := E.P) (t := 49) hM3 (.int .i64 (w64 ((st key).getD 0 + 1)))
        refine ⟨fun w' => w' = w4, ⟨w4, hr4, rfl⟩, ?_⟩
        rintro w4 rfl
        exact ⟨_, hU4, aw, fin (k1 := 0) hU3 (by unfold MapI; rw [setK_map]; exact hM4) hU4⟩
    · rw [if_neg (by rw [h20]; exact Bool.false_ne_true)]; exact h.ext hE1
    · rintro _ w1 ⟨h1, hU1⟩
      generalize hst : (if (k == 20) = true then bumpK st (keyN a (.mk k v s kids)) else st) = st1 at h1
      have goal : countsN (.mk k v s kids) a st = countsL k a 0 kids st1 := by rw [countsN, if_neg h26', hst]
      rw [goal]
      refine ⟨fun i q q1 A1 l1 c1 w2 => ∃ (j : Nat) (st2 : Key → Option Int), i = j ∧ j ≤ kids.length ∧ q = some r0 ∧ q1 = some r1 ∧ A1 = A ∧ l1 = l ∧ c1 = c ∧ Shr w2 b r0 r1 lo st2 hv cs A l c ∧ countsL k a (j : Int) (kids.drop j) st2 = countsL k a 0 kids st1 ∧ Upd w w2 (fun x => x = r0),
        fun i _ _ _ _ _ => ((kids.length : Int) - i).toNat, ⟨0, st1, rfl, Nat.zero_le _, rfl, rfl, rfl, rfl, rfl, h1, by simp, hU1⟩, ?_⟩
      rintro _ _ _ _ A l c w2 ⟨j, st2, rfl, hj, rfl, rfl, rfl, rfl, rfl, h2, hg, hU2⟩
      refine ⟨fun hlt => ?_, fun hge hb2 => ?_⟩
      · have hjl : j < kids.length := by simpa using hlt
        rw [drop_cons hjl, countsL] at hg
        have nF : ∀ {w3 : World}, Upd w w3 (fun x => x = r0) → NdsR w3 F kids B kids.length bc := fun hU3 => hm.upd hU3 fun x hx e => by have := hF x hx; have e : x = r0 := e; omega
        refine hm.idx hjl fun ad had => (nF hU2).cell had hjl fun A1 l1 c1 q1 id1 hid1 w3 hE3 hi3 => ?_
        have hE3 : Ext w2 w3 := hE3
        refine ⟨_, _, inner_c (.mk k v s kids) (j : Int) a, ?_, never_any⟩
        rintro _ w4 ⟨rfl, hE4⟩
        refine ⟨_, rfl, hE4, fun hb4 => ?_⟩
        have hE24 := hE3.trans hE4
        have hU4 : Upd w w4 (fun x => x = r0) := hU2.trans' hE24 fun _ h => h.elim
        have hs2 := hU2.size
        refine ⟨_, _, ih (by omega) _ (by have := kid_size hjl; omega) (formsL_iff.1 hf.2 _ (List.getElem_mem hjl)) (inRL_iff.1 hr.2 _ (List.getElem_mem hjl)) (innerI k (j : Int) a) (inner_in ha) (h2.ext hE24) hlo
          (ht.upd hU4 fun e => by have e : 0 = r0 := e; omega) (q1.ext hE24) hF, ?_, never_any⟩
        rintro _ w5 ⟨rfl, h5, hU5⟩
        refine ⟨_, rfl, _, hU5, away_of fun i hi hS => ?_, some r0, some r1, A, l, c, h5.hb, rfl, ⟨j + 1, _, w64_succ (by omega), hjl, rfl, rfl, rfl, rfl, rfl, h5, by rw [w64_succ (by omega)] at hg; exact hg, hU4.trans' hU5 fun _ h => h⟩, ?_⟩
        · simp only [List.mem_cons, List.not_mem_nil, or_false] at hi
          have hS : i = r0 := hS
          rcases hi with rfl | rfl <;> omega
        · rw [w64_succ (by omega)]; exact mea_succ hjl
      · have hje : j = kids.length := by simp at hge; omega
        subst hje
        rw [List.drop_length, countsL] at hg
        subst hg
        exact ⟨rfl, h2, hU2⟩
end Go.Vx.Tryz
namespace Go.Vx
open Go
section
abbrev Sg := (Key → Option Int) × List Int
mutual
def sgoneN (st : Key → Option Int) : Nd → Int → Sg → Nd × Sg
  | .mk k v s l, a, g =>
    if k == 26 then (.mk k v s l, g)
    else if k == 20 then
      if (cellF st g.1 g.2 (keyN a (.mk k v s l))).1.2 then (.mk 26 (cellF st g.1 g.2 (keyN a (.mk k v s l))).1.1 (ByteArray.mk #[]) [.mk k v s l], (cellF st g.1 g.2 (keyN a (.mk k v s l))).2)
      else (.mk k v s (sgoneL st k a 0 l (cellF st g.1 g.2 (keyN a (.mk k v s l))).2).1, (sgoneL st k a 0 l (cellF st g.1 g.2 (keyN a (.mk k v s l))).2).2)
    else (.mk k v s (sgoneL st k a 0 l g).1, (sgoneL st k a 0 l g).2)
def sgoneL (st : Key → Option Int) (k a : Int) : Int → List Nd → Sg → List Nd × Sg
  | _, [], g => ([], g)
  | i, x :: l, g => ((sgoneN st x (innerI k i a) g).1 :: (sgoneL st k a (w64 (i + 1)) l (sgoneN st x (innerI k i a) g).2).1, (sgoneL st k a (w64 (i + 1)) l (sgoneN st x (innerI k i a) g).2).2)
end
def mapS (f : Int → Nd → Sg → Nd × Sg) : Int → List Nd → Sg → List Nd × Sg
  | _, [], g => ([], g)
  | i, x :: l, g => ((f i x g).1 :: (mapS f (w64 (i + 1)) l (f i x g).2).1, (mapS f (w64 (i + 1)) l (f i x g).2).2)
theorem sgoneL_map (st : Key → Option Int) (k a : Int) : ∀ (i : Int) (l : List Nd) (g : Sg), sgoneL st k a i l g = mapS (fun i x g => sgoneN st x (innerI k i a) g) i l g
  | _, [], _ => rfl
  | i, x :: l, g => by rw [sgoneL, mapS, sgoneL_map st k a _ l]
theorem ShS.own {w wa wb : World} {b r0 r1 : Nat} {A A' : Option Addr} {S : Nat → Prop} (h : ShS w wa b r0 r1 A A') (k : Upd wa wb S) (hs : ∀ x, S x → w.heap.size ≤ x) : ShS w wb b r0 r1 A A' :=
  ⟨⟨k.os.trans h.u.os, k.tape.trans h.u.tape, k.output.trans h.u.output, Nat.le_trans h.u.size k.size, fun x hx hS => by
    rw [k.keep x (Nat.lt_of_lt_of_le hx h.u.size) (fun hk => by have := hs x hk; omega), h.u.keep x hx hS]⟩, h.a⟩
def SgoneR (w : World) (b r0 r1 lo : Nat) (st : Key → Option Int) (A : Option Addr) (r : Nd × Sg) : Value → World → Prop := fun v w' =>
  ∃ B l c A' al ac F, v = ndA r.1 B l c ∧ NdsG w' true F r.1.kids B l c ∧ (∀ x, F x → w.heap.size ≤ x ∧ x < w'.heap.size ∧ ¬ blkOf A' x) ∧ Shr w' b r0 r1 lo st r.2.1 r.2.2 A' al ac ∧ ShS w w' b r0 r1 A A'
end
end Go.Vx
namespace Go.Vx.Tryz
open Go Go.Vx Go.Proofs
section
variable {f : Nat} {args : Array Value} {w : World} {X : ContX} {ids : List Nat}
theorem callSG {b r0 r1 lo : Nat} {st : Key → Option Int} {A : Option Addr} {r : Nd × Sg} (h : CallsX E.P f args w (SgoneR w b r0 r1 lo st A r) never) (haw : Away ids (ShF b r0 r1 A)) {K : Int → Int → ByteArray → Option Addr → Nat → Nat → World → Prop}
    (k : ∀ B l c A' al ac F w2, NdsG w2 true F r.1.kids B l c → (∀ x, F x → w.heap.size ≤ x ∧ x < w2.heap.size ∧ ¬ blkOf A' x) → Shr w2 b r0 r1 lo st r.2.1 r.2.2 A' al ac → ShS w w2 b r0 r1 A A' → K r.1.k r.1.n r.1.s B l c w2) : cA f args w ids X K :=
  ⟨_, _, h, fun v w2 ⟨B, l, c, A', al, ac, F, hv, h1, h2, h3, h4⟩ => ⟨_, _, _, _, _, _, hv, _, h4.u, haw, k B l c A' al ac F w2 h1 h2 h3 h4⟩, never_any⟩
end
theorem made38_c (f : Int → Nd → Sg → Nd × Sg) (bs bn ba : Nat) (n : Nd) (hN : n.size < 2 ^ 30) {w : World} {Fs : Nat → Prop} {B : Option Addr} {l c : Nat} {b r0 r1 lo : Nat} {st : Key → Option Int} {g : Sg} {A : Option Addr} {al ac : Nat}
    (hm : NdsR w Fs n.kids B l c) (hF : ∀ x, Fs x → x < lo) (h : Shr w b r0 r1 lo st g.1 g.2 A al ac)
    (hk : ∀ j (_ : j < n.kids.length) {w' : World} {B' : Option Addr} {l' c' : Nat} {g' : Sg} {A' : Option Addr} {al' ac' : Nat}, ShS w w' b r0 r1 A A' → Shr w' b r0 r1 lo st g'.1 g'.2 A' al' ac' → NdsR w' Fs n.kids[j].kids B' l' c' →
      CallsX E.P 38 #[.int .i64 (j : Int), ndA n.kids[j] B' l' c', .pointer (some ⟨bs, 0, none⟩), .pointer (some ⟨bn, 0, none⟩), .pointer (some ⟨ba, 0, none⟩)] w' (SgoneR w' b r0 r1 lo st A' (f (j : Int) n.kids[j] g')) never) :
    CallsX E.P 37 #[ndA n B l c, .func (.func 38) #[] #[.pointer (some ⟨bs, 0, none⟩), .pointer (some ⟨bn, 0, none⟩), .pointer (some ⟨ba, 0, none⟩)]] w (SgoneR w b r0 r1 lo st A (.mk n.k n.n n.s (mapS f 0 n.kids g).1, (mapS f 0 n.kids g).2)) never := by
  obtain ⟨k, n0, s, kids⟩ := n
  dsimp only [ndA, Nd.k, Nd.n, Nd.s, Nd.kids] at *
  obtain rfl := hm.len
  refine vcD37_38 ?_
  intro id hid id1 hid1 id2 hid2 w1 hE1 hi0 hi1 hi2
  have hE1 : Ext w w1 := hE1
  have hs1 := hE1.size
  have hkl : kids.length < 2 ^ 30 := by have := Nd.len_sizes kids; simp only [Nd.size] at hN; omega
  have hlob := h.lob
  have hbs := lt_of_get h.hb
  have hr0s := h.m0.lt
  have hr1s := h.m1.lt
  have hAs : ∀ x, blkOf A x → lo ≤ x ∧ x < w.heap.size := fun x hx => h.row.blk hx
  refine ⟨fun i R rn rc w2 => ∃ (j : Nat) (done : List Nd) (g2 : Sg) (A2 : Option Addr) (al2 ac2 : Nat), i = j ∧ j ≤ kids.length ∧ done.length = j ∧ (done ++ (mapS f (j : Int) (kids.drop j) g2).1, (mapS f (j : Int) (kids.drop j) g2).2) = mapS f 0 kids g ∧
      Shr w2 b r0 r1 lo st g2.1 g2.2 A2 al2 ac2 ∧ ShS w w2 b r0 r1 A A2 ∧ (∀ x, blkOf A2 x → blkOf A x ∨ w1.heap.size ≤ x) ∧ w1.heap.size ≤ w2.heap.size ∧ NdsB w2 true w1.heap.size w2.heap.size no (blkOf A2) done R rn rc,
    fun i _ _ _ => ((kids.length : Int) - i).toNat, ⟨0, [], g, A, al, ac, rfl, Nat.zero_le _, rfl, by simp, h.ext hE1, ShS.of_ext hE1, fun x hx => .inl hx, Nat.le_refl _, RowB.nil (fun _ h => h.elim) (Nat.le_refl _)⟩, ?_⟩
  rintro _ _ R rn rc w2 ⟨j, done, g2, A2, al2, ac2, rfl, hj, hdl, hg, h2, hS2, hA2, hs12, hB⟩
  have nA2 : ∀ x, w.heap.size ≤ x → x < w1.heap.size → ¬ blkOf A2 x := fun x hx hx2 hA => by
    rcases hA2 x hA with h3 | h3
    · have := hAs x h3; omega
    · omega
  refine ⟨fun hlt => ?_, fun hge => ?_⟩
  · have hjl : j < kids.length := by simpa using hlt
    rw [drop_cons hjl, mapS] at hg
    have nF : NdsR w2 Fs kids B kids.length c := hm.upd hS2.u fun x hx hS => by
      have := hF x hx
      have := (h.blk hS).1
      omega
    refine hm.idx hjl fun ad had => nF.cell had hjl fun B1 l1 c1 q1 id3 hid3 w3 hE3 hi3 => ?_
    have hE3 : Ext w2 w3 := hE3
    have hs3 := hE3.size
    have h3 := h2.ext hE3
    refine callSG (hk j hjl (hS2.ext hE3) h3 (q1.ext hE3)) (away_of fun i hi hS => ?_) fun B4 l4 c4 A4 al4 ac4 F4 w4 q4 hF4 h4 hS4 id4 hid4 w5 hE5 hi5 hcell => ?_
    · simp only [List.mem_cons, List.not_mem_nil, or_false] at hi
      rcases hS with hS | hS | hS | hS
      · omega
      · omega
      · omega
      · have hb2 := (h2.row.blk hS).2
        rcases hi with rfl | rfl | rfl | rfl
        · exact nA2 _ hid hi0 hS
        · exact nA2 _ hid1 hi1 hS
        · exact nA2 _ hid2 hi2 hS
        · omega
    have hE5 : Ext w4 w5 := hE5
    have hs4 := hS4.u.size
    have hs5 := hE5.size
    have hl := hB.len
    have hlo := hB.los
    have hB4 := (((hB.ext hE3).upd hS4.u (fun x hx => ⟨fun h => h, by
      rcases hx with hx | hx | hx | hx
      · exact .inr (by omega)
      · exact .inr (by omega)
      · exact .inr (by omega)
      · exact .inl hx⟩)).re (E' := blkOf A4) (Nat.le_refl _) (by omega) (fun x hx => (hS4.a x hx).imp (fun h => h) fun h => by omega))
    refine pushVC (RowB.push (x := (f (j : Int) kids[j] g2).1) (cs := ndV (f (j : Int) kids[j] g2).1 B4 l4 c4) (Fk := F4) sl22 hB4 q4.node (fun x hx => .inr ⟨by have := (hF4 x hx).1; omega, (hF4 x hx).2.1, (hF4 x hx).2.2⟩) hE5 (fun x hx => (h4.row.blk hx).2) hcell (by omega))
      (away_rng (fun x hx => ⟨(hB.blk hx).1, (hB.blk hx).2.1⟩) (by simp only [outL, and_true]; omega)) ?_
    intro R' rc' w6 ⟨hB6, hR6⟩ hU6 w7 hU7 _
    have hs6 := hU6.size
    have hs7 := hU7.size
    have hid2w : ∀ x, setOf [id2] x → x = id2 := fun x hx => by simp only [setOf, no, or_false] at hx; exact hx
    have nA4 : ∀ x, w.heap.size ≤ x → x < w1.heap.size → ¬ blkOf A4 x := fun x hx hx2 hA => by
      rcases hS4.a x hA with h3 | h3
      · exact nA2 x hx hx2 h3
      · omega
    have nR : ∀ x, ShF b r0 r1 A4 x → ¬ blkOf R x := fun x hx hR => by
      have hb4 := hB4.blk hR
      rcases hx with hx | hx | hx | hx
      · omega
      · omega
      · omega
      · exact hb4.2.2 hx
    have n2 : ∀ x, ShF b r0 r1 A4 x → ¬ setOf [id2] x := fun x hx h7 => by
      have := hid2w x h7
      subst this
      rcases hx with hx | hx | hx | hx
      · omega
      · omega
      · omega
      · exact nA4 _ hid2 hi2 hx
    have h7 := ((h4.ext hE5).upd hU6 nR).upd hU7 n2
    have hS7 : ShS w w7 b r0 r1 A A4 := ((((hS2.ext hE3).trans hS4).ext hE5).own hU6 (fun x hx => by have := (hB.blk hx).1; omega)).own hU7 (fun x hx => by have := hid2w x hx; omega)
    refine ⟨⟨j + 1, done ++ [(f (j : Int) kids[j] g2).1], (f (j : Int) kids[j] g2).2, A4, al4, ac4, w64_succ (by omega), hjl, by rw [List.length_append, hdl]; rfl, ?_, h7, hS7, fun x hx => ?_, by omega, ?_⟩, ?_⟩
    · rw [← hg, w64_succ (j := j) (by omega)]; simp
    · rcases hS4.a x hx with h3 | h3
      · exact hA2 x h3
      · exact .inr (by omega)
    · exact (hB6.upd hU7 fun x hx => ⟨fun h => h, .inr (by have := hid2w x hx; omega)⟩).re hU7.size (Nat.le_refl _) (fun x hx => .inl hx)
    · rw [w64_succ (by omega)]; exact mea_succ hjl
  · have hje : j = kids.length := by simp at hge; omega
    subst hje
    rw [List.drop_length, mapS] at hg
    have hl := hB.len
    have hlo := hB.los
    rw [← hg]
    refine call_clip (clip68_c hB.cap) fun w3 hU3 => ?_
    have hs3 := hU3.size
    have hid12 : ∀ x, setOf [id1, id2] x → x = id1 ∨ x = id2 := fun x hx => by simp only [setOf, no, or_false] at hx; exact hx
    have h3 := h2.upd hU3 fun x hx h7 => by
      have h12 := hid12 x h7
      rcases hx with hx | hx | hx | hx
      · omega
      · omega
      · omega
      · rcases h12 with rfl | rfl
        · exact nA2 _ hid1 hi1 hx
        · exact nA2 _ hid2 hi2 hx
    have hB3 := (hB.upd hU3 fun x hx => ⟨fun h => h, .inr (by have := hid12 x hx; omega)⟩).done (c' := rn) (by omega) (.inl rfl)
    have q3 := nds_of hB3
    rw [← List.append_nil done] at q3
    refine ⟨R, rn, rn, A2, al2, ac2, _, rfl, q3, fun x hx => ?_, h3, hS2.own hU3 (fun x hx => by have := hid12 x hx; omega)⟩
    rcases hx with ⟨h4, _⟩ | ⟨h4, h5, h6⟩
    · cases h4
    · exact ⟨by omega, by omega, h6⟩
end Go.Vx.Tryz
namespace Go.Vx
open Go
section
section
variable {w w' w1 : World} {b r0 r1 lo id : Nat} {st hv : Key → Option Int} {cs : List Int} {A A' : Option Addr} {l c : Nat} {S : Nat → Prop}
theorem ShS.tab {T : World → Prop} (ht : T w) (hT : ∀ {w w' : World} {S : Nat → Prop}, T w → Upd w w' S → ¬ S 0 → T w') (h : Shr w b r0 r1 lo st hv cs A l c) (h0 : 0 < lo) (k : ShS w w' b r0 r1 A A') : T w' :=
  hT ht k.u fun hS => by have := (h.blk hS).1; omega
theorem Shr.out (h : Shr w b r0 r1 lo st hv cs A l c) {x : Nat} (hx : w.heap.size ≤ x) : ¬ ShF b r0 r1 A x := fun hS => by have := (h.blk hS).2; omega
theorem ShS.out (k : ShS w w' b r0 r1 A A') {x : Nat} (hn : ¬ ShF b r0 r1 A x) (hx : x < w.heap.size) : ¬ ShF b r0 r1 A' x := fun hS => by
  rcases hS with h1 | h1 | h1 | h1
  · exact hn (.inl h1)
  · exact hn (.inr (.inl h1))
  · exact hn (.inr (.inr (.inl h1)))
  · rcases k.a x h1 with h2 | h2
    · exact hn (.inr (.inr (.inr h2)))
    · omega
theorem sgone_fl {wb w0 w2 w3 : World} {r : Nd × Sg} {B : Option Addr} {bl bc : Nat} {A2 : Option Addr} {al ac : Nat} {F : Nat → Prop} (hb : Shr wb b r0 r1 lo st hv cs A l c) (h0 : ShS wb w0 b r0 r1 A A') (hq : NdsG w2 true F r.1.kids B bl bc) (hF : ∀ x, F x → w0.heap.size ≤ x ∧ x < w2.heap.size ∧ ¬ blkOf A2 x)
    (h2 : Shr w2 b r0 r1 lo st r.2.1 r.2.2 A2 al ac) (hS : ShS w0 w2 b r0 r1 A' A2) (hU : Upd w2 w3 (setOf [id])) (hid : wb.heap.size ≤ id) (hid0 : id < w0.heap.size) (hn : ¬ ShF b r0 r1 A' id) : SgoneR wb b r0 r1 lo st A r (ndA r.1 B bl bc) w3 := by
  have hS1 : ∀ x, setOf [id] x → x = id := fun x hx => by simp only [setOf, no, or_false] at hx; exact hx
  have s0 := h0.u.size
  have s2 := hS.u.size
  have s3 := hU.size
  refine ⟨B, bl, bc, A2, al, ac, F, rfl, hq.upd hU fun x hx h => by have := hF x hx; have := hS1 x h; omega, fun x hx => ?_, h2.upd hU fun x hx h => ?_, (h0.trans hS).own hU fun x hx => by have := hS1 x hx; omega⟩
  · have := hF x hx
    exact ⟨by omega, by omega, this.2.2⟩
  · have e := hS1 x h
    subst e
    exact hS.out hn hid0 hx
end
end
end Go.Vx
namespace Go.Vx.Tryz
open Go Go.Vx Go.Proofs
theorem sgone_c (N : Nat) (hN : N < 2 ^ 30) : ∀ (n : Nd), n.size ≤ N → forms n = true → inR n = true → ∀ (a : Int), InI a → ∀ {w : World} {F : Nat → Prop} {B : Option Addr} {bl bc : Nat} {b r0 r1 lo : Nat} {st : Key → Option Int} {g : Sg} {A : Option Addr} {l c : Nat},
    Shr w b r0 r1 lo st g.1 g.2 A l c → 0 < lo → Tab w → NdsR w F n.kids B bl bc → (∀ x, F x → x < lo) →
    CallsX E.P 20 #[.pointer (some ⟨b, 0, none⟩), ndA n B bl bc, .int .i64 a] w (SgoneR w b r0 r1 lo st A (sgoneN st n a g)) never := by
  induction N with
  | zero => intro n hn; cases n; simp [Nd.size] at hn
  | succ N ih =>
    intro n hn hf hr a ha w F B bl bc b r0 r1 lo st g A l c h hlo ht hm hF
    refine vcD20 fun id hid id1 hid1 id2 hid2 id3 hid3 => ?_
    have hkid : ∀ {w0 : World} {g0 : Sg} {A0 : Option Addr} {l0 c0 : Nat}, Shr w0 b r0 r1 lo st g0.1 g0.2 A0 l0 c0 → Tab w0 → id < w0.heap.size → id1 < w0.heap.size → id2 < w0.heap.size → ¬ ShF b r0 r1 A0 id → ¬ ShF b r0 r1 A0 id1 → ¬ ShF b r0 r1 A0 id2 →
        hA w0 id #[.pointer (some ⟨b, 0, none⟩)] 48 → hA w0 id1 #[.int .i64 n.k, .int .i64 n.n, .string n.s, .slice B bl bc] 24 → hA w0 id2 #[.int .i64 a] 3 →
        ∀ j (_ : j < n.kids.length) {w' : World} {B' : Option Addr} {l' c' : Nat} {g' : Sg} {A' : Option Addr} {al' ac' : Nat}, ShS w0 w' b r0 r1 A0 A' → Shr w' b r0 r1 lo st g'.1 g'.2 A' al' ac' → NdsR w' F n.kids[j].kids B' l' c' →
        CallsX E.P 38 #[.int .i64 (j : Int), ndA n.kids[j] B' l' c', .pointer (some ⟨id, 0, none⟩), .pointer (some ⟨id1, 0, none⟩), .pointer (some ⟨id2, 0, none⟩)] w' (SgoneR w' b r0 r1 lo st A' (sgoneN st n.kids[j] (innerI n.k (j : Int) a) g')) never := by
      intro w0 g0 A0 l0 c0 h0 ht0 hi0 hi1 hi2 no0 no1 no2 hc0 hc1 hc2 j hj w' B' l' c' g' A' al' ac' hS h' q
      have k0 : w'.heap[id]? = some (.cells #[.pointer (some ⟨b, 0, none⟩)] 48 (0, 0)) := by rw [hS.u.keep id hi0 no0]; exact hc0
      have k1 : w'.heap[id1]? = some (.cells #[.int .i64 n.k, .int .i64 n.n, .string n.s, .slice B bl bc] 24 (0, 0)) := by rw [hS.u.keep id1 hi1 no1]; exact hc1
      have k2 : w'.heap[id2]? = some (.cells #[.int .i64 a] 3 (0, 0)) := by rw [hS.u.keep id2 hi2 no2]; exact hc2
      have hs' := hS.u.size
      have ht' : Tab w' := ShS.tab ht0 (fun a b c => Tab.upd a b c) h0 hlo hS
      have o0 := hS.out no0 hi0
      have o1 := hS.out no1 hi1
      have o2 := hS.out no2 hi2
      refine vcD38 k0 k1 k2 fun id4 hid4 id5 hid5 w2 hE2 hi4 hi5 => ⟨_, _, inner_c n (j : Int) a, ?_, never_any⟩
      have hE2 : Ext w' w2 := hE2
      rintro v w3 ⟨rfl, hE3⟩
      refine ⟨_, rfl, hE3, ?_⟩
      have hE23 : Ext w' w3 := hE2.trans hE3
      have s3 := hE3.size
      have hkf := formsL_iff.1 (by obtain ⟨k, v, s, kids⟩ := n; rw [forms, Bool.and_eq_true] at hf; exact hf.2) n.kids[j] (List.getElem_mem hj)
      have hkr := inRL_iff.1 (by obtain ⟨k, v, s, kids⟩ := n; rw [inR, Bool.and_eq_true] at hr; exact hr.2) n.kids[j] (List.getElem_mem hj)
      refine callSG (ih (by omega) _ (by have := kid_lt hj; omega) hkf hkr (innerI n.k (j : Int) a) (inner_in ha) (h'.ext hE23) hlo (ht'.ext hE23) (q.ext hE23) hF) (away_of fun i hi hx => ?_) fun B4 l4 c4 A4 al4 ac4 F4 w4 q4 hF4 h4 hS4 w5 hU5 _ _ _ => ?_
      · simp only [List.mem_cons, List.not_mem_nil, or_false] at hi
        rcases hi with rfl | rfl | rfl | rfl | rfl
        · exact o0 hx
        · exact o1 hx
        · exact o2 hx
        · exact h'.out hid4 hx
        · exact h'.out hid5 hx
      · exact sgone_fl h' (ShS.of_ext hE23) q4 hF4 h4 hS4 hU5 hid5 (by omega) (h'.out hid5)
    refine ⟨fun h26 w1 hE1 hi0 hi1 hi2 hi3 => ?_, fun h26 => ⟨fun h20 w1 hE1 hi0 hi1 hi2 hi3 => ?_, fun h20 w1 hE1 hi0 hi1 hi2 hi3 hc0 hc1 hc2 => ?_⟩⟩
    · have hE1 : Ext w w1 := hE1
      have e : sgoneN st n a g = (n, g) := by obtain ⟨k, v, s, kids⟩ := n; rw [sgoneN, if_pos (show (k == 26) = true from h26)]
      rw [e]
      refine callN (shcloned_c (N + 1) (by omega) n hn (hm.ext hE1)) fun A2 l2 c2 w2 hE2 q2 w3 hU3 => ?_
      exact sgone_fl (r := (n, g)) h (ShS.of_ext hE1) q2 (fun x hx => ⟨hx.1, hx.2, fun hx2 => by have := (h.row.blk hx2).2; have := hE1.size; have := hx.1; omega⟩) ((h.ext hE1).ext hE2) (ShS.of_ext hE2) hU3 hid3 hi3 (h.out hid3)
    · have hE1 : Ext w w1 := hE1
      have s1 := hE1.size
      have ev : sgoneN st n a g = if (cellF st g.1 g.2 (keyN a n)).1.2 then (.mk 26 (cellF st g.1 g.2 (keyN a n)).1.1 (ByteArray.mk #[]) [n], (cellF st g.1 g.2 (keyN a n)).2)
          else (.mk n.k n.n n.s (mapS (fun i x g => sgoneN st x (innerI n.k i a) g) 0 n.kids (cellF st g.1 g.2 (keyN a n)).2).1, (mapS (fun i x g => sgoneN st x (innerI n.k i a) g) 0 n.kids (cellF st g.1 g.2 (keyN a n)).2).2) := by
        obtain ⟨k, v, s, kids⟩ := n
        rw [sgoneN, if_neg (by rw [show (k == 26) = false from h26]; exact Bool.false_ne_true), if_pos (show (k == 20) = true from h20), sgoneL_map]
        rfl
      refine ⟨_, _, key_c n (by omega) hf hr a (ht.ext hE1) (hm.ext hE1), ?_, never_any⟩
      rintro _ w2 ⟨rfl, hE2⟩
      have hE02 := hE1.trans hE2
      have s2 := hE2.size
      have hok := okKey_of (n := n) (by omega) hf hr ha
      refine ⟨_, _, _, _, rfl, no, hE2, Away.no _, _, _, cell_c hok (h.ext hE02) (by have := h.blk (x := b) (.inl rfl); omega), ?_, never_any⟩
      rintro _ w3 ⟨A3, l3, c3, rfl, h3, hS3⟩
      have s3 := hS3.u.size
      have h2 := h.ext hE02
      have hS03 : ShS w w3 b r0 r1 A A3 := (ShS.of_ext hE02).trans hS3
      have ht3 : Tab w3 := ShS.tab (ht.ext hE02) (fun a b c => Tab.upd a b c) h2 hlo hS3
      have o0 := hS3.out (fun hx => h.out hid hx) (show id < w2.heap.size by omega)
      have o1 := hS3.out (fun hx => h.out hid1 hx) (show id1 < w2.heap.size by omega)
      have o2 := hS3.out (fun hx => h.out hid2 hx) (show id2 < w2.heap.size by omega)
      have o3 := hS3.out (fun hx => h.out hid3 hx) (show id3 < w2.heap.size by omega)
      have hm3 : NdsR w3 F n.kids B bl bc := hm.upd hS03.u fun x hx hS => by have := hF x hx; have := (h.blk hS).1; omega
      refine ⟨_, _, rfl, _, hS3.u, away_of fun i hi hx => ?_, fun hx => ?_, fun hx hc0 hc1 hc2 => ?_⟩
      · simp only [List.mem_cons, List.not_mem_nil, or_false] at hi
        have := (h2.blk hx).2
        rcases hi with rfl | rfl | rfl | rfl
        · exact h.out hid hx
        · exact h.out hid1 hx
        · exact h.out hid2 hx
        · exact h.out hid3 hx
      · rw [ev, if_pos hx]
        refine callN (shcloned_c (N + 1) (by omega) n hn hm3) fun B4 l4 c4 w4 hE4 q4 id4 hid4 w5 hU5 hi4 hc4 => ?_
        have s4 := hE4.size
        have s5 := hU5.size
        have hid5 : ∀ x, setOf [id3] x → x = id3 := fun x hx => by simp only [setOf, no, or_false] at hx; exact hx
        have q5 : NdsG w5 true (Rng w3.heap.size w4.heap.size) n.kids B4 l4 c4 := q4.upd hU5 fun x hx hS => by have := hid5 x hS; have := hx.1; omega
        have q6 := nds_one (x := n) q5 hc4 fun _ hx => by have := hx.2; omega
        refine ⟨_, 1, 1, A3, l3, c3, _, rfl, q6, fun x hx => ?_, (h3.ext hE4).upd hU5 fun x hx hS => ?_, (hS03.ext hE4).own hU5 fun x hx => by have := hid5 x hx; omega⟩
        · rcases hx with hx | hx
          · subst hx
            exact ⟨by omega, hi4, fun hA => by have := (h3.row.blk hA).2; omega⟩
          · exact ⟨by have := hx.1; omega, by have := hx.2; omega, fun hA => by have := (h3.row.blk hA).2; have := hx.1; omega⟩
        · have := hid5 x hS
          subst this
          exact o3 hx
      · rw [ev, if_neg (by rw [hx]; exact Bool.false_ne_true)]
        have hi0' : id < w3.heap.size := by omega
        have hi1' : id1 < w3.heap.size := by omega
        have hi2' : id2 < w3.heap.size := by omega
        refine callSG (made38_c (fun i x g => sgoneN st x (innerI n.k i a) g) id id1 id2 n (by omega) hm3 hF h3 (hkid h3 ht3 hi0' hi1' hi2' o0 o1 o2 hc0 hc1 hc2)) (away_of fun i hi hS => ?_) fun B4 l4 c4 A4 al4 ac4 F4 w4 q4 hF4 h4 hS4 => ?_
        · simp only [List.mem_cons, List.not_mem_nil, or_false] at hi
          subst hi
          exact o3 hS
        · exact ⟨_, (hS4.u.keep id hi0' o0).trans hc0, rfl, _, _, _, _, _, _, (hS4.u.keep id1 hi1' o1).trans hc1, rfl, _, (hS4.u.keep id2 hi2' o2).trans hc2, rfl, fun w5 hU5 => sgone_fl h hS03 q4 hF4 h4 hS4 hU5 hid3 (by omega) o3⟩
    · have hE1 : Ext w w1 := hE1
      have s1 := hE1.size
      have ev : sgoneN st n a g = (.mk n.k n.n n.s (mapS (fun i x g => sgoneN st x (innerI n.k i a) g) 0 n.kids g).1, (mapS (fun i x g => sgoneN st x (innerI n.k i a) g) 0 n.kids g).2) := by
        obtain ⟨k, v, s, kids⟩ := n
        rw [sgoneN, if_neg (by rw [show (k == 26) = false from h26]; exact Bool.false_ne_true), if_neg (by rw [show (k == 20) = false from h20]; exact Bool.false_ne_true), sgoneL_map]
        rfl
      rw [ev]
      have h1 := h.ext hE1
      refine callSG (made38_c (fun i x g => sgoneN st x (innerI n.k i a) g) id id1 id2 n (by omega) (hm.ext hE1) hF h1 (hkid h1 (ht.ext hE1) hi0 hi1 hi2 (h.out hid) (h.out hid1) (h.out hid2) hc0 hc1 hc2)) (away_of fun i hi hS => ?_) fun B4 l4 c4 A4 al4 ac4 F4 w4 q4 hF4 h4 hS4 => ?_
      · simp only [List.mem_cons, List.not_mem_nil, or_false] at hi
        subst hi
        exact h.out hid3 hS
      · exact ⟨_, (hS4.u.keep id hi0 (h.out hid)).trans hc0, rfl, _, _, _, _, _, _, (hS4.u.keep id1 hi1 (h.out hid1)).trans hc1, rfl, _, (hS4.u.keep id2 hi2 (h.out hid2)).trans hc2, rfl, fun w5 hU5 => sgone_fl h (ShS.of_ext hE1) q4 hF4 h4 hS4 hU5 hid3 hi3 (h.out hid3)⟩
end Go.Vx.Tryz
namespace Go.Vx
section
def stK (p : Pl) : Key → Option Int := countsN p.root 0 fun _ => none
def shareR (p : Pl) : Nd × Sg := sgoneN (stK p) p.root 0 (fun _ => none, p.cells)
theorem cellF_len {st hv : Key → Option Int} {cs : List Int} {k : Key} (h : cs.length ≤ 256) : (cellF st hv cs k).2.2.length ≤ 256 := by
  unfold cellF
  split
  · exact h
  · split
    · split
      · rw [List.length_append]; simp; omega
      · exact h
    · exact h
mutual
theorem sgone_len (st : Key → Option Int) : ∀ (n : Nd) (a : Int) (g : Sg), g.2.length ≤ 256 → (sgoneN st n a g).2.2.length ≤ 256
  | .mk k v s l, a, g, h => by
    rw [sgoneN]
    split
    · exact h
    · split
      · split
        · exact cellF_len h
        · exact sgoneL_len st k a l 0 _ (cellF_len h)
      · exact sgoneL_len st k a l 0 _ h
theorem sgoneL_len (st : Key → Option Int) (k a : Int) : ∀ (l : List Nd) (i : Int) (g : Sg), g.2.length ≤ 256 → (sgoneL st k a i l g).2.2.length ≤ 256
  | [], i, g, h => by rw [sgoneL]; exact h
  | x :: l, i, g, h => by
    rw [sgoneL]
    exact sgoneL_len st k a l _ _ (sgone_len st x _ g h)
end
def sharePl (p : Pl) (right : Bool) : Pl × Int := if right then (⟨(shareR p).1, (shareR p).2.2⟩, 0) else (⟨.mk 0 0 (ByteArray.mk #[]) [], []⟩, 140)
end
end Go.Vx
namespace Go.Vx.Tryz
open Go Go.Vx Go.Proofs
theorem Tab.pos {w : World} (h : Tab w) : 0 < w.heap.size := by
  unfold Tab Lib.TabIs World.var? at h
  rw [tab_named] at h
  simp only [Option.bind_some] at h
  cases e : w.heap[0]? with
  | none => rw [e] at h; cases h
  | some o => exact lt_of_get e
theorem share_c (p : Pl) (hN : p.root.size < 2 ^ 30) (hr : inR p.root = true) {w : World} {F G : Nat → Prop} {A : Option Addr} {l c : Nat} {B : Option Addr} {bl bc : Nat} (ht : Tab w) (h : NdsR w F p.root.kids A l c) (h2 : IntsR w G p.cells B bl bc) (hF : ∀ x, F x ∨ G x → x < w.heap.size) :
    CallsX E.P 8 #[plA p A l c B bl bc] w (fun v w' => ∃ A l c B bl bc F G, v = .tuple #[plA (sharePl p (rightB p)).1 A l c B bl bc, .int .i64 (sharePl p (rightB p)).2] ∧ PlO w' F G (sharePl p (rightB p)).1 A l c B bl bc ∧ (∀ x, F x ∨ G x → w.heap.size ≤ x ∧ x < w'.heap.size) ∧ Ext w w') never := by
  refine vcD8 ?_
  intro id hid id1 hid1 w1 hE1 hi0 hi1
  have hE1 : Ext w w1 := hE1
  have hs1 := hE1.size
  have hpos := ht.pos
  refine callB (planRight_c p (h.ext hE1) (h2.ext hE1) (fun x hx => by have := hF x hx; omega)) fun w2 hE2 => ⟨fun hx w3 hU3 => ?_, fun hx => ?_⟩
  · have hx' : rightB p = false := by simpa [rightB] using hx
    rw [hx']
    exact ⟨_, _, _, _, _, _, no, no, rfl, ⟨nds_nil, intsO_nil, fun _ h => h.elim⟩, fun x h => by rcases h with h | h <;> exact h.elim, fl (hE1.trans hE2) hU3 hid1⟩
  · have hx' : rightB p = true := by simpa [rightB] using hx
    have hle := right_le hx'
    have hbl := h2.len
    have hfm := rightB_forms hx'
    have hE02 := hE1.trans hE2
    have hs2 := hE2.size
    have hmk : ∀ (w : World), Sem.run E.P (Instr.makeMap 49 none) w = .ok (.map (some w.heap.size)) (w.alloc (.map #[] 0)) := fun _ => rfl
    have ext1 : ∀ (w : World) (o : Obj), Ext w (w.alloc o) := fun w o => alloc_ext w o
    refine ⟨fun v w' => v = .map (some w2.heap.size) ∧ w' = w2.alloc (.map #[] 0), ⟨_, _, hmk w2, rfl, rfl⟩, ?_⟩
    rintro v w3 ⟨rfl, hw3⟩
    have hE3 : Ext w2 w3 := by rw [hw3]; exact ext1 _ _
    have hm3 : w3.heap[w2.heap.size]? = some (.map #[] 0) := by rw [hw3]; exact alloc_new
    have hz3 : w3.heap.size = w2.heap.size + 1 := by rw [hw3]; simp
    refine ⟨_, rfl, no, hE3, Away.no _, fun v w' => v = .map (some w3.heap.size) ∧ w' = w3.alloc (.map #[] 0), ⟨_, _, hmk w3, rfl, rfl⟩, ?_⟩
    rintro v w4 ⟨rfl, hw4⟩
    have hE4 : Ext w3 w4 := by rw [hw4]; exact ext1 _ _
    have hm4 : w4.heap[w3.heap.size]? = some (.map #[] 0) := by rw [hw4]; exact alloc_new
    have hz4 : w4.heap.size = w3.heap.size + 1 := by rw [hw4]; simp
    have hE04 := (hE02.trans hE3).trans hE4
    refine ⟨_, rfl, no, hE4, Away.no _, ?_⟩
    refine callS (clone_c p.cells (h2.ext hE04) (by omega)) fun A5 l5 c5 w5 hE5 hB5 id2 hid2 w6 hE6 hi2 hc6 => ?_
    have hE6 : Ext w5 w6 := hE6
    have hE56 := hE5.trans hE6
    have hE06 := hE04.trans hE56
    have hs5 := hE5.size
    have hs6 := hE6.size
    have h6 : Shr w6 id2 w2.heap.size w3.heap.size w.heap.size (fun _ => none) (fun _ => none) p.cells A5 l5 c5 := by
      refine ⟨hc6, ?_, ?_, ?_, by omega, by omega, by omega, by omega⟩
      · exact (show MapI w6 _ (fun _ => none) from MapK.nil (by rw [hE56.keep _ (by omega) (fun h => h), hE4.keep _ (by omega) (fun h => h)]; exact hm3))
      · exact (show MapI w6 _ (fun _ => none) from MapK.nil (by rw [hE56.keep _ (by omega) (fun h => h)]; exact hm4))
      · exact (celR_of (hB5.low (by omega))).upd hE6 fun _ _ h => h
    have hFw : ∀ x, F x → x < w.heap.size := fun x hx => hF x (.inl hx)
    refine ⟨_, _, counts_c _ hN p.root (Nat.le_refl _) hfm hr 0 ⟨by decide, by decide⟩ h6 hpos (ht.ext hE06) (h.ext hE06) hFw, ?_, never_any⟩
    rintro _ w7 ⟨rfl, h7, hU7⟩
    have hs7 := hU7.size
    have hE07 : Ext w w7 := Upd.step hE06 hU7 fun x hx => by have hx : x = w2.heap.size := hx; omega
    refine ⟨_, rfl, _, hU7, away_of fun i hi hx => ?_, _, _, _, _, _, h7.hb, rfl, fun _ => ?_⟩
    · simp only [List.mem_cons, List.not_mem_nil, or_false] at hi
      have hx : i = w2.heap.size := hx
      omega
    refine callSG (sgone_c _ hN p.root (Nat.le_refl _) hfm hr 0 ⟨by decide, by decide⟩ (g := (fun _ => none, p.cells)) h7 hpos (ht.ext hE07) (h.ext hE07) hFw) (away_of fun i hi hx => ?_) fun B8 l8 c8 A8 al8 ac8 F8 w8 q8 hF8 h8 hS8 => ?_
    · simp only [List.mem_cons, List.not_mem_nil, or_false] at hi
      have hA := fun hx => (hB5.blk (b := i) hx).1
      rcases hx with hx | hx | hx | hx
      · omega
      · omega
      · omega
      · have := hA hx; omega
    refine ⟨_, _, _, _, _, h8.hb, rfl, fun id3 hid3 w9 hE9 hi3 => ?_⟩
    have hE9 : Ext w8 w9 := hE9
    have hs8 := hS8.u.size
    have hs9 := hE9.size
    have h9 := h8.ext hE9
    have hl9 := h9.row.len
    have hI9 := h9.row.ints (by omega)
    refine call_clip (clip32_c hI9.cap) fun w10 hU10 => ?_
    have hs10 := hU10.size
    have hE09 : Ext w w9 := (Upd.step hE07 hS8.u fun x hx => (h7.blk hx).1).trans hE9
    have hS1 : ∀ x, setOf [id1] x → x = id1 := fun x hx => by simp only [setOf, no, or_false] at hx; exact hx
    have hA8 : ∀ x, blkOf A8 x → w4.heap.size ≤ x ∧ x < w9.heap.size := fun x hx => ⟨by
      rcases hS8.a x hx with h | h
      · have := (hB5.blk h).1; omega
      · omega, (h9.row.blk hx).2⟩
    have hcl : al8 < 2 ^ 48 := by
      have := sgone_len (stK p) p.root 0 (fun _ => none, p.cells) hle
      unfold stK at this
      omega
    have hd := RowB.doneF hI9 hcl
    rw [hx']
    refine ⟨B8, l8, c8, A8, al8, al8, F8, blkOf A8, rfl, ⟨(q8.ext hE9).upd hU10 fun x hx hS => ?_, hd.updF hU10 fun x hx hS => ?_, fun x hx hg => (hF8 x hx).2.2 hg⟩, fun x hx => ?_, fl hE09 hU10 hid1⟩
    · have := (hF8 x hx).1; have := hS1 x hS; omega
    · have := hA8 x hx; have := hS1 x hS; omega
    · rcases hx with hx | hx
      · have := hF8 x hx; omega
      · have := hA8 x hx; omega
end Go.Vx.Tryz
namespace Go.Vx.Tryz
open Go Go.Vx Go.Proofs
def sizeT : ByteArray := ByteArray.mk #[115, 105, 122, 101, 40, 64, 49, 41, 32, 43, 32, 115, 105, 122, 101, 40, 64, 49, 41, 32, 42, 32, 115, 105, 122, 101, 40, 64, 50, 41]
def connT : ByteArray := ByteArray.mk #[97, 108, 108, 32, 118, 32, 105, 110, 32, 118, 101, 114, 116, 105, 99, 101, 115, 58, 32, 99, 111, 110, 110, 101, 99, 116, 101, 100, 40, 118, 44, 32, 64, 49, 41]
def readOk (t : ByteArray) (q : Pl → Bool) : Bool := match parseF t 100 with
  | none => false
  | some r => r.2.1 == 0 && decide (r.1.size ≤ 100) && (ofF r.1).2 == 0 && decide ((ofF r.1).1.root.size ≤ 100) && inR (ofF r.1).1.root && q (ofF r.1).1
def sizeQ (p : Pl) : Bool := (sharePl p (rightB p)).2 == 0 && (sharePl p (rightB p)).1.cells.length == 1
def connQ (p : Pl) : Bool := (repsPl p (rightB p)).2 == 0 && (repsPl p (rightB p)).1.root.kids.length == 2 && ((repsPl p (rightB p)).1.root.kids.getD 1 nd0).k == 13
theorem size_ok : readOk sizeT sizeQ = true := by decide +kernel
theorem conn_ok : readOk connT connQ = true := by decide +kernel
theorem read_parts {t : ByteArray} {q : Pl → Bool} (h : readOk t q = true) : ∃ r : Ex × Int × Int, parseF t 100 = some r ∧ r.2.1 = 0 ∧ r.1.size ≤ 100 ∧ (ofF r.1).2 = 0 ∧ (ofF r.1).1.root.size ≤ 100 ∧ inR (ofF r.1).1.root = true ∧ q (ofF r.1).1 = true := by
  unfold readOk at h
  split at h
  · cases h
  · rename_i r hr
    simp only [Bool.and_eq_true, beq_iff_eq, decide_eq_true_eq] at h
    obtain ⟨⟨⟨⟨⟨h1, h2⟩, h3⟩, h4⟩, h5⟩, h6⟩ := h
    exact ⟨r, hr, h1, h2, h3, h4, h5, h6⟩
theorem intsn {w : World} {F : Nat → Prop} : IntsR w F [] none 0 0 := ⟨rfl, Nat.le_refl _, by decide, by simp, fun h => absurd rfl h⟩
theorem awakeS_c {w : World} (ht : Tab w) : CallsX E.P 7 #[] w (IsV (.bool true) w) never := by
  obtain ⟨r, hr, e0, hz, f0, hn, hin, hq⟩ := read_parts size_ok
  obtain ⟨r2, hr2, e02, hz2, f02, hn2, hin2, hq2⟩ := read_parts conn_ok
  unfold sizeQ at hq
  unfold connQ at hq2
  simp only [Bool.and_eq_true, beq_iff_eq] at hq hq2
  obtain ⟨g0, gc⟩ := hq
  obtain ⟨⟨g02, gl⟩, gk⟩ := hq2
  refine vcD7 ⟨_, _, parse_c sizeT 100 (by decide) r hr, ?_, never_any⟩
  rintro v w2 ⟨A, l, c, rfl, hx, hE2⟩
  have t2 := hE2.size
  refine ⟨_, _, _, _, _, _, _, _, _, rfl, no, hE2, Away.no _, fun id hid w3 hE3 hi3 => ?_⟩
  have hE3' : Ext w2 w3 := hE3
  have t3 := hE3'.size
  refine ⟨_, _, of_c r.1 (hx.ext hE3') (fun x hx => by have := hx.2; omega) (by omega), ?_, never_any⟩
  rintro v w4 ⟨A4, l4, c4, rfl, hN4, hcells, hE4⟩
  have t4 := hE4.size
  refine ⟨_, _, _, _, _, _, _, _, _, _, rfl, no, hE4, Away.no _, fun id1 hid1 w5 hE5 hi5 => ?_⟩
  have hE5' : Ext w4 w5 := hE5
  have t5 := hE5'.size
  have hE05 : Ext w w5 := ((hE2.trans hE3').trans hE4).trans hE5'
  have hI : IntsR w5 no (ofF r.1).1.cells none 0 0 := by rw [hcells]; exact intsn
  refine ⟨_, _, share_c (ofF r.1).1 (by omega) hin (ht.ext hE05) (hN4.ext hE5') hI (fun x hx => by rcases hx with hx | hx; have := hx.2; omega; exact hx.elim), ?_, never_any⟩
  rintro v w6 ⟨A6, l6, c6, B6, bl6, bc6, F6, G6, rfl, hO, hF6, hE6⟩
  have hbl6 := (ints_of hO.2.1).len
  refine ⟨_, _, _, _, _, _, _, _, _, _, rfl, no, hE6, Away.no _, fun id2 hid2 w7 hE7 hi7 => ?_⟩
  have hE7' : Ext w6 w7 := hE7
  refine ⟨_, _, parse_c connT 100 (by decide) r2 hr2, ?_, never_any⟩
  rintro v w8 ⟨A8, l8, c8, rfl, hx8, hE8⟩
  refine ⟨_, _, _, _, _, _, _, _, _, rfl, no, hE8, Away.no _, fun id3 hid3 w9 hE9 hi9 => ?_⟩
  have hE9' : Ext w8 w9 := hE9
  have t9 := hE9'.size
  refine ⟨_, _, of_c r2.1 (hx8.ext hE9') (fun x hx => by have := hx.2; omega) (by omega), ?_, never_any⟩
  rintro v w10 ⟨A10, l10, c10, rfl, hN10, hcells10, hE10⟩
  refine ⟨_, _, _, _, _, _, _, _, _, _, rfl, no, hE10, Away.no _, fun id4 hid4 w11 hE11 hi11 => ?_⟩
  have hE11' : Ext w10 w11 := hE11
  have t11 := hE11'.size
  have hI11 : IntsR w11 no (ofF r2.1).1.cells none 0 0 := by rw [hcells10]; exact intsn
  refine ⟨_, _, planReps_c (ofF r2.1).1 (by omega) (hN10.ext hE11') hI11 (fun x hx => by rcases hx with hx | hx; have := hx.2; omega; exact hx.elim), ?_, never_any⟩
  rintro v w12 ⟨A12, l12, c12, B12, bl12, bc12, F12, G12, rfl, hO12, hF12, hE12⟩
  have hEE : Ext w w12 := ((((((hE05.trans hE6).trans hE7').trans hE8).trans hE9').trans hE10).trans hE11').trans hE12
  have hl12 := hO12.1.len
  refine ⟨_, _, _, _, _, _, _, _, _, _, rfl, no, hE12, Away.no _, fun id5 hid5 => ?_⟩
  have bad : ∀ {p : Prop} {x y : Int}, x = y → (x == y) = false → p := fun e h => by rw [e] at h; simp at h
  refine ⟨fun _ => ⟨fun _ => ⟨fun _ => ⟨fun _ => ⟨fun _ => ⟨fun _ => ⟨fun _ => ⟨fun _ => ?_, fun hh => ?_⟩, fun hh => ?_⟩, fun hh => ?_⟩, fun hh => ?_⟩, fun hh => ?_⟩, fun hh => ?_⟩, fun hh => ?_⟩, fun hh => ?_⟩
  · obtain ⟨hK, _, _⟩ := hO12
    generalize hks : (repsPl (ofF r2.1).1 (rightB (ofF r2.1).1)).1.root.kids = ks at hK hl12 gl gk
    refine hK.idx (j := 1) (by omega) fun ad had w13 hE13 hi13 => ?_
    have hE13 : Ext w12 w13 := hE13
    obtain ⟨A1, l1, c1, hcell, _⟩ := (hK.ext hE13).get had (j := 1) (by omega)
    have h4 : Int.toNat ((1 : Nat) : Int) * 4 = 4 := rfl
    rw [h4] at hcell
    have e : ks[1]'(by omega) = ks.getD 1 nd0 := by rw [List.getD_eq_getElem?_getD, List.getElem?_eq_getElem (by omega)]; rfl
    refine ⟨(ks[1]'(by omega)).k, ⟨fun j u hj => ?_⟩, by rw [e, gk]; rfl, hEE.trans hE13⟩
    cases j with
    | zero =>
      simp at hj
      subst hj
      rw [Addr.add_add, Addr.add_add]
      have := hcell.out 0 _ rfl
      rwa [Addr.add_add] at this
    | succ j => simp at hj
  · exact bad (by rw [hl12, gl]; rfl) hh
  · exact bad g02 hh
  · exact bad f02 hh
  · exact bad e02 hh
  · exact bad (by rw [hbl6, gc]; rfl) hh
  · exact bad g0 hh
  · exact bad f0 hh
  · exact bad e0 hh
end Go.Vx.Tryz
namespace Go.Vx
open Go
section
end
end Go.Vx
namespace Go.Vx.Tryz
open Go Go.Vx Go.Proofs
end Go.Vx.Tryz
namespace Go.Vx.Tryz
open Go Go.Vx Go.Proofs Go.ChangeShapes Go.WideShapes Go.ChangeAt Go.RowKit Go.Joins
set_option maxRecDepth 100000
set_option maxHeartbeats 400000
theorem cellsOf24 : Tryz.prog.cellsOf 24 = 4 := by kernel_rfl
theorem cellsOf3 : Tryz.prog.cellsOf 3 = 1 := by kernel_rfl
theorem cellsOf9 : Tryz.prog.cellsOf 9 = 1 := by kernel_rfl
theorem cellsOf22 : Tryz.prog.cellsOf 22 = 1 := by kernel_rfl
theorem cellsOf25 : Tryz.prog.cellsOf 25 = 1 := by kernel_rfl
theorem cellsOf27 : Tryz.prog.cellsOf 27 = 5 := by kernel_rfl
theorem cells_in {w : World} {a : Addr} {m : Nat} {cs : List Value} (h : w.cells? 0 a m = some cs) : cs.length = m ∧ CellsIn w a cs := by
  obtain ⟨_, hl, hc⟩ := World.cells?_some h
  refine ⟨hl, ⟨fun j c hj => ?_⟩⟩
  have hjl : j < m := by rw [← hl]; exact (List.getElem?_eq_some_iff.1 hj).1
  rw [hc j hjl, hj]
def Old (w : World) : Nat → Prop := fun b => b < w.heap.size
theorem gather {α : Type} {p : Nat → α → Prop} : ∀ (n : Nat), (∀ i, i < n → ∃ x, p i x) → ∃ l : List α, l.length = n ∧ ∀ i x, l[i]? = some x → p i x
  | 0, _ => ⟨[], rfl, fun i x h => by simp at h⟩
  | n + 1, h => by
    obtain ⟨l, hl, hp⟩ := gather n fun i hi => h i (by omega)
    obtain ⟨x, hx⟩ := h n (by omega)
    refine ⟨l ++ [x], by simp [hl], fun i y hy => ?_⟩
    by_cases hi : i < l.length
    · rw [List.getElem?_append_left hi] at hy; exact hp i y hy
    · have hb : i < (l ++ [x]).length := (List.getElem?_eq_some_iff.1 hy).1
      have : i = l.length := by simp at hb; omega
      subst this
      simp at hy
      subst hy
      rw [hl]; exact hx
theorem bytesOf24 : Tryz.prog.bytesOf 24 = 56 := by kernel_rfl
theorem bytesOf3 : Tryz.prog.bytesOf 3 = 8 := by kernel_rfl
section
variable {H : Type}
theorem weights_mem_all {e : TypeId} {x : DataW H} {m : Nat} (hm : m ∈ x.weights Tryz.prog e) : ∀ {l : List (DataW H)}, x ∈ l → m ∈ DataW.weightsAll Tryz.prog e l
  | y :: l, h => by
    rw [DataW.weightsAll, List.mem_append]
    rcases List.mem_cons.1 h with rfl | h
    · exact .inl hm
    · exact .inr (weights_mem_all hm h)
def Fits (t : TypeId) (d : DataW H) : Prop := ∀ m ∈ d.weights Tryz.prog t, m ≤ reachBytes
theorem Fits.slice {t e : TypeId} (ht : Tryz.prog.underlying t = some (.slice e)) {elems spare : List (DataW H)} (h : Fits t (.slice elems spare)) : elems.length * Tryz.prog.bytesOf e ≤ reachBytes ∧ ∀ x ∈ elems, Fits e x := by
  unfold Fits at h
  simp only [DataW.weights, ht, List.mem_cons, List.mem_append] at h
  refine ⟨Nat.le_trans (Nat.mul_le_mul_right _ (Nat.le_add_right _ _)) (h _ (.inl rfl)), fun x hx m hm => h m (.inr (.inl (weights_mem_all hm hx)))⟩
theorem Fits.part {t : TypeId} {fs : Array Field} (ht : Tryz.prog.underlying t = some (.struct fs)) {parts : List (DataW H)} (h : Fits t (.agg parts)) {j : Nat} {f : Field} {x : DataW H} (hf : fs[j]? = some f) (hx : parts[j]? = some x) : Fits f.type x := fun m hm => h m (by
  simp only [DataW.weights, ht]
  exact DataW.weights_mem_each (j := j) (by rw [List.getElem?_map, Array.getElem?_toList, hf]; rfl) hx m hm)
end
section
variable {H : Type} {enc : TypeId × Value → H} {w : World} {sp : Nat → Bool} {hd : Bool}
theorem rows_of {z : Nat} {a : Addr} {len cap : Nat} {α : Type} {q : α → List Value → Prop} (hz : 0 < z) (h2 : len ≤ cap) (h3 : len < 2 ^ 48) (h : ∀ i, i < len → ∃ cs x, w.cells? 0 (a.add (i * z)) z = some cs ∧ q x cs) :
    ∃ (kids : List α) (rows : List (List Value)), RowIn w (Old w) z (some a) len cap rows ∧ rows.length = kids.length ∧ ∀ i x, kids[i]? = some x → q x (rows.getD i []) := by
  obtain ⟨l, hl, hp⟩ := gather (α := List Value × α) (p := fun i y => w.cells? 0 (a.add (i * z)) z = some y.1 ∧ q y.2 y.1) len fun i hi => by
    obtain ⟨cs, x, h4, h5⟩ := h i hi
    exact ⟨(cs, x), h4, h5⟩
  refine ⟨l.map Prod.snd, l.map Prod.fst, ⟨by simp [hl], h2, h3, fun r hr => ?_, fun hne => ?_⟩, by simp, fun i x hx => ?_⟩
  · obtain ⟨y, hy, rfl⟩ := List.mem_map.1 hr
    obtain ⟨i, hi⟩ := List.getElem?_of_mem hy
    exact (cells_in (hp i y hi).1).1
  · refine ⟨a, rfl, ?_, fun i r hr => ?_⟩
    · cases l with
      | nil => simp at hne
      | cons y l =>
        have := (hp 0 y rfl).1
        have := World.cells?_block this hz
        rw [add_block] at this
        exact this
    · rw [List.getElem?_map, Option.map_eq_some_iff] at hr
      obtain ⟨y, hy, rfl⟩ := hr
      exact (cells_in (hp i y hy).1).2
  · rw [List.getElem?_map, Option.map_eq_some_iff] at hx
    obtain ⟨y, hy, rfl⟩ := hx
    have : (l.map Prod.fst).getD i [] = y.1 := by rw [List.getD_eq_getElem?_getD, List.getElem?_map, hy]; rfl
    rw [this]
    exact (hp i y hy).2
theorem read_ints {fuel : Nat} {cs : List Value} {x : DataW H × List MemPlace} (h : DataW.trod enc Tryz.prog w 0 sp hd fuel 25 cs = some x) (hx : Fits 25 x.1) : ∃ zs A l c, cs = [.slice A l c] ∧ IntsR w (Old w) zs A l c := by
  rcases DataW.trod_slice Tryz.underlying25 h with ⟨rfl, _⟩ | ⟨a, len, cap, elems, rest, n, _, rfl, rfl, hb, hl, hm, hlen, hel, _, _⟩
  · exact ⟨[], none, 0, 0, rfl, rfl, Nat.le_refl _, by decide, by simp, fun h => absurd rfl h⟩
  · have hb8 := (hx.slice Tryz.underlying25).1
    rw [bytesOf3, List.length_map, hlen] at hb8
    obtain ⟨kids, rows, h1, h2, h3⟩ := rows_of (w := w) (a := a) (z := 1) (len := len) (cap := cap) (q := fun (x : Int) cs => cs = [.int .i64 x]) (by decide) hl (by simp only [reachBytes] at hb8; omega) fun i hi => by
      have := hel i hi
      rw [List.getElem?_eq_getElem (by omega), cellsOf3] at this
      obtain ⟨cs', h4, h5⟩ := Option.bind_eq_some_iff.1 this
      obtain ⟨k, h6, _, _⟩ := DataW.trod_int Tryz.underlying3 h5
      exact ⟨cs', k, h4, h6⟩
    refine ⟨kids, some a, len, cap, rfl, ?_⟩
    have : rows = kids.map fun z => [Value.int .i64 z] := by
      apply List.ext_getElem (by simpa using h2)
      intro i h4 h5
      have hk : i < kids.length := by omega
      have := h3 i kids[i] (List.getElem?_eq_getElem hk)
      rw [List.getD_eq_getElem?_getD, List.getElem?_eq_getElem h4] at this
      simpa using this
    rw [this] at h1
    exact h1
end
theorem below_ext {w w' : World} (k : Ext w w') : Below w.heap.size w w' := ⟨k.os, k.tape, k.output, k.size, fun i hi => k.keep i hi fun h => h⟩
theorem post_true {H : Type} {enc : TypeId × Value → H} {fn : Func} {s : ChangeSpec} {t tb : TypeId} (hp : fn.params = #[t]) (hr : fn.resultTypes = #[tb]) (hb : Tryz.prog.underlying tb = some .bool) (hs : s.vars = []) (hf : ∀ d, s.fn H [d] = { results := [.lit (.bool true)], args := [d] })
    (hl : laidOutB Tryz.prog = true) (hrd : Tryz.prog.readableRec t = true) (ht : t < Tryz.prog.types.size) {W W' : World} {args : Array Value} {ds gs : List (DataW H)} {before : List MemPlace} (hW : DataW.Whole enc Tryz.prog fn.params.toList s.vars false W args.toList ds gs before) (k : Ext W W') :
    s.post enc Tryz.prog fn false true false false W args (.bool true) W' := by
  have hW' := hW
  obtain ⟨p, q, hA, hV, rfl, hfz, hnd⟩ := hW
  rw [hp] at hA
  rw [hs] at hV
  obtain ⟨v, d, e1, e2, h0⟩ := trodAll_one hA
  obtain ⟨rfl, rfl⟩ := trodVars_none hV
  subst e2
  have hlt := DataW.Whole.lt hW'
  have hB := below_ext k
  refine ⟨[d], [], _, [], p, [], hW', ?_, ?_, ?_, hB.frame _, fun h => nomatch h⟩
  · have e3 : s.fn H ([d] ++ []) = { results := [.lit (.bool true)], args := [d] } := hf d
    rw [e3, hr]
    exact trodAll_mk1 (shut_bool hb true)
  · have e3 : s.fn H ([d] ++ []) = { results := [.lit (.bool true)], args := [d] } := hf d
    rw [e3, hp, e1]
    exact trodAll_mk1 (WideElems.Trod_stays hl hrd ht h0 (fun x hx => hB.same (hlt x (List.mem_append_left _ hx))) (fun x hx => decide_eq_true (hlt x (List.mem_append_left _ hx))))
  · rw [hs]
    have e3 : s.fn H ([d] ++ []) = { results := [.lit (.bool true)], args := [d] } := hf d
    rw [e3]
    rfl
theorem laidOut : laidOutB Tryz.prog = true := by kernel_rfl
theorem readable27 : Tryz.prog.readableRec 27 = true := by kernel_rfl
theorem types27 : 27 < Tryz.prog.types.size := of_decide_eq_true (by kernel_rfl)
end Go.Vx.Tryz
namespace Go.Vx.Tryz
open Go Go.Vx Go.Proofs Go.ChangeShapes Go.WideShapes Go.ChangeAt Go.RowKit Go.Joins
set_option maxRecDepth 100000
set_option maxHeartbeats 400000
theorem wf_in {v : Int} (h : (Lit.int .i64 v).wf = true) : inB v = true := by
  have e1 : IntKind.min .i64 = -9223372036854775808 := by decide
  have e2 : IntKind.max .i64 = 9223372036854775807 := by decide
  have h : (decide (IntKind.min .i64 ≤ v) && decide (v ≤ IntKind.max .i64)) = true := h
  rw [e1, e2] at h
  exact h
section
variable {H : Type} {enc : TypeId × Value → H} {w : World} {sp : Nat → Bool} {hd : Bool}
theorem read_nodeR : ∀ (fuel : Nat) (cs : List Value) (x : DataW H × List MemPlace), DataW.trod enc Tryz.prog w 0 sp hd fuel 24 cs = some x → Fits 24 x.1 → ∃ n, NdG w false (Old w) n cs ∧ inR n = true := by
  intro fuel
  induction fuel using Nat.strongRecOn with
  | ind fuel ih =>
    intro cs x h hx
    obtain ⟨xs, n, rfl, rfl, hlen, hxs, hf⟩ := DataW.trod_struct Tryz.underlying24 h
    rw [cellsOf24] at hlen
    match cs, hlen with
    | [c0, c1, c2, c3], _ =>
      match xs, hxs with
      | [y0, y1, y2, y3], _ =>
        have f0 : DataW.trod enc Tryz.prog w 0 sp hd n 3 (List.take (Tryz.prog.cellsOf 3) [c0, c1, c2, c3]) = some y0 := hf 0 _ rfl
        have f1 : DataW.trod enc Tryz.prog w 0 sp hd n 3 (List.take (Tryz.prog.cellsOf 3) [c1, c2, c3]) = some y1 := hf 1 _ rfl
        have f2 : DataW.trod enc Tryz.prog w 0 sp hd n 9 (List.take (Tryz.prog.cellsOf 9) [c2, c3]) = some y2 := hf 2 _ rfl
        have f3 : DataW.trod enc Tryz.prog w 0 sp hd n 22 (List.take (Tryz.prog.cellsOf 22) [c3]) = some y3 := hf 3 _ rfl
        rw [cellsOf3] at f0 f1
        rw [cellsOf9] at f2
        rw [cellsOf22] at f3
        obtain ⟨k, e0, _, _⟩ := DataW.trod_int Tryz.underlying3 f0
        obtain ⟨v, e1, _, hv⟩ := DataW.trod_int Tryz.underlying3 f1
        obtain ⟨s, e2, _, _⟩ := DataW.trod_string Tryz.underlying9 f2
        cases e0; cases e1; cases e2
        rcases DataW.trod_slice Tryz.underlying22 f3 with ⟨e3, _⟩ | ⟨a, len, cap, elems, rest, n', rfl, e3, hy3, hb, hl, hm, hlen2, hel, _, _⟩
        · cases e3
          exact ⟨.mk k v s [], NdsG.node (n := .mk k v s []) ((nds_nil (w := w) (F := Old w)).plain), by rw [inR, inRL, wf_in hv]; rfl⟩
        · cases e3
          have hk := Fits.part (x := y3.1) (j := 3) Tryz.underlying24 hx rfl rfl
          rw [hy3] at hk
          obtain ⟨hb8, hel2⟩ := Fits.slice Tryz.underlying22 hk
          rw [bytesOf24, List.length_map, hlen2] at hb8
          obtain ⟨kids, rows, h1, h2, h3⟩ := rows_of (w := w) (a := a) (z := 4) (len := len) (cap := cap) (q := fun (x : Nd) cs => NdG w false (Old w) x cs ∧ inR x = true) (by decide) hl (by simp only [reachBytes] at hb8; omega) fun i hi => by
            have := hel i hi
            rw [List.getElem?_eq_getElem (by omega), cellsOf24] at this
            obtain ⟨cs', h4, h5⟩ := Option.bind_eq_some_iff.1 this
            obtain ⟨m, hm⟩ := ih n' (by omega) cs' _ h5 (hel2 _ (List.mem_map.2 ⟨_, List.getElem_mem _, rfl⟩))
            exact ⟨cs', m, h4, hm⟩
          exact ⟨.mk k v s kids, .mk (Old w) k v s kids (some a) len cap rows (fun _ => Old w) h1 h2 (fun i x hx => (h3 i x hx).1) (fun _ _ _ h => h) (fun h => nomatch h), by
            rw [inR, wf_in hv, inRL_iff.2 fun x hx => ?_]
            · rfl
            · obtain ⟨i, hi⟩ := List.getElem?_of_mem hx
              exact (h3 i x hi).2⟩
theorem read_planR {v : Value} {d : DataW H} {ps : List MemPlace} {r : Reach} {b0 : Nat} (hv : Value.okWide Tryz.prog w r b0 27 v) (h : DataW.Trod enc Tryz.prog w 0 sp hd 27 v d ps) (hx : Fits 27 d) : ∃ p A l c B bl bc, v = plA p A l c B bl bc ∧ inR p.root = true ∧ NdsR w (Old w) p.root.kids A l c ∧ IntsR w (Old w) p.cells B bl bc := by
  obtain ⟨fuel, hf⟩ := h
  obtain ⟨cs, rfl, hsz⟩ := okWide_struct Tryz.underlying27 hv
  obtain ⟨y0, y1, n, he, hlen, h0, h1⟩ := trod_struct2 Tryz.underlying27 hf
  cases he
  rw [cellsOf27] at hlen
  obtain ⟨cs⟩ := cs
  have hlen : cs.length = 5 := hlen
  match cs, hlen with
  | [c0, c1, c2, c3, c4], _ =>
    have h0 : DataW.trod enc Tryz.prog w 0 sp hd n 24 (List.take (Tryz.prog.cellsOf 24) [c0, c1, c2, c3, c4]) = some y0 := h0
    have h1 : DataW.trod enc Tryz.prog w 0 sp hd n 25 (List.take (Tryz.prog.cellsOf 25) [c4]) = some y1 := h1
    rw [cellsOf24] at h0
    rw [cellsOf25] at h1
    obtain ⟨m, hm, hmr⟩ := read_nodeR _ _ _ h0 (Fits.part (j := 0) Tryz.underlying27 hx rfl rfl)
    obtain ⟨zs, B, bl, bc, e4, hz⟩ := read_ints h1 (Fits.part (j := 1) Tryz.underlying27 hx rfl rfl)
    cases e4
    obtain ⟨A, l, c, e, hk⟩ := hm.kids
    cases e
    exact ⟨⟨m, zs⟩, A, l, c, B, bl, bc, rfl, hmr, hk, hz⟩
end
end Go.Vx.Tryz
namespace Go.Vx.Tryz
open Go Go.Vx Go.Proofs
set_option maxRecDepth 100000
variable {w : World} {R : Value → World → Prop} {X : ContX}
theorem vcD9 {a0 a1 : Int} {a2 : ByteArray} {a3 : Option Addr} {a3l a3c : Nat} {b : Int}  (h : 
 nB w fun id => dB (a0 == 26) (fL w [] fun w1 => id < w1.heap.size → R (.tuple #[.slice none 0 0, .slice none 0 0]) w1) (∃ (I : Option Addr → Nat → Nat → Option Addr → Nat → Nat → World → Prop), dB (a0 == 20) (fL w [] fun w11 => id < w11.heap.size → cI 22 #[Av a0 a1 a2 a3 a3l a3c, .int .i64 b] w11 [id] X fun x w2 => nB w2 fun id1 => fL w2 [] fun w12 => id1 < w12.heap.size → cB 23 #[Av a0 a1 a2 a3 a3l a3c] w12 [id, id1] X fun x1 w21 => dB x1 (nB w21 fun id2 => fL w21 [id1] fun w13 => id2 < w13.heap.size → hA w13 id2 #[.int .i64 a0, .int .i64 a1, .string a2, .slice a3 a3l a3c] 24 → ∃ R3, RunsTo E.P (Builtin.append_ #[22, 22] 22 #[.slice none 0 0, .slice (some ⟨id2, 0, none⟩) 1 1]) w13 R3 ∧ ∀ v2 w22, R3 v2 w22 → ∃ a n c, v2 = .slice a n c ∧ ∃ S2, Upd w13 w22 S2 ∧ Away [id, id1, id2] S2 ∧ nB w22 fun id3 => fL w22 [] fun w14 => id3 < w14.heap.size → hA w14 id2 #[.int .i64 a0, .int .i64 a1, .string a2, .slice a3 a3l a3c] 24 → hA w14 id3 #[.int .i64 x, .int .i64 b] 38 → ∃ R4, RunsTo E.P (Builtin.append_ #[34, 34] 34 #[.slice none 0 0, .slice (some ⟨id3, 0, none⟩) 1 1]) w14 R4 ∧ ∀ v3 w23, R4 v3 w23 → ∃ a1_1 n1 c1, v3 = .slice a1_1 n1 c1 ∧ ∃ S3, Upd w14 w23 S3 ∧ Away [id, id1, id2, id3] S3 ∧ (hA w23 id2 #[.int .i64 a0, .int .i64 a1, .string a2, .slice a3 a3l a3c] 24 → hA w23 id3 #[.int .i64 x, .int .i64 b] 38 → I a n c a1_1 n1 c1 w23)) (nB w21 fun id4 => fL w21 [] fun w15 => id4 < w15.heap.size → hA w15 id4 #[.int .i64 a0, .int .i64 a1, .string a2, .slice a3 a3l a3c] 24 → ∃ R5, RunsTo E.P (Builtin.append_ #[22, 22] 22 #[.slice none 0 0, .slice (some ⟨id4, 0, none⟩) 1 1]) w15 R5 ∧ ∀ v4 w24, R5 v4 w24 → ∃ a2_1 n2 c2, v4 = .slice a2_1 n2 c2 ∧ ∃ S4, Upd w15 w24 S4 ∧ Away [id, id1, id4] S4 ∧ nB w24 fun id5 => fL w24 [] fun w16 => id5 < w16.heap.size → hA w16 id4 #[.int .i64 a0, .int .i64 a1, .string a2, .slice a3 a3l a3c] 24 → hA w16 id5 #[.int .i64 x, .int .i64 0] 38 → ∃ R6, RunsTo E.P (Builtin.append_ #[34, 34] 34 #[.slice none 0 0, .slice (some ⟨id5, 0, none⟩) 1 1]) w16 R6 ∧ ∀ v5 w25, R6 v5 w25 → ∃ a3_1 n3 c3, v5 = .slice a3_1 n3 c3 ∧ ∃ S5, Upd w16 w25 S5 ∧ Away [id, id1, id4, id5] S5 ∧ (hA w25 id4 #[.int .i64 a0, .int .i64 a1, .string a2, .slice a3 a3l a3c] 24 → hA w25 id5 #[.int .i64 x, .int .i64 0] 38 → I a2_1 n2 c2 a3_1 n3 c3 w25))) (fL w [] fun w17 => id < w17.heap.size → I none 0 0 none 0 0 w17) ∧ ∀ (jk : Nat → Value) (a4 : Option Addr) (n4 c4 : Nat) (a5 : Option Addr) (n5 c5 : Nat) (w28 : World), I a4 n4 c4 a5 n5 c5 w28 → ∃ (I1 : Option Addr → Nat → Nat → Option Addr → Nat → Nat → Int → World → Prop), ∃ (m : Option Addr → Nat → Nat → Option Addr → Nat → Nat → Int → Nat), I1 a4 n4 c4 a5 n5 c5 0 w28 ∧ ∀ (jk1 : Nat → Value) (a6 : Option Addr) (n6 c6 : Nat) (a7 : Option Addr) (n7 c7 : Nat) (x2 : Int) (w29 : World), I1 a6 n6 c6 a7 n7 c7 x2 w29 → dB (decide (x2 < (↑a3l : Int))) (∃ (I2 : Int → World → Prop), dB (a0 == 21) (dB (x2 == 1) (I2 1 w29) (I2 0 w29)) (I2 0 w29) ∧ ∀ (jk2 : Nat → Value) (x3 : Int) (w210 : World), I2 x3 w210 → iX x2 a3l a3 fun ad => lA w210 (Addr.add ad (Int.toNat x2 * 4)) fun x4 x5 x6 a8 n8 c8 => ∃ R7 X'2, CallsX E.P 9 #[Av x4 x5 x6 a8 n8 c8, .int .i64 (w64 (b + x3))] w210 R7 X'2 ∧ (∀ v6 w211, R7 v6 w211 → ∃ a9 n9, ∃ c9 a10, ∃ n10 c10, v6 = .tuple #[.slice a9 n9 c9, .slice a10 n10 c10] ∧ ∃ S6, Upd w210 w211 S6 ∧ Away [id] S6 ∧ ∃ R8, RunsTo E.P (Builtin.append_ #[22, 22] 22 #[.slice a6 n6 c6, .slice a9 n9 c9]) w211 R8 ∧ ∀ v7 w212, R8 v7 w212 → ∃ a11 n11 c11, v7 = .slice a11 n11 c11 ∧ ∃ S7, Upd w211 w212 S7 ∧ Away [id] S7 ∧ ∃ R9, RunsTo E.P (Builtin.append_ #[34, 34] 34 #[.slice a7 n7 c7, .slice a10 n10 c10]) w212 R9 ∧ ∀ v8 w213, R9 v8 w213 → ∃ a12 n12 c12, v8 = .slice a12 n12 c12 ∧ ∃ S8, Upd w212 w213 S8 ∧ Away [id] S8 ∧ I1 a11 n11 c11 a12 n12 c12 (w64 (x2 + 1)) w213 ∧ m a11 n11 c11 a12 n12 c12 (w64 (x2 + 1)) < m a6 n6 c6 a7 n7 c7 x2) ∧ PX X'2 X) (R (.tuple #[.slice a6 n6 c6, .slice a7 n7 c7]) w29))
 ) : CallsX E.P 9 #[Av a0 a1 a2 a3 a3l a3c, .int .i64 b] w R X :=
  calls_vc E_ok ⟨[(13, ⟨[(6, .slc), (7, .slc), (10, .int .i64)], []⟩)], [(12, ⟨[(6, .slc), (7, .slc)], []⟩), (18, ⟨[(11, .int .i64)], []⟩)]⟩ (f := 9) Tryz.func9 rfl [(Av a0 a1 a2 a3 a3l a3c, .no), (.int .i64 b, .no)] [] (bls0) nod0 (plain_of rfl) (shs_of ⟨trivial, trivial, trivial⟩) h (by kernel_rfl)
end Go.Vx.Tryz
