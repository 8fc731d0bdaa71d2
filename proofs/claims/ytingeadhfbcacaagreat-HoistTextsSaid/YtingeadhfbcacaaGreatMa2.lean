/- Texts of the walk, gathered. -/
import Derived.Test.YtingeadhfbcacaaGreatMa1
set_option linter.unusedSimpArgs false
set_option linter.unusedVariables false
namespace Go.Vx
open Go
section
theorem RowB.updF {α : Type} {z : Nat} {enc : α → List Value} {h1 : ∀ x, (enc x).length = z} {h2 : ∀ x, ∀ u ∈ enc x, u.oneCell' = true} {ty : Nat} {w w' : World} {o : Bool} {lo top : Nat} {E S : Nat → Prop} {xs : List α} {A : Option Addr} {l c : Nat}
    (h : RowB (flatRel enc h1 h2) ty w o lo top no E xs A l c) (k : Upd w w' S) (hs : ∀ b, blkOf A b → ¬ S b) : RowB (flatRel enc h1 h2) ty w' o lo w'.heap.size no E xs A l c := by
  obtain ⟨rows, Fs, q1, q2, q3, q4, q5, q6, q7, q8, q9, q10, q11⟩ := h
  have hs' := k.size
  exact ⟨rows, fun _ _ => False, owns_upd' q1 k hs, q2, q3, q4, q5, fun _ _ _ h => h.elim, fun _ _ _ _ _ _ h => h.elim, q8, by omega, Nat.le_refl _, fun b hb => by have := q11 b hb; exact ⟨this.1, by omega, this.2.2⟩⟩
theorem nds_one {w : World} {o : Bool} {F : Nat → Prop} {x : Nd} {A : Option Addr} {l c id : Nat} (h : NdsG w o F x.kids A l c) (hcell : w.heap[id]? = some (.cells (ndV x A l c).toArray 24 (0, 0))) (hid : o = true → ¬ F id) :
    NdsG w o (fun y => y = id ∨ F y) [x] (some ⟨id, 0, none⟩) 1 1 := by
  refine ⟨[ndV x A l c], fun _ => F, ⟨rfl, Nat.le_refl _, by omega, fun r hr => by cases List.mem_singleton.1 hr; rfl, fun _ => ⟨_, rfl, .inl rfl, fun i r hi => ?_⟩⟩, rfl, fun i y hy => ?_, fun i b _ hb => .inr hb, fun ho => ⟨⟨rfl, .inr ⟨id, _, rfl, hcell, by simp⟩⟩, fun i b _ hb he => ?_, fun i j b hij hj => ?_⟩⟩
  · cases i with
    | zero =>
      simp only [List.getElem?_cons_zero, Option.some.injEq] at hi
      subst hi
      rw [Nat.zero_mul, add_zero_addr]
      exact cells_new hcell
    | succ i => simp at hi
  · cases i with
    | zero =>
      simp only [List.getElem?_cons_zero, Option.some.injEq] at hy
      subst hy
      exact h.node
    | succ i => simp at hy
  · have he : id = b := he
    exact hid ho (he ▸ hb)
  · simp at hj; omega
end
end Go.Vx
namespace Go.Vx.Tryz
open Go Go.Vx Go.Proofs
section
def CstT (ty : Nat) (w : World) (b lo : Nat) (cs : List Int) (A : Option Addr) : Prop :=
  cs.length ≤ 256 ∧ ∃ l c, w.heap[b]? = some (.cells #[.slice A l c] ty (0, 0)) ∧ RowB intRel 3 w true lo w.heap.size no (fun x => x = b) cs A l c
abbrev Cst := CstT 25
theorem CstT.upd {ty : Nat} {w w' : World} {b lo : Nat} {cs : List Int} {A : Option Addr} {S : Nat → Prop} (h : CstT ty w b lo cs A) (k : Upd w w' S) (h1 : ¬ S b) (h2 : ∀ x, blkOf A x → ¬ S x) : CstT ty w' b lo cs A := by
  obtain ⟨hl, l, c, hh, hB⟩ := h
  exact ⟨hl, l, c, by rw [k.keep b (lt_of_get hh) h1]; exact hh, RowB.updF hB k h2⟩
theorem CstT.ext {ty : Nat} {w w' : World} {b lo : Nat} {cs : List Int} {A : Option Addr} (h : CstT ty w b lo cs A) (k : Ext w w') : CstT ty w' b lo cs A := h.upd k (fun h => h) (fun _ _ h => h)
theorem CstT.blk {ty : Nat} {w : World} {b lo : Nat} {cs : List Int} {A : Option Addr} (h : CstT ty w b lo cs A) : b < w.heap.size ∧ ∀ x, blkOf A x → x < w.heap.size ∧ x ≠ b := by
  obtain ⟨hl, l, c, hh, hB⟩ := h
  exact ⟨lt_of_get hh, fun x hx => by have := hB.blk hx; exact ⟨this.2.1, this.2.2⟩⟩
def CU (w w' : World) (b : Nat) (A A2 : Option Addr) : Prop := Upd w w' (fun x => x = b ∨ blkOf A x) ∧ ∀ x, blkOf A2 x → blkOf A x ∨ w.heap.size ≤ x
theorem CU.ext {w w' : World} {b : Nat} {A : Option Addr} (h : Ext w w') : CU w w' b A A := ⟨⟨h.os, h.tape, h.output, h.size, fun k hk _ => h.keep k hk (fun h => h)⟩, fun _ h => .inl h⟩
theorem CU.trans {w w1 w2 : World} {b : Nat} {A A1 A2 : Option Addr} (h : CU w w1 b A A1) (k : CU w1 w2 b A1 A2) : CU w w2 b A A2 := by
  obtain ⟨⟨a1, a2, a3, a4, a5⟩, h2⟩ := h
  obtain ⟨⟨b1, b2, b3, b4, b5⟩, k2⟩ := k
  refine ⟨⟨b1.trans a1, b2.trans a2, b3.trans a3, Nat.le_trans a4 b4, fun k hk hS => ?_⟩, fun x hx => ?_⟩
  · rw [b5 k (by omega) (fun h => by
      rcases h with h | h
      · exact hS (.inl h)
      · rcases h2 k h with h' | h'
        · exact hS (.inr h')
        · omega), a5 k hk hS]
  · rcases k2 x hx with h' | h'
    · exact h2 x h'
    · exact .inr (by omega)
theorem CU.step {w w1 w2 : World} {b : Nat} {A A1 : Option Addr} {S : Nat → Prop} (h : CU w w1 b A A1) (k : Upd w1 w2 S) (hs : ∀ x, S x → w.heap.size ≤ x) : CU w w2 b A A1 := by
  obtain ⟨⟨a1, a2, a3, a4, a5⟩, h2⟩ := h
  exact ⟨⟨k.os.trans a1, k.tape.trans a2, k.output.trans a3, Nat.le_trans a4 k.size, fun x hx hS => by rw [k.keep x (by omega) (fun h => by have := hs x h; omega), a5 x hx hS]⟩, h2⟩
theorem clo_c (h : Int) {w : World} {b lo : Nat} {cs : List Int} {A : Option Addr} (hC : Cst w b lo cs A) :
    CallsX E.P 31 #[.int .i64 h, .pointer (some ⟨b, 0, none⟩)] w (fun v w' => ((cs.length : Int) == 256) = true ∧ v = .tuple #[.int .i64 0, .bool false] ∧ Cst w' b lo cs A ∧ CU w w' b A A ∨
      ((cs.length : Int) == 256) = false ∧ ∃ A2, v = .tuple #[.int .i64 cs.length, .bool true] ∧ Cst w' b lo (cs ++ [h]) A2 ∧ CU w w' b A A2) never := by
  obtain ⟨hle, l, c, hh, hB⟩ := hC
  have hl := hB.len
  refine vc31 hh ?_
  rw [← hl]
  refine ⟨fun h1 _ => .inl ⟨h1, rfl, ⟨hle, l, c, hh, hB⟩, CU.ext (Upd.refl _ _)⟩, fun h1 id hid w1 hE _ hcell => ?_⟩
  have hb := lt_of_get hh
  have hB1 := RowB.updF hB hE (fun _ _ h => h)
  have hs1 := hE.size
  refine pushVC (ids := [b, id]) (RowB.push (x := h) (cs := [.int .i64 h]) (Fk := no) sl25 hB1 rfl (fun _ h => h.elim) (Upd.refl _ _) (fun x hx => by rw [hx]; omega) hcell (by omega)) ⟨⟨fun hS => (hB.blk hS).2.2 rfl, fun hS => by have := (hB.blk hS).2.1; omega, trivial⟩⟩ ?_
  intro A2 c2 w2 ⟨hB2, hA2⟩ hU2 w3 hU3 hb3 _
  have hw : w64 (((l + 1 : Nat) : Int) - 1) = (l : Int) := by
    have : ((l + 1 : Nat) : Int) - 1 = l := by omega
    rw [this, w64_id (by omega) (by omega)]
  rw [hw]
  refine .inr ⟨h1, A2, rfl, ⟨?_, _, _, hb3, RowB.updF hB2 hU3 fun x hx hS => ?_⟩, ?_⟩
  · simp only [beq_eq_false_iff_ne, ne_eq] at h1
    simp; omega
  · simp only [setOf, no, or_false] at hS
    exact (hB2.blk hx).2.2 hS
  · refine ⟨⟨hU3.os.trans (hU2.os.trans hE.os), hU3.tape.trans (hU2.tape.trans hE.tape), hU3.output.trans (hU2.output.trans hE.output), by have := hU2.size; have := hU3.size; omega, fun k hk hS => ?_⟩, fun x hx => ?_⟩
    · have h2s := hU2.size
      rw [hU3.keep k (by omega) (fun h => by simp only [setOf, no, or_false] at h; exact hS (.inl h)), hU2.keep k (by omega) (fun h => hS (.inr h)), hE.keep k hk (fun h => h)]
    · rcases hA2 x hx with h' | h'
      · exact .inl h'
      · exact .inr (by omega)
def GoneR (b lo : Nat) (A : Option Addr) (w : World) (p : Nd × List Int) : Value → World → Prop := fun v w' => ∃ A1 l1 c1 A2, v = ndA p.1 A1 l1 c1 ∧ Cst w' b lo p.2 A2 ∧
  NdsG w' true (fun x => w.heap.size ≤ x ∧ x < w'.heap.size ∧ ¬ blkOf A2 x) p.1.kids A1 l1 c1 ∧ CU w w' b A A2
theorem callG {f : Nat} {args : Array Value} {w : World} {X : ContX} {ids : List Nat} {b lo : Nat} {A : Option Addr} {p : Nd × List Int} (h : CallsX E.P f args w (GoneR b lo A w p) never) (haw : Away ids (fun x => x = b ∨ blkOf A x))
    {K : Int → Int → ByteArray → Option Addr → Nat → Nat → World → Prop} (k : ∀ A1 l1 c1 A2 w2, Cst w2 b lo p.2 A2 → NdsG w2 true (fun x => w.heap.size ≤ x ∧ x < w2.heap.size ∧ ¬ blkOf A2 x) p.1.kids A1 l1 c1 → CU w w2 b A A2 → K p.1.k p.1.n p.1.s A1 l1 c1 w2) :
    ∃ (R : Value → World → Prop) (X' : ContX), CallsX E.P f args w R X' ∧ (∀ v w2, R v w2 → ∃ x4 x5, ∃ x6 a2, ∃ n2 c2, v = .agg #[.int .i64 x4, .int .i64 x5, .string x6, .slice a2 n2 c2] ∧ ∃ S, Upd w w2 S ∧ Away ids S ∧ K x4 x5 x6 a2 n2 c2 w2) ∧ ∀ ch w2, X' ch w2 → X ch w2 :=
  ⟨_, _, h, fun _ w2 ⟨A1, l1, c1, A2, hv, hC, hN, hU⟩ => ⟨_, _, _, _, _, _, hv, _, hU.1, haw, k A1 l1 c1 A2 w2 hC hN hU⟩, never_any⟩
theorem kidsH_c {k v : Int} {s : ByteArray} {kids : List Nd} (hkl : kids.length < 2 ^ 30)
    (ih : ∀ (j : Nat) (_ : j < kids.length) {w : World} {F : Nat → Prop} {A' : Option Addr} {l c b lo : Nat} {cs : List Int} {A : Option Addr} (a r : Int), NdsR w F kids[j].kids A' l c → Cst w b lo cs A → (∀ x, F x → x < w.heap.size ∧ x ≠ b ∧ ¬ blkOf A x) →
      CallsX E.P 30 #[ndA kids[j] A' l c, .int .i64 a, .int .i64 r, .func (.func 31) #[] #[.pointer (some ⟨b, 0, none⟩)]] w (GoneR b lo A w (gone kids[j] a r cs)) never)
    {w : World} {F : Nat → Prop} {A' : Option Addr} {l c b lo : Nat} {cs : List Int} {A : Option Addr} (a r : Int) (hr : NdsR w F kids A' l c) (hC : Cst w b lo cs A) (hF : ∀ x, F x → x < w.heap.size ∧ x ≠ b ∧ ¬ blkOf A x) :
    CallsX E.P 52 #[ndA (.mk k v s kids) A' l c, .int .i64 a, .int .i64 r, .func (.func 31) #[] #[.pointer (some ⟨b, 0, none⟩)]] w (GoneR b lo A w (fin k v s (goneL k a r 0 kids cs))) never := by
  obtain rfl := hr.len
  dsimp only [ndA, Nd.k, Nd.n, Nd.s, Nd.kids]
  refine vc52 ?_
  intro id hid id1 hid1 id2 hid2 w1 hE h1 h2 h3
  have hs := hE.size
  obtain ⟨hb, hAb⟩ := hC.blk
  refine ⟨fun a' r' i Ao n co w2 => ∃ (j : Nat) (sd : List Nd) (ct : List Int) (At : Option Addr), i = j ∧ j ≤ kids.length ∧ (sd ++ (goneL k a' r' j (kids.drop j) ct).1, (goneL k a' r' j (kids.drop j) ct).2) = goneL k a r 0 kids cs ∧
      NdsB w2 true w1.heap.size w2.heap.size no (blkOf At) sd Ao n co ∧ Cst w2 b lo ct At ∧ CU w w2 b A At ∧ (∀ x, blkOf At x → blkOf A x ∨ w1.heap.size ≤ x) ∧ w1.heap.size ≤ w2.heap.size ∧ sd.length = j,
    fun _ _ i _ _ _ => ((kids.length : Int) - i).toNat, ⟨0, [], cs, A, rfl, Nat.zero_le _, by simp, ?_, hC.ext hE, CU.ext hE, fun _ h => .inl h, Nat.le_refl _, rfl⟩, ?_⟩
  · exact (RowB.nil (E := blkOf A) (fun _ h => h.elim) (Nat.le_refl _))
  rintro _ a' r' _ Ao n co w2 ⟨j, sd, ct, At, rfl, hj, hg, hB, hCt, hCU, hAt, hs12, hsd⟩
  have hl := hB.len
  have hlo := hB.los
  obtain ⟨hb2, hAt2⟩ := hCt.blk
  refine ⟨fun hlt => ?_, fun hge => ?_⟩
  · have hjl : j < kids.length := by simp at hlt; omega
    have hrr : NdsR w2 F kids A' kids.length c := hr.upd hCU.1 fun x hx hS => by have := hF x hx; rcases hS with h | h; exact this.2.1 h; exact this.2.2 h
    refine hrr.idx hjl fun ad ha => hrr.cell ha hjl fun A1 l1 c1 q1 id3 hid3 => ?_
    rw [drop_cons hjl, goneL] at hg
    refine ⟨fun x6 x7 w3 => (x6, x7) = turnP k a' r' j ∧ Ext w2 w3, ⟨fun h5 => ⟨fun h6 w3 hE3 _ => ⟨by simp only [turnP, h5, h6, if_true], hE3⟩, fun h6 w3 hE3 _ => ⟨by simp only [turnP, h5, h6, Bool.false_eq_true, if_false, if_true], hE3⟩⟩, fun h5 w3 hE3 _ => ⟨by simp only [turnP, h5, Bool.false_eq_true, if_false], hE3⟩⟩, ?_⟩
    rintro _ x6 x7 w3 ⟨ht, hE3⟩ w4 hE4
    simp only [← ht] at hg
    have hE24 := hE3.trans hE4
    have hs24 := hE24.size
    have hC4 := hCt.ext hE24
    refine callG (ih j hjl x6 x7 (q1.ext hE24) hC4 fun x hx => ?_) ?_ ?_
    · have := hF x hx
      exact ⟨by omega, this.2.1, fun h => by rcases hAt x h with h' | h'; exact this.2.2 h'; omega⟩
    · refine away_of fun i hi hS => ?_
      simp only [List.mem_cons, List.not_mem_nil, or_false] at hi
      have hi' : w.heap.size ≤ i ∧ (i < w1.heap.size ∨ w2.heap.size ≤ i) := by rcases hi with rfl | rfl | rfl | rfl <;> omega
      rcases hS with hS | hS
      · omega
      · rcases hAt i hS with h' | h'
        · have := hAb i h'; omega
        · have := hAt2 i hS; omega
    intro A2 l2 c2 A3 w5 hC5 hN5 hCU5 id4 hid4 w6 hE6 _ hcell
    obtain ⟨hb5, hA5⟩ := hC5.blk
    have hs5 := hCU5.1.size
    have hB5 : NdsB w5 true w1.heap.size w4.heap.size no (blkOf A3) sd Ao n co := by
      refine ((hB.ext hE24).upd hCU5.1 fun x hx => ⟨fun h => h, ?_⟩).re hs24 hs5 fun x hx => ?_
      · rcases hx with h | h
        · exact .inr (by omega)
        · exact .inl h
      · rcases hCU5.2 x hx with h | h
        · exact .inl h
        · exact .inr (by omega)
    refine pushVC (RowB.push (x := (gone kids[j] x6 x7 ct).1) (cs := ndV (gone kids[j] x6 x7 ct).1 A2 l2 c2) (Fk := fun x => w4.heap.size ≤ x ∧ x < w5.heap.size ∧ ¬ blkOf A3 x) sl22 hB5 hN5.node (fun x hx => .inr hx) hE6 (fun x hx => (hA5 x hx).1) hcell (by omega))
      (away_rng (fun x hx => ⟨(hB.blk hx).1, (hB.blk hx).2.1⟩) (by simp only [outL, and_true]; omega)) ?_
    intro Ao' co' w7 ⟨hB7, _⟩ hU7 w8 hU8 _
    have hs6 := hE6.size
    have hs7 := hU7.size
    have hs8 := hU8.size
    have hC6 : Cst w7 b lo (gone kids[j] x6 x7 ct).2 A3 := (hC5.ext hE6).upd hU7 (fun hS => by have := hB5.blk hS; omega) (fun x hx hS => (hB5.blk hS).2.2 hx)
    have hA31 : ∀ x, blkOf A3 x → blkOf A x ∨ w1.heap.size ≤ x := fun x hx => by
      rcases hCU5.2 x hx with h | h
      · exact hAt x h
      · exact .inr (by omega)
    have hC8 : Cst w8 b lo (gone kids[j] x6 x7 ct).2 A3 := hC6.upd hU8 (fun hS => by simp only [setOf, no, or_false] at hS; omega) (fun x hx hS => by
      simp only [setOf, no, or_false] at hS
      rcases hA31 x hx with h | h
      · have := hAb x h; omega
      · omega)
    have hCU8 : CU w w8 b A A3 := (((((hCU.trans (CU.ext hE24)).trans hCU5).trans (CU.ext hE6)).step hU7 (fun x hx => by have := hB5.blk hx; omega)).step hU8 (fun x hx => by simp only [setOf, no, or_false] at hx; omega))
    rw [w64_succ (by omega)]
    refine ⟨⟨j + 1, sd ++ [(gone kids[j] x6 x7 ct).1], _, A3, rfl, hjl, ?_, ?_, hC8, hCU8, hA31, by omega, by simp [hsd]⟩, mea_succ hjl⟩
    · rw [← hg, w64_succ (by omega)]; simp
    · exact (hB7.upd hU8 fun x hx => ⟨fun h => h, .inr (by simp only [setOf, no, or_false] at hx; omega)⟩).re hs8 (Nat.le_refl _) (fun x hx => .inl hx)
  · have hje : j = kids.length := by simp at hge; omega
    subst hje
    rw [List.drop_length, goneL, List.append_nil] at hg
    refine call_clip (clip68_c hB.cap) fun w3 hU3 => ?_
    have hs3 := hU3.size
    rw [← hg]
    refine ⟨Ao, n, n, At, rfl, ?_, ?_, hCU.step hU3 fun x hx => by simp only [setOf, no, or_false] at hx; omega⟩
    · exact hCt.upd hU3 (fun hS => by simp only [setOf, no, or_false] at hS; omega) (fun x hx hS => by
        simp only [setOf, no, or_false] at hS
        rcases hAt x hx with h | h
        · have := hAb x h; omega
        · omega)
    · refine NdsG.mono (nds_of ((hB.upd hU3 fun x hx => ⟨fun h => h, .inr (by simp only [setOf, no, or_false] at hx; omega)⟩).done (c' := n) (by omega) (.inl rfl))) fun x hx => ?_
      rcases hx with ⟨h, _⟩ | ⟨h1, h2, h3⟩
      · cases h
      · exact ⟨by omega, by omega, h3⟩
end
section
open Go Go.Vx Go.Proofs
theorem callClo {w : World} {X : ContX} {ids : List Nat} {b lo : Nat} {cs : List Int} {A : Option Addr} {h : Int} (hC : Cst w b lo cs A) (haw : Away ids (fun x => x = b ∨ blkOf A x))
    {K : Int → Bool → World → Prop} (k1 : ∀ w2, ((cs.length : Int) == 256) = true → Cst w2 b lo cs A → CU w w2 b A A → K 0 false w2)
    (k2 : ∀ w2 A2, ((cs.length : Int) == 256) = false → Cst w2 b lo (cs ++ [h]) A2 → CU w w2 b A A2 → K cs.length true w2) :
    ∃ (R : Value → World → Prop) (X' : ContX), CallsX E.P 31 #[.int .i64 h, .pointer (some ⟨b, 0, none⟩)] w R X' ∧ (∀ v w2, R v w2 → ∃ x4 x5, v = .tuple #[.int .i64 x4, .bool x5] ∧ ∃ S, Upd w w2 S ∧ Away ids S ∧ K x4 x5 w2) ∧ ∀ ch w2, X' ch w2 → X ch w2 := by
  refine ⟨_, _, clo_c h hC, fun v w2 hR => ?_, never_any⟩
  rcases hR with ⟨h1, rfl, h2, h3⟩ | ⟨h1, A2, rfl, h2, h3⟩
  · exact ⟨_, _, rfl, _, h3.1, haw, k1 w2 h1 h2 h3⟩
  · exact ⟨_, _, rfl, _, h3.1, haw, k2 w2 A2 h1 h2 h3⟩
theorem gone_c (N : Nat) (hN : N < 2 ^ 30) : ∀ (n : Nd), n.size ≤ N → ∀ {w : World} {F : Nat → Prop} {A' : Option Addr} {l c b lo : Nat} {cs : List Int} {A : Option Addr} (a r : Int), NdsR w F n.kids A' l c → Cst w b lo cs A → (∀ x, F x → x < w.heap.size ∧ x ≠ b ∧ ¬ blkOf A x) →
    CallsX E.P 30 #[ndA n A' l c, .int .i64 a, .int .i64 r, .func (.func 31) #[] #[.pointer (some ⟨b, 0, none⟩)]] w (GoneR b lo A w (gone n a r cs)) never := by
  induction N with
  | zero => intro n hn; cases n; simp [Nd.size] at hn
  | succ N ih =>
    intro n hn w F A' l c b lo cs A a r hr hC hF
    obtain ⟨k, v, s, kids⟩ := n
    have hkl : kids.length ≤ N := by have := Nd.len_sizes kids; simp only [Nd.size] at hn; omega
    have hh : ∀ {w1 : World}, Ext w w1 → CallsX E.P 51 #[ndA (.mk k v s kids) A' l c, .int .i64 a] w1 (IsV (.int .i64 (hangs a (.mk k v s kids))) w1) never := fun hE => hangs_c _ _ (Nat.le_refl _) a (hr.ext hE)
    have hcl : ∀ {w1 : World}, Ext w w1 → CallsX E.P 50 #[ndA (.mk k v s kids) A' l c] w1 (fun v' w' => ∃ A' l' c', v' = ndA (.mk k v s kids) A' l' c' ∧ NdsG w' true (Rng w1.heap.size w'.heap.size) kids A' l' c' ∧ Ext w1 w') never := fun hE => cloned_c _ hN _ hn (hr.ext hE)
    have kc : ∀ {w1 : World} {cs1 : List Int} {A1 : Option Addr} (a1 r1 : Int), CU w w1 b A A1 → Cst w1 b lo cs1 A1 → CallsX E.P 52 #[ndA (.mk k v s kids) A' l c, .int .i64 a1, .int .i64 r1, .func (.func 31) #[] #[.pointer (some ⟨b, 0, none⟩)]] w1 (GoneR b lo A1 w1 (fin k v s (goneL k a1 r1 0 kids cs1))) never := by
      intro w1 cs1 A1 a1 r1 hU hC1
      refine kidsH_c (by omega) (fun j hj => ih (by omega) _ (by have := kid_size hj; simp only [Nd.size] at hn; omega)) a1 r1 (hr.upd hU.1 fun x hx hS => ?_) hC1 fun x hx => ?_
      · have := hF x hx; rcases hS with h | h; exact this.2.1 h; exact this.2.2 h
      · have := hF x hx
        exact ⟨by have := hU.1.size; omega, this.2.1, fun h => by rcases hU.2 x h with h' | h'; exact this.2.2 h'; omega⟩
    obtain ⟨hb, hAb⟩ := hC.blk
    dsimp only [ndA, Nd.k, Nd.n, Nd.s, Nd.kids] at *
    obtain rfl := hr.len
    refine vc30 ?_
    intro id hid id1 hid1
    have haw : ∀ {w1 : World} {A1 : Option Addr}, CU w w1 b A A1 → (∀ x, blkOf A1 x → blkOf A x ∨ (x ≠ id ∧ x ≠ id1)) → Away [id, id1] (fun x => x = b ∨ blkOf A1 x) := by
      intro w1 A1 _ h
      refine away_of fun i hi hS => ?_
      simp only [List.mem_cons, List.not_mem_nil, or_false] at hi
      rcases hS with hS | hS
      · omega
      · rcases h i hS with h' | h'
        · have := hAb i h'; omega
        · omega
    have haw0 : Away [id, id1] (fun x => x = b ∨ blkOf A x) := haw (CU.ext (Upd.refl w _)) (fun _ h => .inl h)
    have up1 : ∀ {w5 w6 : World} {cs1 : List Int} {A2 : Option Addr}, Cst w5 b lo cs1 A2 → (∀ x, blkOf A2 x → blkOf A x ∨ (x ≠ id ∧ x ≠ id1)) → Upd w5 w6 (setOf [id1]) → Cst w6 b lo cs1 A2 := by
      intro w5 w6 cs1 A2 h h2 hU
      refine h.upd hU (fun hS => by simp only [setOf, no, or_false] at hS; omega) (fun x hx hS => ?_)
      simp only [setOf, no, or_false] at hS
      rcases h2 x hx with h' | h'
      · have := hAb x h'; omega
      · omega
    -- the ways that go through the kids alone
    have thru : ∀ {w1 : World} {cs1 : List Int} {A1 : Option Addr} (a1 r1 : Int) {K : Value → World → Prop} {X : ContX}, CU w w1 b A A1 → Cst w1 b lo cs1 A1 → id < w1.heap.size → id1 < w1.heap.size → (∀ x, blkOf A1 x → blkOf A x ∨ (x ≠ id ∧ x ≠ id1)) →
        (∀ w6 A5 l5 c5 A2, Cst w6 b lo (fin k v s (goneL k a1 r1 0 kids cs1)).2 A2 → NdsG w6 true (fun x => w1.heap.size ≤ x ∧ x < w6.heap.size ∧ ¬ blkOf A2 x) (goneL k a1 r1 0 kids cs1).1 A5 l5 c5 → CU w w6 b A A2 → K (ndA (fin k v s (goneL k a1 r1 0 kids cs1)).1 A5 l5 c5) w6) →
        ∃ (R : Value → World → Prop) (X' : ContX), CallsX E.P 52 #[.agg #[.int .i64 k, .int .i64 v, .string s, .slice A' kids.length c], .int .i64 a1, .int .i64 r1, .func (.func 31) #[] #[.pointer (some ⟨b, 0, none⟩)]] w1 R X' ∧
          (∀ v2 w2, R v2 w2 → ∃ x4 x5, ∃ x6 a2, ∃ n2 c2, v2 = .agg #[.int .i64 x4, .int .i64 x5, .string x6, .slice a2 n2 c2] ∧ ∃ S, Upd w1 w2 S ∧ Away [id, id1] S ∧ ∀ w13, Upd w2 w13 (setOf [id1]) → K (.agg #[.int .i64 x4, .int .i64 x5, .string x6, .slice a2 n2 c2]) w13) ∧ ∀ ch w2, X' ch w2 → X ch w2 := by
      intro w1 cs1 A1 a1 r1 K X hU hC1 hi1 hi2 hA1 hk
      refine callG (kc a1 r1 hU hC1) (haw hU hA1) fun A5 l5 c5 A2 w5 hC5 hN5 hU5 w6 hU6 => ?_
      have hs6 := hU6.size
      have hA2 : ∀ x, blkOf A2 x → blkOf A x ∨ (x ≠ id ∧ x ≠ id1) := fun x hx => by
        rcases hU5.2 x hx with h | h
        · exact hA1 x h
        · exact .inr (by omega)
      refine hk w6 A5 l5 c5 A2 (up1 hC5 hA2 hU6) ?_ ((hU.trans hU5).step hU6 fun x hx => by simp only [setOf, no, or_false] at hx; omega)
      exact (hN5.upd hU6 fun x hx hS => by simp only [setOf, no, or_false] at hS; omega).mono fun x hx => ⟨hx.1, by omega, hx.2.2⟩
    -- all three
    have all3 : ∀ {w1 : World} (hh2 : (k == 20 || k == 21) = true) (hk26 : (k == 26) = false), Ext w w1 → id < w1.heap.size → id1 < w1.heap.size →
        ∀ {X : ContX}, ∃ (R : Value → World → Prop) (X' : ContX), CallsX E.P 51 #[.agg #[.int .i64 k, .int .i64 v, .string s, .slice A' kids.length c], .int .i64 a] w1 R X' ∧ (∀ v1 w22, R v1 w22 → ∃ x3, v1 = .int .i64 x3 ∧ ∃ S, Upd w1 w22 S ∧ Away [id, id1] S ∧
          ((decide (x3 < r) = true → ∃ (R : Value → World → Prop) (X' : ContX), CallsX E.P 31 #[.int .i64 x3, .pointer (some ⟨b, 0, none⟩)] w22 R X' ∧ (∀ v2 w23, R v2 w23 → ∃ x4 x5, v2 = .tuple #[.int .i64 x4, .bool x5] ∧ ∃ S, Upd w22 w23 S ∧ Away [id, id1] S ∧
            ((x5 = true → ∃ (R : Value → World → Prop) (X' : ContX), CallsX E.P 52 #[.agg #[.int .i64 k, .int .i64 v, .string s, .slice A' kids.length c], .int .i64 a, .int .i64 x3, .func (.func 31) #[] #[.pointer (some ⟨b, 0, none⟩)]] w23 R X' ∧
              (∀ v3 w24, R v3 w24 → ∃ x6 x7, ∃ x8 a1, ∃ n1 c2, v3 = .agg #[.int .i64 x6, .int .i64 x7, .string x8, .slice a1 n1 c2] ∧ ∃ S, Upd w23 w24 S ∧ Away [id, id1] S ∧ ∀ id2, w24.heap.size ≤ id2 → ∀ w13, Upd w24 w13 (setOf [id1]) → id2 < w13.heap.size → w13.heap[id2]? = some (Obj.cells #[.int .i64 x6, .int .i64 x7, .string x8, .slice a1 n1 c2] 24) →
                GoneR b lo A w (gone (.mk k v s kids) a r cs) (.agg #[.int .i64 26, .int .i64 x4, .string (ByteArray.mk #[]), .slice (some ⟨id2, 0, none⟩) 1 1]) w13) ∧ ∀ ch w2, X' ch w2 → X ch w2) ∧
            (x5 = false → ∃ (R : Value → World → Prop) (X' : ContX), CallsX E.P 52 #[.agg #[.int .i64 k, .int .i64 v, .string s, .slice A' kids.length c], .int .i64 a, .int .i64 r, .func (.func 31) #[] #[.pointer (some ⟨b, 0, none⟩)]] w23 R X' ∧
              (∀ v3 w24, R v3 w24 → ∃ x6 x7, ∃ x8 a1, ∃ n1 c2, v3 = .agg #[.int .i64 x6, .int .i64 x7, .string x8, .slice a1 n1 c2] ∧ ∃ S, Upd w23 w24 S ∧ Away [id, id1] S ∧ ∀ w13, Upd w24 w13 (setOf [id1]) → GoneR b lo A w (gone (.mk k v s kids) a r cs) (.agg #[.int .i64 x6, .int .i64 x7, .string x8, .slice a1 n1 c2]) w13) ∧ ∀ ch w2, X' ch w2 → X ch w2))) ∧ ∀ ch w2, X' ch w2 → X ch w2) ∧
          (decide (x3 < r) = false → ∃ (R : Value → World → Prop) (X' : ContX), CallsX E.P 52 #[.agg #[.int .i64 k, .int .i64 v, .string s, .slice A' kids.length c], .int .i64 a, .int .i64 r, .func (.func 31) #[] #[.pointer (some ⟨b, 0, none⟩)]] w22 R X' ∧
              (∀ v3 w24, R v3 w24 → ∃ x6 x7, ∃ x8 a1, ∃ n1 c2, v3 = .agg #[.int .i64 x6, .int .i64 x7, .string x8, .slice a1 n1 c2] ∧ ∃ S, Upd w22 w24 S ∧ Away [id, id1] S ∧ ∀ w13, Upd w24 w13 (setOf [id1]) → GoneR b lo A w (gone (.mk k v s kids) a r cs) (.agg #[.int .i64 x6, .int .i64 x7, .string x8, .slice a1 n1 c2]) w13) ∧ ∀ ch w2, X' ch w2 → X ch w2))) ∧ ∀ ch w2, X' ch w2 → X ch w2 := by
      intro w1 hh2 hk26 hE hi1 hi2 X
      refine callI (hh hE) fun w2 hE2 => ?_
      have hs2 := hE2.size
      have hU2 : CU w w2 b A A := CU.ext (hE.trans hE2)
      have hC2 := hC.ext (hE.trans hE2)
      have hsw := (hE.trans hE2).size
      refine ⟨fun h3 => ?_, fun h3 => ?_⟩
      · refine callClo hC2 haw0 (fun w3 h4 hC3 hU3 => ⟨fun h => (nomatch h), fun _ => ?_⟩) (fun w3 A2 h4 hC3 hU3 => ⟨fun _ => ?_, fun h => (nomatch h)⟩)
        · have hs3 := hU3.1.size
          refine thru a r (hU2.trans hU3) hC3 (by omega) (by omega) (fun _ h => .inl h) fun w6 A5 l5 c5 A2 q1 q2 q3 => ?_
          have hg : gone (.mk k v s kids) a r cs = fin k v s (goneL k a r 0 kids cs) := by
            rw [gone]; simp only [hk26, h4, Bool.not_true, Bool.and_false, Bool.false_eq_true, if_false]
          rw [hg]
          exact ⟨A5, l5, c5, A2, rfl, q1, q2.mono fun x hx => ⟨by omega, hx.2⟩, q3⟩
        · have hs3 := hU3.1.size
          have hA2 : ∀ x, blkOf A2 x → blkOf A x ∨ (x ≠ id ∧ x ≠ id1) := fun x hx => by
            rcases hU3.2 x hx with h | h
            · exact .inl h
            · exact .inr (by omega)
          refine callG (kc a _ (hU2.trans hU3) hC3) (haw (hU2.trans hU3) hA2) fun A5 l5 c5 A6 w5 hC5 hN5 hU5 id2 hid2 w6 hU6 hid26 hcell => ?_
          have hs5 := hU5.1.size
          have hs6 := hU6.size
          have hg : gone (.mk k v s kids) a r cs = celled cs.length (fin k v s (goneL k a (hangs a (.mk k v s kids)) 0 kids (cs ++ [hangs a (.mk k v s kids)]))) := by
            rw [gone]; simp only [hk26, h4, hh2, h3, Bool.not_false, Bool.and_self, Bool.false_eq_true, if_false, if_true]
          rw [hg]
          have hA6 : ∀ x, blkOf A6 x → blkOf A x ∨ (x ≠ id ∧ x ≠ id1) := fun x hx => by
            rcases hU5.2 x hx with h | h
            · exact hA2 x h
            · exact .inr (by omega)
          have hN6 : NdsG w6 true (fun x => w3.heap.size ≤ x ∧ x < w5.heap.size ∧ ¬ blkOf A6 x) (fin k v s (goneL k a (hangs a (.mk k v s kids)) 0 kids (cs ++ [hangs a (.mk k v s kids)]))).1.kids A5 l5 c5 := hN5.upd hU6 fun x hx hS => by simp only [setOf, no, or_false] at hS; omega
          refine ⟨_, _, _, A6, rfl, up1 hC5 hA6 hU6, (nds_one hN6 hcell (fun _ h => by omega)).mono fun x hx => ?_, ((hU2.trans hU3).trans hU5).step hU6 fun x hx => by simp only [setOf, no, or_false] at hx; omega⟩
          rcases hx with rfl | hx
          · exact ⟨by omega, hid26, fun h => by have := (hC5.blk.2 x h).1; omega⟩
          · exact ⟨by omega, by omega, hx.2.2⟩
      · refine thru a r hU2 hC2 (by omega) (by omega) (fun _ h => .inl h) fun w6 A5 l5 c5 A2 q1 q2 q3 => ?_
        have hg : gone (.mk k v s kids) a r cs = fin k v s (goneL k a r 0 kids cs) := by
          rw [gone]; simp only [hk26, h3, Bool.false_and, Bool.and_false, Bool.false_eq_true, if_false]
        rw [hg]
        exact ⟨A5, l5, c5, A2, rfl, q1, q2.mono fun x hx => ⟨by omega, hx.2⟩, q3⟩
    refine ⟨fun h1 w1 hE hi1 hi2 => ?_, fun h1 => ⟨fun h2 w1 hE hi1 hi2 => ?_, fun h2 => ⟨fun h3 w1 hE hi1 hi2 => ?_, fun h3 w1 hE hi1 hi2 => ?_⟩⟩⟩
    · refine callN (n := .mk k v s kids) (T := fun w' A l c => NdsG w' true (Rng w1.heap.size w'.heap.size) kids A l c) (hcl hE) fun A2 l2 c2 w2 hE2 q w3 hU3 => ?_
      have hs := hE.size
      have hs2 := hE2.size
      have hs3 := hU3.size
      rw [gone, if_pos h1]
      refine ⟨A2, l2, c2, A, rfl, up1 (hC.ext (hE.trans hE2)) (fun _ h => .inl h) hU3, ?_, (CU.ext (hE.trans hE2)).step hU3 fun x hx => by simp only [setOf, no, or_false] at hx; omega⟩
      exact (q.upd hU3 fun x hx hS => by have := hx.1; simp only [setOf, no, or_false] at hS; omega).mono fun x hx => ⟨by have := hx.1; omega, by have := hx.2; omega, fun h => by have := hAb x h; have := hx.1; omega⟩
    · exact all3 (by rw [h2]; rfl) h1 hE hi1 hi2
    · exact all3 (by rw [h3, Bool.or_true]) h1 hE hi1 hi2
    · refine thru a r (CU.ext hE) (hC.ext hE) hi1 hi2 (fun _ h => .inl h) fun w6 A5 l5 c5 A2 q1 q2 q3 => ?_
      have hg : gone (.mk k v s kids) a r cs = fin k v s (goneL k a r 0 kids cs) := by
        rw [gone]; simp only [h1, h2, h3, Bool.or_self, Bool.false_and, Bool.false_eq_true, if_false]
      have hs := hE.size
      rw [hg]
      exact ⟨A5, l5, c5, A2, rfl, q1, q2.mono fun x hx => ⟨by omega, hx.2⟩, q3⟩
end
end Go.Vx.Tryz
namespace Go.Vx
open Go
section
theorem RowB.doneF {α : Type} {z : Nat} {enc : α → List Value} {h1 : ∀ x, (enc x).length = z} {h2 : ∀ x, ∀ u ∈ enc x, u.oneCell' = true} {ty : Nat} {w : World} {o : Bool} {lo top : Nat} {G E : Nat → Prop} {xs : List α} {A : Option Addr} {l c : Nat}
    (h : RowB (flatRel enc h1 h2) ty w o lo top G E xs A l c) (hl : l < 2 ^ 48) : RowsG (flatRel enc h1 h2) ty w true (blkOf A) xs A l l := by
  obtain ⟨rows, Fs, q1, q2, q3, q4, q5, q6, q7, q8, q9, q10, q11⟩ := h
  have hr := owns_row q1 q2 q3 hl (F := blkOf A) (fun b hb => hb)
  refine ⟨rows, fun _ _ => False, ⟨hr.len, Nat.le_refl _, hr.lt, hr.els, hr.at_⟩, q4, q5, fun _ _ _ h => h.elim, fun _ => ⟨⟨rfl, ?_⟩, fun _ _ _ h => h.elim, fun _ _ _ _ _ h => h.elim⟩⟩
  rcases q1.2 with ⟨he, h0⟩ | ⟨g, cap, cur, he, hg, hh, hcc, hm, hsz, ht⟩
  · exact .inl (List.length_eq_zero_iff.1 (by omega))
  · cases he
    exact .inr ⟨g, cur, rfl, hh, by rw [flatten_len q2, ← q3]; exact ht⟩
theorem RowsG.updF {α : Type} {z : Nat} {enc : α → List Value} {h1 : ∀ x, (enc x).length = z} {h2 : ∀ x, ∀ u ∈ enc x, u.oneCell' = true} {ty : Nat} {w w' : World} {o : Bool} {F S : Nat → Prop} {xs : List α} {A : Option Addr} {l c : Nat}
    (h : RowsG (flatRel enc h1 h2) ty w o F xs A l c) (k : Upd w w' S) (hs : ∀ b, F b → ¬ S b) : RowsG (flatRel enc h1 h2) ty w' o F xs A l c := by
  obtain ⟨rows, Fs, q1, q2, q3, q4, q5⟩ := h
  refine ⟨rows, Fs, q1.upd k hs, q2, q3, q4, fun ho => ?_⟩
  obtain ⟨r1, r2, r3⟩ := q5 ho
  refine ⟨r1.upd k fun b hne hb => ?_, r2, r3⟩
  obtain ⟨ad, e1, e2, _⟩ := q1.at_ hne
  subst e1; cases hb
  exact hs _ e2
end
end Go.Vx
namespace Go.Vx.Tryz
open Go Go.Vx Go.Proofs
section
def PlO (w : World) (F G : Nat → Prop) (p : Pl) (A : Option Addr) (l c : Nat) (B : Option Addr) (bl bc : Nat) : Prop :=
  NdsG w true F p.root.kids A l c ∧ RowsG intRel 3 w true G p.cells B bl bc ∧ ∀ x, F x → ¬ G x
def hoistP (p : Pl) (right : Bool) : Pl × Int := if right then (⟨(gone p.root 0 0 p.cells).1, (gone p.root 0 0 p.cells).2⟩, 0) else (⟨.mk 0 0 (ByteArray.mk #[]) [], []⟩, 140)
theorem nds_nil {w : World} {F : Nat → Prop} : NdsG w true F [] none 0 0 :=
  ⟨[], fun _ _ => False, ⟨rfl, Nat.le_refl _, by omega, by simp, fun h => absurd rfl h⟩, rfl, by simp, by simp, fun _ => ⟨⟨rfl, .inl rfl⟩, by simp, by simp⟩⟩
theorem intsO_nil {w : World} {F : Nat → Prop} : RowsG intRel 3 w true F [] none 0 0 :=
  ⟨[], fun _ _ => False, ⟨rfl, Nat.le_refl _, by omega, by simp, fun h => absurd rfl h⟩, rfl, by simp, by simp, fun _ => ⟨⟨rfl, .inl rfl⟩, by simp, by simp⟩⟩
theorem hoist_c (p : Pl) (right : Bool) (hle : right = true → p.cells.length ≤ 256) (hN : p.root.size < 2 ^ 30) {w : World} {F G : Nat → Prop} {A : Option Addr} {l c : Nat} {B : Option Addr} {bl bc : Nat} (h : NdsR w F p.root.kids A l c) (h2 : IntsR w G p.cells B bl bc) (hF : ∀ x, F x → x < w.heap.size)
    (hR : ∀ w', Ext w w' → CallsX E.P 28 #[plA p A l c B bl bc] w' (IsV (.bool right) w') never) :
    CallsX E.P 12 #[plA p A l c B bl bc] w (fun v w' => ∃ A l c B bl bc F G, v = .tuple #[plA (hoistP p right).1 A l c B bl bc, .int .i64 (hoistP p right).2] ∧ PlO w' F G (hoistP p right).1 A l c B bl bc ∧ (∀ x, F x ∨ G x → w.heap.size ≤ x ∧ x < w'.heap.size) ∧ Ext w w') never := by
  refine vc12 ?_
  intro id hid id1 hid1 w1 hE1 hi hi1
  have hs1 := hE1.size
  refine callB (hR w1 hE1) fun w2 hE2 => ⟨fun hx w3 hU3 => ?_, fun hx => ?_⟩
  · have hx' : right = false := by simpa using hx
    rw [hx']
    exact ⟨_, _, _, _, _, _, no, no, rfl, ⟨nds_nil, intsO_nil, fun _ h => h.elim⟩, fun x h => by rcases h with h | h <;> exact h.elim, Upd.step (hE1.trans hE2) hU3 fun x hx => by simp only [setOf, no, or_false] at hx; omega⟩
  · have hx' : right = true := by simpa using hx
    have hle' := hle hx'
    have hbl := h2.len
    have hs2 := hE2.size
    refine callS (clone_c p.cells (h2.ext (hE1.trans hE2)) (by omega)) fun A2 l2 c2 w3 hE3 hB3 id2 hid2 w4 hE4 hi4 hcell => ?_
    have hs3 := hE3.size
    have hs4 := hE4.size
    have hl2 := hB3.len
    have hC : Cst w4 id2 w2.heap.size p.cells A2 := ⟨hle', l2, c2, hcell, RowB.updF (hB3.re (E' := fun x => x = id2) (Nat.le_refl _) (Nat.le_refl _) (fun x hx => .inr (by rw [hx]; exact hid2))) hE4 (fun _ _ h => h)⟩
    have hE04 := ((hE1.trans hE2).trans hE3).trans hE4
    have hA2 : ∀ x, blkOf A2 x → w2.heap.size ≤ x ∧ x < w3.heap.size := fun x hx => by have := hB3.blk hx; exact ⟨this.1, this.2.1⟩
    refine ⟨_, never, gone_c _ hN p.root (Nat.le_refl _) 0 0 (h.ext hE04) hC fun x hx => ?_, ?_, never_any⟩
    · have := hF x hx
      exact ⟨by omega, by omega, fun h => by have := hA2 x h; omega⟩
    rintro v w5 ⟨A5, l5, c5, A6, rfl, hC5, hN5, hU5⟩
    have hs5 := hU5.1.size
    obtain ⟨hl5, l6, c6, hcell5, hB5⟩ := hC5
    refine ⟨_, _, _, _, _, _, rfl, _, hU5.1, away_of fun i hi' hS => ?_, A6, l6, c6, hcell5, rfl, fun id3 hid3 w6 hE6 hi6 => ?_⟩
    · simp only [List.mem_cons, List.not_mem_nil, or_false] at hi'
      rcases hS with hS | hS
      · omega
      · have := hA2 i hS; omega
    · have hs6 := hE6.size
      have hcap := hB5.cap
      refine call_clip (clip32_c hcap) fun w7 hU7 => ?_
      have hs7 := hU7.size
      have hA6 : ∀ x, blkOf A6 x → w2.heap.size ≤ x ∧ x < w5.heap.size := fun x hx => by have := hB5.blk hx; exact ⟨this.1, this.2.1⟩
      have hE7 : Ext w w7 := by
        refine Upd.step ((Upd.step hE04 hU5.1 fun x hx => ?_).trans hE6) hU7 fun x hx => by simp only [setOf, no, or_false] at hx; omega
        rcases hx with hx | hx
        · omega
        · have := hA2 x hx; omega
      have hl6 := hB5.len
      rw [hx']
      have hd := RowB.doneF hB5 (by omega)
      refine ⟨A5, l5, c5, A6, l6, l6, _, blkOf A6, rfl, ⟨(hN5.ext hE6).upd hU7 fun x hx hS => by simp only [setOf, no, or_false] at hS; omega, (hd.updF hE6 (no_no _)).updF hU7 fun x hx hS => ?_, fun x hx => hx.2.2⟩, fun x hx => ?_, hE7⟩
      · have := hA6 x hx; simp only [setOf, no, or_false] at hS; omega
      · rcases hx with hx | hx
        · omega
        · have := hA6 x hx; omega
theorem Over_c (p : Pl) (hN : p.root.size < 2 ^ 30) {w : World} {F G : Nat → Prop} {A : Option Addr} {l c : Nat} {B : Option Addr} {bl bc : Nat} (h : PlO w F G p A l c B bl bc) (hF : ∀ x, F x ∨ G x → x < w.heap.size) (hs : bl < 2 ^ 30) :
    CallsX E.P 15 #[plA p A l c B bl bc] w (fun v w' => v = .tuple #[] ∧ Upd w w' (fun x => F x ∨ G x)) never := by
  obtain ⟨h1, h2, h3⟩ := h
  refine vc15 ?_
  intro id hid w1 hE1 hid1
  have hs1 := hE1.size
  refine ⟨_, never, over_c _ hN p.root (Nat.le_refl _) (h1.ext hE1) (fun x hx => by have := hF x (.inl hx); omega), ?_, never_any⟩
  rintro v w2 ⟨rfl, hU2⟩
  refine ⟨_, rfl, _, hU2, ⟨⟨fun hx => by have := hF id (.inl hx); omega, trivial⟩⟩, ?_⟩
  have hR2 := (RowsG.updF h2 hE1 (no_no _)).updF hU2 (fun x hx hS => h3 x hS hx)
  have hs2 := hU2.size
  have hU02 : Upd w w2 (fun x => F x ∨ G x) := (hE1.trans'' (F := fun x => F x ∨ G x)).trans' hU2 (fun x hx => .inl hx)
  obtain ⟨rows, Fs, g1, g2, g3, g4, g5⟩ := hR2
  obtain ⟨⟨rfl, q1⟩, q2, q3⟩ := g5 rfl
  have hAG : ∀ x, rows ≠ [] → blkOf B x → G x := fun b hne hb => by
    obtain ⟨ad, e1, e2, _⟩ := g1.at_ hne
    subst e1; cases hb; exact e2
  have hlen := g1.len
  refine ⟨fun x w3 => ∃ j : Nat, x = j ∧ j ≤ bc ∧ Upd w w3 (fun x => F x ∨ G x) ∧ w2.heap.size ≤ w3.heap.size ∧ (rows ≠ [] → ∃ g cur, B = some ⟨g, 0, none⟩ ∧ w3.heap[g]? = some (.cells cur 3 (0, 0)) ∧ bc ≤ cur.size), fun x => ((bc : Int) - x).toNat,
    ⟨0, rfl, Nat.zero_le _, hU02, Nat.le_refl _, fun hne => ?_⟩, ?_⟩
  · rcases q1 with q1 | ⟨g, cur, rfl, hh, ht⟩
    · exact absurd q1 hne
    · refine ⟨g, cur, rfl, hh, ?_⟩
      have := congrArg List.length ht
      rw [flatten_len g1.els] at this
      simp only [List.length_take, Array.length_toList] at this
      omega
  rintro _ x w3 ⟨j, rfl, hj, hU3, hs3, hR3⟩
  refine ⟨fun hlt => ?_, fun hge => ?_⟩
  · have hjl : j < bc := by simp at hlt; omega
    have hne : rows ≠ [] := fun he => by rw [he] at hlen; simp at hlen; omega
    obtain ⟨g, cur, rfl, hh, hsz⟩ := hR3 hne
    have hG := hAG g hne rfl
    have hjt : Int.toNat (j : Int) = j := by omega
    refine ⟨by omega, _, rfl, ?_⟩
    rw [add_plain, hjt, Nat.zero_add, Nat.mul_one]
    refine ⟨_, store_at sl25 (v := .int .i64 (-9)) (vs := [.int .i64 (-9)]) hh rfl rfl (by omega) rfl, ?_⟩
    rintro w4 ⟨hh4, hs4, hU4⟩
    refine ⟨_, hU4, ⟨⟨fun hS => by have := hF g (.inr hG); omega, trivial⟩⟩, ?_⟩
    rw [w64_succ (by omega)]
    exact ⟨⟨j + 1, rfl, hjl, hU3.trans' hU4 (fun x hx => .inr (by rw [hx]; exact hG)), by omega, fun _ => ⟨g, _, rfl, hh4, by simpa [setAt_length] using hsz⟩⟩, mea_succ hjl⟩
  · have hje : j = bc := by simp at hge; omega
    clear hge
    subst hje
    intro id1 hid2 w4 hE4 hid3 hcell
    have hs4 := hE4.size
    have hcells : ∃ olds : List Value, olds.length = j * 1 ∧ ∀ ad, B = some ad → CellsIn w4 ad olds := by
      by_cases hne : rows = []
      · have h0 : j = 0 := by rw [hlen, hne]; rfl
        exact ⟨[], by rw [h0]; rfl, fun ad _ => ⟨fun j c h => nomatch h⟩⟩
      · obtain ⟨g, cur, rfl, hh, hsz⟩ := hR3 hne
        refine ⟨cur.toList.take (j * 1), by simp; omega, fun ad ha => ⟨fun i u hi => ?_⟩⟩
        cases ha
        have hh4 : w4.heap[g]? = some (.cells cur 3 (0, 0)) := by rw [hE4.keep g (lt_of_get hh) (fun h => h)]; exact hh
        rw [add_plain]
        simp only [World.cell?, hh4, Nat.zero_add]
        rw [List.getElem?_take] at hi
        split at hi
        · rw [← Array.getElem?_toList]; exact hi
        · cases hi
    obtain ⟨olds, ho1, ho2⟩ := hcells
    refine ⟨_, append_grows sl25 (fun hA => ?_) ho1 ho2 (news := [.int .i64 (-8)]) rfl (cells_new hcell) (fun u hu => by cases List.mem_singleton.1 hu; rfl) (by omega), ?_⟩
    · by_cases hne : rows = []
      · rw [hlen, hne]; rfl
      · obtain ⟨g, cur, e, _⟩ := hR3 hne
        rw [hA] at e; cases e
    rintro v w5 ⟨g, c', rfl, hg, ⟨cur, hh5, hsz⟩, hE5⟩
    have hs5 := hE5.size
    have hw : w64 (((j + 1 : Nat) : Int) - 1) = (j : Int) := by
      have : ((j + 1 : Nat) : Int) - 1 = j := by omega
      rw [this, w64_id (by omega) (by omega)]
    refine ⟨_, _, _, rfl, no, hE5, Away.no _, ?_⟩
    rw [hw]
    refine ⟨by omega, ⟨g, 0, none⟩, rfl, fun _ => ?_⟩
    have hjt : Int.toNat (j : Int) = j := by omega
    rw [add_plain, hjt]
    refine ⟨_, store_at sl25 (v := .int .i64 1) (vs := [.int .i64 1]) hh5 rfl rfl (by omega) rfl, ?_⟩
    rintro w6 ⟨hh6, hs6, hU6⟩
    refine ⟨_, hU6, ⟨⟨fun hS => by omega, fun hS => by omega, trivial⟩⟩, fun _ => ⟨rfl, ?_⟩⟩
    have hsz3 := hU3.size
    refine ⟨hU6.os.trans (hE5.os.trans (hE4.os.trans hU3.os)), hU6.tape.trans (hE5.tape.trans (hE4.tape.trans hU3.tape)), hU6.output.trans (hE5.output.trans (hE4.output.trans hU3.output)), by omega, fun k hk hS => ?_⟩
    rw [hU6.keep k (by omega) (fun h => by omega), hE5.keep k (by omega) (fun h => h), hE4.keep k (by omega) (fun h => h), hU3.keep k hk hS]
end
section
open Go Go.Vx Go.Proofs
def PartR (b lo : Nat) (F : Nat → Prop) (A : Option Addr) (w : World) (p : Nd × List Int) : Value → World → Prop := fun v w' => ∃ A1 l1 c1 A2, v = ndA p.1 A1 l1 c1 ∧ CstT 48 w' b lo p.2 A2 ∧
  NdsR w' (fun x => F x ∨ (w.heap.size ≤ x ∧ x < w'.heap.size ∧ ¬ blkOf A2 x)) p.1.kids A1 l1 c1 ∧ CU w w' b A A2
theorem callP {f : Nat} {args : Array Value} {w : World} {X : ContX} {ids : List Nat} {b lo : Nat} {F : Nat → Prop} {A : Option Addr} {p : Nd × List Int} (h : CallsX E.P f args w (PartR b lo F A w p) never) (haw : Away ids (fun x => x = b ∨ blkOf A x))
    {K : Int → Int → ByteArray → Option Addr → Nat → Nat → Option Addr → Nat → Nat → World → Prop} (k : ∀ A1 l1 c1 A2 l2 c2 w2, w2.heap[b]? = some (.cells #[.slice A2 l2 c2] 48 (0, 0)) → p.2.length ≤ 256 → RowB intRel 3 w2 true lo w2.heap.size no (fun x => x = b) p.2 A2 l2 c2 →
      NdsR w2 (fun x => F x ∨ (w.heap.size ≤ x ∧ x < w2.heap.size ∧ ¬ blkOf A2 x)) p.1.kids A1 l1 c1 → CU w w2 b A A2 → K p.1.k p.1.n p.1.s A1 l1 c1 A2 l2 c2 w2) :
    ∃ (R : Value → World → Prop) (X' : ContX), CallsX E.P f args w R X' ∧ (∀ v w2, R v w2 → ∃ x4 x5, ∃ x6 a2, ∃ n2 c2, v = .agg #[.int .i64 x4, .int .i64 x5, .string x6, .slice a2 n2 c2] ∧ ∃ S, Upd w w2 S ∧ Away ids S ∧ ∃ a5 n4 c5, w2.heap[b]? = some (Obj.cells #[.slice a5 n4 c5] 48) ∧ 1 = 1 ∧ K x4 x5 x6 a2 n2 c2 a5 n4 c5 w2) ∧ ∀ ch w2, X' ch w2 → X ch w2 :=
  ⟨_, _, h, fun _ w2 ⟨A1, l1, c1, A2, hv, ⟨hle, l, c, hh, hB⟩, hN, hU⟩ => ⟨_, _, _, _, _, _, hv, _, hU.1, haw, A2, l, c, hh, rfl, k A1 l1 c1 A2 l c w2 hh hle hB hN hU⟩, never_any⟩
theorem kidsP_c {k v : Int} {s : ByteArray} {kids : List Nd} (hkl : kids.length < 2 ^ 30)
    (ih : ∀ (j : Nat) (_ : j < kids.length) {w : World} {F : Nat → Prop} {A' : Option Addr} {l c b lo : Nat} {cs : List Int} {A : Option Addr} (a r : Int), NdsR w F kids[j].kids A' l c → CstT 48 w b lo cs A → (∀ x, F x → x < w.heap.size ∧ x ≠ b ∧ ¬ blkOf A x) →
      CallsX E.P 26 #[.pointer (some ⟨b, 0, none⟩), ndA kids[j] A' l c, .int .i64 a, .int .i64 r] w (PartR b lo F A w (part kids[j] a r cs)) never)
    {w : World} {F : Nat → Prop} {A' : Option Addr} {l c b lo : Nat} {cs : List Int} {A : Option Addr} (a r : Int) (hr : NdsR w F kids A' l c) (hC : CstT 48 w b lo cs A) (hF : ∀ x, F x → x < w.heap.size ∧ x ≠ b ∧ ¬ blkOf A x) :
    CallsX E.P 48 #[.pointer (some ⟨b, 0, none⟩), ndA (.mk k v s kids) A' l c, .int .i64 a, .int .i64 r] w (PartR b lo F A w (fin k v s (partL k a r 0 kids cs))) never := by
  obtain rfl := hr.len
  obtain ⟨hb, hAb⟩ := hC.blk
  obtain ⟨hle, lc, cc, hh, hBc⟩ := hC
  dsimp only [ndA, Nd.k, Nd.n, Nd.s, Nd.kids]
  refine vc48 hh ?_
  intro id hid id1 hid1 id2 hid2 w1 hE h1 h2 h3
  have hs := hE.size
  refine ⟨fun i Ac nc kc Ao n co w2 => ∃ (j : Nat) (sd : List Nd) (ct : List Int), i = j ∧ j ≤ kids.length ∧ (sd ++ (partL k a r j (kids.drop j) ct).1, (partL k a r j (kids.drop j) ct).2) = partL k a r 0 kids cs ∧
      NdsB w2 false w1.heap.size w2.heap.size F (blkOf Ac) sd Ao n co ∧ (ct.length ≤ 256 ∧ RowB intRel 3 w2 true lo w2.heap.size no (fun x => x = b) ct Ac nc kc) ∧ CU w w2 b A Ac ∧ (∀ x, blkOf Ac x → blkOf A x ∨ w1.heap.size ≤ x) ∧ w1.heap.size ≤ w2.heap.size ∧ sd.length = j,
    fun i _ _ _ _ _ _ => ((kids.length : Int) - i).toNat, ⟨0, [], cs, rfl, Nat.zero_le _, by simp, RowB.nil (fun x hx => by have := hF x hx; omega) (Nat.le_refl _), ⟨hle, RowB.updF hBc hE (fun _ _ h => h)⟩, CU.ext hE, fun _ h => .inl h, Nat.le_refl _, rfl⟩, ?_⟩
  rintro _ _ Ac nc kc Ao n co w2 ⟨j, sd, ct, rfl, hj, hg, hB, ⟨hct, hBt⟩, hCU, hAt, hs12, hsd⟩
  have hl := hB.len
  have hlo := hB.los
  refine ⟨fun hlt id3 hid3 => ?_, fun hge => ?_⟩
  · have hjl : j < kids.length := by simp at hlt; omega
    have hrr : NdsR w2 F kids A' kids.length c := hr.upd hCU.1 fun x hx hS => by have := hF x hx; rcases hS with h | h; exact this.2.1 h; exact this.2.2 h
    rw [drop_cons hjl, partL] at hg
    generalize hy : part kids[j] (if k == 21 && (j : Int) == 1 then w64 (a + 1) else a) (if k == 21 && (j : Int) == 1 then w64 (a + 1) else r) ct = y at hg
    have hle5 : ∀ {w4 w5 : World} {A1 : Option Addr} {l1 c1 : Nat} (a' r' : Int), a' = (if k == 21 && (j : Int) == 1 then w64 (a + 1) else a) → r' = (if k == 21 && (j : Int) == 1 then w64 (a + 1) else r) → Ext w2 w4 → id3 < w4.heap.size → NdsR w4 F kids[j].kids A1 l1 c1 → w4.heap[b]? = some (Obj.cells #[.slice Ac nc kc] 48) →
        ∀ {X : ContX} {K : Int → Int → ByteArray → Option Addr → Nat → Nat → Option Addr → Nat → Nat → World → Prop}, (∀ A2 l2 c2 A3 l3 c3 w12, y.2.length ≤ 256 → RowB intRel 3 w12 true lo w12.heap.size no (fun x => x = b) y.2 A3 l3 c3 → NdsB w12 false w1.heap.size w4.heap.size F (blkOf A3) sd Ao n co →
          NdsR w12 (fun x => F x ∨ (w4.heap.size ≤ x ∧ x < w12.heap.size ∧ ¬ blkOf A3 x)) y.1.kids A2 l2 c2 → CU w w12 b A A3 → (∀ x, blkOf A3 x → blkOf A x ∨ w1.heap.size ≤ x) → w4.heap.size ≤ w12.heap.size → K y.1.k y.1.n y.1.s A2 l2 c2 A3 l3 c3 w12) →
        ∃ (R : Value → World → Prop) (X' : ContX), CallsX E.P 26 #[.pointer (some ⟨b, 0, none⟩), ndA kids[j] A1 l1 c1, .int .i64 a', .int .i64 r'] w4 R X' ∧ (∀ v w2, R v w2 → ∃ x4 x5, ∃ x6 a2, ∃ n2 c2, v = .agg #[.int .i64 x4, .int .i64 x5, .string x6, .slice a2 n2 c2] ∧ ∃ S, Upd w4 w2 S ∧ Away [id, id1, id2, id3] S ∧ ∃ a5 n4 c5, w2.heap[b]? = some (Obj.cells #[.slice a5 n4 c5] 48) ∧ 1 = 1 ∧ ∀ w12, Upd w2 w12 (setOf [id3]) → K x4 x5 x6 a2 n2 c2 a5 n4 c5 w12) ∧ ∀ ch w2, X' ch w2 → X ch w2 := by
      intro w4 w5 A1 l1 c1 a' r' e1 e2 hE4 hi4 q1 hh4 X K hK
      have hs24 := hE4.size
      have hcall := ih j hjl a' r' (lo := lo) (A := Ac) q1 ⟨hct, nc, kc, hh4, RowB.updF hBt hE4 (fun _ _ h => h)⟩ fun x hx => by
        have := hF x hx
        exact ⟨by omega, this.2.1, fun h => by rcases hAt x h with h' | h'; exact this.2.2 h'; omega⟩
      rw [e1, e2, hy, ← e1, ← e2] at hcall
      refine callP hcall (away_of fun i hi hS => ?_) fun A2 l2 c2 A3 l3 c3 w5 hh5 hle5 hB5 hN5 hU5 w12 hU12 => ?_
      · simp only [List.mem_cons, List.not_mem_nil, or_false] at hi
        have hi' : w.heap.size ≤ i ∧ (i < w1.heap.size ∨ w2.heap.size ≤ i) := by rcases hi with rfl | rfl | rfl | rfl <;> omega
        rcases hS with hS | hS
        · omega
        · rcases hAt i hS with h' | h'
          · have := hAb i h'; omega
          · have := (hBt.blk hS).2.1; omega
      · have hs5 := hU5.1.size
        have hs12' := hU12.size
        have hA3 : ∀ x, blkOf A3 x → blkOf A x ∨ w1.heap.size ≤ x := fun x hx => by
          rcases hU5.2 x hx with h | h
          · exact hAt x h
          · exact .inr (by omega)
        have hA3' : ∀ x, blkOf A3 x → x ≠ id3 := fun x hx => by
          rcases hU5.2 x hx with h | h
          · have := (hBt.blk h).2.1; omega
          · omega
        refine hK A2 l2 c2 A3 l3 c3 w12 hle5 (RowB.updF hB5 hU12 fun x hx hS => ?_) ?_ ((hN5.upd hU12 fun x hx hS => ?_).mono fun x hx => ?_) (((hCU.trans (CU.ext hE4)).trans hU5).step hU12 fun x hx => ?_) hA3 (by omega)
        · simp only [setOf, no, or_false] at hS; exact hA3' x hx hS
        · refine (((hB.ext hE4).upd hU5.1 fun x hx => ⟨fun h => ?_, ?_⟩).upd hU12 fun x hx => ⟨fun h => ?_, .inr ?_⟩).re hs24 (by omega) fun x hx => ?_
          · have := hF x h
            rcases hx with h' | h'
            · exact this.2.1 h'
            · rcases hAt x h' with h'' | h''
              · exact this.2.2 h''
              · omega
          · rcases hx with h | h
            · exact .inr (by omega)
            · exact .inl h
          · have := hF x h; simp only [setOf, no, or_false] at hx; omega
          · simp only [setOf, no, or_false] at hx; omega
          · rcases hU5.2 x hx with h | h
            · exact .inl h
            · exact .inr (by omega)
        · simp only [setOf, no, or_false] at hS
          rcases hx with h | h
          · have := hF x h; omega
          · omega
        · rcases hx with h | h
          · exact .inl h
          · exact .inr ⟨h.1, by omega, h.2.2⟩
        · simp only [setOf, no, or_false] at hx; omega
    refine ⟨fun Ac' nc' kc' x4 x5 x6 A2 l2 c2 w12 => (x4 = y.1.k ∧ x5 = y.1.n ∧ x6 = y.1.s) ∧ ∃ top, w2.heap.size ≤ top ∧ id3 < top ∧ y.2.length ≤ 256 ∧ RowB intRel 3 w12 true lo w12.heap.size no (fun x => x = b) y.2 Ac' nc' kc' ∧ NdsB w12 false w1.heap.size top F (blkOf Ac') sd Ao n co ∧
        NdsR w12 (fun x => F x ∨ (top ≤ x ∧ x < w12.heap.size ∧ ¬ blkOf Ac' x)) y.1.kids A2 l2 c2 ∧ CU w w12 b A Ac' ∧ (∀ x, blkOf Ac' x → blkOf A x ∨ w1.heap.size ≤ x) ∧ top ≤ w12.heap.size, ?_, ?_⟩
    · refine ⟨fun h5 => ⟨fun h6 => ?_, fun h6 => ?_⟩, fun h5 => ?_⟩
      all_goals
        refine hrr.idx hjl fun ad ha w4 hE4 hi4 => (hrr.ext hE4).cell ha hjl fun A1 l1 c1 q1 hh4 => ?_
        have hs4 := hE4.size
      · exact hle5 (w5 := w4) (w64 (a + 1)) (w64 (a + 1)) (by simp only [h5, h6, Bool.and_self, if_true]) (by simp only [h5, h6, Bool.and_self, if_true]) hE4 hi4 q1 hh4
          fun A2 l2 c2 A3 l3 c3 w12 r1 r2 r3 r4 r5 r6 r7 => ⟨⟨rfl, rfl, rfl⟩, w4.heap.size, hs4, hi4, r1, r2, r3, r4, r5, r6, r7⟩
      · exact hle5 (w5 := w4) a r (by simp only [h6, Bool.and_false, Bool.false_eq_true, if_false]) (by simp only [h6, Bool.and_false, Bool.false_eq_true, if_false]) hE4 hi4 q1 hh4
          fun A2 l2 c2 A3 l3 c3 w12 r1 r2 r3 r4 r5 r6 r7 => ⟨⟨rfl, rfl, rfl⟩, w4.heap.size, hs4, hi4, r1, r2, r3, r4, r5, r6, r7⟩
      · exact hle5 (w5 := w4) a r (by simp only [h5, Bool.false_and, Bool.false_eq_true, if_false]) (by simp only [h5, Bool.false_and, Bool.false_eq_true, if_false]) hE4 hi4 q1 hh4
          fun A2 l2 c2 A3 l3 c3 w12 r1 r2 r3 r4 r5 r6 r7 => ⟨⟨rfl, rfl, rfl⟩, w4.heap.size, hs4, hi4, r1, r2, r3, r4, r5, r6, r7⟩
    clear hle5
    rintro _ A3 nc3 kc3 x4 x5 x6 A2 l2 c2 w5 ⟨⟨rfl, rfl, rfl⟩, top, ht1, ht2, hle5, hB5c, hB5, hN5, hU5, hA3, ht3⟩ id4 hid4 w6 hE6 _ hcell
    have hs6 := hE6.size
    refine pushVC (RowB.push (x := y.1) (cs := ndV y.1 A2 l2 c2) (Fk := fun x => F x ∨ (top ≤ x ∧ x < w5.heap.size ∧ ¬ blkOf A3 x)) sl22 hB5 hN5.node (fun x hx => hx.imp (fun h => ⟨rfl, h⟩) (fun h => h)) hE6 (fun x hx => (hB5c.blk hx).2.1) hcell (by omega)) (away_of fun i hi hS => ?_) ?_
    · have := hB5.blk hS
      have := hB.blk hS
      simp only [List.mem_cons, List.not_mem_nil, or_false] at hi
      rcases hi with rfl | rfl | rfl | rfl | rfl | rfl <;> omega
    intro Ao' co' w7 ⟨hB7, _⟩ hU7 w8 hU8 _
    have hs7 := hU7.size
    have hs8 := hU8.size
    have hC8 : RowB intRel 3 w8 true lo w8.heap.size no (fun x => x = b) y.2 A3 nc3 kc3 := by
      refine RowB.updF (RowB.updF (RowB.updF hB5c hE6 (fun _ _ h => h)) hU7 fun x hx hS => (hB5.blk hS).2.2 hx) hU8 fun x hx hS => ?_
      simp only [setOf, no, or_false] at hS
      rcases hA3 x hx with h | h
      · have := hAb x h; omega
      · omega
    have hCU8 : CU w w8 b A A3 := ((hU5.trans (CU.ext hE6)).step hU7 (fun x hx => by have := hB5.blk hx; omega)).step hU8 (fun x hx => by simp only [setOf, no, or_false] at hx; omega)
    rw [w64_succ (by omega)]
    refine ⟨⟨j + 1, sd ++ [y.1], y.2, rfl, hjl, ?_, ?_, ⟨hle5, hC8⟩, hCU8, hA3, by omega, by simp [hsd]⟩, mea_succ hjl⟩
    · rw [← hg, w64_succ (by omega)]; simp
    · exact (hB7.upd hU8 fun x hx => ⟨fun h => by have := hF x h; simp only [setOf, no, or_false] at hx; omega, .inr (by simp only [setOf, no, or_false] at hx; omega)⟩).re hs8 (Nat.le_refl _) (fun x hx => .inl hx)
  · have hje : j = kids.length := by simp at hge; omega
    subst hje
    rw [List.drop_length, partL, List.append_nil] at hg
    intro w3 hU3 hh3
    have hs3 := hU3.size
    rw [← hg]
    refine ⟨Ao, n, co, Ac, rfl, ⟨hct, nc, kc, hh3, RowB.updF hBt hU3 fun x hx hS => ?_⟩, ?_, hCU.step hU3 fun x hx => by simp only [setOf, no, or_false] at hx; omega⟩
    · simp only [setOf, no, or_false] at hS
      rcases hAt x hx with h | h
      · have := hAb x h; omega
      · omega
    · refine NdsG.mono (nds_of ((hB.upd hU3 fun x hx => ⟨fun h => by have := hF x h; simp only [setOf, no, or_false] at hx; omega, .inr (by simp only [setOf, no, or_false] at hx; omega)⟩).done (c' := co) (by omega) (.inr ⟨rfl, rfl⟩))) fun x hx => ?_
      rcases hx with ⟨_, h⟩ | ⟨h1, h2, h3⟩
      · exact .inl h
      · exact .inr ⟨by omega, by omega, h3⟩
end
section
open Go Go.Vx Go.Proofs
theorem part_c (N : Nat) (hN : N < 2 ^ 30) : ∀ (n : Nd), n.size ≤ N → ∀ {w : World} {F : Nat → Prop} {A' : Option Addr} {l c b lo : Nat} {cs : List Int} {A : Option Addr} (a r : Int), NdsR w F n.kids A' l c → CstT 48 w b lo cs A → (∀ x, F x → x < w.heap.size ∧ x ≠ b ∧ ¬ blkOf A x) →
    CallsX E.P 26 #[.pointer (some ⟨b, 0, none⟩), ndA n A' l c, .int .i64 a, .int .i64 r] w (PartR b lo F A w (part n a r cs)) never := by
  induction N with
  | zero => intro n hn; cases n; simp [Nd.size] at hn
  | succ N ih =>
    intro n hn w F A' l c b lo cs A a r hr hC hF
    obtain ⟨k, v, s, kids⟩ := n
    have hkl : kids.length ≤ N := by have := Nd.len_sizes kids; simp only [Nd.size] at hn; omega
    have hh : ∀ {w1 : World}, Ext w w1 → CallsX E.P 42 #[ndA (.mk k v s kids) A' l c, .int .i64 a] w1 (IsV (.int .i64 (hangs a (.mk k v s kids))) w1) never := fun hE => Hangs_c _ _ (Nat.le_refl _) a (hr.ext hE)
    have kc : ∀ {w1 : World} {cs1 : List Int} {A1 : Option Addr} (a1 r1 : Int), CU w w1 b A A1 → CstT 48 w1 b lo cs1 A1 → CallsX E.P 48 #[.pointer (some ⟨b, 0, none⟩), ndA (.mk k v s kids) A' l c, .int .i64 a1, .int .i64 r1] w1 (PartR b lo F A1 w1 (fin k v s (partL k a1 r1 0 kids cs1))) never := by
      intro w1 cs1 A1 a1 r1 hU hC1
      refine kidsP_c (by omega) (fun j hj => ih (by omega) _ (by have := kid_size hj; simp only [Nd.size] at hn; omega)) a1 r1 (hr.upd hU.1 fun x hx hS => ?_) hC1 fun x hx => ?_
      · have := hF x hx; rcases hS with h | h; exact this.2.1 h; exact this.2.2 h
      · have := hF x hx
        exact ⟨by have := hU.1.size; omega, this.2.1, fun h => by rcases hU.2 x h with h' | h'; exact this.2.2 h'; omega⟩
    obtain ⟨hb, hAb⟩ := hC.blk
    have hC0 := hC
    obtain ⟨hle, lc, cc, hhb, hBc⟩ := hC
    have hlc := hBc.len
    dsimp only [ndA, Nd.k, Nd.n, Nd.s, Nd.kids] at *
    obtain rfl := hr.len
    refine vc26 hhb ?_
    intro id hid id1 hid1
    have hawL : ∀ {A1 : Option Addr} {L : List Nat}, (∀ i ∈ L, w.heap.size ≤ i) → (∀ x, blkOf A1 x → blkOf A x ∨ x ∉ L) → Away L (fun x => x = b ∨ blkOf A1 x) := by
      intro A1 L hL h
      refine away_of fun i hi hS => ?_
      have := hL i hi
      rcases hS with hS | hS
      · omega
      · rcases h i hS with h' | h'
        · have := hAb i h'; omega
        · exact h' hi
    have hL2 : ∀ i ∈ [id, id1], w.heap.size ≤ i := fun i hi => by simp only [List.mem_cons, List.not_mem_nil, or_false] at hi; omega
    have up1 : ∀ {w5 w6 : World} {cs1 : List Int} {A2 : Option Addr} {l2 c2 : Nat}, RowB intRel 3 w5 true lo w5.heap.size no (fun x => x = b) cs1 A2 l2 c2 → (∀ x, blkOf A2 x → blkOf A x ∨ (x ≠ id ∧ x ≠ id1)) → Upd w5 w6 (setOf [id1]) → RowB intRel 3 w6 true lo w6.heap.size no (fun x => x = b) cs1 A2 l2 c2 := by
      intro w5 w6 cs1 A2 l2 c2 h h2 hU
      refine RowB.updF h hU fun x hx hS => ?_
      simp only [setOf, no, or_false] at hS
      rcases h2 x hx with h' | h'
      · have := hAb x h'; omega
      · omega
    -- the ways that go through the kids alone
    have thru : ∀ {w1 : World} {cs1 : List Int} {A1 : Option Addr} (a1 r1 : Int) {K : Value → World → Prop} {X : ContX}, CU w w1 b A A1 → CstT 48 w1 b lo cs1 A1 → id < w1.heap.size → id1 < w1.heap.size → (∀ x, blkOf A1 x → blkOf A x ∨ (x ≠ id ∧ x ≠ id1)) →
        (∀ w6 A5 l5 c5 A2, CstT 48 w6 b lo (fin k v s (partL k a1 r1 0 kids cs1)).2 A2 → NdsR w6 (fun x => F x ∨ (w1.heap.size ≤ x ∧ x < w6.heap.size ∧ ¬ blkOf A2 x)) (partL k a1 r1 0 kids cs1).1 A5 l5 c5 → CU w w6 b A A2 → K (ndA (fin k v s (partL k a1 r1 0 kids cs1)).1 A5 l5 c5) w6) →
        ∃ (R : Value → World → Prop) (X' : ContX), CallsX E.P 48 #[.pointer (some ⟨b, 0, none⟩), .agg #[.int .i64 k, .int .i64 v, .string s, .slice A' kids.length c], .int .i64 a1, .int .i64 r1] w1 R X' ∧
          (∀ v2 w2, R v2 w2 → ∃ x4 x5, ∃ x6 a2, ∃ n2 c2, v2 = .agg #[.int .i64 x4, .int .i64 x5, .string x6, .slice a2 n2 c2] ∧ ∃ S, Upd w1 w2 S ∧ Away [id, id1] S ∧ ∃ a5 n4 c5, w2.heap[b]? = some (Obj.cells #[.slice a5 n4 c5] 48) ∧ 1 = 1 ∧ ∀ w13, Upd w2 w13 (setOf [id1]) → w13.heap[b]? = some (Obj.cells #[.slice a5 n4 c5] 48) → K (.agg #[.int .i64 x4, .int .i64 x5, .string x6, .slice a2 n2 c2]) w13) ∧ ∀ ch w2, X' ch w2 → X ch w2 := by
      intro w1 cs1 A1 a1 r1 K X hU hC1 hi1 hi2 hA1 hk
      refine callP (kc a1 r1 hU hC1) (hawL hL2 fun x hx => by rcases hA1 x hx with h | h; exact .inl h; exact .inr (by simp; omega)) fun A5 l5 c5 A2 l2 c2 w5 hh5 hle5 hB5 hN5 hU5 w6 hU6 hh6 => ?_
      have hs6 := hU6.size
      have hs1 := hU.1.size
      have hA2 : ∀ x, blkOf A2 x → blkOf A x ∨ (x ≠ id ∧ x ≠ id1) := fun x hx => by
        rcases hU5.2 x hx with h | h
        · exact hA1 x h
        · exact .inr (by omega)
      refine hk w6 A5 l5 c5 A2 ⟨hle5, l2, c2, hh6, up1 hB5 hA2 hU6⟩ ?_ ((hU.trans hU5).step hU6 fun x hx => by simp only [setOf, no, or_false] at hx; omega)
      exact (hN5.upd hU6 fun x hx hS => by
        simp only [setOf, no, or_false] at hS
        rcases hx with h | h
        · have := hF x h; omega
        · omega).mono fun x hx => hx.imp (fun h => h) fun h => ⟨h.1, by omega, h.2.2⟩
    -- all three
    have all3 : ∀ {w1 : World} (hh2 : (k == 20 || k == 21) = true) (hk26 : (k == 26) = false), Ext w w1 → id < w1.heap.size → id1 < w1.heap.size → ∀ {X : ContX} {K1 : Int → World → Prop}, (∀ w2, Ext w1 w2 → K1 (hangs a (.mk k v s kids)) w2) →
        ∃ (R : Value → World → Prop) (X' : ContX), CallsX E.P 42 #[.agg #[.int .i64 k, .int .i64 v, .string s, .slice A' kids.length c], .int .i64 a] w1 R X' ∧ (∀ v1 w22, R v1 w22 → ∃ x3, v1 = .int .i64 x3 ∧ ∃ S, Upd w1 w22 S ∧ Away [b, id, id1] S ∧ K1 x3 w22) ∧ ∀ ch w2, X' ch w2 → X ch w2 :=
      fun _ _ hE _ _ _ _ hk => callI (hh hE) hk
    have cell1 : ∀ {w2 : World} (hh2 : (k == 20 || k == 21) = true) (hk26 : (k == 26) = false), Ext w w2 → id < w2.heap.size → id1 < w2.heap.size → decide (hangs a (.mk k v s kids) < r) = true → decide ((lc : Int) < 256) = true → ∀ id2, w2.heap.size ≤ id2 → ∀ w12, Upd w2 w12 (setOf []) → id2 < w12.heap.size → w12.heap[id2]? = some (Obj.cells #[.int .i64 (hangs a (.mk k v s kids))] 3) → ∀ {X : ContX},
        ∃ R : Value → World → Prop, RunsTo E.P (Builtin.append_ #[25, 25] 25 #[.slice A lc cc, .slice (some ⟨id2, 0, none⟩) 1 1]) w12 R ∧ ∀ v1 w21, R v1 w21 → ∃ a1 n c1, v1 = .slice a1 n c1 ∧ ∃ S, Upd w12 w21 S ∧ Away [b, id, id1, id2] S ∧ ∀ w13, Upd w21 w13 (setOf [b]) → w13.heap[b]? = some (Obj.cells #[.slice a1 n c1] 48) → w13.heap[id2]? = some (Obj.cells #[.int .i64 (hangs a (.mk k v s kids))] 3) →
          ∃ (R : Value → World → Prop) (X' : ContX), CallsX E.P 48 #[.pointer (some ⟨b, 0, none⟩), .agg #[.int .i64 k, .int .i64 v, .string s, .slice A' kids.length c], .int .i64 a, .int .i64 (hangs a (.mk k v s kids))] w13 R X' ∧
            (∀ v2 w22, R v2 w22 → ∃ x1 x2, ∃ x3 a2, ∃ n1 c2, v2 = .agg #[.int .i64 x1, .int .i64 x2, .string x3, .slice a2 n1 c2] ∧ ∃ S, Upd w13 w22 S ∧ Away [id, id1, id2] S ∧ ∃ a3 n2 c3, w22.heap[b]? = some (Obj.cells #[.slice a3 n2 c3] 48) ∧ 1 = 1 ∧ ∀ id3, w22.heap.size ≤ id3 → ∀ id4, w22.heap.size ≤ id4 → ∀ w14, Upd w22 w14 (setOf [id1]) → id3 < w14.heap.size → id4 < w14.heap.size →
              w14.heap[b]? = some (Obj.cells #[.slice a3 n2 c3] 48) → w14.heap[id2]? = some (Obj.cells #[.int .i64 (hangs a (.mk k v s kids))] 3) → w14.heap[id4]? = some (Obj.cells #[.int .i64 x1, .int .i64 x2, .string x3, .slice a2 n1 c2] 24) →
              PartR b lo F A w (part (.mk k v s kids) a r cs) (.agg #[.int .i64 26, .int .i64 lc, .string (ByteArray.mk #[]), .slice (some ⟨id4, 0, none⟩) 1 1]) w14) ∧ ∀ ch w2, X' ch w2 → X ch w2 := by
      intro w2 hh2 hk26 hE2 hi1 hi2 h3 h4 id2 hid2 w12 hE12 hid22 hcell X
      have hs2 := hE2.size
      have hs12 := hE12.size
      have hB12 := RowB.updF hBc (hE2.trans hE12) (fun _ _ h => h)
      refine pushVC (RowB.push (x := hangs a (.mk k v s kids)) (cs := [.int .i64 (hangs a (.mk k v s kids))]) (Fk := no) sl25 hB12 rfl (fun _ h => h.elim) (Upd.refl _ _) (fun x hx => by rw [hx]; omega) hcell (by omega)) (away_of fun i hi hS => ?_) ?_
      · have := hAb i hS
        simp only [List.mem_cons, List.not_mem_nil, or_false] at hi
        rcases hi with rfl | rfl | rfl | rfl <;> omega
      intro A2 c2 w13 ⟨hB13, hA2⟩ hU13 w14 hU14 hh14 _
      have hs13 := hU13.size
      have hs14 := hU14.size
      have hA2' : ∀ x, blkOf A2 x → blkOf A x ∨ w12.heap.size ≤ x := fun x hx => by
        rcases hA2 x hx with h | h
        · exact .inl h
        · exact .inr (by omega)
      have hU14' : CU w w14 b A A2 := by
        refine ⟨⟨hU14.os.trans (hU13.os.trans (hE12.os.trans hE2.os)), hU14.tape.trans (hU13.tape.trans (hE12.tape.trans hE2.tape)), hU14.output.trans (hU13.output.trans (hE12.output.trans hE2.output)), by omega, fun x hx hS => ?_⟩, fun x hx => ?_⟩
        · rw [hU14.keep x (by omega) (fun h => by simp only [setOf, no, or_false] at h; exact hS (.inl h)), hU13.keep x (by omega) (fun h => hS (.inr h)), hE12.keep x (by omega) (fun h => h), hE2.keep x hx (fun h => h)]
        · rcases hA2' x hx with h | h
          · exact .inl h
          · exact .inr (by omega)
      have hC14 : CstT 48 w14 b lo (cs ++ [hangs a (.mk k v s kids)]) A2 := by
        refine ⟨?_, _, _, hh14, RowB.updF hB13 hU14 fun x hx hS => ?_⟩
        · simp at h4 ⊢; omega
        · simp only [setOf, no, or_false] at hS; exact (hB13.blk hx).2.2 hS
      refine callP (kc a _ hU14' hC14) (hawL (fun i hi => by simp only [List.mem_cons, List.not_mem_nil, or_false] at hi; omega) fun x hx => ?_) fun A5 l5 c5 A6 l6 c6 w5 hh5 hle5 hB5 hN5 hU5 id3 hid3 id4 hid4 w6 hU6 hi63 hi64 hh6 _ hcell6 => ?_
      · rcases hA2' x hx with h | h
        · exact .inl h
        · exact .inr (by simp; omega)
      have hs5 := hU5.1.size
      have hs6 := hU6.size
      have hg : part (.mk k v s kids) a r cs = celled cs.length (fin k v s (partL k a (hangs a (.mk k v s kids)) 0 kids (cs ++ [hangs a (.mk k v s kids)]))) := by
        rw [part]
        rw [hlc] at h4
        simp only [hk26, h4, hh2, h3, Bool.and_self, Bool.false_eq_true, if_false, if_true]
      rw [hg]
      have hA6 : ∀ x, blkOf A6 x → blkOf A x ∨ (x ≠ id ∧ x ≠ id1) := fun x hx => by
        rcases hU5.2 x hx with h | h
        · rcases hA2' x h with h' | h'
          · exact .inl h'
          · exact .inr (by omega)
        · exact .inr (by omega)
      have hN6 : NdsR w6 (fun x => F x ∨ (w14.heap.size ≤ x ∧ x < w5.heap.size ∧ ¬ blkOf A6 x)) (fin k v s (partL k a (hangs a (.mk k v s kids)) 0 kids (cs ++ [hangs a (.mk k v s kids)]))).1.kids A5 l5 c5 := hN5.upd hU6 fun x hx hS => by
        simp only [setOf, no, or_false] at hS
        rcases hx with h | h
        · have := hF x h; omega
        · omega
      rw [hlc]
      refine ⟨_, _, _, A6, rfl, ⟨hle5, l6, c6, hh6, up1 hB5 hA6 hU6⟩, (nds_one hN6 hcell6 (fun h => (nomatch h))).mono fun x hx => ?_, (hU14'.trans hU5).step hU6 fun x hx => by simp only [setOf, no, or_false] at hx; omega⟩
      rcases hx with rfl | hx | hx
      · exact .inr ⟨by omega, hi64, fun h => by have := (hB5.blk h).2.1; omega⟩
      · exact .inl hx
      · exact .inr ⟨by omega, by omega, hx.2.2⟩
    have hgo : ∀ {w1 : World}, Ext w w1 → id < w1.heap.size → id1 < w1.heap.size → part (.mk k v s kids) a r cs = fin k v s (partL k a r 0 kids cs) → w1.heap[b]? = some (Obj.cells #[.slice A lc cc] 48) → ∀ {X : ContX},
        ∃ (R : Value → World → Prop) (X' : ContX), CallsX E.P 48 #[.pointer (some ⟨b, 0, none⟩), .agg #[.int .i64 k, .int .i64 v, .string s, .slice A' kids.length c], .int .i64 a, .int .i64 r] w1 R X' ∧
          (∀ v2 w2, R v2 w2 → ∃ x4 x5, ∃ x6 a2, ∃ n2 c2, v2 = .agg #[.int .i64 x4, .int .i64 x5, .string x6, .slice a2 n2 c2] ∧ ∃ S, Upd w1 w2 S ∧ Away [id, id1] S ∧ ∃ a5 n4 c5, w2.heap[b]? = some (Obj.cells #[.slice a5 n4 c5] 48) ∧ 1 = 1 ∧ ∀ w13, Upd w2 w13 (setOf [id1]) → w13.heap[b]? = some (Obj.cells #[.slice a5 n4 c5] 48) →
            PartR b lo F A w (part (.mk k v s kids) a r cs) (.agg #[.int .i64 x4, .int .i64 x5, .string x6, .slice a2 n2 c2]) w13) ∧ ∀ ch w2, X' ch w2 → X ch w2 := by
      intro w1 hE hi1 hi2 hg hh1 X
      have hs := hE.size
      refine thru a r (CU.ext hE) (hC0.ext hE) hi1 hi2 (fun _ h => .inl h) fun w6 A5 l5 c5 A2 q1 q2 q3 => ?_
      rw [hg]
      exact ⟨A5, l5, c5, A2, rfl, q1, q2.mono fun x hx => hx.imp (fun h => h) fun h => ⟨by omega, h.2⟩, q3⟩
    refine ⟨fun h1 w1 hE hi1 hi2 hh1 => ?_, fun h1 => ⟨fun h2 w1 hE hi1 hi2 => ?_, fun h2 => ⟨fun h3 w1 hE hi1 hi2 => ?_, fun h3 w1 hE hi1 hi2 hh1 => ?_⟩⟩⟩
    · rw [part, if_pos h1]
      exact ⟨A', _, c, A, rfl, hC0.ext hE, (hr.ext hE).mono fun x hx => .inl hx, CU.ext hE⟩
    · refine callI (hh hE) fun w2 hE2 => ⟨fun h4 => ⟨fun h5 => ?_, fun h5 hh2 => ?_⟩, fun h4 hh2 => ?_⟩
      all_goals have hs2 := hE2.size
      · exact fun id2 e1 w12 e2 e3 e4 => cell1 (by rw [h2]; rfl) h1 (hE.trans hE2) (by omega) (by omega) h4 h5 id2 e1 w12 e2 e3 e4
      · refine hgo (hE.trans hE2) (by omega) (by omega) ?_ hh2
        rw [part]; rw [hlc] at h5; simp only [h1, h5, Bool.and_false, Bool.false_eq_true, if_false]
      · refine hgo (hE.trans hE2) (by omega) (by omega) ?_ hh2
        rw [part]; simp only [h1, h4, Bool.false_and, Bool.and_false, Bool.false_eq_true, if_false]
    · refine callI (hh hE) fun w2 hE2 => ⟨fun h4 => ⟨fun h5 => ?_, fun h5 hh2 => ?_⟩, fun h4 hh2 => ?_⟩
      all_goals have hs2 := hE2.size
      · exact fun id2 e1 w12 e2 e3 e4 => cell1 (by rw [h3, Bool.or_true]) h1 (hE.trans hE2) (by omega) (by omega) h4 h5 id2 e1 w12 e2 e3 e4
      · refine hgo (hE.trans hE2) (by omega) (by omega) ?_ hh2
        rw [part]; rw [hlc] at h5; simp only [h1, h5, Bool.and_false, Bool.false_eq_true, if_false]
      · refine hgo (hE.trans hE2) (by omega) (by omega) ?_ hh2
        rw [part]; simp only [h1, h4, Bool.false_and, Bool.and_false, Bool.false_eq_true, if_false]
    · refine hgo hE hi1 hi2 ?_ hh1
      rw [part]; simp only [h1, h2, h3, Bool.or_self, Bool.false_and, Bool.false_eq_true, if_false]
def refHoist (p : Pl) (right : Bool) : Pl × Int := if right then (⟨(part p.root 0 0 p.cells).1, (part p.root 0 0 p.cells).2⟩, 0) else (⟨.mk 0 0 (ByteArray.mk #[]) [], []⟩, 140)
theorem refHoist_c (p : Pl) (right : Bool) (hle : right = true → p.cells.length ≤ 256) (hN : p.root.size < 2 ^ 30) {w : World} {F G : Nat → Prop} {A : Option Addr} {l c : Nat} {B : Option Addr} {bl bc : Nat} (h : NdsR w F p.root.kids A l c) (h2 : IntsR w G p.cells B bl bc) (hF : ∀ x, F x → x < w.heap.size)
    (hR : ∀ w', Ext w w' → CallsX E.P 25 #[plA p A l c B bl bc] w' (IsV (.bool right) w') never) :
    CallsX E.P 10 #[plA p A l c B bl bc] w (fun v w' => ∃ A l c B bl bc, v = .tuple #[plA (refHoist p right).1 A l c B bl bc, .int .i64 (refHoist p right).2] ∧ NdsR w' (fun x => F x ∨ (w.heap.size ≤ x ∧ x < w'.heap.size)) (refHoist p right).1.root.kids A l c ∧
      IntsR w' (fun x => w.heap.size ≤ x ∧ x < w'.heap.size) (refHoist p right).1.cells B bl bc ∧ Ext w w') never := by
  refine vc10 ?_
  intro id hid id1 hid1 w1 hE1 hi hi1
  have hs1 := hE1.size
  refine callB (hR w1 hE1) fun w2 hE2 => ⟨fun hx w3 hU3 => ?_, fun hx => ?_⟩
  · have hx' : right = false := by simpa using hx
    rw [hx']
    exact ⟨_, _, _, _, _, _, rfl, nds_nil.plain, ints_of intsO_nil, Upd.step (hE1.trans hE2) hU3 fun x hx => by simp only [setOf, no, or_false] at hx; omega⟩
  · have hx' : right = true := by simpa using hx
    have hle' := hle hx'
    have hbl := h2.len
    have hs2 := hE2.size
    refine pushVC (ids := [id, id1]) (app_nil (h2.ext (hE1.trans hE2)) (by omega)) ⟨⟨fun h => h, fun h => h, trivial⟩⟩ ?_
    intro A2 c2 w3 hB3 hU3 id2 hid2 w4 hE4 hi4 hcell
    have hE3 : Ext w2 w3 := Upd.step (Upd.refl _ _) hU3 (fun _ h => h.elim)
    have hs3 := hE3.size
    have hs4 := hE4.size
    have hC : CstT 48 w4 id2 w2.heap.size p.cells A2 := ⟨hle', _, c2, hcell, RowB.updF (hB3.re (E' := fun x => x = id2) (Nat.le_refl _) (Nat.le_refl _) (fun x hx => .inr (by rw [hx]; exact hid2))) hE4 (fun _ _ h => h)⟩
    have hE04 := ((hE1.trans hE2).trans hE3).trans hE4
    have hA2 : ∀ x, blkOf A2 x → w2.heap.size ≤ x ∧ x < w3.heap.size := fun x hx => by have := hB3.blk hx; exact ⟨this.1, this.2.1⟩
    refine callP (part_c _ hN p.root (Nat.le_refl _) 0 0 (h.ext hE04) hC fun x hx => ?_) (away_of fun i hi' hS => ?_) fun A5 l5 c5 A6 l6 c6 w5 hh5 hle5 hB5 hN5 hU5 id3 hid3 w6 hU6 hi6 => ?_
    · have := hF x hx
      exact ⟨by omega, by omega, fun h => by have := hA2 x h; omega⟩
    · simp only [List.mem_cons, List.not_mem_nil, or_false] at hi'
      rcases hS with hS | hS
      · omega
      · have := hA2 i hS; omega
    · have hs5 := hU5.1.size
      have hs6 := hU6.size
      have hA6 : ∀ x, blkOf A6 x → w2.heap.size ≤ x ∧ x < w5.heap.size := fun x hx => by have := hB5.blk hx; exact ⟨this.1, this.2.1⟩
      have hE6 : Ext w w6 := by
        refine Upd.step (Upd.step hE04 hU5.1 fun x hx => ?_) hU6 fun x hx => by simp only [setOf, no, or_false] at hx; omega
        rcases hx with hx | hx
        · omega
        · have := hA2 x hx; omega
      have hl6 := hB5.len
      rw [hx']
      have hd := hB5.unown.done (c' := c6) (by omega) (.inr ⟨rfl, rfl⟩)
      refine ⟨A5, l5, c5, A6, l6, c6, rfl, (hN5.upd hU6 fun x hx hS => ?_).mono fun x hx => ?_, ?_, hE6⟩
      · simp only [setOf, no, or_false] at hS
        rcases hx with h | h
        · have := hF x h; omega
        · omega
      · rcases hx with h | h
        · exact .inl h
        · exact .inr ⟨by omega, by omega⟩
      · refine RowIn.mono (RowIn.upd (F := fun x => w2.heap.size ≤ x ∧ x < w5.heap.size ∧ x ≠ id1) (RowIn.mono (ints_of hd) fun x hx => ?_) hU6 fun x hx hS => ?_) fun x hx => ⟨by omega, by omega⟩
        · rcases hx with ⟨_, h⟩ | h
          · exact h.elim
          · exact ⟨h.1, h.2.1, by omega⟩
        · simp only [setOf, no, or_false] at hS; omega
end
section
open Go Go.Vx Go.Proofs
set_option maxRecDepth 100000
theorem vc53 {a : Int} {w : World} {R : Value → World → Prop} {X : ContX}  (h : 
 ((a == 32) = true → R (.bool true) w) ∧ ((a == 32) = false → ((a == 9) = true → R (.bool true) w) ∧ ((a == 9) = false → ((a == 10) = true → R (.bool true) w) ∧ ((a == 10) = false → R (.bool (a == 13)) w)))
 ) : CallsX E.P 53 #[.int .u8 a] w R X :=
  calls_vc E_ok ⟨[], []⟩ (f := 53) Tryz.func53 rfl [(.int .u8 a, .no)] [] (bls0) nod0 (plain_of rfl) (shs_of ⟨trivial, trivial⟩) h (by kernel_rfl)
theorem vc80 {a : Int} {w : World} {R : Value → World → Prop} {X : ContX}  (h : 
 (decide (a ≥ 48) = true → R (.bool (decide (a ≤ 57))) w) ∧ (decide (a ≥ 48) = false → R (.bool false) w)
 ) : CallsX E.P 80 #[.int .u8 a] w R X :=
  calls_vc E_ok ⟨[], []⟩ (f := 80) Tryz.func80 rfl [(.int .u8 a, .no)] [] (bls0) nod0 (plain_of rfl) (shs_of ⟨trivial, trivial⟩) h (by kernel_rfl)
theorem vc83 {a : Int} {w : World} {R : Value → World → Prop} {X : ContX}  (h : 
 (decide (a ≥ 97) = true → R (.bool (decide (a ≤ 122))) w) ∧ (decide (a ≥ 97) = false → R (.bool false) w)
 ) : CallsX E.P 83 #[.int .u8 a] w R X :=
  calls_vc E_ok ⟨[], []⟩ (f := 83) Tryz.func83 rfl [(.int .u8 a, .no)] [] (bls0) nod0 (plain_of rfl) (shs_of ⟨trivial, trivial⟩) h (by kernel_rfl)
theorem vc84 {a : Int} {w : World} {R : Value → World → Prop} {X : ContX}  (h : 
 (decide (a ≥ 65) = true → R (.bool (decide (a ≤ 90))) w) ∧ (decide (a ≥ 65) = false → R (.bool false) w)
 ) : CallsX E.P 84 #[.int .u8 a] w R X :=
  calls_vc E_ok ⟨[], []⟩ (f := 84) Tryz.func84 rfl [(.int .u8 a, .no)] [] (bls0) nod0 (plain_of rfl) (shs_of ⟨trivial, trivial⟩) h (by kernel_rfl)
theorem vc85 {a : ByteArray} {w : World} {R : Value → World → Prop} {X : ContX}  (h : 
 ∀ id, w.heap.size ≤ id → ∀ w1, Upd w w1 (setOf []) → id < w1.heap.size → w1.heap[id]? = some (.cells #[.string (ByteArray.mk #[97, 108, 108]), .string (ByteArray.mk #[97, 110, 100]), .string (ByteArray.mk #[97, 114, 111, 117, 110, 100]), .string (ByteArray.mk #[98, 108, 111, 99, 107]), .string (ByteArray.mk #[98, 111, 116, 116, 108, 101, 110, 101, 99, 107]), .string (ByteArray.mk #[99, 111, 110, 110, 101, 99, 116, 101, 100]), .string (ByteArray.mk #[99, 111, 117, 110, 116]), .string (ByteArray.mk #[100, 101, 103, 114, 101, 101]), .string (ByteArray.mk #[101, 108, 115, 101]), .string (ByteArray.mk #[102, 97, 108, 115, 101]), .string (ByteArray.mk #[105, 102]), .string (ByteArray.mk #[105, 110]), .string (ByteArray.mk #[108, 101, 97, 115, 116]), .string (ByteArray.mk #[109, 97, 120]), .string (ByteArray.mk #[109, 105, 110]), .string (ByteArray.mk #[109, 111, 115, 116]), .string (ByteArray.mk #[110, 111, 116]), .string (ByteArray.mk #[111, 114]), .string (ByteArray.mk #[114, 101, 112]), .string (ByteArray.mk #[115, 105, 122, 101]), .string (ByteArray.mk #[115, 111, 109, 101]), .string (ByteArray.mk #[115, 117, 109]), .string (ByteArray.mk #[116, 104, 101, 110]), .string (ByteArray.mk #[116, 111, 116, 97, 108]), .string (ByteArray.mk #[116, 114, 117, 101]), .string (ByteArray.mk #[118, 97, 108, 117, 101]), .string (ByteArray.mk #[118, 101, 114, 116, 105, 99, 101, 115])] 9) → ∃ (I : Int → World → Prop), ∃ (m : Int → Nat), I 0 w1 ∧ ∀ (jk : Nat → Value) (x : Int) (w2 : World), I x w2 → (decide (x < (↑27 : Int)) = true → (0 ≤ x ∧ x < (↑27 : Int)) ∧ ∃ ad, some ⟨id, 0, none⟩ = some ad ∧ (w2.heap[id]? = some (.cells #[.string (ByteArray.mk #[97, 108, 108]), .string (ByteArray.mk #[97, 110, 100]), .string (ByteArray.mk #[97, 114, 111, 117, 110, 100]), .string (ByteArray.mk #[98, 108, 111, 99, 107]), .string (ByteArray.mk #[98, 111, 116, 116, 108, 101, 110, 101, 99, 107]), .string (ByteArray.mk #[99, 111, 110, 110, 101, 99, 116, 101, 100]), .string (ByteArray.mk #[99, 111, 117, 110, 116]), .string (ByteArray.mk #[100, 101, 103, 114, 101, 101]), .string (ByteArray.mk #[101, 108, 115, 101]), .string (ByteArray.mk #[102, 97, 108, 115, 101]), .string (ByteArray.mk #[105, 102]), .string (ByteArray.mk #[105, 110]), .string (ByteArray.mk #[108, 101, 97, 115, 116]), .string (ByteArray.mk #[109, 97, 120]), .string (ByteArray.mk #[109, 105, 110]), .string (ByteArray.mk #[109, 111, 115, 116]), .string (ByteArray.mk #[110, 111, 116]), .string (ByteArray.mk #[111, 114]), .string (ByteArray.mk #[114, 101, 112]), .string (ByteArray.mk #[115, 105, 122, 101]), .string (ByteArray.mk #[115, 111, 109, 101]), .string (ByteArray.mk #[115, 117, 109]), .string (ByteArray.mk #[116, 104, 101, 110]), .string (ByteArray.mk #[116, 111, 116, 97, 108]), .string (ByteArray.mk #[116, 114, 117, 101]), .string (ByteArray.mk #[118, 97, 108, 117, 101]), .string (ByteArray.mk #[118, 101, 114, 116, 105, 99, 101, 115])] 9) → ∃ x1, CellsIn w2 (Addr.add ad (Int.toNat x * 1)) [.string x1] ∧ (strEq x1 a = true → w2.heap[id]? = some (.cells #[.string (ByteArray.mk #[97, 108, 108]), .string (ByteArray.mk #[97, 110, 100]), .string (ByteArray.mk #[97, 114, 111, 117, 110, 100]), .string (ByteArray.mk #[98, 108, 111, 99, 107]), .string (ByteArray.mk #[98, 111, 116, 116, 108, 101, 110, 101, 99, 107]), .string (ByteArray.mk #[99, 111, 110, 110, 101, 99, 116, 101, 100]), .string (ByteArray.mk #[99, 111, 117, 110, 116]), .string (ByteArray.mk #[100, 101, 103, 114, 101, 101]), .string (ByteArray.mk #[101, 108, 115, 101]), .string (ByteArray.mk #[102, 97, 108, 115, 101]), .string (ByteArray.mk #[105, 102]), .string (ByteArray.mk #[105, 110]), .string (ByteArray.mk #[108, 101, 97, 115, 116]), .string (ByteArray.mk #[109, 97, 120]), .string (ByteArray.mk #[109, 105, 110]), .string (ByteArray.mk #[109, 111, 115, 116]), .string (ByteArray.mk #[110, 111, 116]), .string (ByteArray.mk #[111, 114]), .string (ByteArray.mk #[114, 101, 112]), .string (ByteArray.mk #[115, 105, 122, 101]), .string (ByteArray.mk #[115, 111, 109, 101]), .string (ByteArray.mk #[115, 117, 109]), .string (ByteArray.mk #[116, 104, 101, 110]), .string (ByteArray.mk #[116, 111, 116, 97, 108]), .string (ByteArray.mk #[116, 114, 117, 101]), .string (ByteArray.mk #[118, 97, 108, 117, 101]), .string (ByteArray.mk #[118, 101, 114, 116, 105, 99, 101, 115])] 9) → R (.bool true) w2) ∧ (strEq x1 a = false → w2.heap[id]? = some (.cells #[.string (ByteArray.mk #[97, 108, 108]), .string (ByteArray.mk #[97, 110, 100]), .string (ByteArray.mk #[97, 114, 111, 117, 110, 100]), .string (ByteArray.mk #[98, 108, 111, 99, 107]), .string (ByteArray.mk #[98, 111, 116, 116, 108, 101, 110, 101, 99, 107]), .string (ByteArray.mk #[99, 111, 110, 110, 101, 99, 116, 101, 100]), .string (ByteArray.mk #[99, 111, 117, 110, 116]), .string (ByteArray.mk #[100, 101, 103, 114, 101, 101]), .string (ByteArray.mk #[101, 108, 115, 101]), .string (ByteArray.mk #[102, 97, 108, 115, 101]), .string (ByteArray.mk #[105, 102]), .string (ByteArray.mk #[105, 110]), .string (ByteArray.mk #[108, 101, 97, 115, 116]), .string (ByteArray.mk #[109, 97, 120]), .string (ByteArray.mk #[109, 105, 110]), .string (ByteArray.mk #[109, 111, 115, 116]), .string (ByteArray.mk #[110, 111, 116]), .string (ByteArray.mk #[111, 114]), .string (ByteArray.mk #[114, 101, 112]), .string (ByteArray.mk #[115, 105, 122, 101]), .string (ByteArray.mk #[115, 111, 109, 101]), .string (ByteArray.mk #[115, 117, 109]), .string (ByteArray.mk #[116, 104, 101, 110]), .string (ByteArray.mk #[116, 111, 116, 97, 108]), .string (ByteArray.mk #[116, 114, 117, 101]), .string (ByteArray.mk #[118, 97, 108, 117, 101]), .string (ByteArray.mk #[118, 101, 114, 116, 105, 99, 101, 115])] 9) → I (w64 (x + 1)) w2 ∧ m (w64 (x + 1)) < m x))) ∧ (decide (x < (↑27 : Int)) = false → w2.heap[id]? = some (.cells #[.string (ByteArray.mk #[97, 108, 108]), .string (ByteArray.mk #[97, 110, 100]), .string (ByteArray.mk #[97, 114, 111, 117, 110, 100]), .string (ByteArray.mk #[98, 108, 111, 99, 107]), .string (ByteArray.mk #[98, 111, 116, 116, 108, 101, 110, 101, 99, 107]), .string (ByteArray.mk #[99, 111, 110, 110, 101, 99, 116, 101, 100]), .string (ByteArray.mk #[99, 111, 117, 110, 116]), .string (ByteArray.mk #[100, 101, 103, 114, 101, 101]), .string (ByteArray.mk #[101, 108, 115, 101]), .string (ByteArray.mk #[102, 97, 108, 115, 101]), .string (ByteArray.mk #[105, 102]), .string (ByteArray.mk #[105, 110]), .string (ByteArray.mk #[108, 101, 97, 115, 116]), .string (ByteArray.mk #[109, 97, 120]), .string (ByteArray.mk #[109, 105, 110]), .string (ByteArray.mk #[109, 111, 115, 116]), .string (ByteArray.mk #[110, 111, 116]), .string (ByteArray.mk #[111, 114]), .string (ByteArray.mk #[114, 101, 112]), .string (ByteArray.mk #[115, 105, 122, 101]), .string (ByteArray.mk #[115, 111, 109, 101]), .string (ByteArray.mk #[115, 117, 109]), .string (ByteArray.mk #[116, 104, 101, 110]), .string (ByteArray.mk #[116, 111, 116, 97, 108]), .string (ByteArray.mk #[116, 114, 117, 101]), .string (ByteArray.mk #[118, 97, 108, 117, 101]), .string (ByteArray.mk #[118, 101, 114, 116, 105, 99, 101, 115])] 9) → R (.bool false) w2)
 ) : CallsX E.P 85 #[.string a] w R X :=
  calls_vc E_ok ⟨[(3, ⟨[(4, .int .i64)], []⟩)], []⟩ (f := 85) Tryz.func85 rfl [(.string a, .no)] [] (bls0) nod0 (plain_of rfl) (shs_of ⟨trivial, trivial⟩) h (by kernel_rfl)
theorem vc86 {a : ByteArray} {w : World} {R : Value → World → Prop} {X : ContX}  (h : 
 (decide ((↑(ByteArray.size a) : Int) < 1) = true → R (.bool false) w) ∧ (decide ((↑(ByteArray.size a) : Int) < 1) = false → (decide ((↑(ByteArray.size a) : Int) > 12) = true → R (.bool false) w) ∧ (decide ((↑(ByteArray.size a) : Int) > 12) = false → ((0 : Int) ≤ 0 ∧ 0 < (↑(ByteArray.size a) : Int)) ∧ ∃ R1 X', CallsX E.P 83 #[Value.int IntKind.u8 (byteAt a 0)] w R1 X' ∧ (∀ v w2, R1 v w2 → ∃ x, v = .bool x ∧ ∃ S, Upd w w2 S ∧ Away [] S ∧ ((!x) = true → R (.bool false) w2) ∧ ((!x) = false → ∃ (I : Int → World → Prop), ∃ (m : Int → Nat), I 0 w2 ∧ ∀ (jk : Nat → Value) (x1 : Int) (w21 : World), I x1 w21 → (decide (x1 < (↑(ByteArray.size a) : Int)) = true → (0 ≤ x1 ∧ x1 < (↑(ByteArray.size a) : Int)) ∧ ∃ R2 X'1, CallsX E.P 83 #[Value.int IntKind.u8 (byteAt a x1)] w21 R2 X'1 ∧ (∀ v1 w22, R2 v1 w22 → ∃ x2, v1 = .bool x2 ∧ ∃ S1, Upd w21 w22 S1 ∧ Away [] S1 ∧ (x2 = true → (false = true → R (.bool false) w22) ∧ (false = false → I (w64 (x1 + 1)) w22 ∧ m (w64 (x1 + 1)) < m x1)) ∧ (x2 = false → (0 ≤ x1 ∧ x1 < (↑(ByteArray.size a) : Int)) ∧ ∃ R3 X'2, CallsX E.P 80 #[Value.int IntKind.u8 (byteAt a x1)] w22 R3 X'2 ∧ (∀ v2 w23, R3 v2 w23 → ∃ x3, v2 = .bool x3 ∧ ∃ S2, Upd w22 w23 S2 ∧ Away [] S2 ∧ (x3 = true → (false = true → R (.bool false) w23) ∧ (false = false → I (w64 (x1 + 1)) w23 ∧ m (w64 (x1 + 1)) < m x1)) ∧ (x3 = false → (0 ≤ x1 ∧ x1 < (↑(ByteArray.size a) : Int)) ∧ ((!byteAt a x1 == 95) = true → R (.bool false) w23) ∧ ((!byteAt a x1 == 95) = false → I (w64 (x1 + 1)) w23 ∧ m (w64 (x1 + 1)) < m x1))) ∧ PX X'2 X)) ∧ PX X'1 X) ∧ (decide (x1 < (↑(ByteArray.size a) : Int)) = false → ∃ R4 X'3, CallsX E.P 85 #[.string a] w21 R4 X'3 ∧ (∀ v3 w26, R4 v3 w26 → ∃ x4, v3 = .bool x4 ∧ ∃ S3, Upd w21 w26 S3 ∧ Away [] S3 ∧ R (.bool !x4) w26) ∧ PX X'3 X))) ∧ PX X' X))
 ) : CallsX E.P 86 #[.string a] w R X :=
  calls_vc E_ok ⟨[(4, ⟨[(3, .int .i64)], []⟩)], []⟩ (f := 86) Tryz.func86 rfl [(.string a, .no)] [] (bls0) nod0 (plain_of rfl) (shs_of ⟨trivial, trivial⟩) h (by kernel_rfl)
theorem vc95 {a : Int} {w : World} {R : Value → World → Prop} {X : ContX}  (h : 
 ((a == 1) = true → R (.int .i64 2) w) ∧ ((a == 1) = false → ((a == 2) = true → R (.int .i64 2) w) ∧ ((a == 2) = false → ((a == 10) = true → R (.int .i64 3) w) ∧ ((a == 10) = false → R (.int .i64 1) w)))
 ) : CallsX E.P 95 #[.int .i64 a] w R X :=
  calls_vc E_ok ⟨[], []⟩ (f := 95) Tryz.func95 rfl [(.int .i64 a, .no)] [] (bls0) nod0 (plain_of rfl) (shs_of ⟨trivial, trivial⟩) h (by kernel_rfl)
theorem vc103 {a0 a1 : Int} {a2 : ByteArray} {a3 : Option Addr} {a3l a3c : Nat} {w : World} {R : Value → World → Prop} {X : ContX}  (h : 
 ∀ id, w.heap.size ≤ id → ((a0 == 1) = true → (strEq a2 (ByteArray.mk #[]) = true → ∀ w1, Upd w w1 (setOf []) → id < w1.heap.size → R (.bool ((↑a3l : Int) == 0)) w1) ∧ (strEq a2 (ByteArray.mk #[]) = false → ∀ w11, Upd w w11 (setOf []) → id < w11.heap.size → R (.bool false) w11)) ∧ ((a0 == 1) = false → ((a0 == 2) = true → ((a1 == 0) = true → (strEq a2 (ByteArray.mk #[]) = true → ∀ w12, Upd w w12 (setOf []) → id < w12.heap.size → R (.bool ((↑a3l : Int) == 0)) w12) ∧ (strEq a2 (ByteArray.mk #[]) = false → ∀ w13, Upd w w13 (setOf []) → id < w13.heap.size → R (.bool false) w13)) ∧ ((a1 == 0) = false → ((a1 == 1) = true → (strEq a2 (ByteArray.mk #[]) = true → ∀ w14, Upd w w14 (setOf []) → id < w14.heap.size → R (.bool ((↑a3l : Int) == 0)) w14) ∧ (strEq a2 (ByteArray.mk #[]) = false → ∀ w15, Upd w w15 (setOf []) → id < w15.heap.size → R (.bool false) w15)) ∧ ((a1 == 1) = false → ∀ w16, Upd w w16 (setOf []) → id < w16.heap.size → R (.bool false) w16))) ∧ ((a0 == 2) = false → ((a0 == 3) = true → (decide (a1 ≥ 0) = true → (strEq a2 (ByteArray.mk #[]) = true → ∀ w17, Upd w w17 (setOf []) → id < w17.heap.size → R (.bool ((↑a3l : Int) == 0)) w17) ∧ (strEq a2 (ByteArray.mk #[]) = false → ∀ w18, Upd w w18 (setOf []) → id < w18.heap.size → R (.bool false) w18)) ∧ (decide (a1 ≥ 0) = false → ∀ w19, Upd w w19 (setOf []) → id < w19.heap.size → R (.bool false) w19)) ∧ ((a0 == 3) = false → ((a0 == 5) = true → (decide (a1 ≥ 0) = true → (strEq a2 (ByteArray.mk #[]) = true → ∀ w110, Upd w w110 (setOf []) → id < w110.heap.size → R (.bool ((↑a3l : Int) == 0)) w110) ∧ (strEq a2 (ByteArray.mk #[]) = false → ∀ w111, Upd w w111 (setOf []) → id < w111.heap.size → R (.bool false) w111)) ∧ (decide (a1 ≥ 0) = false → ∀ w112, Upd w w112 (setOf []) → id < w112.heap.size → R (.bool false) w112)) ∧ ((a0 == 5) = false → ((a0 == 6) = true → ((a1 == 0) = true → (strEq a2 (ByteArray.mk #[]) = true → ∀ w113, Upd w w113 (setOf []) → id < w113.heap.size → R (.bool ((↑a3l : Int) == 1)) w113) ∧ (strEq a2 (ByteArray.mk #[]) = false → ∀ w114, Upd w w114 (setOf []) → id < w114.heap.size → R (.bool false) w114)) ∧ ((a1 == 0) = false → ∀ w115, Upd w w115 (setOf []) → id < w115.heap.size → R (.bool false) w115)) ∧ ((a0 == 6) = false → ((a0 == 7) = true → ((a1 == 0) = true → (strEq a2 (ByteArray.mk #[]) = true → ∀ w116, Upd w w116 (setOf []) → id < w116.heap.size → R (.bool ((↑a3l : Int) == 1)) w116) ∧ (strEq a2 (ByteArray.mk #[]) = false → ∀ w117, Upd w w117 (setOf []) → id < w117.heap.size → R (.bool false) w117)) ∧ ((a1 == 0) = false → ∀ w118, Upd w w118 (setOf []) → id < w118.heap.size → R (.bool false) w118)) ∧ ((a0 == 7) = false → ((a0 == 24) = true → ((a1 == 0) = true → (strEq a2 (ByteArray.mk #[]) = true → ∀ w119, Upd w w119 (setOf []) → id < w119.heap.size → R (.bool ((↑a3l : Int) == 1)) w119) ∧ (strEq a2 (ByteArray.mk #[]) = false → ∀ w120, Upd w w120 (setOf []) → id < w120.heap.size → R (.bool false) w120)) ∧ ((a1 == 0) = false → ∀ w121, Upd w w121 (setOf []) → id < w121.heap.size → R (.bool false) w121)) ∧ ((a0 == 24) = false → ((a0 == 8) = true → ((a1 == 0) = true → (strEq a2 (ByteArray.mk #[]) = true → ∀ w122, Upd w w122 (setOf []) → id < w122.heap.size → R (.bool ((↑a3l : Int) == 2)) w122) ∧ (strEq a2 (ByteArray.mk #[]) = false → ∀ w123, Upd w w123 (setOf []) → id < w123.heap.size → R (.bool false) w123)) ∧ ((a1 == 0) = false → ∀ w124, Upd w w124 (setOf []) → id < w124.heap.size → R (.bool false) w124)) ∧ ((a0 == 8) = false → ((a0 == 9) = true → ((a1 == 0) = true → (strEq a2 (ByteArray.mk #[]) = true → ∀ w125, Upd w w125 (setOf []) → id < w125.heap.size → R (.bool ((↑a3l : Int) == 2)) w125) ∧ (strEq a2 (ByteArray.mk #[]) = false → ∀ w126, Upd w w126 (setOf []) → id < w126.heap.size → R (.bool false) w126)) ∧ ((a1 == 0) = false → ∀ w127, Upd w w127 (setOf []) → id < w127.heap.size → R (.bool false) w127)) ∧ ((a0 == 9) = false → ((a0 == 10) = true → ((a1 == 0) = true → (strEq a2 (ByteArray.mk #[]) = true → ∀ w128, Upd w w128 (setOf []) → id < w128.heap.size → R (.bool ((↑a3l : Int) == 2)) w128) ∧ (strEq a2 (ByteArray.mk #[]) = false → ∀ w129, Upd w w129 (setOf []) → id < w129.heap.size → R (.bool false) w129)) ∧ ((a1 == 0) = false → ∀ w130, Upd w w130 (setOf []) → id < w130.heap.size → R (.bool false) w130)) ∧ ((a0 == 10) = false → ((a0 == 11) = true → ((a1 == 0) = true → (strEq a2 (ByteArray.mk #[]) = true → ∀ w131, Upd w w131 (setOf []) → id < w131.heap.size → R (.bool ((↑a3l : Int) == 2)) w131) ∧ (strEq a2 (ByteArray.mk #[]) = false → ∀ w132, Upd w w132 (setOf []) → id < w132.heap.size → R (.bool false) w132)) ∧ ((a1 == 0) = false → ∀ w133, Upd w w133 (setOf []) → id < w133.heap.size → R (.bool false) w133)) ∧ ((a0 == 11) = false → ((a0 == 12) = true → ((a1 == 0) = true → (strEq a2 (ByteArray.mk #[]) = true → ∀ w134, Upd w w134 (setOf []) → id < w134.heap.size → R (.bool ((↑a3l : Int) == 2)) w134) ∧ (strEq a2 (ByteArray.mk #[]) = false → ∀ w135, Upd w w135 (setOf []) → id < w135.heap.size → R (.bool false) w135)) ∧ ((a1 == 0) = false → ∀ w136, Upd w w136 (setOf []) → id < w136.heap.size → R (.bool false) w136)) ∧ ((a0 == 12) = false → ((a0 == 13) = true → ((a1 == 0) = true → (strEq a2 (ByteArray.mk #[]) = true → ∀ w137, Upd w w137 (setOf []) → id < w137.heap.size → R (.bool ((↑a3l : Int) == 2)) w137) ∧ (strEq a2 (ByteArray.mk #[]) = false → ∀ w138, Upd w w138 (setOf []) → id < w138.heap.size → R (.bool false) w138)) ∧ ((a1 == 0) = false → ∀ w139, Upd w w139 (setOf []) → id < w139.heap.size → R (.bool false) w139)) ∧ ((a0 == 13) = false → ((a0 == 14) = true → ((a1 == 0) = true → (strEq a2 (ByteArray.mk #[]) = true → ∀ w140, Upd w w140 (setOf []) → id < w140.heap.size → R (.bool ((↑a3l : Int) == 2)) w140) ∧ (strEq a2 (ByteArray.mk #[]) = false → ∀ w141, Upd w w141 (setOf []) → id < w141.heap.size → R (.bool false) w141)) ∧ ((a1 == 0) = false → ∀ w142, Upd w w142 (setOf []) → id < w142.heap.size → R (.bool false) w142)) ∧ ((a0 == 14) = false → ((a0 == 15) = true → ((a1 == 0) = true → (strEq a2 (ByteArray.mk #[]) = true → ∀ w143, Upd w w143 (setOf []) → id < w143.heap.size → R (.bool ((↑a3l : Int) == 2)) w143) ∧ (strEq a2 (ByteArray.mk #[]) = false → ∀ w144, Upd w w144 (setOf []) → id < w144.heap.size → R (.bool false) w144)) ∧ ((a1 == 0) = false → ∀ w145, Upd w w145 (setOf []) → id < w145.heap.size → R (.bool false) w145)) ∧ ((a0 == 15) = false → ((a0 == 16) = true → ((a1 == 0) = true → (strEq a2 (ByteArray.mk #[]) = true → ∀ w146, Upd w w146 (setOf []) → id < w146.heap.size → R (.bool ((↑a3l : Int) == 2)) w146) ∧ (strEq a2 (ByteArray.mk #[]) = false → ∀ w147, Upd w w147 (setOf []) → id < w147.heap.size → R (.bool false) w147)) ∧ ((a1 == 0) = false → ∀ w148, Upd w w148 (setOf []) → id < w148.heap.size → R (.bool false) w148)) ∧ ((a0 == 16) = false → ((a0 == 17) = true → ((a1 == 0) = true → (strEq a2 (ByteArray.mk #[]) = true → ∀ w149, Upd w w149 (setOf []) → id < w149.heap.size → R (.bool ((↑a3l : Int) == 2)) w149) ∧ (strEq a2 (ByteArray.mk #[]) = false → ∀ w150, Upd w w150 (setOf []) → id < w150.heap.size → R (.bool false) w150)) ∧ ((a1 == 0) = false → ∀ w151, Upd w w151 (setOf []) → id < w151.heap.size → R (.bool false) w151)) ∧ ((a0 == 17) = false → ((a0 == 18) = true → ((a1 == 0) = true → (strEq a2 (ByteArray.mk #[]) = true → ∀ w152, Upd w w152 (setOf []) → id < w152.heap.size → R (.bool ((↑a3l : Int) == 2)) w152) ∧ (strEq a2 (ByteArray.mk #[]) = false → ∀ w153, Upd w w153 (setOf []) → id < w153.heap.size → R (.bool false) w153)) ∧ ((a1 == 0) = false → ∀ w154, Upd w w154 (setOf []) → id < w154.heap.size → R (.bool false) w154)) ∧ ((a0 == 18) = false → ((a0 == 19) = true → ((a1 == 0) = true → (strEq a2 (ByteArray.mk #[]) = true → ∀ w155, Upd w w155 (setOf []) → id < w155.heap.size → R (.bool ((↑a3l : Int) == 3)) w155) ∧ (strEq a2 (ByteArray.mk #[]) = false → ∀ w156, Upd w w156 (setOf []) → id < w156.heap.size → R (.bool false) w156)) ∧ ((a1 == 0) = false → ∀ w157, Upd w w157 (setOf []) → id < w157.heap.size → R (.bool false) w157)) ∧ ((a0 == 19) = false → ((a0 == 20) = true → (strEq a2 (ByteArray.mk #[]) = true → (decide (a1 ≥ 1) = true → (decide (a1 ≤ 3) = true → (((↑a3l : Int) == 2) = true → ∀ w158, Upd w w158 (setOf []) → id < w158.heap.size → R (.bool true) w158) ∧ (((↑a3l : Int) == 2) = false → (decide (a1 ≥ 4) = true → (decide (a1 ≤ 10) = true → ∀ w159, Upd w w159 (setOf []) → id < w159.heap.size → R (.bool ((↑a3l : Int) == 1)) w159) ∧ (decide (a1 ≤ 10) = false → ∀ w160, Upd w w160 (setOf []) → id < w160.heap.size → R (.bool false) w160)) ∧ (decide (a1 ≥ 4) = false → ∀ w161, Upd w w161 (setOf []) → id < w161.heap.size → R (.bool false) w161))) ∧ (decide (a1 ≤ 3) = false → (decide (a1 ≥ 4) = true → (decide (a1 ≤ 10) = true → ∀ w162, Upd w w162 (setOf []) → id < w162.heap.size → R (.bool ((↑a3l : Int) == 1)) w162) ∧ (decide (a1 ≤ 10) = false → ∀ w163, Upd w w163 (setOf []) → id < w163.heap.size → R (.bool false) w163)) ∧ (decide (a1 ≥ 4) = false → ∀ w164, Upd w w164 (setOf []) → id < w164.heap.size → R (.bool false) w164))) ∧ (decide (a1 ≥ 1) = false → (decide (a1 ≥ 4) = true → (decide (a1 ≤ 10) = true → ∀ w165, Upd w w165 (setOf []) → id < w165.heap.size → R (.bool ((↑a3l : Int) == 1)) w165) ∧ (decide (a1 ≤ 10) = false → ∀ w166, Upd w w166 (setOf []) → id < w166.heap.size → R (.bool false) w166)) ∧ (decide (a1 ≥ 4) = false → ∀ w167, Upd w w167 (setOf []) → id < w167.heap.size → R (.bool false) w167))) ∧ (strEq a2 (ByteArray.mk #[]) = false → ∀ w168, Upd w w168 (setOf []) → id < w168.heap.size → R (.bool false) w168)) ∧ ((a0 == 20) = false → ((a0 == 21) = true → (decide (a1 ≥ 1) = true → (decide (a1 ≤ 6) = true → (strEq a2 (ByteArray.mk #[]) = true → ∀ w169, Upd w w169 (setOf []) → id < w169.heap.size → R (.bool ((↑a3l : Int) == 2)) w169) ∧ (strEq a2 (ByteArray.mk #[]) = false → ∀ w170, Upd w w170 (setOf []) → id < w170.heap.size → R (.bool false) w170)) ∧ (decide (a1 ≤ 6) = false → ∀ w171, Upd w w171 (setOf []) → id < w171.heap.size → R (.bool false) w171)) ∧ (decide (a1 ≥ 1) = false → ∀ w172, Upd w w172 (setOf []) → id < w172.heap.size → R (.bool false) w172)) ∧ ((a0 == 21) = false → ((a0 == 22) = true → ((a1 == 0) = true → (strEq a2 (ByteArray.mk #[]) = true → ∀ w173, Upd w w173 (setOf []) → id < w173.heap.size → R (.bool ((↑a3l : Int) == 0)) w173) ∧ (strEq a2 (ByteArray.mk #[]) = false → ∀ w174, Upd w w174 (setOf []) → id < w174.heap.size → R (.bool false) w174)) ∧ ((a1 == 0) = false → ∀ w175, Upd w w175 (setOf []) → id < w175.heap.size → R (.bool false) w175)) ∧ ((a0 == 22) = false → ((a0 == 23) = true → ((a1 == 0) = true → (((↑a3l : Int) == 0) = true → ∀ w176, Upd w w176 (setOf []) → id < w176.heap.size → ∃ R1 X', CallsX E.P 86 #[.string a2] w176 R1 X' ∧ (∀ v w2, R1 v w2 → ∃ x, v = .bool x ∧ ∃ S, Upd w176 w2 S ∧ Away [id] S ∧ R (.bool x) w2) ∧ PX X' X) ∧ (((↑a3l : Int) == 0) = false → ∀ w177, Upd w w177 (setOf []) → id < w177.heap.size → R (.bool false) w177)) ∧ ((a1 == 0) = false → ∀ w178, Upd w w178 (setOf []) → id < w178.heap.size → R (.bool false) w178)) ∧ ((a0 == 23) = false → ((a0 == 25) = true → ((a1 == 0) = true → ∀ w179, Upd w w179 (setOf []) → id < w179.heap.size → R (.bool (strEq a2 (ByteArray.mk #[]))) w179) ∧ ((a1 == 0) = false → ∀ w180, Upd w w180 (setOf []) → id < w180.heap.size → R (.bool false) w180)) ∧ ((a0 == 25) = false → ((a0 == 26) = true → (strEq a2 (ByteArray.mk #[]) = true → ∀ w181, Upd w w181 (setOf []) → id < w181.heap.size → R (.bool ((↑a3l : Int) == 1)) w181) ∧ (strEq a2 (ByteArray.mk #[]) = false → ∀ w182, Upd w w182 (setOf []) → id < w182.heap.size → R (.bool false) w182)) ∧ ((a0 == 26) = false → ∀ w183, Upd w w183 (setOf []) → id < w183.heap.size → R (.bool false) w183)))))))))))))))))))))))))
 ) : CallsX E.P 103 #[.agg #[.int .i64 a0, .int .i64 a1, .string a2, .slice a3 a3l a3c]] w R X :=
  calls_vc E_ok ⟨[], []⟩ (f := 103) Tryz.func103 rfl [(.agg #[.int .i64 a0, .int .i64 a1, .string a2, .slice a3 a3l a3c], .no)] [] (bls0) nod0 (plain_of rfl) (shs_of ⟨trivial, trivial⟩) h (by kernel_rfl)
theorem vc122 {a : Int} {w : World} {R : Value → World → Prop} {X : ContX}  (h : 
 (decide (a ≤ 3) = true → R (.int .i64 2) w) ∧ (decide (a ≤ 3) = false → R (.int .i64 1) w)
 ) : CallsX E.P 122 #[.int .i64 a] w R X :=
  calls_vc E_ok ⟨[], []⟩ (f := 122) Tryz.func122 rfl [(.int .i64 a, .no)] [] (bls0) nod0 (plain_of rfl) (shs_of ⟨trivial, trivial⟩) h (by kernel_rfl)
theorem vc123 {a : Int} {w : World} {R : Value → World → Prop} {X : ContX}  (h : 
 (decide (a ≤ 2) = true → R (.int .i64 2) w) ∧ (decide (a ≤ 2) = false → R (.int .i64 1) w)
 ) : CallsX E.P 123 #[.int .i64 a] w R X :=
  calls_vc E_ok ⟨[], []⟩ (f := 123) Tryz.func123 rfl [(.int .i64 a, .no)] [] (bls0) nod0 (plain_of rfl) (shs_of ⟨trivial, trivial⟩) h (by kernel_rfl)
end
end Go.Vx.Tryz
namespace Go.Vx
open Go
section
def digitB (c : Int) : Bool := decide (c ≥ 48) && decide (c ≤ 57)
def smallB (c : Int) : Bool := decide (c ≥ 97) && decide (c ≤ 122)
def greatB (c : Int) : Bool := decide (c ≥ 65) && decide (c ≤ 90)
def blankB (c : Int) : Bool := c == 32 || c == 9 || c == 10 || c == 13
def wordsL : List ByteArray := [(ByteArray.mk #[97, 108, 108]), (ByteArray.mk #[97, 110, 100]), (ByteArray.mk #[97, 114, 111, 117, 110, 100]), (ByteArray.mk #[98, 108, 111, 99, 107]), (ByteArray.mk #[98, 111, 116, 116, 108, 101, 110, 101, 99, 107]), (ByteArray.mk #[99, 111, 110, 110, 101, 99, 116, 101, 100]), (ByteArray.mk #[99, 111, 117, 110, 116]), (ByteArray.mk #[100, 101, 103, 114, 101, 101]), (ByteArray.mk #[101, 108, 115, 101]), (ByteArray.mk #[102, 97, 108, 115, 101]), (ByteArray.mk #[105, 102]), (ByteArray.mk #[105, 110]), (ByteArray.mk #[108, 101, 97, 115, 116]), (ByteArray.mk #[109, 97, 120]), (ByteArray.mk #[109, 105, 110]), (ByteArray.mk #[109, 111, 115, 116]), (ByteArray.mk #[110, 111, 116]), (ByteArray.mk #[111, 114]), (ByteArray.mk #[114, 101, 112]), (ByteArray.mk #[115, 105, 122, 101]), (ByteArray.mk #[115, 111, 109, 101]), (ByteArray.mk #[115, 117, 109]), (ByteArray.mk #[116, 104, 101, 110]), (ByteArray.mk #[116, 111, 116, 97, 108]), (ByteArray.mk #[116, 114, 117, 101]), (ByteArray.mk #[118, 97, 108, 117, 101]), (ByteArray.mk #[118, 101, 114, 116, 105, 99, 101, 115])]
def wordIn (a : ByteArray) : List ByteArray → Bool
  | [] => false
  | x :: l => if strEq x a then true else wordIn a l
def bytesL (s : ByteArray) : List Int := s.data.toList.map fun b => (b.toNat : Int)
theorem bytesL_len (s : ByteArray) : s.size = (bytesL s).length := by simp [bytesL]
theorem byteAt_get {s : ByteArray} {j : Nat} (h : j < (bytesL s).length) : byteAt s (j : Int) = (bytesL s)[j] := by
  have hs : j < s.data.size := by simpa [bytesL] using h
  have hj : Int.toNat (j : Int) = j := by omega
  simp only [byteAt, hj, bytesL, List.getElem_map, Array.getElem_toList]
  rw [Array.getD_eq_getD_getElem?, Array.getElem?_eq_getElem hs]; rfl
def nameL : List Int → Bool
  | [] => true
  | c :: l => if smallB c || digitB c || c == 95 then nameL l else false
def isNameB (s : ByteArray) : Bool :=
  if decide ((s.size : Int) < 1) then false else if decide ((s.size : Int) > 12) then false else if !smallB (byteAt s 0) then false else nameL (bytesL s) && !wordIn s wordsL
def formB (k v : Int) (s : ByteArray) (l : Int) : Bool :=
  if k == 1 then strEq s (ByteArray.mk #[]) && l == 0
  else if k == 2 then (v == 0 || v == 1) && strEq s (ByteArray.mk #[]) && l == 0
  else if k == 3 || k == 5 then decide (v ≥ 0) && strEq s (ByteArray.mk #[]) && l == 0
  else if k == 6 || k == 7 || k == 24 then v == 0 && strEq s (ByteArray.mk #[]) && l == 1
  else if k == 8 || k == 9 || k == 10 || k == 11 || k == 12 || k == 13 || k == 14 || k == 15 || k == 16 || k == 17 || k == 18 then v == 0 && strEq s (ByteArray.mk #[]) && l == 2
  else if k == 19 then v == 0 && strEq s (ByteArray.mk #[]) && l == 3
  else if k == 20 then strEq s (ByteArray.mk #[]) && (decide (v ≥ 1) && decide (v ≤ 3) && l == 2 || decide (v ≥ 4) && decide (v ≤ 10) && l == 1)
  else if k == 21 then decide (v ≥ 1) && decide (v ≤ 6) && strEq s (ByteArray.mk #[]) && l == 2
  else if k == 22 then v == 0 && strEq s (ByteArray.mk #[]) && l == 0
  else if k == 23 then v == 0 && l == 0 && isNameB s
  else if k == 25 then v == 0 && strEq s (ByteArray.mk #[])
  else if k == 26 then strEq s (ByteArray.mk #[]) && l == 1
  else false
def form (n : Nd) : Bool := formB n.k n.n n.s n.kids.length
def givesI (c : Int) : Int := if c == 1 then 2 else if c == 2 then 2 else if c == 10 then 3 else 1
def bodyI (q : Int) : Int := if decide (q ≤ 3) then 2 else 1
def wholeI (q : Int) : Int := if decide (q ≤ 2) then 2 else 1
structure WS where
  parts : Int
  ks : List (Option Nd)
  ts : List Int
  ok : Bool
def WS.bad (s : WS) : WS := { s with ok := false }
def WS.inc (s : WS) : WS := { s with parts := w64 (s.parts + 1) }
def nd0 : Nd := .mk 0 0 (ByteArray.mk #[]) []
def Nd.kid (n : Nd) (i : Nat) : Nd := n.kids.getD i nd0
def mustW (r : Int × WS) (k : Int) : WS := if r.1 != k then r.2.bad else r.2
def allW (kf : WS → Nd → Int × WS) (k : Int) : WS → List Nd → WS
  | st, [] => st
  | st, x :: l => allW kf k (mustW (kf st x) k) l
def setL (kf : WS → Nd → Int × WS) : WS → List Nd → WS
  | st, [] => st
  | st, x :: l => if st.ok then setL kf (mustW (kf st x) 3) l else st
def setW (kf : WS → Nd → Int × WS) (st : WS) : Nd → WS
  | .mk k v s l =>
    if decide (w64 (st.parts + 1) > 4096) then st.inc.bad else if decide (k < 22) then st.inc.bad else if decide (k > 25) then st.inc.bad else if !formB k v s l.length then st.inc.bad else setL kf st.inc l
def cellOut (r : Int × WS) (v a : Int) (x : Nd) : Int × WS := (r.1, { r.2 with ks := r.2.ks.set v.toNat (some x), ts := r.2.ts.set v.toNat a })
def cellThr (r : Int × WS) (v a : Int) (x : Nd) : Option Nd → Int × WS
  | none => cellOut r v a x
  | some y => if !sameNd y x then (0, r.2.bad) else if roundsN x then if r.2.ts.getD v.toNat 0 != a then (0, r.2.bad) else cellOut r v a x else cellOut r v a x
def cellTwo (r : Int × WS) (v a : Int) (x : Nd) (h : Int) : Int × WS :=
  if !r.2.ok then (0, r.2) else if decide (hangs a x > h) then (0, r.2.bad) else cellThr r v a x (r.2.ks.getD v.toNat none)
def cellW (cells : List Int) (kf : WS → Nd → Int × WS) (st : WS) (v : Int) (x : Nd) (a : Int) : Int × WS :=
  if decide (v < 0) then (0, st.bad) else if decide (v ≥ (cells.length : Int)) then (0, st.bad) else if decide (cells.getD v.toNat 0 > a) then (0, st.bad) else
  cellTwo (kf st x) v a x (cells.getD v.toNat 0)
def quantW (kf : Int → Int → WS → Nd → Int × WS) (st : WS) (v : Int) (x y : Nd) (a q : Int) : Int × WS :=
  if q == 4 then (0, st.bad) else (wholeI v, mustW (kf (w64 (a + 1)) (w64 (q + 1)) (setW (kf a (w64 (q + 1))) st x) y) (bodyI v))
def kindW (cells : List Int) : Nat → Int → Int → WS → Nd → Int × WS
  | 0, _, _, st, _ => (0, st)
  | f + 1, a, q, st, .mk k v s l =>
    if !st.ok then (0, st.inc.bad) else if decide (w64 (st.parts + 1) > 4096) then (0, st.inc.bad) else if !formB k v s l.length then (0, st.inc.bad) else
    if k == 1 then (1, st.inc) else if k == 2 then (2, st.inc) else if k == 3 then (3, st.inc)
    else if k == 5 then if decide (v ≥ a) then (3, st.inc.bad) else (3, st.inc)
    else if k == 6 || k == 8 || k == 9 || k == 10 || k == 11 || k == 12 then (1, allW (kindW cells f a q) 1 st.inc l)
    else if k == 7 || k == 17 || k == 18 then (2, allW (kindW cells f a q) 2 st.inc l)
    else if k == 15 || k == 16 then (2, allW (kindW cells f a q) 1 st.inc l)
    else if k == 13 || k == 14 then (2, mustW (kindW cells f a q (kindW cells f a q st.inc (l.getD 0 nd0)).2 (l.getD 1 nd0)) (kindW cells f a q st.inc (l.getD 0 nd0)).1)
    else if k == 19 then
      ((kindW cells f a q (mustW (kindW cells f a q st.inc (l.getD 0 nd0)) 2) (l.getD 1 nd0)).1,
        mustW (kindW cells f a q (kindW cells f a q (mustW (kindW cells f a q st.inc (l.getD 0 nd0)) 2) (l.getD 1 nd0)).2 (l.getD 2 nd0)) (kindW cells f a q (mustW (kindW cells f a q st.inc (l.getD 0 nd0)) 2) (l.getD 1 nd0)).1)
    else if k == 20 then (givesI v, allW (kindW cells f a q) 3 st.inc l)
    else if k == 21 then quantW (kindW cells f) st.inc v (l.getD 0 nd0) (l.getD 1 nd0) a q
    else if k == 26 then cellW cells (kindW cells f a q) st.inc v (l.getD 0 nd0) a
    else (0, st.inc.bad)
def cellsBad : List Int → Bool
  | [] => false
  | h :: l => if decide (h < 0) then true else if decide (h > 4) then true else cellsBad l
def refKind (p : Pl) : Int :=
  if decide ((p.cells.length : Int) > 256) then 0 else if cellsBad p.cells then 0 else
  let r := kindW p.cells p.root.size 0 0 ⟨0, List.replicate p.cells.length none, List.replicate p.cells.length 0, true⟩ p.root
  if !r.2.ok then 0 else r.1
end
end Go.Vx
namespace Go.Vx.Tryz
open Go Go.Vx Go.Proofs
section
theorem digit_c (c : Int) {w : World} : CallsX E.P 80 #[.int .u8 c] w (IsV (.bool (digitB c)) w) never :=
  vc80 ⟨fun h => ⟨by simp only [digitB, h, Bool.true_and], Upd.refl _ _⟩, fun h => ⟨by simp only [digitB, h, Bool.false_and], Upd.refl _ _⟩⟩
theorem small_c (c : Int) {w : World} : CallsX E.P 83 #[.int .u8 c] w (IsV (.bool (smallB c)) w) never :=
  vc83 ⟨fun h => ⟨by simp only [smallB, h, Bool.true_and], Upd.refl _ _⟩, fun h => ⟨by simp only [smallB, h, Bool.false_and], Upd.refl _ _⟩⟩
theorem great_c (c : Int) {w : World} : CallsX E.P 84 #[.int .u8 c] w (IsV (.bool (greatB c)) w) never :=
  vc84 ⟨fun h => ⟨by simp only [greatB, h, Bool.true_and], Upd.refl _ _⟩, fun h => ⟨by simp only [greatB, h, Bool.false_and], Upd.refl _ _⟩⟩
theorem blank_c (c : Int) {w : World} : CallsX E.P 53 #[.int .u8 c] w (IsV (.bool (blankB c)) w) never :=
  vc53 ⟨fun h => ⟨by simp only [blankB, h, Bool.true_or], Upd.refl _ _⟩, fun h => ⟨fun h2 => ⟨by simp only [blankB, h, h2, Bool.true_or, Bool.or_true, Bool.false_or], Upd.refl _ _⟩, fun h2 => ⟨fun h3 => ⟨by simp only [blankB, h, h2, h3, Bool.true_or, Bool.or_true, Bool.false_or], Upd.refl _ _⟩, fun h3 => ⟨by simp only [blankB, h, h2, h3, Bool.false_or], Upd.refl _ _⟩⟩⟩⟩
theorem gives_c (c : Int) {w : World} : CallsX E.P 95 #[.int .i64 c] w (IsV (.int .i64 (givesI c)) w) never :=
  vc95 ⟨fun h => ⟨by simp only [givesI, h, if_true], Upd.refl _ _⟩, fun h => ⟨fun h2 => ⟨by simp only [givesI, h, h2, if_true, Bool.false_eq_true, if_false], Upd.refl _ _⟩, fun h2 => ⟨fun h3 => ⟨by simp only [givesI, h, h2, h3, if_true, Bool.false_eq_true, if_false], Upd.refl _ _⟩, fun h3 => ⟨by simp only [givesI, h, h2, h3, Bool.false_eq_true, if_false], Upd.refl _ _⟩⟩⟩⟩
theorem body_c (c : Int) {w : World} : CallsX E.P 122 #[.int .i64 c] w (IsV (.int .i64 (bodyI c)) w) never :=
  vc122 ⟨fun h => ⟨by simp only [bodyI, h, if_true], Upd.refl _ _⟩, fun h => ⟨by simp only [bodyI, h, Bool.false_eq_true, if_false], Upd.refl _ _⟩⟩
theorem whole_c (c : Int) {w : World} : CallsX E.P 123 #[.int .i64 c] w (IsV (.int .i64 (wholeI c)) w) never :=
  vc123 ⟨fun h => ⟨by simp only [wholeI, h, if_true], Upd.refl _ _⟩, fun h => ⟨by simp only [wholeI, h, Bool.false_eq_true, if_false], Upd.refl _ _⟩⟩
theorem callB0 {f : Nat} {args : Array Value} {w : World} {X : ContX} {x : Bool} (h : CallsX E.P f args w (IsV (.bool x) w) never) {K : Bool → World → Prop} (k : ∀ w2, Ext w w2 → K x w2) :
    ∃ (R : Value → World → Prop) (X' : ContX), CallsX E.P f args w R X' ∧ (∀ v w2, R v w2 → ∃ y, v = .bool y ∧ ∃ S, Upd w w2 S ∧ Away [] S ∧ K y w2) ∧ ∀ ch w2, X' ch w2 → X ch w2 := callB h k
theorem row_cell {w : World} {id ty j : Nat} {cs : List Value} {c : Value} (h : w.heap[id]? = some (.cells cs.toArray ty (0, 0))) (hc : cs[j]? = some c) : CellsIn w ((⟨id, 0, none⟩ : Addr).add (Int.toNat (j : Int) * 1)) [c] := by
  have hj : Int.toNat (j : Int) * 1 = j := by omega
  rw [hj, add_plain]
  refine ⟨fun i u hi => ?_⟩
  cases i with
  | zero =>
    simp at hi; subst hi
    rw [add_plain]
    simp only [World.cell?, h, Nat.zero_add, Nat.add_zero]
    simpa using hc
  | succ i => simp at hi
theorem word_c (a : ByteArray) {w : World} : CallsX E.P 85 #[.string a] w (IsV (.bool (wordIn a wordsL)) w) never := by
  refine vc85 ?_
  intro id hid w1 hE hi hcell
  refine loop0 (kids := wordsL) (l := 27) rfl (by omega) hE (fun _ => wordIn a) (fun I m j w2 hj hg hE2 k => ?_) (fun w2 hg hE2 _ => ⟨by rw [← hg]; rfl, hE2⟩)
  have hj27 : j < 27 := hj
  rw [wordIn] at hg
  have hx : wordsL[j]? = some wordsL[j] := List.getElem?_eq_getElem hj
  generalize wordsL[j] = x at hg hx
  refine ⟨by omega, _, rfl, fun hh => ⟨x, row_cell (cs := wordsL.map Value.string) hh (by rw [List.getElem?_map, hx]; rfl), fun h _ => ?_, fun h _ => ?_⟩⟩
  · rw [if_pos h] at hg
    exact ⟨by rw [← hg], hE2⟩
  · rw [if_neg (by rw [h]; exact Bool.false_ne_true)] at hg
    exact k _ hg hE2
theorem isName_c (a : ByteArray) {w : World} : CallsX E.P 86 #[.string a] w (IsV (.bool (isNameB a)) w) never := by
  refine vc86 ?_
  refine ⟨fun h1 => ⟨by simp only [isNameB, h1, if_true], Upd.refl _ _⟩, fun h1 => ⟨fun h2 => ⟨by simp only [isNameB, h1, h2, if_true, Bool.false_eq_true, if_false], Upd.refl _ _⟩, fun h2 => ?_⟩⟩
  have e1 : 1 ≤ a.size := by simp at h1; omega
  have e2 : a.size ≤ 12 := by simp at h2; omega
  refine ⟨by omega, callB0 (small_c _) fun w2 hE2 => ⟨fun h3 => ⟨by simp only [isNameB, h1, h2, h3, if_true, Bool.false_eq_true, if_false], hE2⟩, fun h3 => ?_⟩⟩
  have hl := bytesL_len a
  have hw : isNameB a = (nameL (bytesL a) && !wordIn a wordsL) := by simp only [isNameB, h1, h2, h3, Bool.false_eq_true, if_false]
  rw [hw]
  refine loop0 (kids := bytesL a) hl (by omega) hE2 (fun _ => nameL) (fun I m j w3 hj hg hE3 k => ?_) (fun w3 hg hE3 => ?_)
  · rw [nameL] at hg
    have hjl : j < a.size := by omega
    rw [byteAt_get hj]
    refine ⟨by omega, callB0 (small_c _) fun w4 hE4 => ⟨fun h4 => ⟨fun h => (nomatch h), fun _ => ?_⟩, fun h4 => ⟨by omega, callB0 (digit_c _) fun w5 hE5 => ⟨fun h5 => ⟨fun h => (nomatch h), fun _ => ?_⟩, fun h5 => ⟨by omega, fun h6 => ?_, fun h6 => ?_⟩⟩⟩⟩⟩
    · exact k _ (by simpa only [h4, Bool.true_or, if_true] using hg) (hE3.trans hE4)
    · exact k _ (by simpa only [h5, Bool.true_or, Bool.or_true, if_true] using hg) ((hE3.trans hE4).trans hE5)
    · have h6' : ((bytesL a)[j] == 95) = false := by simpa using h6
      simp only [h4, h5, h6', Bool.or_self, Bool.false_eq_true, if_false] at hg
      exact ⟨by rw [← hg]; rfl, (hE3.trans hE4).trans hE5⟩
    · have h6' : ((bytesL a)[j] == 95) = true := by simpa using h6
      exact k _ (by simpa only [h6', Bool.or_true, if_true] using hg) ((hE3.trans hE4).trans hE5)
  · rw [nameL] at hg
    exact callB0 (word_c a) fun w4 hE4 => ⟨by rw [← hg]; rfl, hE3.trans hE4⟩
theorem form_c (n : Nd) {w : World} {F : Nat → Prop} {A : Option Addr} {l c : Nat} (hr : NdsR w F n.kids A l c) : CallsX E.P 103 #[ndA n A l c] w (IsV (.bool (form n)) w) never := by
  obtain ⟨k, v, s, kids⟩ := n
  dsimp only [ndA, Nd.k, Nd.n, Nd.s, Nd.kids] at *
  obtain rfl := hr.len
  refine vc103 ?_
  intro id hid
  have hf : form (.mk k v s kids) = formB k v s kids.length := rfl
  rw [hf]
  unfold formB
  have leaf : ∀ {b1 b2 : Bool} {w1 : World}, Ext w w1 → b1 = b2 → IsV (.bool b2) w (.bool b1) w1 := fun hE h => ⟨by rw [h], hE⟩
  have leafc : ∀ {b2 : Bool} {w1 : World} {X : ContX}, Ext w w1 → isNameB s = b2 → ∃ (R1 : Value → World → Prop) (X' : ContX), CallsX E.P 86 #[.string s] w1 R1 X' ∧ (∀ v w2, R1 v w2 → ∃ x, v = .bool x ∧ ∃ S, Upd w1 w2 S ∧ Away [id] S ∧ IsV (.bool b2) w (.bool x) w2) ∧ ∀ ch w2, X' ch w2 → X ch w2 :=
    fun hE h => callB (isName_c s) fun w3 hE3 => ⟨by rw [h], hE.trans hE3⟩
  repeat' (first | (refine leafc ‹_› ?_; clear leaf leafc hr; simp only [*, Bool.false_eq_true, if_false, if_true, Bool.or_true, Bool.true_or, Bool.false_or, Bool.or_false, Bool.true_and, Bool.and_true, Bool.false_and, Bool.and_false, Bool.or_self, Bool.and_self]) | (refine leaf ‹_› ?_; clear leaf leafc hr; simp only [*, Bool.false_eq_true, if_false, if_true, Bool.or_true, Bool.true_or, Bool.false_or, Bool.or_false, Bool.true_and, Bool.and_true, Bool.false_and, Bool.and_false, Bool.or_self, Bool.and_self]) | (refine And.intro ?_ ?_) | intro _)
end
section
open Go Go.Vx Go.Proofs
set_option maxRecDepth 100000
theorem vc54 {a : ByteArray} {b : Int} {w : World} {R : Value → World → Prop} {X : ContX}  (h : 
 ∀ id, w.heap.size ≤ id → (0 ≤ b ∧ b < (↑(ByteArray.size a) : Int)) ∧ ∀ w1, Upd w w1 (setOf []) → id < w1.heap.size → ∃ R1 X', CallsX E.P 80 #[Value.int IntKind.u8 (byteAt a b)] w1 R1 X' ∧ (∀ v w2, R1 v w2 → ∃ x, v = .bool x ∧ ∃ S, Upd w1 w2 S ∧ Away [id] S ∧ (x = true → ∃ R2 X'1, CallsX E.P 81 #[.string a, .int .i64 b] w2 R2 X'1 ∧ (∀ v1 w21, R2 v1 w21 → ∃ x1, v1 = .int .i64 x1 ∧ ∃ S1, Upd w2 w21 S1 ∧ Away [id] S1 ∧ ∃ x2, Sem.run E.P (Instr.sliceAt 9 (.string a) (some (.int .i64 b)) (some (.int .i64 x1)) none) w21 = Result.ok (.string x2) w21 ∧ ∃ R3 X'2, CallsX E.P 82 #[.string x2] w21 R3 X'2 ∧ (∀ v2 w22, R3 v2 w22 → ∃ x3 x4, v2 = .tuple #[.int .i64 x3, .bool x4] ∧ ∃ S2, Upd w21 w22 S2 ∧ Away [id] S2 ∧ ((!x4) = true → ∀ w11, Upd w22 w11 (setOf [id]) → R (.tuple #[.agg #[.int .i64 0, .int .i64 0, .string (ByteArray.mk #[]), .int .i64 0], .int .i64 0, .int .i64 111]) w11) ∧ ((!x4) = false → ∀ w12, Upd w22 w12 (setOf [id]) → R (.tuple #[.agg #[.int .i64 1, .int .i64 x3, .string (ByteArray.mk #[]), .int .i64 b], .int .i64 x1, .int .i64 0]) w12)) ∧ PX X'2 X) ∧ PX X'1 X) ∧ (x = false → ∃ R4 X'3, CallsX E.P 83 #[Value.int IntKind.u8 (byteAt a b)] w2 R4 X'3 ∧ (∀ v3 w25, R4 v3 w25 → ∃ x5, v3 = .bool x5 ∧ ∃ S3, Upd w2 w25 S3 ∧ Away [id] S3 ∧ (x5 = true → ∃ R5 X'4, CallsX E.P 81 #[.string a, .int .i64 b] w25 R5 X'4 ∧ (∀ v4 w26, R5 v4 w26 → ∃ x6, v4 = .int .i64 x6 ∧ ∃ S4, Upd w25 w26 S4 ∧ Away [id] S4 ∧ ∃ x7, Sem.run E.P (Instr.sliceAt 9 (.string a) (some (.int .i64 b)) (some (.int .i64 x6)) none) w26 = Result.ok (.string x7) w26 ∧ ∃ R6 X'5, CallsX E.P 85 #[.string x7] w26 R6 X'5 ∧ (∀ v5 w27, R6 v5 w27 → ∃ x8, v5 = .bool x8 ∧ ∃ S5, Upd w26 w27 S5 ∧ Away [id] S5 ∧ (x8 = true → ∀ w13, Upd w27 w13 (setOf [id]) → R (.tuple #[.agg #[.int .i64 3, .int .i64 0, .string x7, .int .i64 b], .int .i64 x6, .int .i64 0]) w13) ∧ (x8 = false → ∃ R7 X'6, CallsX E.P 86 #[.string x7] w27 R7 X'6 ∧ (∀ v6 w28, R7 v6 w28 → ∃ x9, v6 = .bool x9 ∧ ∃ S6, Upd w27 w28 S6 ∧ Away [id] S6 ∧ ((!x9) = true → ∀ w14, Upd w28 w14 (setOf [id]) → R (.tuple #[.agg #[.int .i64 0, .int .i64 0, .string (ByteArray.mk #[]), .int .i64 0], .int .i64 0, .int .i64 112]) w14) ∧ ((!x9) = false → ∀ w15, Upd w28 w15 (setOf [id]) → R (.tuple #[.agg #[.int .i64 2, .int .i64 0, .string x7, .int .i64 b], .int .i64 x6, .int .i64 0]) w15)) ∧ PX X'6 X)) ∧ PX X'5 X) ∧ PX X'4 X) ∧ (x5 = false → ∃ R8 X'7, CallsX E.P 84 #[Value.int IntKind.u8 (byteAt a b)] w25 R8 X'7 ∧ (∀ v7 w212, R8 v7 w212 → ∃ x10, v7 = .bool x10 ∧ ∃ S7, Upd w25 w212 S7 ∧ Away [id] S7 ∧ (x10 = true → ∃ R9 X'8, CallsX E.P 81 #[.string a, .int .i64 b] w212 R9 X'8 ∧ (∀ v8 w213, R9 v8 w213 → ∃ x11, v8 = .int .i64 x11 ∧ ∃ S8, Upd w212 w213 S8 ∧ Away [id] S8 ∧ ∃ x12, Sem.run E.P (Instr.sliceAt 9 (.string a) (some (.int .i64 b)) (some (.int .i64 x11)) none) w213 = Result.ok (.string x12) w213 ∧ ∃ R10 X'9, CallsX E.P 85 #[.string x12] w213 R10 X'9 ∧ (∀ v9 w214, R10 v9 w214 → ∃ x13, v9 = .bool x13 ∧ ∃ S9, Upd w213 w214 S9 ∧ Away [id] S9 ∧ (x13 = true → ∀ w16, Upd w214 w16 (setOf [id]) → R (.tuple #[.agg #[.int .i64 3, .int .i64 0, .string x12, .int .i64 b], .int .i64 x11, .int .i64 0]) w16) ∧ (x13 = false → ∃ R11 X'10, CallsX E.P 86 #[.string x12] w214 R11 X'10 ∧ (∀ v10 w215, R11 v10 w215 → ∃ x14, v10 = .bool x14 ∧ ∃ S10, Upd w214 w215 S10 ∧ Away [id] S10 ∧ ((!x14) = true → ∀ w17, Upd w215 w17 (setOf [id]) → R (.tuple #[.agg #[.int .i64 0, .int .i64 0, .string (ByteArray.mk #[]), .int .i64 0], .int .i64 0, .int .i64 112]) w17) ∧ ((!x14) = false → ∀ w18, Upd w215 w18 (setOf [id]) → R (.tuple #[.agg #[.int .i64 2, .int .i64 0, .string x12, .int .i64 b], .int .i64 x11, .int .i64 0]) w18)) ∧ PX X'10 X)) ∧ PX X'9 X) ∧ PX X'8 X) ∧ (x10 = false → ∃ x15, Sem.run E.P (Instr.sliceAt 9 (.string a) (some (.int .i64 b)) none none) w212 = Result.ok (.string x15) w212 ∧ ∃ R12 X'11, CallsX E.P 87 #[.string x15] w212 R12 X'11 ∧ (∀ v11 w219, R12 v11 w219 → ∃ x16, v11 = .string x16 ∧ ∃ S11, Upd w212 w219 S11 ∧ Away [id] S11 ∧ (strEq x16 (ByteArray.mk #[]) = true → ∀ w19, Upd w219 w19 (setOf [id]) → R (.tuple #[.agg #[.int .i64 0, .int .i64 0, .string (ByteArray.mk #[]), .int .i64 0], .int .i64 0, .int .i64 110]) w19) ∧ (strEq x16 (ByteArray.mk #[]) = false → ∀ w110, Upd w219 w110 (setOf [id]) → R (.tuple #[.agg #[.int .i64 4, .int .i64 0, .string x16, .int .i64 b], .int .i64 (w64 (b + (↑(ByteArray.size x16) : Int))), .int .i64 0]) w110)) ∧ PX X'11 X)) ∧ PX X'7 X)) ∧ PX X'3 X)) ∧ PX X' X
 ) : CallsX E.P 54 #[.string a, .int .i64 b] w R X :=
  calls_vc E_ok ⟨[], []⟩ (f := 54) Tryz.func54 rfl [(.string a, .no), (.int .i64 b, .no)] [] (bls0) nod0 (plain_of rfl) (shs_of ⟨trivial, trivial, trivial⟩) h (by kernel_rfl)
theorem vc81 {a : ByteArray} {b : Int} {w : World} {R : Value → World → Prop} {X : ContX}  (h : 
 (0 ≤ b ∧ b < (↑(ByteArray.size a) : Int)) ∧ ∃ R1 X', CallsX E.P 80 #[Value.int IntKind.u8 (byteAt a b)] w R1 X' ∧ (∀ v w2, R1 v w2 → ∃ x, v = .bool x ∧ ∃ S, Upd w w2 S ∧ Away [] S ∧ (x = true → ∃ (I : Int → World → Prop), ∃ (m : Int → Nat), I b w2 ∧ ∀ (jk : Nat → Value) (x1 : Int) (w21 : World), I x1 w21 → (decide (x1 < (↑(ByteArray.size a) : Int)) = true → (0 ≤ x1 ∧ x1 < (↑(ByteArray.size a) : Int)) ∧ ∃ R2 X'1, CallsX E.P 80 #[Value.int IntKind.u8 (byteAt a x1)] w21 R2 X'1 ∧ (∀ v1 w22, R2 v1 w22 → ∃ x2, v1 = .bool x2 ∧ ∃ S1, Upd w21 w22 S1 ∧ Away [] S1 ∧ (x2 = true → I (w64 (x1 + 1)) w22 ∧ m (w64 (x1 + 1)) < m x1) ∧ (x2 = false → R (.int .i64 x1) w22)) ∧ PX X'1 X) ∧ (decide (x1 < (↑(ByteArray.size a) : Int)) = false → R (.int .i64 x1) w21)) ∧ (x = false → ∃ (I1 : Int → World → Prop), ∃ (m1 : Int → Nat), I1 b w2 ∧ ∀ (jk1 : Nat → Value) (x3 : Int) (w24 : World), I1 x3 w24 → (decide (x3 < (↑(ByteArray.size a) : Int)) = true → (0 ≤ x3 ∧ x3 < (↑(ByteArray.size a) : Int)) ∧ ∃ R3 X'2, CallsX E.P 83 #[Value.int IntKind.u8 (byteAt a x3)] w24 R3 X'2 ∧ (∀ v2 w25, R3 v2 w25 → ∃ x4, v2 = .bool x4 ∧ ∃ S2, Upd w24 w25 S2 ∧ Away [] S2 ∧ (x4 = true → I1 (w64 (x3 + 1)) w25 ∧ m1 (w64 (x3 + 1)) < m1 x3) ∧ (x4 = false → (0 ≤ x3 ∧ x3 < (↑(ByteArray.size a) : Int)) ∧ ∃ R4 X'3, CallsX E.P 84 #[Value.int IntKind.u8 (byteAt a x3)] w25 R4 X'3 ∧ (∀ v3 w26, R4 v3 w26 → ∃ x5, v3 = .bool x5 ∧ ∃ S3, Upd w25 w26 S3 ∧ Away [] S3 ∧ (x5 = true → I1 (w64 (x3 + 1)) w26 ∧ m1 (w64 (x3 + 1)) < m1 x3) ∧ (x5 = false → (0 ≤ x3 ∧ x3 < (↑(ByteArray.size a) : Int)) ∧ ∃ R5 X'4, CallsX E.P 80 #[Value.int IntKind.u8 (byteAt a x3)] w26 R5 X'4 ∧ (∀ v4 w27, R5 v4 w27 → ∃ x6, v4 = .bool x6 ∧ ∃ S4, Upd w26 w27 S4 ∧ Away [] S4 ∧ (x6 = true → I1 (w64 (x3 + 1)) w27 ∧ m1 (w64 (x3 + 1)) < m1 x3) ∧ (x6 = false → (0 ≤ x3 ∧ x3 < (↑(ByteArray.size a) : Int)) ∧ ((byteAt a x3 == 95) = true → I1 (w64 (x3 + 1)) w27 ∧ m1 (w64 (x3 + 1)) < m1 x3) ∧ ((byteAt a x3 == 95) = false → R (.int .i64 x3) w27))) ∧ PX X'4 X)) ∧ PX X'3 X)) ∧ PX X'2 X) ∧ (decide (x3 < (↑(ByteArray.size a) : Int)) = false → R (.int .i64 x3) w24))) ∧ PX X' X
 ) : CallsX E.P 81 #[.string a, .int .i64 b] w R X :=
  calls_vc E_ok ⟨[(2, ⟨[(1, .int .i64)], []⟩), (5, ⟨[(1, .int .i64)], []⟩)], []⟩ (f := 81) Tryz.func81 rfl [(.string a, .no), (.int .i64 b, .no)] [] (bls0) nod0 (plain_of rfl) (shs_of ⟨trivial, trivial, trivial⟩) h (by kernel_rfl)
theorem vc82 {a : ByteArray} {w : World} {R : Value → World → Prop} {X : ContX}  (h : 
 (decide ((↑(ByteArray.size a) : Int) > 19) = true → R (.tuple #[.int .i64 0, .bool false]) w) ∧ (decide ((↑(ByteArray.size a) : Int) > 19) = false → (decide ((↑(ByteArray.size a) : Int) > 1) = true → ((0 : Int) ≤ 0 ∧ 0 < (↑(ByteArray.size a) : Int)) ∧ ((byteAt a 0 == 48) = true → R (.tuple #[.int .i64 0, .bool false]) w) ∧ ((byteAt a 0 == 48) = false → ∃ (I : Int → Int → World → Prop), ∃ (m : Int → Int → Nat), I 0 0 w ∧ ∀ (jk : Nat → Value) (x x1 : Int) (w2 : World), I x x1 w2 → (decide (x1 < (↑(ByteArray.size a) : Int)) = true → (0 ≤ x1 ∧ x1 < (↑(ByteArray.size a) : Int)) ∧ (decide (x > w64 (Int.tdiv (w64 (9223372036854775807 - w64 (w64 (byteAt a x1) - 48))) 10)) = true → R (.tuple #[.int .i64 0, .bool false]) w2) ∧ (decide (x > w64 (Int.tdiv (w64 (9223372036854775807 - w64 (w64 (byteAt a x1) - 48))) 10)) = false → I (w64 (w64 (10 * x) + w64 (w64 (byteAt a x1) - 48))) (w64 (x1 + 1)) w2 ∧ m (w64 (w64 (10 * x) + w64 (w64 (byteAt a x1) - 48))) (w64 (x1 + 1)) < m x x1)) ∧ (decide (x1 < (↑(ByteArray.size a) : Int)) = false → R (.tuple #[.int .i64 x, .bool true]) w2))) ∧ (decide ((↑(ByteArray.size a) : Int) > 1) = false → ∃ (I1 : Int → Int → World → Prop), ∃ (m1 : Int → Int → Nat), I1 0 0 w ∧ ∀ (jk1 : Nat → Value) (x2 x3 : Int) (w21 : World), I1 x2 x3 w21 → (decide (x3 < (↑(ByteArray.size a) : Int)) = true → (0 ≤ x3 ∧ x3 < (↑(ByteArray.size a) : Int)) ∧ (decide (x2 > w64 (Int.tdiv (w64 (9223372036854775807 - w64 (w64 (byteAt a x3) - 48))) 10)) = true → R (.tuple #[.int .i64 0, .bool false]) w21) ∧ (decide (x2 > w64 (Int.tdiv (w64 (9223372036854775807 - w64 (w64 (byteAt a x3) - 48))) 10)) = false → I1 (w64 (w64 (10 * x2) + w64 (w64 (byteAt a x3) - 48))) (w64 (x3 + 1)) w21 ∧ m1 (w64 (w64 (10 * x2) + w64 (w64 (byteAt a x3) - 48))) (w64 (x3 + 1)) < m1 x2 x3)) ∧ (decide (x3 < (↑(ByteArray.size a) : Int)) = false → R (.tuple #[.int .i64 x2, .bool true]) w21)))
 ) : CallsX E.P 82 #[.string a] w R X :=
  calls_vc E_ok ⟨[(5, ⟨[(4, .int .i64), (5, .int .i64)], []⟩)], []⟩ (f := 82) Tryz.func82 rfl [(.string a, .no)] [] (bls0) nod0 (plain_of rfl) (shs_of ⟨trivial, trivial⟩) h (by kernel_rfl)
theorem vc87 {a : ByteArray} {w : World} {R : Value → World → Prop} {X : ContX}  (h : 
 (decide ((↑(ByteArray.size a) : Int) > 1) = true → ∃ x, Sem.run E.P (Instr.sliceAt 9 (.string a) none (some (.int .i64 2)) none) w = Result.ok (.string x) w ∧ (strEq x (ByteArray.mk #[33, 61]) = true → ∃ x1, Sem.run E.P (Instr.sliceAt 9 (.string a) none (some (.int .i64 2)) none) w = Result.ok (.string x1) w ∧ R (.string x1) w) ∧ (strEq x (ByteArray.mk #[33, 61]) = false → ∃ x2, Sem.run E.P (Instr.sliceAt 9 (.string a) none (some (.int .i64 2)) none) w = Result.ok (.string x2) w ∧ (strEq x2 (ByteArray.mk #[60, 61]) = true → ∃ x3, Sem.run E.P (Instr.sliceAt 9 (.string a) none (some (.int .i64 2)) none) w = Result.ok (.string x3) w ∧ R (.string x3) w) ∧ (strEq x2 (ByteArray.mk #[60, 61]) = false → ∃ (I : Int → World → Prop), ∃ (m : Int → Nat), I 0 w ∧ ∀ (jk : Nat → Value) (x4 : Int) (w2 : World), I x4 w2 → (decide (x4 < (↑14 : Int)) = true → (0 ≤ x4 ∧ x4 < (↑14 : Int)) ∧ ((0 : Int) ≤ 0 ∧ 0 < (↑(ByteArray.size a) : Int)) ∧ ((byteAt (ByteArray.mk #[40, 41, 123, 125, 44, 58, 64, 43, 45, 42, 47, 37, 61, 60]) x4 == byteAt a 0) = true → ∀ w1, Upd w2 w1 (setOf []) → ∃ x5, Sem.run E.P (Instr.sliceAt 9 (.string a) none (some (.int .i64 1)) none) w1 = Result.ok (.string x5) w1 ∧ R (.string x5) w1) ∧ ((byteAt (ByteArray.mk #[40, 41, 123, 125, 44, 58, 64, 43, 45, 42, 47, 37, 61, 60]) x4 == byteAt a 0) = false → ∀ w11, Upd w2 w11 (setOf []) → I (w64 (x4 + 1)) w11 ∧ m (w64 (x4 + 1)) < m x4)) ∧ (decide (x4 < (↑14 : Int)) = false → R (.string (ByteArray.mk #[])) w2)))) ∧ (decide ((↑(ByteArray.size a) : Int) > 1) = false → ∃ (I1 : Int → World → Prop), ∃ (m1 : Int → Nat), I1 0 w ∧ ∀ (jk1 : Nat → Value) (x6 : Int) (w21 : World), I1 x6 w21 → (decide (x6 < (↑14 : Int)) = true → (0 ≤ x6 ∧ x6 < (↑14 : Int)) ∧ ((0 : Int) ≤ 0 ∧ 0 < (↑(ByteArray.size a) : Int)) ∧ ((byteAt (ByteArray.mk #[40, 41, 123, 125, 44, 58, 64, 43, 45, 42, 47, 37, 61, 60]) x6 == byteAt a 0) = true → ∀ w12, Upd w21 w12 (setOf []) → ∃ x7, Sem.run E.P (Instr.sliceAt 9 (.string a) none (some (.int .i64 1)) none) w12 = Result.ok (.string x7) w12 ∧ R (.string x7) w12) ∧ ((byteAt (ByteArray.mk #[40, 41, 123, 125, 44, 58, 64, 43, 45, 42, 47, 37, 61, 60]) x6 == byteAt a 0) = false → ∀ w13, Upd w21 w13 (setOf []) → I1 (w64 (x6 + 1)) w13 ∧ m1 (w64 (x6 + 1)) < m1 x6)) ∧ (decide (x6 < (↑14 : Int)) = false → R (.string (ByteArray.mk #[])) w21))
 ) : CallsX E.P 87 #[.string a] w R X :=
  calls_vc E_ok ⟨[(5, ⟨[(4, .int .i64)], []⟩)], []⟩ (f := 87) Tryz.func87 rfl [(.string a, .no)] [] (bls0) nod0 (plain_of rfl) (shs_of ⟨trivial, trivial⟩) h (by kernel_rfl)
theorem vc37 {a : ByteArray} {w : World} {R : Value → World → Prop} {X : ContX}  (h : 
 (decide ((↑(ByteArray.size a) : Int) > 2000) = true → R (.tuple #[.slice none 0 0, .int .i64 113, .int .i64 0]) w) ∧ (decide ((↑(ByteArray.size a) : Int) > 2000) = false → ∃ (I : Option Addr → Nat → Nat → Int → World → Prop), ∃ (m : Option Addr → Nat → Nat → Int → Nat), I none 0 0 0 w ∧ ∀ (jk : Nat → Value) (a1 : Option Addr) (n c : Nat) (x : Int) (w2 : World), I a1 n c x w2 → (decide (x < (↑(ByteArray.size a) : Int)) = true → (0 ≤ x ∧ x < (↑(ByteArray.size a) : Int)) ∧ ∃ R1 X', CallsX E.P 53 #[Value.int IntKind.u8 (byteAt a x)] w2 R1 X' ∧ (∀ v w21, R1 v w21 → ∃ x1, v = .bool x1 ∧ ∃ S, Upd w2 w21 S ∧ Away [] S ∧ (x1 = true → I a1 n c (w64 (x + 1)) w21 ∧ m a1 n c (w64 (x + 1)) < m a1 n c x) ∧ (x1 = false → ∃ R2 X'1, CallsX E.P 54 #[.string a, .int .i64 x] w21 R2 X'1 ∧ (∀ v1 w22, R2 v1 w22 → ∃ x2 x3, ∃ x4 x5, ∃ x6 x7, v1 = .tuple #[.agg #[.int .i64 x2, .int .i64 x3, .string x4, .int .i64 x5], .int .i64 x6, .int .i64 x7] ∧ ∃ S1, Upd w21 w22 S1 ∧ Away [] S1 ∧ ∀ id, w22.heap.size ≤ id → ((x7 != 0) = true → ∀ w1, Upd w22 w1 (setOf []) → id < w1.heap.size → R (.tuple #[.slice none 0 0, .int .i64 x7, .int .i64 x]) w1) ∧ ((x7 != 0) = false → ∀ id1, w22.heap.size ≤ id1 → ∀ w11, Upd w22 w11 (setOf []) → id < w11.heap.size → id1 < w11.heap.size → w11.heap[id1]? = some (.cells #[.int .i64 x2, .int .i64 x3, .string x4, .int .i64 x5] 65) → ∃ R3, RunsTo E.P (Builtin.append_ #[57, 57] 57 #[.slice a1 n c, .slice (some ⟨id1, 0, none⟩) 1 1]) w11 R3 ∧ ∀ v2 w23, R3 v2 w23 → ∃ a2 n1 c1, v2 = .slice a2 n1 c1 ∧ ∃ S2, Upd w11 w23 S2 ∧ Away [id, id1] S2 ∧ (w23.heap[id1]? = some (.cells #[.int .i64 x2, .int .i64 x3, .string x4, .int .i64 x5] 65) → I a2 n1 c1 x6 w23 ∧ m a2 n1 c1 x6 < m a1 n c x))) ∧ PX X'1 X)) ∧ PX X' X) ∧ (decide (x < (↑(ByteArray.size a) : Int)) = false → ∀ id2, w2.heap.size ≤ id2 → ∀ w12, Upd w2 w12 (setOf []) → id2 < w12.heap.size → w12.heap[id2]? = some (.cells #[.int .i64 0, .int .i64 0, .string (ByteArray.mk #[]), .int .i64 (↑(ByteArray.size a) : Int)] 65) → ∃ R4, RunsTo E.P (Builtin.append_ #[57, 57] 57 #[.slice a1 n c, .slice (some ⟨id2, 0, none⟩) 1 1]) w12 R4 ∧ ∀ v3 w26, R4 v3 w26 → ∃ a3 n2 c2, v3 = .slice a3 n2 c2 ∧ ∃ S3, Upd w12 w26 S3 ∧ Away [id2] S3 ∧ (w26.heap[id2]? = some (.cells #[.int .i64 0, .int .i64 0, .string (ByteArray.mk #[]), .int .i64 (↑(ByteArray.size a) : Int)] 65) → R (.tuple #[.slice a3 n2 c2, .int .i64 0, .int .i64 0]) w26)))
 ) : CallsX E.P 37 #[.string a] w R X :=
  calls_vc E_ok ⟨[(5, ⟨[(5, .slc), (6, .int .i64)], []⟩)], []⟩ (f := 37) Tryz.func37 rfl [(.string a, .no)] [] (bls0) nod0 (plain_of rfl) (shs_of ⟨trivial, trivial⟩) h (by kernel_rfl)
end
end Go.Vx.Tryz
namespace Go.Vx
open Go
section
def testB (t : Nat) (v a : Int) : Bool :=
  match t with
  | 127 => true
  | 128 => v == 0 || v == 1
  | 129 => decide (v ≥ 0)
  | 130 => decide (v ≥ 0) && decide (v < a)
  | 131 => v == 0
  | _ => decide (v ≥ 4) && decide (v ≤ 9)
inductive Shp where
  | plain (kids of gives : Int) (t : Nat)
  | other (kids : Int) (t : Nat)
  | none
def shapeF (k v : Int) : Shp :=
  if k == 1 then .plain 0 0 1 127 else if k == 2 then .plain 0 0 2 128 else if k == 3 then .plain 0 0 3 129 else if k == 5 then .plain 0 0 3 130
  else if k == 6 then .plain 1 1 1 131 else if k == 7 then .plain 1 2 2 131
  else if k == 8 then .plain 2 1 1 131 else if k == 9 then .plain 2 1 1 131 else if k == 10 then .plain 2 1 1 131 else if k == 11 then .plain 2 1 1 131 else if k == 12 then .plain 2 1 1 131
  else if k == 15 then .plain 2 1 2 131 else if k == 16 then .plain 2 1 2 131 else if k == 17 then .plain 2 2 2 131 else if k == 18 then .plain 2 2 2 131
  else if k == 13 then .other 2 132 else if k == 14 then .other 2 132 else if k == 19 then .other 3 133
  else if k == 20 then (if v == 1 then .plain 2 3 2 127 else if v == 2 then .plain 2 3 2 127 else if v == 3 then .plain 2 3 1 127 else if v == 10 then .plain 1 3 3 127 else .plain 1 3 1 134)
  else if k == 21 then .other 2 135 else if k == 26 then .other 1 136 else .none
def ofL (r : Option (Int × WS)) (k : Int) : Option WS := match r with | some (j, s1) => if j == k then some s1 else none | none => none
def lookAll (kf : WS → Nd → Option (Int × WS)) (k : Int) : WS → List Nd → Option WS
  | st, [] => some st
  | st, x :: l => (ofL (kf st x) k).bind fun s1 => lookAll kf k s1 l
def plainL (kf : WS → Nd → Option (Int × WS)) (kids of gives : Int) (t : Bool) (st : WS) (s : ByteArray) (l : List Nd) : Option (Int × WS) :=
  if (l.length : Int) == kids && strEq s (ByteArray.mk #[]) && t then (lookAll kf of st l).map fun s1 => (gives, s1) else none
def setLk (kf : WS → Nd → Option (Int × WS)) (st : WS) : Nd → Option WS
  | .mk k v s l =>
    if !(decide (w64 (st.parts + 1) ≤ 4096) && v == 0) then none
    else if k == 23 then (if isNameB s && (l.length : Int) == 0 then some st.inc else none)
    else if (if k == 22 then (l.length : Int) == 0 else if k == 24 then (l.length : Int) == 1 else k == 25) && strEq s (ByteArray.mk #[]) then lookAll kf 3 st.inc l else none
def alikeL (kf : WS → Nd → Option (Int × WS)) (st : WS) (v : Int) (l : List Nd) : Option (Int × WS) :=
  if v == 0 then (kf st (l.getD 0 nd0)).bind fun p => (ofL (kf p.2 (l.getD 1 nd0)) p.1).map fun s2 => (2, s2) else none
def choiceL (kf : WS → Nd → Option (Int × WS)) (st : WS) (v : Int) (l : List Nd) : Option (Int × WS) :=
  if v == 0 then (ofL (kf st (l.getD 0 nd0)) 2).bind fun s1 => (kf s1 (l.getD 1 nd0)).bind fun p => (ofL (kf p.2 (l.getD 2 nd0)) p.1).map fun s3 => (p.1, s3) else none
def quantL (kf : Int → Int → WS → Nd → Option (Int × WS)) (st : WS) (v : Int) (x y : Nd) (a q : Int) : Option (Int × WS) :=
  if decide (v ≥ 1) && decide (v ≤ 6) && decide (q < 4) then
    (setLk (kf a (w64 (q + 1))) st x).bind fun s1 => (ofL (kf (w64 (a + 1)) (w64 (q + 1)) s1 y) (if decide (v ≤ 3) then 2 else 1)).map fun s2 => ((if decide (v ≤ 2) then 2 else 1), s2)
  else none
def fitsB (st : WS) (v a : Int) (x : Nd) : Bool :=
  match st.ks.getD v.toNat none with
  | none => true
  | some y => sameNd y x && (st.ts.getD v.toNat 0 == a || !roundsN y)
def cellL (cells : List Int) (kf : WS → Nd → Option (Int × WS)) (st : WS) (v : Int) (x : Nd) (a : Int) : Option (Int × WS) :=
  if decide (v ≥ 0) && decide (v < (cells.length : Int)) && decide (cells.getD v.toNat 0 ≤ a) then
    (kf st x).bind fun p => if decide (hangs a x ≤ cells.getD v.toNat 0) && fitsB p.2 v a x then some (cellOut p v a x) else none
  else none
def lookK (cells : List Int) : Nat → Int → Int → WS → Nd → Option (Int × WS)
  | 0, _, _, _, _ => none
  | f + 1, a, q, st, .mk k v s l =>
    if !(decide (w64 (st.parts + 1) ≤ 4096)) then none else
    match shapeF k v with
    | .plain kids of gives t => plainL (lookK cells f a q) kids of gives (testB t v a) st.inc s l
    | .other kids t =>
      if (l.length : Int) == kids && strEq s (ByteArray.mk #[]) then
        if t = 132 then alikeL (lookK cells f a q) st.inc v l else if t = 133 then choiceL (lookK cells f a q) st.inc v l
        else if t = 135 then quantL (lookK cells f) st.inc v (l.getD 0 nd0) (l.getD 1 nd0) a q
        else cellL cells (lookK cells f a q) st.inc v (l.getD 0 nd0) a
      else none
    | .none => none
def planKind (p : Pl) : Int :=
  if decide ((p.cells.length : Int) > 256) then 0 else if cellsBad p.cells then 0 else
  match lookK p.cells p.root.size 0 0 ⟨0, List.replicate p.cells.length none, List.replicate p.cells.length 0, true⟩ p.root with
  | some r => r.1
  | none => 0
end
section
open Go
theorem byteAt_get! (s : ByteArray) (j : Nat) : byteAt s (j : Int) = ((s.get! j).toNat : Int) := by
  have hj : Int.toNat (j : Int) = j := by omega
  simp only [byteAt, hj]
  congr 2
theorem decode_low {s : ByteArray} {i : Nat} (h : (s.get! i).toNat < 128) : Utf8.decode s i = ((s.get! i).toNat, 1) := by
  unfold Utf8.decode
  simp [h]
theorem decode_high {s : ByteArray} {i : Nat} (h : 128 ≤ (s.get! i).toNat) : 128 ≤ (Utf8.decode s i).1 ∧ 1 ≤ (Utf8.decode s i).2 := by
  unfold Utf8.decode
  simp only [Nat.add_zero]
  have h' : ¬ ((s.get! i).toNat < 128) := by omega
  rw [if_neg h']
  split
  · split <;> simp [Utf8.runeError] <;> omega
  · split
    · split
      · rename_i hc; simp only [Bool.and_eq_true, decide_eq_true_eq, ge_iff_le] at hc; simp; omega
      · simp [Utf8.runeError]
    · split
      · split
        · rename_i hc; simp only [Bool.and_eq_true, decide_eq_true_eq, ge_iff_le] at hc; simp; omega
        · simp [Utf8.runeError]
      · simp [Utf8.runeError]
theorem decode_class (s : ByteArray) (i : Nat) : smallB ((Utf8.decode s i).1 : Int) = smallB (byteAt s i) ∧ digitB ((Utf8.decode s i).1 : Int) = digitB (byteAt s i) ∧ (((Utf8.decode s i).1 : Int) == 95) = (byteAt s i == 95) ∧ 1 ≤ (Utf8.decode s i).2 ∧
    ((smallB (byteAt s i) = true ∨ digitB (byteAt s i) = true ∨ (byteAt s i == 95) = true) → (Utf8.decode s i).2 = 1) := by
  rw [byteAt_get!]
  by_cases h : (s.get! i).toNat < 128
  · rw [decode_low h]; exact ⟨rfl, rfl, rfl, Nat.le_refl _, fun _ => rfl⟩
  · obtain ⟨h1, h2⟩ := decode_high (s := s) (i := i) (by omega)
    have e : ∀ n : Nat, 128 ≤ n → smallB (n : Int) = false ∧ digitB (n : Int) = false ∧ ((n : Int) == 95) = false := fun n hn => by
      simp only [smallB, digitB, Bool.and_eq_false_iff, decide_eq_false_iff_not, beq_eq_false_iff_ne, ge_iff_le, Int.not_le, ne_eq]
      omega
    obtain ⟨a1, a2, a3⟩ := e _ h1
    obtain ⟨b1, b2, b3⟩ := e (s.get! i).toNat (by omega)
    rw [a1, a2, a3, b1, b2, b3]
    exact ⟨rfl, rfl, rfl, h2, fun h => by rcases h with h | h | h <;> cases h⟩
def okName (s : ByteArray) : Bool := match bytesL s with | [] => true | c :: l => smallB c && nameL l
theorem isName_eq (s : ByteArray) : isNameB s = (decide ((s.size : Int) ≥ 1) && (decide ((s.size : Int) ≤ 12) && (okName s && !wordIn s wordsL))) := by
  unfold isNameB okName
  have hl := bytesL_len s
  by_cases h1 : (s.size : Int) < 1
  · have : ¬ ((s.size : Int) ≥ 1) := by omega
    simp [h1, this]
  · have h1' : (s.size : Int) ≥ 1 := by omega
    by_cases h2 : (s.size : Int) > 12
    · have : ¬ ((s.size : Int) ≤ 12) := by omega
      simp [h1, h2, this]
    · have h2' : (s.size : Int) ≤ 12 := by omega
      have h0 : 0 < (bytesL s).length := by omega
      have hb := byteAt_get (s := s) (j := 0) h0
      cases hL : bytesL s with
      | nil => rw [hL] at h0; simp at h0
      | cons c l =>
        have hb0 : byteAt s 0 = c := by
          have := hb; simp only [hL, List.getElem_cons_zero] at this; exact this
        simp only [h1, h1', h2, h2', decide_true, decide_false, Bool.false_eq_true, if_false, Bool.true_and, hb0]
        cases hc : smallB c <;> simp [nameL, hc]
theorem okName_step {s : ByteArray} {p : Nat} (hp : p < s.size) (h : p = 0 ∨ okName s = nameL ((bytesL s).drop p)) (hg : smallB (byteAt s p) = true ∨ (p ≠ 0 ∧ (digitB (byteAt s p) = true ∨ (byteAt s p == 95) = true))) :
    okName s = nameL ((bytesL s).drop (p + 1)) := by
  have hl : p < (bytesL s).length := by rw [← bytesL_len]; exact hp
  have hb := byteAt_get hl
  rw [hb] at hg
  rcases h with rfl | h
  · rcases hg with hg | ⟨hg, _⟩
    · unfold okName
      cases hL : bytesL s with
      | nil => rw [hL] at hl; simp at hl
      | cons c l =>
        simp only [hL, List.getElem_cons_zero] at hg
        simp [hg]
    · exact absurd rfl hg
  · rw [h, List.drop_eq_getElem_cons hl, nameL]
    rcases hg with hg | ⟨_, hg | hg⟩
    · simp [hg]
    · simp [hg]
    · have : (smallB (bytesL s)[p] || digitB (bytesL s)[p] || (bytesL s)[p] == 95) = true := by rw [hg]; simp
      rw [if_pos this]
theorem okName_end {s : ByteArray} {p : Nat} (hp : s.size ≤ p) (h : p = 0 ∨ okName s = nameL ((bytesL s).drop p)) : okName s = true := by
  rcases h with rfl | h
  · unfold okName
    have : bytesL s = [] := List.length_eq_zero_iff.1 (by rw [← bytesL_len]; omega)
    rw [this]
  · rw [h, List.drop_eq_nil_of_le (by rw [← bytesL_len]; exact hp)]; rfl
theorem okName_bad {s : ByteArray} {p : Nat} (hp : p < s.size) (h : p = 0 ∨ okName s = nameL ((bytesL s).drop p)) (hg : smallB (byteAt s p) = false) (h2 : p = 0 ∨ (digitB (byteAt s p) = false ∧ (byteAt s p == 95) = false)) : okName s = false := by
  have hl : p < (bytesL s).length := by rw [← bytesL_len]; exact hp
  have hb := byteAt_get hl
  rw [hb] at hg h2
  by_cases hp0 : p = 0
  · subst hp0
    unfold okName
    cases hL : bytesL s with
    | nil => rw [hL] at hl; simp at hl
    | cons c l =>
      simp only [hL, List.getElem_cons_zero] at hg
      simp [hg]
  · rcases h with h | h
    · exact absurd h hp0
    · rcases h2 with h2 | ⟨h2, h3⟩
      · exact absurd h2 hp0
      · rw [h, List.drop_eq_getElem_cons hl, nameL, hg, h2, h3]; rfl
/-! The order of texts. -/
theorem lt_irrefl' : ∀ (l : List UInt8), Op.bytesLess l l = false
  | [] => rfl
  | c :: l => by simp [Op.bytesLess, lt_irrefl' l]
theorem lt_trans' : ∀ (a b c : List UInt8), Op.bytesLess a b = true → Op.bytesLess b c = true → Op.bytesLess a c = true
  | [], [], c, h, _ => by simp [Op.bytesLess] at h
  | [], b :: bs, [], _, h => by simp [Op.bytesLess] at h
  | [], b :: bs, c :: cs, _, _ => rfl
  | a :: az, [], c, h, _ => by simp [Op.bytesLess] at h
  | a :: az, b :: bs, [], _, h => by simp [Op.bytesLess] at h
  | a :: az, b :: bs, c :: cs, h, k => by
    simp only [Op.bytesLess, Bool.or_eq_true, Bool.and_eq_true, decide_eq_true_eq, beq_iff_eq] at h k ⊢
    rcases h with h | ⟨rfl, h⟩
    · rcases k with k | ⟨rfl, k⟩
      · exact .inl (UInt8.lt_trans h k)
      · exact .inl h
    · rcases k with k | ⟨rfl, k⟩
      · exact .inl k
      · exact .inr ⟨rfl, lt_trans' az bs cs h k⟩
theorem strLt_trans {a b c : ByteArray} (h : strLt a b = true) (k : strLt b c = true) : strLt a c = true := lt_trans' _ _ _ h k
theorem strEq_refl (s : ByteArray) : strEq s s = true := by simp [strEq]
theorem strEq_toList {a b : ByteArray} (h : strEq a b = true) : a.toList = b.toList := by simpa [strEq] using h
theorem words_sorted : ∀ (i j : Nat) (hi : i < wordsL.length) (hj : j < wordsL.length), i < j → strLt wordsL[i] wordsL[j] = true := by
  have key : wordsL.Pairwise (fun a b => strLt a b = true) := by decide +kernel
  exact fun i j hi hj hij => List.pairwise_iff_getElem.1 key i j hi hj hij
theorem wordIn_get {a : ByteArray} : ∀ {l : List ByteArray} {i : Nat} (hi : i < l.length), strEq l[i] a = true → wordIn a l = true
  | x :: l, 0, _, h => by simp [wordIn]; exact .inl h
  | x :: l, i + 1, hi, h => by
    simp only [wordIn]
    split
    · rfl
    · exact wordIn_get (l := l) (by simpa using hi) h
theorem wordIn_no {a : ByteArray} : ∀ {l : List ByteArray}, (∀ i (hi : i < l.length), strEq l[i] a = false) → wordIn a l = false
  | [], _ => rfl
  | x :: l, h => by
    have h0 := h 0 (by simp)
    simp only [List.getElem_cons_zero] at h0
    simp only [wordIn, h0, Bool.false_eq_true, if_false]
    exact wordIn_no (fun i hi => h (i + 1) (by simpa using hi))
def Halved (a : ByteArray) (lo hi : Nat) : Prop := lo ≤ hi ∧ hi ≤ wordsL.length ∧ (∀ i (h : i < wordsL.length), i < lo → strLt wordsL[i] a = true) ∧ ∀ i (h : i < wordsL.length), hi ≤ i → strLt wordsL[i] a = false
theorem Halved.up {a : ByteArray} {lo hi m : Nat} (h : Halved a lo hi) (h1 : lo ≤ m) (h2 : m < hi) (hm : m < wordsL.length) (hs : strLt wordsL[m] a = true) : Halved a (m + 1) hi := by
  refine ⟨by omega, h.2.1, fun i hi' hlt => ?_, h.2.2.2⟩
  by_cases he : i = m
  · subst he; exact hs
  · exact strLt_trans (words_sorted i m hi' hm (by omega)) hs
theorem Halved.down {a : ByteArray} {lo hi m : Nat} (h : Halved a lo hi) (h1 : lo ≤ m) (h2 : m < hi) (hm : m < wordsL.length) (hs : strLt wordsL[m] a = false) : Halved a lo m := by
  refine ⟨h1, by omega, h.2.2.1, fun i hi' hle => ?_⟩
  by_cases he : i = m
  · subst he; exact hs
  · cases hq : strLt wordsL[i] a with
    | false => rfl
    | true => rw [strLt_trans (words_sorted m i hm hi' (by omega)) hq] at hs; cases hs
theorem ne_of_lt {x a : ByteArray} (h : strLt x a = true) : strEq x a = false := by
  cases hq : strEq x a with
  | false => rfl
  | true =>
    have := strEq_toList hq
    simp only [strLt, this, lt_irrefl'] at h; cases h
theorem Halved.done {a : ByteArray} {lo : Nat} (h : Halved a lo lo) : wordIn a wordsL = if hl : lo < wordsL.length then strEq wordsL[lo] a else false := by
  have rest : ∀ i (hi : i < wordsL.length), i ≠ lo → strEq wordsL[i] a = false := fun i hi hne => by
    rcases Nat.lt_or_ge i lo with hlt | hge
    · exact ne_of_lt (h.2.2.1 i hi hlt)
    · cases hq : strEq wordsL[i] a with
      | false => rfl
      | true =>
        have hll : lo < wordsL.length := by omega
        have h1 := words_sorted lo i hll hi (by omega)
        have h2 := h.2.2.2 lo hll (Nat.le_refl _)
        have := strEq_toList hq
        simp only [strLt, this] at h1 h2
        rw [h1] at h2; cases h2
  by_cases hl : lo < wordsL.length
  · rw [dif_pos hl]
    cases hq : strEq wordsL[lo] a with
    | true => exact wordIn_get hl hq
    | false =>
      apply wordIn_no
      intro i hi
      by_cases he : i = lo
      · subst he; exact hq
      · exact rest i hi he
  · rw [dif_neg hl]
    exact wordIn_no fun i hi => rest i hi (by omega)
end
section
open Go
structure Tok where
  kind : Int
  n : Int
  text : ByteArray
  at_ : Int
def tokE (t : Tok) : List Value := [.int .i64 t.kind, .int .i64 t.n, .string t.text, .int .i64 t.at_]
def tokRel : Rel Tok 4 := flatRel tokE (fun _ => rfl) (fun x u hu => by
  simp only [tokE, List.mem_cons, List.not_mem_nil, or_false] at hu
  rcases hu with rfl | rfl | rfl | rfl <;> rfl)
def wordB (c : Int) : Bool := smallB c || greatB c || digitB c || c == 95
def endsW (p : Int → Bool) (s : ByteArray) : Nat → Nat → Nat
  | 0, i => i
  | f + 1, i => if p (byteAt s i) then endsW p s f (i + 1) else i
theorem endsW_le (p : Int → Bool) (s : ByteArray) : ∀ (f i : Nat), i ≤ endsW p s f i ∧ endsW p s f i ≤ i + f
  | 0, i => ⟨Nat.le_refl _, Nat.le_refl _⟩
  | f + 1, i => by
    rw [endsW]
    split
    · have := endsW_le p s f (i + 1); omega
    · omega
def endsF (s : ByteArray) (i : Nat) : Nat := if digitB (byteAt s i) then endsW digitB s (s.size - i) i else endsW wordB s (s.size - i) i
theorem endsF_le {s : ByteArray} {i : Nat} (h : i < s.size) : i ≤ endsF s i ∧ endsF s i ≤ s.size := by
  unfold endsF; split
  · have := endsW_le digitB s (s.size - i) i; omega
  · have := endsW_le wordB s (s.size - i) i; omega
theorem endsF_gt {s : ByteArray} {i : Nat} (h : i < s.size) (hp : digitB (byteAt s i) = true ∨ smallB (byteAt s i) = true ∨ greatB (byteAt s i) = true) : i < endsF s i := by
  have e : s.size - i = (s.size - i - 1) + 1 := by omega
  unfold endsF
  split
  · rename_i hd
    rw [e, endsW, if_pos hd]
    have := endsW_le digitB s (s.size - i - 1) (i + 1); omega
  · rename_i hd
    have hw : wordB (byteAt s i) = true := by
      unfold wordB
      rcases hp with hp | hp | hp
      · exact absurd hp hd
      · simp [hp]
      · simp [hp]
    rw [e, endsW, if_pos hw]
    have := endsW_le wordB s (s.size - i - 1) (i + 1); omega
def numW (s : ByteArray) : Nat → Int → Nat → Option Int
  | 0, n, _ => some n
  | f + 1, n, i =>
    if decide (n > w64 (Int.tdiv (w64 (9223372036854775807 - w64 (w64 (byteAt s i) - 48))) 10)) then none
    else numW s f (w64 (w64 (10 * n) + w64 (w64 (byteAt s i) - 48))) (i + 1)
def numF (s : ByteArray) : Option Int :=
  if decide ((s.size : Int) > 19) then none else if decide ((s.size : Int) > 1) && byteAt s 0 == 48 then none else numW s s.size 0 0
def signsB : ByteArray := ByteArray.mk #[40, 41, 123, 125, 44, 58, 64, 43, 45, 42, 47, 37, 61, 60]
def signIn (c : Int) : List Int → Bool
  | [] => false
  | x :: l => if x == c then true else signIn c l
def signF (s : ByteArray) : ByteArray :=
  if decide ((s.size : Int) > 1) && (strEq (s.extract 0 2) (ByteArray.mk #[33, 61]) || strEq (s.extract 0 2) (ByteArray.mk #[60, 61])) then s.extract 0 2
  else if signIn (byteAt s 0) (bytesL signsB) then s.extract 0 1 else ByteArray.mk #[]
def tok0 : Tok := ⟨0, 0, ByteArray.mk #[], 0⟩
def tokF (s : ByteArray) (i : Nat) : Tok × Nat × Int :=
  if digitB (byteAt s i) then
    match numF (s.extract i (endsF s i)) with
    | none => (tok0, 0, 111)
    | some n => (⟨1, n, ByteArray.mk #[], i⟩, endsF s i, 0)
  else if smallB (byteAt s i) || greatB (byteAt s i) then
    if wordIn (s.extract i (endsF s i)) wordsL then (⟨3, 0, s.extract i (endsF s i), i⟩, endsF s i, 0)
    else if isNameB (s.extract i (endsF s i)) then (⟨2, 0, s.extract i (endsF s i), i⟩, endsF s i, 0) else (tok0, 0, 112)
  else if strEq (signF (s.extract i s.size)) (ByteArray.mk #[]) then (tok0, 0, 110) else (⟨4, 0, signF (s.extract i s.size), i⟩, i + (signF (s.extract i s.size)).size, 0)
theorem signF_le (s : ByteArray) : (signF s).size ≤ s.size := by
  unfold signF
  split
  · rw [ByteArray.size_extract]; omega
  · split
    · rw [ByteArray.size_extract]; omega
    · exact Nat.zero_le _
theorem tokF_next {s : ByteArray} {i : Nat} (h : i < s.size) (he : (tokF s i).2.2 = 0) : i < (tokF s i).2.1 ∧ (tokF s i).2.1 ≤ s.size := by
  unfold tokF at he ⊢
  have h1 := endsF_le h
  split
  · rename_i hd
    rw [if_pos hd] at he
    have h2 := endsF_gt h (.inl hd)
    cases e : numF (s.extract i (endsF s i)) with
    | none => rw [e] at he; simp at he
    | some n => exact ⟨h2, h1.2⟩
  · rename_i hd
    rw [if_neg hd] at he
    split
    · rename_i hs
      rw [if_pos hs] at he
      have h2 := endsF_gt h (.inr (by simpa using hs))
      split
      · exact ⟨h2, h1.2⟩
      · rename_i hw
        rw [if_neg hw] at he
        split
        · exact ⟨h2, h1.2⟩
        · rename_i hn
          rw [if_neg hn] at he; simp at he
    · rename_i hs
      rw [if_neg hs] at he
      split
      · rename_i hz
        rw [if_pos hz] at he; simp at he
      · rename_i hz
        have hle := signF_le (s.extract i s.size)
        rw [ByteArray.size_extract] at hle
        have hne : (signF (s.extract i s.size)).size ≠ 0 := fun e => hz (by
          have : signF (s.extract i s.size) = ByteArray.mk #[] := by
            apply ByteArray.ext
            exact Array.eq_empty_of_size_eq_zero e
          rw [this]; exact strEq_refl _)
        dsimp only
        omega
def scanL (s : ByteArray) : Nat → Nat → List Tok → List Tok × Int × Int
  | 0, _, acc => (acc ++ [⟨0, 0, ByteArray.mk #[], s.size⟩], 0, 0)
  | f + 1, i, acc =>
    if decide ((i : Int) < (s.size : Int)) then
      if blankB (byteAt s i) then scanL s f (i + 1) acc
      else if (tokF s i).2.2 != 0 then ([], (tokF s i).2.2, i) else scanL s f (tokF s i).2.1 (acc ++ [(tokF s i).1])
    else (acc ++ [⟨0, 0, ByteArray.mk #[], s.size⟩], 0, 0)
def scanF (s : ByteArray) : List Tok × Int × Int := if decide ((s.size : Int) > 2000) then ([], 113, 0) else scanL s s.size 0 []
end
end Go.Vx
namespace Go.Vx.Tryz
open Go Go.Vx Go.Proofs
section
theorem sub2 (s : ByteArray) (l h : Nat) (h1 : l ≤ h) (h2 : h ≤ s.size) {w : World} : Sem.run E.P (Instr.sliceAt 9 (.string s) (some (.int .i64 (l : Int))) (some (.int .i64 (h : Int))) none) w = .ok (.string (s.extract l h)) w := by
  have hu := run_underlying (P := E.P) (Tryz.underlying9) w
  have h3 : l ≤ h := h1
  simp [Instr.sliceAt, Instr.slice, hu, Instr.sliceBounds, Instr.sliceBound, asIntOf, h1, h2]
theorem subTo (s : ByteArray) (h : Nat) (h2 : h ≤ s.size) {w : World} : Sem.run E.P (Instr.sliceAt 9 (.string s) none (some (.int .i64 (h : Int))) none) w = .ok (.string (s.extract 0 h)) w := by
  have hu := run_underlying (P := E.P) (Tryz.underlying9) w
  simp [Instr.sliceAt, Instr.slice, hu, Instr.sliceBounds, Instr.sliceBound, asIntOf, h2]
theorem subFrom (s : ByteArray) (l : Nat) (h2 : l ≤ s.size) {w : World} : Sem.run E.P (Instr.sliceAt 9 (.string s) (some (.int .i64 (l : Int))) none none) w = .ok (.string (s.extract l s.size)) w := by
  have hu := run_underlying (P := E.P) (Tryz.underlying9) w
  simp [Instr.sliceAt, Instr.slice, hu, Instr.sliceBounds, Instr.sliceBound, asIntOf, h2]
theorem ends_c (s : ByteArray) (b : Nat) (hb : b < s.size) (hs : s.size < 2 ^ 48) {w : World} : CallsX E.P 81 #[.string s, .int .i64 (b : Int)] w (IsV (.int .i64 ((endsF s b : Nat) : Int)) w) never := by
  have wrap : ∀ {p : Int → Bool} {j : Nat}, j < s.size → p (byteAt s j) = true → endsW p s (s.size - (j + 1)) (j + 1) = endsW p s (s.size - j) j := fun {p j} hj hp => by
    rw [show s.size - j = (s.size - (j + 1)) + 1 by omega, endsW, if_pos hp]
  have stop : ∀ {p : Int → Bool} {j : Nat}, j < s.size → p (byteAt s j) = false → endsW p s (s.size - j) j = j := fun {p j} hj hp => by
    rw [show s.size - j = (s.size - (j + 1)) + 1 by omega, endsW, if_neg (by rw [hp]; exact Bool.false_ne_true)]
  have last : ∀ {p : Int → Bool} {j : Nat}, ¬ j < s.size → endsW p s (s.size - j) j = j := fun {p j} hj => by
    rw [show s.size - j = 0 by omega, endsW]
  have hsm : ∀ {j : Nat}, j < s.size → w64 ((j : Int) + 1) = ((j + 1 : Nat) : Int) := fun {j} hj => w64_succ (by omega)
  refine vc81 ⟨⟨by omega, by omega⟩, callB (digit_c _) fun w2 hE2 => ⟨fun hd => ?_, fun hd => ?_⟩⟩
  · have he : endsF s b = endsW digitB s (s.size - b) b := by unfold endsF; rw [if_pos hd]
    refine ⟨fun x w3 => ∃ j : Nat, x = j ∧ j ≤ s.size ∧ endsW digitB s (s.size - j) j = endsF s b ∧ Ext w w3, fun x => ((s.size : Int) - x).toNat, ⟨b, rfl, by omega, he.symm, hE2⟩, ?_⟩
    rintro _ x w3 ⟨j, rfl, hj, hg, hE3⟩
    refine ⟨fun hlt => ?_, fun hlt => ?_⟩
    · have hlt : j < s.size := by simpa using hlt
      refine ⟨⟨by omega, by omega⟩, callB (digit_c _) fun w4 hE4 => ⟨fun h2 => ⟨⟨j + 1, hsm hlt, hlt, by rw [wrap hlt h2, hg], hE3.trans hE4⟩, ?_⟩, fun h2 => ⟨by rw [← hg, stop hlt h2], hE3.trans hE4⟩⟩⟩
      rw [hsm hlt]; exact mea_succ hlt
    · have hlt : ¬ j < s.size := by simpa using hlt
      exact ⟨by rw [← hg, last hlt], hE3⟩
  · have he : endsF s b = endsW wordB s (s.size - b) b := by unfold endsF; rw [if_neg (by rw [hd]; exact Bool.false_ne_true)]
    refine ⟨fun x w3 => ∃ j : Nat, x = j ∧ j ≤ s.size ∧ endsW wordB s (s.size - j) j = endsF s b ∧ Ext w w3, fun x => ((s.size : Int) - x).toNat, ⟨b, rfl, by omega, he.symm, hE2⟩, ?_⟩
    rintro _ x w3 ⟨j, rfl, hj, hg, hE3⟩
    refine ⟨fun hlt => ?_, fun hlt => ?_⟩
    · have hlt : j < s.size := by simpa using hlt
      have hin : (0 : Int) ≤ (j : Int) ∧ (j : Int) < (s.size : Int) := ⟨by omega, by omega⟩
      have go : ∀ {w4 : World}, Ext w3 w4 → wordB (byteAt s j) = true → (∃ j' : Nat, w64 ((j : Int) + 1) = j' ∧ j' ≤ s.size ∧ endsW wordB s (s.size - j') j' = endsF s b ∧ Ext w w4) ∧ ((s.size : Int) - w64 ((j : Int) + 1)).toNat < ((s.size : Int) - (j : Int)).toNat := fun {w4} hE4 h2 =>
        ⟨⟨j + 1, hsm hlt, hlt, by rw [wrap hlt h2, hg], hE3.trans hE4⟩, by rw [hsm hlt]; exact mea_succ hlt⟩
      refine ⟨hin, callB (small_c _) fun w4 hE4 => ⟨fun h2 => go hE4 (by unfold wordB; rw [h2]; rfl), fun h2 => ⟨hin, callB (great_c _) fun w5 hE5 => ⟨fun h3 => go (hE4.trans hE5) (by unfold wordB; rw [h3]; simp), fun h3 => ⟨hin, callB (digit_c _) fun w6 hE6 => ⟨fun h4 => go ((hE4.trans hE5).trans hE6) (by unfold wordB; rw [h4]; simp), fun h4 => ⟨hin, fun h5 => go ((hE4.trans hE5).trans hE6) (by unfold wordB; rw [h5]; simp), fun h5 => ⟨?_, ((hE3.trans hE4).trans hE5).trans hE6⟩⟩⟩⟩⟩⟩⟩⟩
      rw [← hg, stop hlt (by unfold wordB; rw [h2, h3, h4, h5]; rfl)]
    · have hlt : ¬ j < s.size := by simpa using hlt
      exact ⟨by rw [← hg, last hlt], hE3⟩
def numV : Option Int → Value
  | none => .tuple #[.int .i64 0, .bool false]
  | some n => .tuple #[.int .i64 n, .bool true]
theorem number_c (s : ByteArray) {w : World} : CallsX E.P 82 #[.string s] w (IsV (numV (numF s)) w) never := by
  have r := Upd.refl w no
  have stepW : ∀ {n : Int} {j : Nat}, j < s.size → numW s (s.size - j) n j = if decide (n > w64 (Int.tdiv (w64 (9223372036854775807 - w64 (w64 (byteAt s j) - 48))) 10)) then none else numW s (s.size - (j + 1)) (w64 (w64 (10 * n) + w64 (w64 (byteAt s j) - 48))) (j + 1) := fun {n j} hj => by
    rw [show s.size - j = (s.size - (j + 1)) + 1 by omega, numW]
  have last : ∀ {n : Int} {j : Nat}, ¬ j < s.size → numW s (s.size - j) n j = some n := fun {n j} hj => by
    rw [show s.size - j = 0 by omega, numW]
  refine vc82 ⟨fun h1 => ⟨by unfold numF; rw [if_pos h1]; rfl, r⟩, fun h1 => ?_⟩
  have hsz : s.size ≤ 19 := by simp at h1; omega
  have body : ∀ (_ : numF s = numW s (s.size - 0) 0 0), ∃ (I : Int → Int → World → Prop) (m : Int → Int → Nat), I 0 0 w ∧
      ∀ (_ : Nat → Value) (x x1 : Int) (w2 : World), I x x1 w2 → (decide (x1 < (s.size : Int)) = true → ((0 : Int) ≤ x1 ∧ x1 < (s.size : Int)) ∧ (decide (x > w64 (Int.tdiv (w64 (9223372036854775807 - w64 (w64 (byteAt s x1) - 48))) 10)) = true → IsV (numV (numF s)) w (.tuple #[.int .i64 0, .bool false]) w2) ∧
        (decide (x > w64 (Int.tdiv (w64 (9223372036854775807 - w64 (w64 (byteAt s x1) - 48))) 10)) = false → I (w64 (w64 (10 * x) + w64 (w64 (byteAt s x1) - 48))) (w64 (x1 + 1)) w2 ∧ m (w64 (w64 (10 * x) + w64 (w64 (byteAt s x1) - 48))) (w64 (x1 + 1)) < m x x1)) ∧
        (decide (x1 < (s.size : Int)) = false → IsV (numV (numF s)) w (.tuple #[.int .i64 x, .bool true]) w2) := fun hn => by
    refine ⟨fun x x1 w2 => ∃ j : Nat, x1 = j ∧ j ≤ s.size ∧ numW s (s.size - j) x j = numF s ∧ Ext w w2, fun _ x1 => ((s.size : Int) - x1).toNat, ⟨0, rfl, by omega, hn.symm, r⟩, ?_⟩
    rintro _ x x1 w2 ⟨j, rfl, hj, hg, hE⟩
    refine ⟨fun hlt => ?_, fun hlt => ?_⟩
    · have hlt : j < s.size := by simpa using hlt
      rw [stepW hlt] at hg
      refine ⟨⟨by omega, by omega⟩, fun h2 => ⟨by rw [if_pos h2] at hg; rw [← hg]; rfl, hE⟩, fun h2 => ?_⟩
      rw [if_neg (by rw [h2]; exact Bool.false_ne_true)] at hg
      refine ⟨⟨j + 1, w64_succ (by omega), hlt, hg, hE⟩, ?_⟩
      dsimp only
      rw [w64_succ (by omega)]; exact mea_succ hlt
    · have hlt : ¬ j < s.size := by simpa using hlt
      rw [last hlt] at hg
      exact ⟨by rw [← hg]; rfl, hE⟩
  refine ⟨fun h2 => ⟨⟨by omega, by simp at h2; omega⟩, fun h3 => ⟨by unfold numF; rw [if_neg (by rw [h1]; exact Bool.false_ne_true), h2, h3]; rfl, r⟩, fun h3 => body ?_⟩, fun h2 => body ?_⟩
  · unfold numF; rw [if_neg (by rw [h1]; exact Bool.false_ne_true), h2, h3]; rfl
  · unfold numF; rw [if_neg (by rw [h1]; exact Bool.false_ne_true), h2]; rfl
theorem sign_c (s : ByteArray) (h0 : 0 < s.size) {w : World} : CallsX E.P 87 #[.string s] w (IsV (.string (signF s)) w) never := by
  have r := Upd.refl w no
  have body : ∀ {w1 : World} (_ : Ext w w1) (_ : signF s = if signIn (byteAt s 0) (bytesL signsB) then s.extract 0 1 else ByteArray.mk #[]), ∃ (I : Int → World → Prop) (m : Int → Nat), I 0 w1 ∧
      ∀ (_ : Nat → Value) (x : Int) (w2 : World), I x w2 → (decide (x < 14) = true → ((0 : Int) ≤ x ∧ x < 14) ∧ ((0 : Int) ≤ 0 ∧ (0 : Int) < (s.size : Int)) ∧
        ((byteAt signsB x == byteAt s 0) = true → ∀ w3, Upd w2 w3 (setOf []) → ∃ y, Sem.run E.P (Instr.sliceAt 9 (.string s) none (some (.int .i64 1)) none) w3 = .ok (.string y) w3 ∧ IsV (.string (signF s)) w (.string y) w3) ∧
        ((byteAt signsB x == byteAt s 0) = false → ∀ w3, Upd w2 w3 (setOf []) → I (w64 (x + 1)) w3 ∧ m (w64 (x + 1)) < m x)) ∧
        (decide (x < 14) = false → IsV (.string (signF s)) w (.string (ByteArray.mk #[])) w2) := fun {w1} hE1 hs => by
    refine loop0 (kids := bytesL signsB) (l := 14) rfl (by omega) hE1 (fun _ => signIn (byteAt s 0)) (fun I m j w2 hj hg hE2 k => ?_) (fun w2 hg hE2 => ?_)
    · have hj14 : j < 14 := hj
      rw [signIn] at hg
      have hb := byteAt_get (s := signsB) hj
      refine ⟨⟨by omega, by omega⟩, ⟨by omega, by omega⟩, fun h2 w3 hU3 => ⟨_, subTo s 1 h0, ?_, Ext.trans hE2 hU3⟩, fun h2 w3 hU3 => k _ ?_ (Ext.trans hE2 hU3)⟩
      · rw [hs, ← hg, if_pos (by rw [← hb, if_pos h2])]
      · rw [← hg, if_neg (by rw [← hb, h2]; exact Bool.false_ne_true)]
    · refine ⟨?_, hE2⟩
      rw [hs, ← hg]; rfl
  refine vc87 ⟨fun h1 => ?_, fun h1 => body r ?_⟩
  · have h2 : 2 ≤ s.size := by simp at h1; omega
    refine ⟨_, subTo s 2 h2, fun e1 => ⟨_, subTo s 2 h2, ?_, r⟩, fun e1 => ⟨_, subTo s 2 h2, fun e2 => ⟨_, subTo s 2 h2, ?_, r⟩, fun e2 => body r ?_⟩⟩
    · unfold signF; rw [h1, e1]; rfl
    · unfold signF; rw [h1, e1, e2]; rfl
    · unfold signF; rw [h1, e1, e2]; rfl
  · unfold signF; rw [h1]; rfl
def tokV (r : Tok × Nat × Int) : Value := .tuple #[.agg #[.int .i64 r.1.kind, .int .i64 r.1.n, .string r.1.text, .int .i64 r.1.at_], .int .i64 (r.2.1 : Int), .int .i64 r.2.2]
theorem token_c (s : ByteArray) (b : Nat) (hb : b < s.size) (hs : s.size < 2 ^ 30) {w : World} : CallsX E.P 54 #[.string s, .int .i64 (b : Int)] w (IsV (tokV (tokF s b)) w) never := by
  refine vc54 ?_
  intro id hid
  have hin : (0 : Int) ≤ (b : Int) ∧ (b : Int) < (s.size : Int) := ⟨by omega, by omega⟩
  have hle := endsF_le hb
  have fin : ∀ {w1 w2 : World} {v : Value}, Ext w w1 → Upd w1 w2 (setOf [id]) → tokV (tokF s b) = v → IsV (tokV (tokF s b)) w v w2 := fun hE hU hv => ⟨hv.symm, Upd.step hE hU fun x hx => by simp only [setOf, no, or_false] at hx; omega⟩
  refine ⟨hin, fun w1 hE1 _ => callB (digit_c _) fun w2 hE2 => ⟨fun hd => ?_, fun hd => ?_⟩⟩
  · have hE02 : Ext w w2 := Ext.trans hE1 hE2
    refine callI (ends_c s b hb (by omega)) fun w3 hE3 => ⟨_, sub2 s b (endsF s b) hle.1 hle.2, ?_⟩
    refine ⟨_, _, number_c _, ?_, never_any⟩
    rintro v w4 ⟨rfl, hE4⟩
    have hE04 := (hE02.trans hE3).trans hE4
    cases hn : numF (s.extract b (endsF s b)) with
    | none => exact ⟨0, false, rfl, no, hE4, Away.no _, fun _ w5 hU5 => fin hE04 hU5 (by unfold tokF; rw [if_pos hd, hn]; rfl), fun h => nomatch h⟩
    | some n => exact ⟨n, true, rfl, no, hE4, Away.no _, (fun h => nomatch h), fun _ w5 hU5 => fin hE04 hU5 (by unfold tokF; rw [if_pos hd, hn]; rfl)⟩
  · have hE02 : Ext w w2 := Ext.trans hE1 hE2
    have hd' : ¬ digitB (byteAt s b) = true := by rw [hd]; exact Bool.false_ne_true
    have word : ∀ {w3 : World} {X : ContX}, Ext w w3 → (smallB (byteAt s b) || greatB (byteAt s b)) = true →
        ∃ (R2 : Value → World → Prop) (X' : ContX), CallsX E.P 81 #[.string s, .int .i64 (b : Int)] w3 R2 X' ∧ (∀ (v4 : Value) (w26 : World), R2 v4 w26 → ∃ x6, v4 = .int .i64 x6 ∧ ∃ S, Upd w3 w26 S ∧ Away [id] S ∧ ∃ x7, Sem.run E.P (Instr.sliceAt 9 (.string s) (some (.int .i64 (b : Int))) (some (.int .i64 x6)) none) w26 = .ok (.string x7) w26 ∧
          ∃ (R3 : Value → World → Prop) (X'2 : ContX), CallsX E.P 85 #[.string x7] w26 R3 X'2 ∧ (∀ (v5 : Value) (w27 : World), R3 v5 w27 → ∃ x8, v5 = .bool x8 ∧ ∃ S, Upd w26 w27 S ∧ Away [id] S ∧
            (x8 = true → ∀ w13, Upd w27 w13 (setOf [id]) → IsV (tokV (tokF s b)) w (.tuple #[.agg #[.int .i64 3, .int .i64 0, .string x7, .int .i64 (b : Int)], .int .i64 x6, .int .i64 0]) w13) ∧
            (x8 = false → ∃ (R4 : Value → World → Prop) (X'3 : ContX), CallsX E.P 86 #[.string x7] w27 R4 X'3 ∧ (∀ (v6 : Value) (w28 : World), R4 v6 w28 → ∃ x9, v6 = .bool x9 ∧ ∃ S, Upd w27 w28 S ∧ Away [id] S ∧
              ((!x9) = true → ∀ w14, Upd w28 w14 (setOf [id]) → IsV (tokV (tokF s b)) w (.tuple #[.agg #[.int .i64 0, .int .i64 0, .string (ByteArray.mk #[]), .int .i64 0], .int .i64 0, .int .i64 112]) w14) ∧
              ((!x9) = false → ∀ w15, Upd w28 w15 (setOf [id]) → IsV (tokV (tokF s b)) w (.tuple #[.agg #[.int .i64 2, .int .i64 0, .string x7, .int .i64 (b : Int)], .int .i64 x6, .int .i64 0]) w15)) ∧ ∀ ch w2, X'3 ch w2 → X ch w2)) ∧ ∀ ch w2, X'2 ch w2 → X ch w2) ∧ ∀ ch w2, X' ch w2 → X ch w2 := by
      intro w3 X hE03 hsg
      refine callI (ends_c s b hb (by omega)) fun w4 hE4 => ⟨_, sub2 s b (endsF s b) hle.1 hle.2, ?_⟩
      refine callB (word_c _) fun w5 hE5 => ⟨fun hw w6 hU6 => fin ((hE03.trans hE4).trans hE5) hU6 ?_, fun hw => callB (isName_c _) fun w6 hE6 => ⟨fun hn w7 hU7 => fin (((hE03.trans hE4).trans hE5).trans hE6) hU7 ?_, fun hn w7 hU7 => fin (((hE03.trans hE4).trans hE5).trans hE6) hU7 ?_⟩⟩
      · unfold tokF; rw [if_neg hd', if_pos hsg, if_pos hw]; rfl
      · unfold tokF; rw [if_neg hd', if_pos hsg, if_neg (by rw [hw]; exact Bool.false_ne_true), if_neg (by simpa using hn)]; rfl
      · unfold tokF; rw [if_neg hd', if_pos hsg, if_neg (by rw [hw]; exact Bool.false_ne_true), if_pos (by simpa using hn)]; rfl
    refine callB (small_c _) fun w3 hE3 => ⟨fun h1 => word (hE02.trans hE3) (by rw [h1]; rfl), fun h1 => callB (great_c _) fun w4 hE4 => ⟨fun h2 => word ((hE02.trans hE3).trans hE4) (by rw [h2]; simp), fun h2 => ?_⟩⟩
    have hsg : ¬ (smallB (byteAt s b) || greatB (byteAt s b)) = true := by rw [h1, h2]; exact Bool.false_ne_true
    have hz : 0 < (s.extract b s.size).size := by rw [ByteArray.size_extract]; omega
    have hle2 := signF_le (s.extract b s.size)
    rw [ByteArray.size_extract] at hle2
    refine ⟨_, subFrom s b (by omega), ⟨_, _, sign_c _ hz, ?_, never_any⟩⟩
    rintro v w5 ⟨rfl, hE5⟩
    have hE05 := ((hE02.trans hE3).trans hE4).trans hE5
    refine ⟨_, rfl, no, hE5, Away.no _, fun h3 w6 hU6 => fin hE05 hU6 ?_, fun h3 w6 hU6 => fin hE05 hU6 ?_⟩
    · unfold tokF; rw [if_neg hd', if_neg hsg, if_pos h3]; rfl
    · unfold tokF; rw [if_neg hd', if_neg hsg, if_neg (by rw [h3]; exact Bool.false_ne_true)]
      have hw : w64 ((b : Int) + ((signF (s.extract b s.size)).size : Int)) = ((b + (signF (s.extract b s.size)).size : Nat) : Int) := by rw [w64_id (by omega) (by omega)]; omega
      rw [hw]; rfl
theorem sl57 : SlT E.P 57 65 4 40 := SlT.of (by kernel_rfl) (by omega) (by omega)
def ScanR (w : World) (r : List Tok × Int × Int) : Value → World → Prop := fun v w' => ∃ A l c, v = .tuple #[.slice A l c, .int .i64 r.2.1, .int .i64 r.2.2] ∧ RowIn w' (Rng w.heap.size w'.heap.size) 4 A l c (r.1.map tokE) ∧ Ext w w'
theorem scan_c (s : ByteArray) {w : World} : CallsX E.P 37 #[.string s] w (ScanR w (scanF s)) never := by
  have nil : ∀ {w2 : World}, RowIn w2 (Rng w.heap.size w2.heap.size) 4 none 0 0 (([] : List Tok).map tokE) := fun {w2} => ⟨rfl, Nat.le_refl _, by omega, by simp, fun h => absurd rfl h⟩
  refine vc37 ⟨fun h1 => ⟨none, 0, 0, by unfold scanF; rw [if_pos h1], by unfold scanF; rw [if_pos h1]; exact nil, Upd.refl _ _⟩, fun h1 => ?_⟩
  have hsz : s.size ≤ 2000 := by simp at h1; omega
  have hres : scanF s = scanL s s.size 0 [] := by unfold scanF; rw [if_neg (by rw [h1]; exact Bool.false_ne_true)]
  generalize scanF s = res at hres
  refine ⟨fun A n c x w2 => ∃ (j f : Nat) (ts : List Tok), x = j ∧ j ≤ s.size ∧ s.size ≤ f + j ∧ ts.length ≤ j ∧ scanL s f j ts = res ∧ RowB tokRel 65 w2 true w.heap.size w2.heap.size no no ts A n c ∧ Ext w w2, fun _ _ _ x => ((s.size : Int) - x).toNat,
    ⟨0, s.size, [], rfl, by omega, by omega, by simp, hres.symm, RowB.nil (fun _ h => h.elim) (Nat.le_refl _), Upd.refl _ _⟩, ?_⟩
  rintro _ A n c x w2 ⟨j, f, ts, rfl, hj, hf, hts, hg, hB, hE2⟩
  have hnl := hB.len
  have hs2 := hE2.size
  have hsm : ∀ {i : Nat}, i < s.size → w64 ((i : Int) + 1) = ((i + 1 : Nat) : Int) := fun {i} hi => w64_succ (by omega)
  refine ⟨fun hlt => ?_, fun hlt => ?_⟩
  · have hlt' : j < s.size := by simpa using hlt
    obtain ⟨f, rfl⟩ : ∃ g, f = g + 1 := ⟨f - 1, by omega⟩
    rw [scanL, if_pos hlt] at hg
    refine ⟨⟨by omega, by omega⟩, callB (blank_c _) fun w3 hE3 => ⟨fun hb => ?_, fun hb => ?_⟩⟩
    · rw [if_pos hb] at hg
      refine ⟨⟨j + 1, f, ts, hsm hlt', by omega, by omega, by omega, hg, (RowB.ext hB hE3).re hE3.size (Nat.le_refl _) (fun x hx => .inl hx), hE2.trans hE3⟩, ?_⟩
      dsimp only
      rw [hsm hlt']; exact mea_succ hlt'
    · rw [if_neg (by rw [hb]; exact Bool.false_ne_true)] at hg
      have hE03 := hE2.trans hE3
      refine ⟨_, _, token_c s j hlt' (by omega), ?_, never_any⟩
      rintro v w4 ⟨rfl, hE4⟩
      generalize htk : tokF s j = tk at hg
      obtain ⟨t, nx, e⟩ := tk
      refine ⟨_, _, _, _, _, _, rfl, no, hE4, Away.no _, fun id hid => ⟨fun he w5 hE5 _ => ?_, fun he id1 hid1 w5 hE5 _ hi1 hh5 => ?_⟩⟩
      · rw [if_pos he] at hg
        exact ⟨none, 0, 0, by rw [← hg], by rw [← hg]; exact nil, (hE03.trans hE4).trans hE5⟩
      · rw [if_neg (by rw [he]; exact Bool.false_ne_true)] at hg
        have he0 : (tokF s j).2.2 = 0 := by rw [htk]; simpa using he
        have hnx := tokF_next hlt' he0
        rw [htk] at hnx
        dsimp only at hnx
        have hE05 := (hE03.trans hE4).trans hE5
        have hB5 := RowB.ext hB ((hE3.trans hE4).trans hE5)
        have hs5 : w2.heap.size ≤ w5.heap.size := ((hE3.trans hE4).trans hE5).size
        have hs4 := hE4.size
        have hs3 := hE3.size
        refine pushVC (RowB.push (x := t) (cs := tokE t) (Fk := no) sl57 hB5 rfl (fun _ h => h.elim) (Upd.refl _ _) (fun _ h => h.elim) hh5 (by omega)) (away_of fun i hi hS => ?_) ?_
        · have := hB.blk hS
          simp only [List.mem_cons, List.not_mem_nil, or_false] at hi
          omega
        intro A' c' w6 ⟨hB6, _⟩ hU6 hh6
        refine ⟨⟨nx, f, ts ++ [t], rfl, hnx.2, by omega, by simp; omega, hg, hB6, Upd.step hE05 hU6 fun x hx => by have := hB.blk hx; omega⟩, ?_⟩
        dsimp only
        omega
  · have hlt' : ¬ j < s.size := by simpa using hlt
    intro id2 hid2 w5 hE5 hi2 hh5
    have hg2 : res = (ts ++ [⟨0, 0, ByteArray.mk #[], s.size⟩], 0, 0) := by
      rw [← hg]
      cases f with
      | zero => rw [scanL]
      | succ f => rw [scanL, if_neg (by rw [hlt]; exact Bool.false_ne_true)]
    have hs5 : w2.heap.size ≤ w5.heap.size := Upd.size hE5
    have hB5 := RowB.ext hB hE5
    refine pushVC (RowB.push (x := (⟨0, 0, ByteArray.mk #[], s.size⟩ : Tok)) (cs := tokE ⟨0, 0, ByteArray.mk #[], s.size⟩) (Fk := no) sl57 hB5 rfl (fun _ h => h.elim) (Upd.refl _ _) (fun _ h => h.elim) hh5 (by omega)) (away_of fun i hi hS => ?_) ?_
    · have := hB.blk hS
      simp only [List.mem_cons, List.not_mem_nil, or_false] at hi
      omega
    intro A' c' w6 ⟨hB6, _⟩ hU6 hh6
    have hD := RowB.done (c' := c') (o := false) (E := no) (RowB.unown hB6) (by omega) (.inr ⟨rfl, rfl⟩)
    refine ⟨A', n + 1, c', by rw [hg2], ?_, Upd.step (hE2.trans hE5) hU6 fun x hx => by have := hB.blk hx; omega⟩
    rw [hg2]
    exact (flat_of hD).mono fun x hx => by
      rcases hx with ⟨_, h⟩ | h
      · exact h.elim
      · exact ⟨h.1, h.2.1⟩
end
end Go.Vx.Tryz
