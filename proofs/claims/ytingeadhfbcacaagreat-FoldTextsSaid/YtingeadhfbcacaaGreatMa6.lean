/- Texts of the walk, gathered. -/
import Derived.Test.YtingeadhfbcacaaGreatMa5
import Derived.Test.YtingeadhfbcacaaGreatMa1
import Derived.Test.YtingeadhfbcacaaGreatMa2
import Derived.Test.YtingeadhfbcacaaGreatMa3
import Derived.Test.YtingeadhfbcacaaGreatMa4
set_option linter.unusedSimpArgs false
set_option linter.unusedVariables false
namespace Go.Vx
section
theorem foldV6 {rk : Int → Int → Int → Option Int} {m : Nd} (h : m.k = 6 ∨ m.k = 7 ∨ m.k = 26) : foldV rk m = singleV m (m.kid 0) := by
  unfold foldV; rcases h with h | h | h <;> rw [h] <;> rfl
theorem foldV8 {rk : Int → Int → Int → Option Int} {m : Nd} (h : m.k = 8 ∨ m.k = 9 ∨ m.k = 10 ∨ m.k = 11 ∨ m.k = 12) : foldV rk m = sumsV (sumsR rk m (m.kid 0) (m.kid 1)) m (m.kid 0) (m.kid 1) := by
  unfold foldV; rcases h with h | h | h | h | h <;> rw [h] <;> rfl
theorem foldV13 {rk : Int → Int → Int → Option Int} {m : Nd} (h : m.k = 13 ∨ m.k = 14 ∨ m.k = 15 ∨ m.k = 16) : foldV rk m = comparedV m (m.kid 0) (m.kid 1) := by
  unfold foldV; rcases h with h | h | h | h <;> rw [h] <;> rfl
theorem foldV17 {rk : Int → Int → Int → Option Int} {m : Nd} (h : m.k = 17 ∨ m.k = 18 ∨ m.k = 19) : foldV rk m = logicV m (m.kid 0) (m.kid 1) := by
  unfold foldV logicV; rcases h with h | h | h <;> rw [h] <;> rfl
theorem foldV21 {rk : Int → Int → Int → Option Int} {m : Nd} (h : m.k = 21) : foldV rk m = quantV m (m.kid 0) (m.kid 1) := by
  unfold foldV; rw [h]; rfl
theorem foldL_len (rk : Int → Int → Int → Option Int) (l : List Nd) : (foldL rk l).length = l.length := by rw [foldL_map]; simp
end
end Go.Vx
namespace Go.Vx.Tryz
open Go Go.Vx Go.Proofs
section
section
variable {w : World} {o : Bool} {F : Nat → Prop} {n : Nd} {A : Option Addr} {l c : Nat}
theorem two_at {x : Int} (h : x = 0 ∨ x = 1) : ∃ j : Nat, w64 (2 - x) = (j : Int) ∧ j < 3 ∧ (w64 (2 - x)).toNat = j := by
  rcases h with rfl | rfl
  · exact ⟨2, by decide, by decide, by decide⟩
  · exact ⟨1, by decide, by decide, by decide⟩
theorem logic_c (hr : NdsG w o F n.kids A l c) (h0 : 0 < n.kids.length) (hl : n.k = 17 ∨ n.k = 18 → 1 < n.kids.length) (h3 : n.k = 19 → n.kids.length = 3 ∧ ((n.kid 0).k = 2 → (n.kid 0).n = 0 ∨ (n.kid 0).n = 1)) :
    CallsX E.P 73 #[ndA n A l c] w (NdP w o F (logicV n (n.kid 0) (n.kid 1))) never := by
  refine vc73 fun id hid id1 hid1 => hr.idx (j := 0) h0 fun ad ha w1 hE1 _ _ => kidN hr hE1 (j := 0) h0 ha fun A1 l1 c1 q1 id2 hid2 => ?_
  have hE1 : Ext w w1 := hE1
  have join : ∀ (g : Int), 1 < n.kids.length → logicV n (n.kid 0) (n.kid 1) = joinedV g n (n.kid 0) (n.kid 1) → ∀ {X : ContX}, ((0 : Int) ≤ 1 ∧ 1 < (l : Int)) ∧ ∃ ad2, A = some ad2 ∧ ∀ w14, Upd w1 w14 (setOf []) → id2 < w14.heap.size → ∃ x6 x7, ∃ x8 a2, ∃ n2 c2, CellsIn w14 (Addr.add ad2 4) [.int .i64 x6, .int .i64 x7, .string x8, .slice a2 n2 c2] ∧
      ∀ id3, w14.heap.size ≤ id3 → ∀ w15, Upd w14 w15 (setOf []) → id3 < w15.heap.size → ∃ R1 X', CallsX E.P 102 #[ndA (n.kid 0) A1 l1 c1, .int .i64 2, .int .i64 g] w15 R1 X' ∧ (∀ v w2, R1 v w2 → ∃ x9, v = .bool x9 ∧ ∃ S, Upd w15 w2 S ∧ Away [id, id1, id2, id3] S ∧
        (x9 = true → ∀ w16, Upd w2 w16 (setOf [id1]) → NdP w o F (logicV n (n.kid 0) (n.kid 1)) (.agg #[.int .i64 x6, .int .i64 x7, .string x8, .slice a2 n2 c2]) w16) ∧ (x9 = false → (((n.kid 0).k == 2) = true → ∀ w17, Upd w2 w17 (setOf [id1]) → NdP w o F (logicV n (n.kid 0) (n.kid 1)) (ndA (n.kid 0) A1 l1 c1) w17) ∧
          (((n.kid 0).k == 2) = false → ∃ R2 X'1, CallsX E.P 102 #[.agg #[.int .i64 x6, .int .i64 x7, .string x8, .slice a2 n2 c2], .int .i64 2, .int .i64 g] w2 R2 X'1 ∧ (∀ v1 w21, R2 v1 w21 → ∃ x10, v1 = .bool x10 ∧ ∃ S, Upd w2 w21 S ∧ Away [id, id1, id2, id3] S ∧
            (x10 = true → ∀ w18, Upd w21 w18 (setOf [id1]) → NdP w o F (logicV n (n.kid 0) (n.kid 1)) (ndA (n.kid 0) A1 l1 c1) w18) ∧ (x10 = false → ∀ w19, Upd w21 w19 (setOf [id1]) → NdP w o F (logicV n (n.kid 0) (n.kid 1)) (ndA n A l c) w19)) ∧ PX X'1 X))) ∧ PX X' X := by
    intro g hl1 he X
    rw [he]
    refine hr.idx (j := 1) hl1 fun ad2 ha2 w3 hE3 _ => ?_
    have hE13 : Ext w w3 := Ext.trans hE1 hE3
    refine kidN hr hE13 (j := 1) hl1 ha2 fun A2 l2 c2 q2 id3 hid3 w4 hE4 _ => ?_
    have h4 : Ext w w4 := hE13.trans hE4
    generalize n.kid 0 = x at *
    generalize n.kid 1 = y at *
    exact callB (is_c102 x 2 g) fun w5 hE5 => ⟨fun t w6 hU => retN (by rw [joinedV, t]; rfl) q2 (fl (h4.trans hE5) hU hid1), fun t => ⟨fun k w6 hU => retN (by rw [joinedV, t, k]; rfl) q1 (fl (h4.trans hE5) hU hid1),
      fun k => callB (is_c102 y 2 g) fun w6 hE6 => ⟨fun t2 w7 hU => retN (by rw [joinedV, t, k, t2]; rfl) q1 (fl ((h4.trans hE5).trans hE6) hU hid1), fun t2 w7 hU => retN (by rw [joinedV, t, k, t2]; rfl) hr (fl ((h4.trans hE5).trans hE6) hU hid1)⟩⟩⟩
  refine ⟨fun h19 => ⟨fun k2 => ?_, fun k2 w2 hU _ => retN (by rw [logicV, h19, ifV, k2]; rfl) hr (fl hE1 hU hid1)⟩, fun h19 => ⟨fun h17 => ⟨fun h18 => ?_, fun h18 => ?_⟩, fun h17 => ⟨fun h18 => ⟨fun _ => ?_, fun h => absurd h18 (nt h)⟩, fun h18 w2 hU _ => retN (by rw [logicV, h19, h17, h18]; rfl) hr (fl hE1 hU hid1)⟩⟩⟩
  · obtain ⟨h3l, h3b⟩ := h3 (by simpa using h19)
    obtain ⟨j, e1, e2, e3⟩ := two_at (h3b (by simpa using k2))
    have he : logicV n (n.kid 0) (n.kid 1) = n.kid j := by rw [logicV, h19, ifV, k2]; simp only [if_true]; rw [e3]
    rw [e1, he]
    refine hr.idx (j := j) (by omega) fun ad1 ha1 w2 hE2 _ => ?_
    have hE12 : Ext w w2 := Ext.trans hE1 hE2
    exact kidN hr hE12 (j := j) (by omega) ha1 fun A2 l2 c2 q2 w3 hU => retN rfl q2 (fl hE12 hU hid1)
  · have e17 : n.k = 17 := by simpa using h17
    have e18 : n.k = 18 := by simpa using h18
    omega
  · have e17 : n.k = 17 := by simpa using h17
    exact join 1 (hl (.inl e17)) (by rw [logicV, h19, h17]; rfl)
  · have e18 : n.k = 18 := by simpa using h18
    exact join 0 (hl (.inr e18)) (by rw [logicV, h19, h17, h18]; rfl)
end
theorem folded_c (N : Nat) (hN : N < 2 ^ 30) : ∀ (n : Nd), n.size ≤ N → forms n = true → inR n = true → ∀ {w : World} {F : Nat → Prop} {A : Option Addr} {l c : Nat}, NdsR w F n.kids A l c →
    CallsX E.P 46 #[ndA n A l c] w (fun v w' => ∃ A' l' c', v = ndA (foldN rkP n) A' l' c' ∧ NdsG w' true (Rng w.heap.size w'.heap.size) (foldN rkP n).kids A' l' c' ∧ Ext w w') never := by
  induction N with
  | zero => intro n hn; cases n; simp [Nd.size] at hn
  | succ N ih =>
    intro n hn hfm hin w F A l c hr
    obtain ⟨k, n0, s, kids⟩ := n
    rw [foldN]
    have hfm2 := hfm
    have hin2 := hin
    rw [forms, Bool.and_eq_true] at hfm2
    rw [inR, Bool.and_eq_true] at hin2
    obtain ⟨hfm0, hfml⟩ := hfm2
    obtain ⟨hin0, hinl⟩ := hin2
    obtain ⟨hf2, hi2, _, _, hlen2⟩ := foldL_ok kids hfml hinl
    have hmf : forms (.mk k n0 s (foldL rkP kids)) = true := by rw [forms, Bool.and_eq_true, hlen2]; exact ⟨hfm0, hf2⟩
    dsimp only [ndA, Nd.k, Nd.n, Nd.s, Nd.kids] at hr ⊢
    obtain rfl := hr.len
    refine vc46 ?_
    intro id hid id1 hid1 id2 hid2 w1 hE h1 h2 h3
    have hs := hE.size
    have hkl : kids.length ≤ N := by have := Nd.len_sizes kids; simp only [Nd.size] at hn; omega
    refine loopB (s0 := ([] : List Nd)) (fun s A n c w2 => NdsB w2 true w1.heap.size w2.heap.size no no s A n c ∧ Ext w w2 ∧ w1.heap.size ≤ w2.heap.size) hr.len hr.lt (fun _ s r => s ++ foldL rkP r) ⟨RowB.nil (fun _ h => h.elim) (Nat.le_refl _), hE, Nat.le_refl _⟩
      (fun I m s j A n c w2 hj hg ⟨hB, hE2, hs12⟩ k => ?_) (fun st A n c w2 hg ⟨hB, hE2, hs12⟩ => ?_)
    · refine hr.idx hj fun ad ha => (hr.ext hE2).cell ha hj fun A1 l1 c1 q1 id3 hid3 w3 hE3 _ => ?_
      refine callN (ih (by omega) _ (by have := kid_size hj; simp only [Nd.size] at hn; omega) (formsL_iff.1 hfml _ (List.getElem_mem hj)) (inRL_iff.1 hinl _ (List.getElem_mem hj)) (q1.ext hE3)) fun A2 l2 c2 w4 hE4 q2 id4 hid4 w5 hE5 _ hcell => ?_
      have hl := hB.len
      have hsl : s.length < kids.length := by have := congrArg List.length hg; simp [foldL_len, foldL] at this; omega
      have hlo := hB.los
      have hs3 := hE3.size
      have hs4 := hE4.size
      have hs5 := hE5.size
      refine pushVC (RowB.push (x := foldN rkP kids[j]) (cs := ndV (foldN rkP kids[j]) A2 l2 c2) (Fk := Rng w3.heap.size w4.heap.size) sl22 (hB.ext (hE3.trans hE4)) q2.node (fun b hb => .inr ⟨by have := hb.1; omega, hb.2, fun h => h⟩) hE5 (fun _ h => h.elim) hcell (by rw [hl]; omega))
        (away_rng (fun b hb => ⟨(hB.blk hb).1, (hB.blk hb).2.1⟩) (by simp only [outL, and_true]; omega)) ?_
      intro A' c' w6 ⟨hB6, _⟩ hU6 w7 hU7 _
      have hE6 := Upd.step (hE2.trans ((hE3.trans hE4).trans hE5)) hU6 (fun b hb => by have := hB.blk hb; omega)
      have hs6 := hU6.size
      have hs7 := hU7.size
      refine k (s ++ [foldN rkP kids[j]]) A' _ c' w7 (by rw [← hg, foldL]; simp) ⟨?_, Upd.step hE6 hU7 (fun b hb => by simp only [setOf, no, or_false] at hb; omega), by omega⟩
      exact (hB6.upd hU7 fun b hb => ⟨fun h => h, .inr (by simp only [setOf, no, or_false] at hb; omega)⟩).re hU7.size (Nat.le_refl _) (fun b hb => hb.elim)
    · have hl := hB.len
      have hlo := hB.los
      simp only [foldL, List.append_nil, List.nil_append] at hg
      subst hg
      have hd := nds_of (hB.done (c' := n) (by rw [hl, foldL_len]; omega) (.inl rfl))
      have hm : NdsG w2 true (Rng w1.heap.size w2.heap.size) (foldL rkP kids) A n n := hd.mono fun b hb => by
        rcases hb with ⟨h, _⟩ | ⟨g1, g2, _⟩
        · cases h
        · exact ⟨g1, g2⟩
      refine call_clip (clip68_c hB.cap) ?_
      generalize hM : Nd.mk k n0 s (foldL rkP kids) = m at hmf ⊢
      have ek : m.k = k := by rw [← hM]; rfl
      have ekids : m.kids = foldL rkP kids := by rw [← hM]; rfl
      have en : ∀ (A : Option Addr) (l c : Nat), (Value.agg #[.int .i64 k, .int .i64 n0, .string s, .slice A l c]) = ndA m A l c := by rw [← hM]; intros; rfl
      have hm' : NdsG w2 true (Rng w1.heap.size w2.heap.size) m.kids A n n := by rw [ekids]; exact hm
      clear hM hd hm
      simp only [en]
      rw [← ek]
      have hform := form_of hmf
      -- behind the loop
      have at3 : ∀ {w3 : World}, Upd w2 w3 (setOf [id2]) → NdsG w3 true (Rng w1.heap.size w2.heap.size) m.kids A n n ∧ Ext w w3 ∧ w2.heap.size ≤ w3.heap.size := fun hU =>
        ⟨hm'.upd hU fun b hb hS => by have := hb.1; simp only [setOf, no, or_false] at hS; omega, fl hE2 hU hid2, hU.size⟩
      have fin : ∀ {r : Nd} {w3 w4 : World} {A4 : Option Addr} {l4 c4 : Nat} {S : Nat → Prop}, foldV rkP m = r → NdsG w3 true (Rng w1.heap.size w2.heap.size) r.kids A4 l4 c4 → Ext w w3 → w2.heap.size ≤ w3.heap.size → Upd w3 w4 S → (∀ b, S b → b = id1 ∨ b = id2) →
          ∃ A' l' c', ndA r A4 l4 c4 = ndA (foldV rkP m) A' l' c' ∧ NdsG w4 true (Rng w.heap.size w4.heap.size) (foldV rkP m).kids A' l' c' ∧ Ext w w4 := by
        intro r w3 w4 A4 l4 c4 S e q hE3 hs3 hU hS
        have hs4 := hU.size
        refine ⟨A4, l4, c4, by rw [e], ?_, Upd.step hE3 hU fun b hb => by rcases hS b hb with h | h <;> omega⟩
        rw [e]
        refine (q.upd hU fun b hb hb2 => ?_).mono fun b hb => ⟨by have := hb.1; omega, by have := hb.2; omega⟩
        have := hb.1
        rcases hS b hb2 with h | h <;> omega
      have s1 : ∀ b, setOf [id1] b → b = id1 ∨ b = id2 := fun b hb => by simp only [setOf, no, or_false] at hb; exact .inl hb
      have call : ∀ {f : Nat} {r : Nd} {w3 : World} {ids : List Nat}, Upd w2 w3 (setOf [id2]) → (NdsG w3 true (Rng w1.heap.size w2.heap.size) m.kids A n n → CallsX E.P f #[ndA m A n n] w3 (NdP w3 true (Rng w1.heap.size w2.heap.size) r) never) → foldV rkP m = r → ∀ {X : ContX},
          ∃ R15 X', CallsX E.P f #[ndA m A n n] w3 R15 X' ∧ (∀ v w4, R15 v w4 → ∃ x52 x53, ∃ x54 a20, ∃ n20 c20, v = .agg #[.int .i64 x52, .int .i64 x53, .string x54, .slice a20 n20 c20] ∧ ∃ S, Upd w3 w4 S ∧ Away ids S ∧
            ∀ w5, Upd w4 w5 (setOf [id1]) → ∃ A' l' c', (Value.agg #[.int .i64 x52, .int .i64 x53, .string x54, .slice a20 n20 c20]) = ndA (foldV rkP m) A' l' c' ∧ NdsG w5 true (Rng w.heap.size w5.heap.size) (foldV rkP m).kids A' l' c' ∧ Ext w w5) ∧ PX X' X := by
        intro f r w3 ids hU hc e X
        obtain ⟨g1, g2, g3⟩ := at3 hU
        exact callN (hc g1) fun A4 l4 c4 w4 hE4 q4 w5 hU5 => fin e q4 (g2.trans hE4) (Nat.le_trans g3 hE4.size) hU5 s1
      have l2 : m.k = 8 ∨ m.k = 9 ∨ m.k = 10 ∨ m.k = 11 ∨ m.k = 12 ∨ m.k = 13 ∨ m.k = 14 ∨ m.k = 15 ∨ m.k = 16 ∨ m.k = 17 ∨ m.k = 18 ∨ m.k = 21 → m.kids.length = 2 := fun h => by have := form_two hform h; omega
      have l1 : m.k = 6 ∨ m.k = 7 ∨ m.k = 26 → m.kids.length = 1 := fun h => by have := form_one hform h; omega
      have e : ∀ {i : Int}, (m.k == i) = true → m.k = i := fun h => by simpa using h
      have e' : ∀ {x i : Int}, (x == i) = true → x = i := fun h => by simpa using h
      have sumsC : ∀ {w3 : World}, (m.k = 8 ∨ m.k = 9 ∨ m.k = 10 ∨ m.k = 11 ∨ m.k = 12) → NdsG w3 true (Rng w1.heap.size w2.heap.size) m.kids A n n → CallsX E.P 71 #[ndA m A n n] w3 (NdP w3 true (Rng w1.heap.size w2.heap.size) (sumsV (sumsR rkP m (m.kid 0) (m.kid 1)) m (m.kid 0) (m.kid 1))) never := fun h q => sums_c71 q (by have := l2 (by omega); omega)
      have cmpC : ∀ {w3 : World}, (m.k = 13 ∨ m.k = 14 ∨ m.k = 15 ∨ m.k = 16) → NdsG w3 true (Rng w1.heap.size w2.heap.size) m.kids A n n → CallsX E.P 72 #[ndA m A n n] w3 (NdP w3 true (Rng w1.heap.size w2.heap.size) (comparedV m (m.kid 0) (m.kid 1))) never := fun h q => compared_c72 q (by have := l2 (by omega); omega)
      have logC : ∀ {w3 : World}, (m.k = 17 ∨ m.k = 18 ∨ m.k = 19) → NdsG w3 true (Rng w1.heap.size w2.heap.size) m.kids A n n → CallsX E.P 73 #[ndA m A n n] w3 (NdP w3 true (Rng w1.heap.size w2.heap.size) (logicV m (m.kid 0) (m.kid 1))) never := fun h q => by
        have h19 : m.k = 19 → m.kids.length = 3 := fun h => by rw [h] at hform; have := form_three hform; omega
        refine logic_c q ?_ (fun h => by have := l2 (by omega); omega) fun h => ⟨h19 h, fun hk => ?_⟩
        · rcases h with h | h | h
          · have := l2 (by omega); omega
          · have := l2 (by omega); omega
          · have := h19 h; omega
        · have hb := form_of (forms_kid hmf (j := 0) (by have := h19 h; omega))
          rw [hk] at hb
          exact form_bool hb
      refine ⟨fun h6 => ?_, fun h6 => ⟨fun h7 => ?_, fun h7 => ⟨fun h26 => ?_, fun h26 => ⟨fun h8 w3 hU => call hU (sumsC (by have := e h8; omega)) (foldV8 (by have := e h8; omega)), fun h8 => ⟨fun h9 w3 hU => call hU (sumsC (by have := e h9; omega)) (foldV8 (by have := e h9; omega)), fun h9 =>
        ⟨fun h10 w3 hU => call hU (sumsC (by have := e h10; omega)) (foldV8 (by have := e h10; omega)), fun h10 => ⟨fun h11 w3 hU => call hU (sumsC (by have := e h11; omega)) (foldV8 (by have := e h11; omega)), fun h11 => ⟨fun h12 w3 hU => call hU (sumsC (by have := e h12; omega)) (foldV8 (by have := e h12; omega)), fun h12 =>
        ⟨fun h13 w3 hU => call hU (cmpC (by have := e h13; omega)) (foldV13 (by have := e h13; omega)), fun h13 => ⟨fun h14 w3 hU => call hU (cmpC (by have := e h14; omega)) (foldV13 (by have := e h14; omega)), fun h14 => ⟨fun h15 w3 hU => call hU (cmpC (by have := e h15; omega)) (foldV13 (by have := e h15; omega)), fun h15 =>
        ⟨fun h16 w3 hU => call hU (cmpC (by have := e h16; omega)) (foldV13 (by have := e h16; omega)), fun h16 => ⟨fun h17 w3 hU => call hU (logC (by have := e h17; omega)) (foldV17 (by have := e h17; omega)), fun h17 => ⟨fun h18 w3 hU => call hU (logC (by have := e h18; omega)) (foldV17 (by have := e h18; omega)), fun h18 =>
        ⟨fun h19 w3 hU => call hU (logC (by have := e h19; omega)) (foldV17 (by have := e h19; omega)), fun h19 => ⟨fun h21 w3 hU => call hU (fun q => quant_c74 q (by have := l2 (by have := e h21; omega); omega)) (foldV21 (e h21)), fun h21 w3 hU => ?_⟩⟩⟩⟩⟩⟩⟩⟩⟩⟩⟩⟩⟩⟩⟩⟩
      · have hk := e h6
        have hz : 0 < m.kids.length := by have := l1 (by omega); omega
        have ev : foldV rkP m = singleV m (m.kid 0) := foldV6 (by omega)
        refine hm'.idx (j := 0) hz fun ad1 ha1 w3 hU3 => ?_
        obtain ⟨g1, g2, g3⟩ := at3 hU3
        refine kidN g1 (Upd.refl _ _) (j := 0) hz ha1 fun A1 l1' c1 q1 id5 hid5 => ?_
        exact ⟨fun k1 => ⟨fun kn w4 hE4 _ => callN (num_c69 _ (o := true) (F := no)) fun A3 l3 c3 w5 hE5 q3 w6 hU6 => fin (by rw [ev, singleV, h6, k1, kn]; rfl) (q3.mono fun _ h => h.elim) ((Ext.trans g2 hE4).trans hE5) (Nat.le_trans g3 (Nat.le_trans (Upd.size hE4) hE5.size)) hU6 s1,
          fun kn w4 hU4 _ => fin (by rw [ev, singleV, h6, k1, kn]; rfl) g1 g2 g3 hU4 s1⟩, fun k1 w4 hU4 _ => fin (by rw [ev, singleV, h6, k1]; rfl) g1 g2 g3 hU4 s1⟩
      · have hk := e h7
        have hz : 0 < m.kids.length := by have := l1 (by omega); omega
        have ev : foldV rkP m = singleV m (m.kid 0) := foldV6 (by omega)
        refine hm'.idx (j := 0) hz fun ad1 ha1 w3 hU3 => ?_
        obtain ⟨g1, g2, g3⟩ := at3 hU3
        refine kidN g1 (Upd.refl _ _) (j := 0) hz ha1 fun A1 l1' c1 q1 id5 hid5 => ?_
        refine ⟨fun k2 w4 hE4 _ => callN (tru_c70 _ (o := true) (F := no)) fun A3 l3 c3 w5 hE5 q3 w6 hU6 => fin (by rw [ev, singleV, h6, h7, k2]; rfl) (q3.mono fun _ h => h.elim) ((Ext.trans g2 hE4).trans hE5) (Nat.le_trans g3 (Nat.le_trans (Upd.size hE4) hE5.size)) hU6 s1,
          fun k2 => ⟨fun k7 => ?_, fun k7 w4 hU4 _ => fin (by rw [ev, singleV, h6, h7, k2, k7]; rfl) g1 g2 g3 hU4 s1⟩⟩
        have hx : 0 < (m.kid 0).kids.length := by have := form_one (form_of (forms_kid hmf hz)) (.inr (.inl (e' k7))); omega
        refine q1.idx (j := 0) hx fun ad2 ha2 w4 hE4 _ => kidN q1 hE4 (j := 0) hx ha2 fun A2 l2' c2 q2 w5 hU5 => ?_
        exact fin (by rw [ev, singleV, h6, h7, k2, k7]; rfl) (q2.ext hE4) (Ext.trans g2 hE4) (Nat.le_trans g3 (Upd.size hE4)) hU5 s1
      · have hk := e h26
        have hz : 0 < m.kids.length := by have := l1 (by omega); omega
        have ev : foldV rkP m = singleV m (m.kid 0) := foldV6 (by omega)
        refine hm'.idx (j := 0) hz fun ad1 ha1 w3 hU3 => ?_
        obtain ⟨g1, g2, g3⟩ := at3 hU3
        refine kidN g1 (Upd.refl _ _) (j := 0) hz ha1 fun A1 l1' c1 q1 id5 hid5 => ?_
        exact ⟨fun k1 w4 hU4 _ => fin (by rw [ev, singleV, h6, h7, h26, k1]; rfl) q1 g2 g3 hU4 s1, fun k1 => ⟨fun k2 w4 hU4 _ => fin (by rw [ev, singleV, h6, h7, h26, k1, k2]; rfl) q1 g2 g3 hU4 s1, fun k2 w4 hU4 _ => fin (by rw [ev, singleV, h6, h7, h26, k1, k2]; rfl) g1 g2 g3 hU4 s1⟩⟩
      · refine fin ?_ hm' hE2 (Nat.le_refl _) hU fun b hb => by simpa [setOf, no] using hb
        rw [foldV, h6, h7, h26, h8, h9, h10, h11, h12, h13, h14, h15, h16, h17, h18, h19, h21]; rfl
end
section
open Go Go.Vx Go.Proofs
theorem refNode_c (N : Nat) (hN : N < 2 ^ 30) : ∀ (n : Nd), n.size ≤ N → forms n = true → inR n = true → ∀ {w : World} {F : Nat → Prop} {A : Option Addr} {l c : Nat}, NdsR w F n.kids A l c →
    CallsX E.P 45 #[ndA n A l c] w (fun v w' => ∃ A' l' c', v = ndA (foldN rkP n) A' l' c' ∧ NdsR w' (Rng w.heap.size w'.heap.size) (foldN rkP n).kids A' l' c' ∧ Ext w w') never := by
  induction N with
  | zero => intro n hn; cases n; simp [Nd.size] at hn
  | succ N ih =>
    intro n hn hfm hin w F A l c hr
    obtain ⟨k, n0, s, kids⟩ := n
    rw [foldN]
    have hfm2 := hfm
    have hin2 := hin
    rw [forms, Bool.and_eq_true] at hfm2
    rw [inR, Bool.and_eq_true] at hin2
    obtain ⟨hfm0, hfml⟩ := hfm2
    obtain ⟨hin0, hinl⟩ := hin2
    obtain ⟨hf2, hi2, _, _, hlen2⟩ := foldL_ok kids hfml hinl
    have hmf : forms (.mk k n0 s (foldL rkP kids)) = true := by rw [forms, Bool.and_eq_true, hlen2]; exact ⟨hfm0, hf2⟩
    have hmi : inR (.mk k n0 s (foldL rkP kids)) = true := by rw [inR, Bool.and_eq_true]; exact ⟨hin0, hi2⟩
    dsimp only [ndA, Nd.k, Nd.n, Nd.s, Nd.kids] at hr ⊢
    obtain rfl := hr.len
    refine vc45 ?_
    intro id hid id1 hid1 id2 hid2 w1 hE h1 h2 h3
    have hs := hE.size
    have hkl : kids.length ≤ N := by have := Nd.len_sizes kids; simp only [Nd.size] at hn; omega
    refine loopB (s0 := ([] : List Nd)) (fun s A n c w2 => NdsB w2 false w1.heap.size w2.heap.size no no s A n c ∧ Ext w w2 ∧ w1.heap.size ≤ w2.heap.size) hr.len hr.lt (fun _ s r => s ++ foldL rkP r) ⟨RowB.nil (fun _ h => h.elim) (Nat.le_refl _), hE, Nat.le_refl _⟩
      (fun I m s j A n c w2 hj hg ⟨hB, hE2, hs12⟩ k => ?_) (fun st A n c w2 hg ⟨hB, hE2, hs12⟩ => ?_)
    · refine hr.idx hj fun ad ha => (hr.ext hE2).cell ha hj fun A1 l1 c1 q1 => ?_
      have hE3 : Ext w2 w2 := Upd.refl _ _
      refine callN (ih (by omega) _ (by have := kid_size hj; simp only [Nd.size] at hn; omega) (formsL_iff.1 hfml _ (List.getElem_mem hj)) (inRL_iff.1 hinl _ (List.getElem_mem hj)) (q1.ext hE3)) fun A2 l2 c2 w4 hE4 q2 id3 hid3 id4 hid4 w5 hE5 _ _ hcell => ?_
      have hl := hB.len
      have hsl : s.length < kids.length := by have := congrArg List.length hg; simp [foldL_len, foldL] at this; omega
      have hlo := hB.los
      have hs4 := hE4.size
      have hs5 := hE5.size
      refine pushVC (RowB.push (x := foldN rkP kids[j]) (cs := ndV (foldN rkP kids[j]) A2 l2 c2) (Fk := Rng w2.heap.size w4.heap.size) sl22 (hB.ext hE4) q2.node (fun b hb => .inr ⟨by have := hb.1; omega, hb.2, fun h => h⟩) hE5 (fun _ h => h.elim) hcell (by rw [hl]; omega))
        (away_rng (fun b hb => ⟨(hB.blk hb).1, (hB.blk hb).2.1⟩) (by simp only [outL, and_true]; omega)) ?_
      intro A' c' w6 ⟨hB6, _⟩ hU6 w7 hU7 _
      have hE6 := Upd.step (hE2.trans (hE4.trans hE5)) hU6 (fun b hb => by have := hB.blk hb; omega)
      have hs6 := hU6.size
      have hs7 := hU7.size
      refine k (s ++ [foldN rkP kids[j]]) A' _ c' w7 (by rw [← hg, foldL]; simp) ⟨?_, Upd.step hE6 hU7 (fun b hb => by simp only [setOf, no, or_false] at hb; omega), by omega⟩
      exact (hB6.upd hU7 fun b hb => ⟨fun h => h, .inr (by simp only [setOf, no, or_false] at hb; omega)⟩).re hU7.size (Nat.le_refl _) (fun b hb => hb.elim)
    · have hl := hB.len
      have hlo := hB.los
      simp only [foldL, List.append_nil, List.nil_append] at hg
      subst hg
      have hd := nds_of (hB.done (c' := c) (by rw [hl, foldL_len]; omega) (.inr ⟨rfl, rfl⟩))
      have hm : NdsG w2 false (Rng w1.heap.size w2.heap.size) (foldL rkP kids) A n c := hd.mono fun b hb => by
        rcases hb with ⟨_, h⟩ | ⟨g1, g2, _⟩
        · exact h.elim
        · exact ⟨g1, g2⟩
      generalize hM : Nd.mk k n0 s (foldL rkP kids) = m at hmf hmi ⊢
      have ek : m.k = k := by rw [← hM]; rfl
      have ekids : m.kids = foldL rkP kids := by rw [← hM]; rfl
      have en : ∀ (A : Option Addr) (l c : Nat), (Value.agg #[.int .i64 k, .int .i64 n0, .string s, .slice A l c]) = ndA m A l c := by rw [← hM]; intros; rfl
      have hm' : NdsG w2 false (Rng w1.heap.size w2.heap.size) m.kids A n c := by rw [ekids]; exact hm
      clear hM hd hm
      simp only [en]
      rw [← ek]
      have hform := form_of hmf
      rw [foldV_eq hmf hmi]
      -- behind the loop
      have at3 : ∀ {w3 : World}, Ext w2 w3 → NdsG w3 false (Rng w1.heap.size w2.heap.size) m.kids A n c ∧ Ext w w3 ∧ w2.heap.size ≤ w3.heap.size := fun hU => ⟨hm'.ext hU, hE2.trans hU, hU.size⟩
      have fin : ∀ {r : Nd} {w3 w4 : World} {A4 : Option Addr} {l4 c4 : Nat} {S : Nat → Prop}, foldV rkR m = r → NdsG w3 false (Rng w1.heap.size w2.heap.size) r.kids A4 l4 c4 → Ext w w3 → w2.heap.size ≤ w3.heap.size → Upd w3 w4 S → (∀ b, S b → b = id1 ∨ b = id2) →
          ∃ A' l' c', ndA r A4 l4 c4 = ndA (foldV rkR m) A' l' c' ∧ NdsG w4 false (Rng w.heap.size w4.heap.size) (foldV rkR m).kids A' l' c' ∧ Ext w w4 := by
        intro r w3 w4 A4 l4 c4 S e q hE3 hs3 hU hS
        have hs4 := hU.size
        refine ⟨A4, l4, c4, by rw [e], ?_, Upd.step hE3 hU fun b hb => by rcases hS b hb with h | h <;> omega⟩
        rw [e]
        refine (q.upd hU fun b hb hb2 => ?_).mono fun b hb => ⟨by have := hb.1; omega, by have := hb.2; omega⟩
        have := hb.1
        rcases hS b hb2 with h | h <;> omega
      have s1 : ∀ b, setOf [id1] b → b = id1 ∨ b = id2 := fun b hb => by simp only [setOf, no, or_false] at hb; exact .inl hb
      have call : ∀ {f : Nat} {r : Nd} {w3 : World} {ids : List Nat}, Ext w2 w3 → (NdsG w3 false (Rng w1.heap.size w2.heap.size) m.kids A n c → CallsX E.P f #[ndA m A n c] w3 (NdP w3 false (Rng w1.heap.size w2.heap.size) r) never) → foldV rkR m = r → ∀ {X : ContX},
          ∃ R15 X', CallsX E.P f #[ndA m A n c] w3 R15 X' ∧ (∀ v w4, R15 v w4 → ∃ x52 x53, ∃ x54 a20, ∃ n20 c20, v = .agg #[.int .i64 x52, .int .i64 x53, .string x54, .slice a20 n20 c20] ∧ ∃ S, Upd w3 w4 S ∧ Away ids S ∧
            ∀ w5, Upd w4 w5 (setOf [id1]) → ∃ A' l' c', (Value.agg #[.int .i64 x52, .int .i64 x53, .string x54, .slice a20 n20 c20]) = ndA (foldV rkR m) A' l' c' ∧ NdsG w5 false (Rng w.heap.size w5.heap.size) (foldV rkR m).kids A' l' c' ∧ Ext w w5) ∧ PX X' X := by
        intro f r w3 ids hU hc e X
        obtain ⟨g1, g2, g3⟩ := at3 hU
        exact callN (hc g1) fun A4 l4 c4 w4 hE4 q4 w5 hU5 => fin e q4 (g2.trans hE4) (Nat.le_trans g3 hE4.size) hU5 s1
      have l2 : m.k = 8 ∨ m.k = 9 ∨ m.k = 10 ∨ m.k = 11 ∨ m.k = 12 ∨ m.k = 13 ∨ m.k = 14 ∨ m.k = 15 ∨ m.k = 16 ∨ m.k = 17 ∨ m.k = 18 ∨ m.k = 21 → m.kids.length = 2 := fun h => by have := form_two hform h; omega
      have l1 : m.k = 6 ∨ m.k = 7 ∨ m.k = 26 → m.kids.length = 1 := fun h => by have := form_one hform h; omega
      have e : ∀ {i : Int}, (m.k == i) = true → m.k = i := fun h => by simpa using h
      have e' : ∀ {x i : Int}, (x == i) = true → x = i := fun h => by simpa using h
      have sumsC : ∀ {w3 : World}, (m.k = 8 ∨ m.k = 9 ∨ m.k = 10 ∨ m.k = 11 ∨ m.k = 12) → NdsG w3 false (Rng w1.heap.size w2.heap.size) m.kids A n c → CallsX E.P 64 #[ndA m A n c] w3 (NdP w3 false (Rng w1.heap.size w2.heap.size) (sumsV (sumsR rkR m (m.kid 0) (m.kid 1)) m (m.kid 0) (m.kid 1))) never := fun h q => sums_c64 q (by have := l2 (by omega); omega)
      have cmpC : ∀ {w3 : World}, (m.k = 13 ∨ m.k = 14 ∨ m.k = 15 ∨ m.k = 16) → NdsG w3 false (Rng w1.heap.size w2.heap.size) m.kids A n c → CallsX E.P 65 #[ndA m A n c] w3 (NdP w3 false (Rng w1.heap.size w2.heap.size) (comparedV m (m.kid 0) (m.kid 1))) never := fun h q => compared_c65 q (by have := l2 (by omega); omega)
      have sinC : (m.k = 6 ∨ m.k = 7 ∨ m.k = 26) → NdsG w2 false (Rng w1.heap.size w2.heap.size) m.kids A n c → CallsX E.P 63 #[ndA m A n c] w2 (NdP w2 false (Rng w1.heap.size w2.heap.size) (singleV m (m.kid 0))) never := fun h q => by
        have := l1 h
        exact single_c q (by omega) fun _ h7 => by have := form_one (form_of (forms_kid hmf (j := 0) (by omega))) (.inr (.inl h7)); omega
      have jv : ∀ {g : Int}, (if m.k == 18 then (0 : Int) else 1) = g → foldV rkR m = joinedV g m (m.kid 0) (m.kid 1) → foldV rkR m = joinedV (if m.k == 18 then (0 : Int) else 1) m (m.kid 0) (m.kid 1) := fun h h2 => by rw [h]; exact h2
      have rf : Ext w2 w2 := Upd.refl _ _
      refine ⟨fun h6 => call rf (sinC (by have := e h6; omega)) (foldV6 (by have := e h6; omega)), fun h6 => ⟨fun h7 => call rf (sinC (by have := e h7; omega)) (foldV6 (by have := e h7; omega)), fun h7 => ⟨fun h26 => call rf (sinC (by have := e h26; omega)) (foldV6 (by have := e h26; omega)), fun h26 =>
        ⟨fun h8 => call rf (sumsC (by have := e h8; omega)) (foldV8 (by have := e h8; omega)), fun h8 => ⟨fun h9 => call rf (sumsC (by have := e h9; omega)) (foldV8 (by have := e h9; omega)), fun h9 =>
        ⟨fun h10 => call rf (sumsC (by have := e h10; omega)) (foldV8 (by have := e h10; omega)), fun h10 => ⟨fun h11 => call rf (sumsC (by have := e h11; omega)) (foldV8 (by have := e h11; omega)), fun h11 => ⟨fun h12 => call rf (sumsC (by have := e h12; omega)) (foldV8 (by have := e h12; omega)), fun h12 =>
        ⟨fun h13 => call rf (cmpC (by have := e h13; omega)) (foldV13 (by have := e h13; omega)), fun h13 => ⟨fun h14 => call rf (cmpC (by have := e h14; omega)) (foldV13 (by have := e h14; omega)), fun h14 => ⟨fun h15 => call rf (cmpC (by have := e h15; omega)) (foldV13 (by have := e h15; omega)), fun h15 =>
        ⟨fun h16 => call rf (cmpC (by have := e h16; omega)) (foldV13 (by have := e h16; omega)), fun h16 => ⟨fun h17 => call rf (fun q => joined_c q (by have := l2 (by have := e h17; omega); omega)) (by rw [foldV17 (.inl (e h17)), logicV, e h17]; rfl), fun h17 => ⟨fun h18 => call rf (fun q => joined_c q (by have := l2 (by have := e h18; omega); omega)) (by rw [foldV17 (.inr (.inl (e h18))), logicV, e h18]; rfl), fun h18 =>
        ⟨fun h19 => ?_, fun h19 => ⟨fun h21 => call rf (fun q => quant_c67 q (by have := l2 (by have := e h21; omega); omega)) (foldV21 (e h21)), fun h21 w3 hU => ?_⟩⟩⟩⟩⟩⟩⟩⟩⟩⟩⟩⟩⟩⟩⟩⟩
      · have hk := e h19
        have h3 : m.kids.length = 3 := by rw [hk] at hform; have := form_three hform; omega
        have ev : foldV rkR m = ifV m (m.kid 0) := by rw [foldV17 (.inr (.inr hk)), logicV, h19]; rfl
        refine hm'.idx (j := 0) (by omega) fun ad1 ha1 => ?_
        obtain ⟨A1, l1', c1, hc1, q1⟩ := hm'.get ha1 (j := 0) (by omega)
        rw [← kid_at (by omega)] at hc1 q1
        refine ⟨_, cells_at hc1 (j := 0) rfl, fun k2 => ?_, fun k2 w3 hU => fin (by rw [ev, ifV, k2]; rfl) hm' hE2 (Nat.le_refl _) hU s1⟩
        refine hm'.idx (j := 0) (by omega) fun ad2 ha2 w3 hE3 => ?_
        have hE3' : Ext w2 w3 := hE3
        rw [ha1] at ha2; cases ha2
        obtain ⟨g1, g2, g3⟩ := at3 hE3'
        refine ⟨_, cells_at (hc1.ext hE3' (fun h => h)) (j := 1) rfl, ?_⟩
        have hb := form_of (forms_kid hmf (j := 0) (by omega))
        rw [show (m.kid 0).k = 2 from by simpa using k2] at hb
        obtain ⟨j, e1, e2, e3⟩ := two_at (form_bool hb)
        dsimp only
        rw [e1]
        refine g1.idx (j := j) (by omega) fun ad3 ha3 => ?_
        exact kidN g1 (Upd.refl _ _) (j := j) (by omega) ha3 fun A2 l2' c2 q2 w4 hU4 => fin (by rw [ev, ifV, k2]; simp only [if_true]; rw [e3]) q2 g2 g3 hU4 s1
      · refine fin ?_ hm' hE2 (Nat.le_refl _) hU s1
        rw [foldV, h6, h7, h26, h8, h9, h10, h11, h12, h13, h14, h15, h16, h17, h18, h19, h21]; rfl
end
end Go.Vx.Tryz
namespace Go.Vx
open Go
section
end
section
open Go
mutual
inductive HT (P Q : List Int) : Int → Nd → Nd → Nat → Nat → Prop
  | node (a k v : Int) (s : ByteArray) (l l' : List Nd) (m m1 : Nat) : k ≠ 26 → HTL P Q k a 0 l l' m m1 → HT P Q a (.mk k v s l) (.mk k v s l') m m1
  | cell (a v : Int) (s : ByteArray) (l : List Nd) (m : Nat) : HT P Q a (.mk 26 v s l) (.mk 26 v s l) m m
  | wrap (a k v : Int) (s : ByteArray) (l l' : List Nd) (m m1 : Nat) : k = 20 ∨ k = 21 → P.length + m < Q.length → Q.getD (P.length + m) 0 = hangs a (.mk k v s l) → 0 ≤ hangs a (.mk k v s l) → hangs a (.mk k v s l) ≤ a → hangs a (.mk k v s l') = hangs a (.mk k v s l) →
      HTL P Q k a 0 l l' (m + 1) m1 → HT P Q a (.mk k v s l) (.mk 26 ((P.length + m : Nat) : Int) (ByteArray.mk #[]) [.mk k v s l']) m m1
inductive HTL (P Q : List Int) : Int → Int → Int → List Nd → List Nd → Nat → Nat → Prop
  | nil (k a i : Int) (m : Nat) : HTL P Q k a i [] [] m m
  | cons (k a i : Int) (x x' : Nd) (l l' : List Nd) (m m1 m2 : Nat) : HT P Q (if k == 21 && i == 1 then w64 (a + 1) else a) x x' m m1 → HTL P Q k a (w64 (i + 1)) l l' m1 m2 → HTL P Q k a i (x :: l) (x' :: l') m m2
end
theorem HTL.len {P Q : List Int} {k a : Int} : ∀ {l l' : List Nd} {i : Int} {m m1 : Nat}, HTL P Q k a i l l' m m1 → l'.length = l.length
  | [], _, _, _, _, h => by cases h; rfl
  | x :: l, _, _, _, _, h => by
    cases h with
    | cons _ _ _ _ x' _ l' _ _ _ _ h2 => rw [List.length_cons, List.length_cons, h2.len]
structure RelW (P Q : List Int) (m : Nat) (st st' : WS) : Prop where
  ok : st.ok = true
  ok' : st'.ok = true
  pt : st'.parts = st.parts + m
  l1 : st.ks.length = P.length
  l2 : st.ts.length = P.length
  l3 : st'.ks.length = Q.length
  l4 : st'.ts.length = Q.length
  ks : ∀ v, v < P.length → st'.ks.getD v none = st.ks.getD v none
  ts : ∀ v, v < P.length → st'.ts.getD v 0 = st.ts.getD v 0
structure OutS (P Q : List Int) (m m1 z : Nat) (st st' s s' : WS) : Prop where
  rel : RelW P Q m1 s s'
  le : s.parts ≤ st.parts + z
  ge : 0 ≤ s.parts
  mm : m ≤ m1
  top : P.length + m1 ≤ Q.length
  hi : ∀ j, P.length + m ≤ j → j < P.length + m1 → 0 ≤ Q.getD j 0 ∧ Q.getD j 0 ≤ 4
  fr : ∀ j, P.length ≤ j → j < P.length + m ∨ P.length + m1 ≤ j → s'.ks.getD j none = st'.ks.getD j none
section
variable {P Q : List Int} {m m1 m2 z z2 : Nat} {st st' s s' t t' : WS}
theorem OutS.trans (h : OutS P Q m m1 z st st' s s') (k : OutS P Q m1 m2 z2 s s' t t') : OutS P Q m m2 (z + z2) st st' t t' where
  rel := k.rel
  le := by have := h.le; have := k.le; omega
  ge := k.ge
  mm := Nat.le_trans h.mm k.mm
  top := k.top
  hi := fun j h1 h2 => by
    by_cases hj : j < P.length + m1
    · exact h.hi j h1 hj
    · exact k.hi j (by omega) h2
  fr := fun j h1 h2 => by
    have := h.mm; have := k.mm
    rw [k.fr j h1 (by omega), h.fr j h1 (by omega)]
theorem OutS.none (h : OutS P Q m m1 z st st' s s') (hn : ∀ j, P.length + m ≤ j → st'.ks.getD j .none = .none) : ∀ j, P.length + m1 ≤ j → s'.ks.getD j .none = .none := fun j hj => by
  have := h.mm
  rw [h.fr j (by omega) (.inr hj)]; exact hn j (by omega)
theorem OutS.mono (h : OutS P Q m m1 z st st' s s') (hz : z ≤ z2) : OutS P Q m m1 z2 st st' s s' := { h with le := by have := h.le; omega }
theorem must_ok {r : Int × WS} {k : Int} (h : (mustW r k).ok = true) : r.1 = k ∧ mustW r k = r.2 := by
  unfold mustW at h ⊢
  split at h
  · simp [WS.bad] at h
  · rename_i hc
    exact ⟨by simpa using hc, if_neg hc⟩
end
section
variable {P Q : List Int} {kf kf' : Int → Int → WS → Nd → Int × WS} {f f' : Nat}
theorem setL_ok {g : WS → Nd → Int × WS} {x : Nd} {l : List Nd} {st : WS} (h : (setL g st (x :: l)).ok = true) : st.ok = true ∧ (setL g (mustW (g st x) 3) l).ok = true := by
  rw [setL] at h
  split at h
  · rename_i hs; exact ⟨hs, h⟩
  · rename_i hs; exact absurd h hs
end
end
section
open Go
def bodyK (cells : List Int) (kf : Int → Int → WS → Nd → Int × WS) (a q : Int) (st : WS) (k v : Int) (l : List Nd) : Int × WS :=
    if k == 1 then (1, st) else if k == 2 then (2, st) else if k == 3 then (3, st)
    else if k == 5 then if decide (v ≥ a) then (3, st.bad) else (3, st)
    else if k == 6 || k == 8 || k == 9 || k == 10 || k == 11 || k == 12 then (1, allW (kf a q) 1 st l)
    else if k == 7 || k == 17 || k == 18 then (2, allW (kf a q) 2 st l)
    else if k == 15 || k == 16 then (2, allW (kf a q) 1 st l)
    else if k == 13 || k == 14 then (2, mustW (kf a q (kf a q st (l.getD 0 nd0)).2 (l.getD 1 nd0)) (kf a q st (l.getD 0 nd0)).1)
    else if k == 19 then
      ((kf a q (mustW (kf a q st (l.getD 0 nd0)) 2) (l.getD 1 nd0)).1,
        mustW (kf a q (kf a q (mustW (kf a q st (l.getD 0 nd0)) 2) (l.getD 1 nd0)).2 (l.getD 2 nd0)) (kf a q (mustW (kf a q st (l.getD 0 nd0)) 2) (l.getD 1 nd0)).1)
    else if k == 20 then (givesI v, allW (kf a q) 3 st l)
    else if k == 21 then quantW kf st v (l.getD 0 nd0) (l.getD 1 nd0) a q
    else if k == 26 then cellW cells (kf a q) st v (l.getD 0 nd0) a
    else (0, st.bad)
theorem kindW_eq (cells : List Int) (f : Nat) (a q : Int) (st : WS) (k v : Int) (s : ByteArray) (l : List Nd) : kindW cells (f + 1) a q st (.mk k v s l) =
    if !st.ok then (0, st.inc.bad) else if decide (w64 (st.parts + 1) > 4096) then (0, st.inc.bad) else if !formB k v s l.length then (0, st.inc.bad) else bodyK cells (kindW cells f) a q st.inc k v l := by rw [kindW]; rfl
theorem parts_inc {x : Int} (h0 : 0 ≤ x) (h : x ≤ 4000) : w64 (x + 1) = x + 1 := w64_id (by omega) (by omega)
section
variable {P Q : List Int} {m : Nat} {st st' : WS}
theorem RelW.inc (h : RelW P Q m st st') (h0 : 0 ≤ st.parts) (h1 : st.parts ≤ 3000) (hm : m ≤ 256) : RelW P Q m st.inc st'.inc ∧ st.inc.parts = st.parts + 1 := by
  have e1 : st.inc.parts = st.parts + 1 := parts_inc h0 (by omega)
  have e2 : st'.inc.parts = st'.parts + 1 := parts_inc (by have := h.pt; omega) (by have := h.pt; omega)
  exact ⟨⟨h.ok, h.ok', by rw [e1, e2, h.pt]; omega, h.l1, h.l2, h.l3, h.l4, h.ks, h.ts⟩, e1⟩
end
section
variable {P Q : List Int} {kf kf' : Int → Int → WS → Nd → Int × WS} {f f' : Nat}
theorem HTL.two {k a i : Int} {x y : Nd} {l' : List Nd} {m m2 : Nat} (h : HTL P Q k a i [x, y] l' m m2) : ∃ x' y' m1, l' = [x', y'] ∧ HT P Q (if k == 21 && i == 1 then w64 (a + 1) else a) x x' m m1 ∧ HT P Q (if k == 21 && w64 (i + 1) == 1 then w64 (a + 1) else a) y y' m1 m2 := by
  cases h with
  | cons _ _ _ _ x' _ l1 _ m1 _ hx hl =>
    cases hl with
    | cons _ _ _ _ y' _ l2 _ m3 _ hy hl2 =>
      cases hl2
      exact ⟨x', y', m1, rfl, hx, hy⟩
theorem HTL.one {k a i : Int} {x : Nd} {l' : List Nd} {m m2 : Nat} (h : HTL P Q k a i [x] l' m m2) : ∃ x', l' = [x'] ∧ HT P Q (if k == 21 && i == 1 then w64 (a + 1) else a) x x' m m2 := by
  cases h with
  | cons _ _ _ _ x' _ l1 _ m1 _ hx hl =>
    cases hl
    exact ⟨x', rfl, hx⟩
end
end
section
open Go
theorem must_okr {r : Int × WS} {k : Int} (h : (mustW r k).ok = true) : r.2.ok = true := by
  have := must_ok h
  rw [← this.2]; exact h
theorem all_each {kf : WS → Nd → Int × WS} (hb : ∀ st n, st.ok = false → (kf st n).2.ok = false) {k : Int} : ∀ {l : List Nd} {st : WS}, (allW kf k st l).ok = true → ∀ x ∈ l, ∃ st2, (kf st2 x).2.ok = true
  | y :: l, st, h, x, hx => by
    rw [allW] at h
    rcases List.mem_cons.1 hx with rfl | hx
    · refine ⟨st, must_okr (k := k) ?_⟩
      cases e : (mustW (kf st x) k).ok with
      | true => rfl
      | false => rw [allW_bad hb k l _ e] at h; cases h
    · exact all_each hb h x hx
theorem set_each {kf : WS → Nd → Int × WS} : ∀ {l : List Nd} {st : WS}, (setL kf st l).ok = true → ∀ x ∈ l, ∃ st2, (kf st2 x).2.ok = true
  | y :: l, st, h, x, hx => by
    obtain ⟨hs, h⟩ := setL_ok h
    rcases List.mem_cons.1 hx with rfl | hx
    · refine ⟨st, must_okr (k := 3) ?_⟩
      cases e : (mustW (kf st x) 3).ok with
      | true => rfl
      | false => rw [setL_bad l _ e] at h; cases h
    · exact set_each h x hx
theorem set_forms {kf : WS → Nd → Int × WS} {n : Nd} {st : WS} (hk : ∀ x ∈ n.kids, ∀ st2, (kf st2 x).2.ok = true → forms x = true) (h : (setW kf st n).ok = true) : forms n = true := by
  obtain ⟨k, v, s, l⟩ := n
  rw [setW] at h
  split at h
  · cases h
  split at h
  · cases h
  split at h
  · cases h
  split at h
  · cases h
  rename_i hf
  rw [forms, Bool.and_eq_true]
  refine ⟨by simpa using hf, formsL_iff.2 fun x hx => ?_⟩
  obtain ⟨st2, h2⟩ := set_each h x hx
  exact hk x hx st2 h2
theorem cell_ok {cells : List Int} {kf : WS → Nd → Int × WS} {st : WS} {v a : Int} {x : Nd} (h : (cellW cells kf st v x a).2.ok = true) : (kf st x).2.ok = true := by
  unfold cellW at h
  split at h
  · cases h
  split at h
  · cases h
  split at h
  · cases h
  unfold cellTwo at h
  cases e : (kf st x).2.ok with
  | true => rfl
  | false => rw [e] at h; simp [e] at h
theorem form_zero {k v : Int} {s : ByteArray} {l : Int} (h : formB k v s l = true) (hk : k = 1 ∨ k = 2 ∨ k = 3 ∨ k = 5) : l = 0 := by
  rcases hk with rfl | rfl | rfl | rfl <;> simp [formB] at h <;> omega
theorem ite_ok {c : Prop} [Decidable c] {x y : Int × WS} (h : (if c then x else y).2.ok = true) : (c ∧ x.2.ok = true) ∨ (¬ c ∧ y.2.ok = true) := by
  by_cases hc : c
  · rw [if_pos hc] at h; exact .inl ⟨hc, h⟩
  · rw [if_neg hc] at h; exact .inr ⟨hc, h⟩
theorem kind_forms (cells : List Int) : ∀ (f : Nat) (n : Nd), n.size ≤ f → ∀ (a q : Int) (st : WS), (kindW cells f a q st n).2.ok = true → forms n = true := by
  intro f
  induction f with
  | zero => intro n hn; have := size_pos n; omega
  | succ f ih =>
    intro n hn a q st h
    obtain ⟨k, v, s, l⟩ := n
    rw [kindW_eq] at h
    split at h
    · cases h
    split at h
    · cases h
    split at h
    · cases h
    rename_i hf
    have hf : formB k v s l.length = true := by simpa using hf
    rw [forms, Bool.and_eq_true]
    refine ⟨hf, formsL_iff.2 fun x hx => ?_⟩
    have hsz : ∀ y ∈ l, y.size ≤ f := fun y hy => by have := Nd.size_lt hy; simp only [Nd.size] at hn; omega
    have fin : ∀ {a q : Int} {y : Nd} {st2 : WS}, y ∈ l → (kindW cells f a q st2 y).2.ok = true → forms y = true := fun hy h2 => ih _ (hsz _ hy) _ _ _ h2
    have hb : ∀ st n, st.ok = false → (kindW cells f a q st n).2.ok = false := fun st n h => kindW_bad cells f a q st n h
    have viaAll : ∀ {kk : Int}, (allW (kindW cells f a q) kk st.inc l).ok = true → forms x = true := fun h => by
      obtain ⟨st2, h2⟩ := all_each hb h x hx
      exact fin hx h2
    have nb : ∀ {s2 : WS}, ¬ (s2.bad.ok = true) := fun h => by cases h
    have leaf : ∀ (_ : (l.length : Int) = 0), forms x = true := fun e => by
      have : l = [] := List.length_eq_zero_iff.1 (by omega)
      subst this; cases hx
    unfold bodyK at h
    rcases ite_ok h with ⟨e, h⟩ | ⟨_, h⟩
    · have e : k = 1 := by simpa using e
      subst e; exact leaf (form_zero hf (by omega))
    rcases ite_ok h with ⟨e, h⟩ | ⟨_, h⟩
    · have e : k = 2 := by simpa using e
      subst e; exact leaf (form_zero hf (by omega))
    rcases ite_ok h with ⟨e, h⟩ | ⟨_, h⟩
    · have e : k = 3 := by simpa using e
      subst e; exact leaf (form_zero hf (by omega))
    rcases ite_ok h with ⟨e, h⟩ | ⟨_, h⟩
    · have e : k = 5 := by simpa using e
      subst e; exact leaf (form_zero hf (by omega))
    rcases ite_ok h with ⟨e, h⟩ | ⟨_, h⟩
    · exact viaAll h
    rcases ite_ok h with ⟨e, h⟩ | ⟨_, h⟩
    · exact viaAll h
    rcases ite_ok h with ⟨e, h⟩ | ⟨_, h⟩
    · exact viaAll h
    rcases ite_ok h with ⟨e, h⟩ | ⟨_, h⟩
    · have hl : l.length = 2 := by have := form_two hf (by simp only [Bool.or_eq_true, beq_iff_eq] at e; omega); omega
      have h2 := must_okr h
      rcases list2 (d := nd0) hl x hx with rfl | rfl
      · refine fin (a := a) (q := q) (st2 := st.inc) hx ?_
        cases e2 : (kindW cells f a q st.inc (l.getD 0 nd0)).2.ok with
        | true => rfl
        | false => rw [hb _ _ e2] at h2; cases h2
      · exact fin hx h2
    rcases ite_ok h with ⟨e, h⟩ | ⟨_, h⟩
    · have e : k = 19 := by simpa using e
      subst e
      have hl : l.length = 3 := by have := form_three hf; omega
      have h2 := must_okr h
      have h1 : (kindW cells f a q (mustW (kindW cells f a q st.inc (l.getD 0 nd0)) 2) (l.getD 1 nd0)).2.ok = true := by
        cases e2 : (kindW cells f a q (mustW (kindW cells f a q st.inc (l.getD 0 nd0)) 2) (l.getD 1 nd0)).2.ok with
        | true => rfl
        | false => rw [hb _ _ e2] at h2; cases h2
      have h0 : (mustW (kindW cells f a q st.inc (l.getD 0 nd0)) 2).ok = true := by
        cases e2 : (mustW (kindW cells f a q st.inc (l.getD 0 nd0)) 2).ok with
        | true => rfl
        | false => rw [hb _ _ e2] at h1; cases h1
      rcases list3 (d := nd0) hl x hx with rfl | rfl | rfl
      · exact fin hx (must_okr h0)
      · exact fin hx h1
      · exact fin hx h2
    rcases ite_ok h with ⟨e, h⟩ | ⟨_, h⟩
    · exact viaAll h
    rcases ite_ok h with ⟨e, g⟩ | ⟨_, h⟩
    · have e : k = 21 := by simpa using e
      subst e
      have hl : l.length = 2 := by have := form_two hf (by omega); omega
      unfold quantW at g
      rcases ite_ok g with ⟨_, g⟩ | ⟨_, g⟩
      · cases g
      have h2 := must_okr g
      rcases list2 (d := nd0) hl x hx with rfl | rfl
      · refine set_forms (kf := kindW cells f a (w64 (q + 1))) (st := st.inc) (fun y hy st2 h3 => ?_) ?_
        · have h4 := hsz _ hx
          have h5 : y.size ≤ f := by
            have := Nd.size_lt hy
            cases hk : l.getD 0 nd0 with
            | mk k0 v0 s0 l0 => rw [hk] at this h4; simp only [Nd.size, Nd.kids] at this h4; omega
          exact ih _ h5 _ _ _ h3
        · cases e2 : (setW (kindW cells f a (w64 (q + 1))) st.inc (l.getD 0 nd0)).ok with
          | true => rfl
          | false => rw [kindW_bad cells f _ _ _ _ e2] at h2; cases h2
      · exact fin hx h2
    rcases ite_ok h with ⟨e, g⟩ | ⟨_, h⟩
    · have e : k = 26 := by simpa using e
      subst e
      have hl : l.length = 1 := by have := form_one hf (by omega); omega
      have hx0 := list1 (d := nd0) hl x hx
      rw [hx0]
      exact fin (hx0 ▸ hx) (cell_ok g)
    · cases h
theorem right_forms {p : Pl} (h : refKind p ≠ 0) : forms p.root = true := by
  unfold refKind at h
  split at h
  · exact absurd rfl h
  split at h
  · exact absurd rfl h
  dsimp only at h
  split at h
  · exact absurd rfl h
  rename_i hk
  exact kind_forms _ _ _ (Nat.le_refl _) _ _ _ (by simpa using hk)
end
section
def foldPl (p : Pl) (right : Bool) : Pl × Int := if right then (⟨foldN rkP p.root, p.cells⟩, 0) else (⟨.mk 0 0 (ByteArray.mk #[]) [], []⟩, 140)
theorem foldPl_size (p : Pl) (b : Bool) (hf : b = true → forms p.root = true) (hi : inR p.root = true) : (foldPl p b).1.root.size ≤ p.root.size := by
  unfold foldPl
  split
  · rename_i h; exact (foldN_ok p.root (hf h) hi).2.2.1
  · have := size_pos p.root; simp [Nd.size, Nd.sizes]; omega
end
end Go.Vx
namespace Go.Vx.Tryz
open Go Go.Vx Go.Proofs
section
theorem rightB_forms {p : Pl} (h : rightB p = true) : forms p.root = true := right_forms (by unfold rightB at h; simpa using h)
theorem planFold_c (p : Pl) (hN : p.root.size < 2 ^ 30) (hi : inR p.root = true) {w : World} {F G : Nat → Prop} {A : Option Addr} {l c : Nat} {B : Option Addr} {bl bc : Nat} (h : NdsR w F p.root.kids A l c) (h2 : IntsR w G p.cells B bl bc) (hF : ∀ x, F x ∨ G x → x < w.heap.size) :
    CallsX E.P 23 #[plA p A l c B bl bc] w (fun v w' => ∃ A l c B bl bc F G, v = .tuple #[plA (foldPl p (rightB p)).1 A l c B bl bc, .int .i64 (foldPl p (rightB p)).2] ∧ PlO w' F G (foldPl p (rightB p)).1 A l c B bl bc ∧ (∀ x, F x ∨ G x → w.heap.size ≤ x ∧ x < w'.heap.size) ∧ Ext w w') never := by
  refine vc23 ?_
  intro id hid id1 hid1 w1 hE1 hi0 hi1
  have hE1 : Ext w w1 := hE1
  have hs1 := hE1.size
  refine callB (planRight_c p (h.ext hE1) (h2.ext hE1) (fun x hx => by have := hF x hx; omega)) fun w2 hE2 => ⟨fun hx w3 hU3 => ?_, fun hx w3 hE3 => ?_⟩
  · have hx' : rightB p = false := by simpa [rightB] using hx
    rw [hx']
    exact ⟨_, _, _, _, _, _, no, no, rfl, ⟨nds_nil, intsO_nil, fun _ h => h.elim⟩, fun x h => by rcases h with h | h <;> exact h.elim, fl (hE1.trans hE2) hU3 hid1⟩
  · have hx' : rightB p = true := by simpa [rightB] using hx
    have hle := right_le hx'
    have hbl := h2.len
    have hE3 : Ext w2 w3 := hE3
    have hE03 := (hE1.trans hE2).trans hE3
    have hs2 := hE2.size
    have hs3 := hE3.size
    refine callN (folded_c _ hN p.root (Nat.le_refl _) (rightB_forms hx') hi (h.ext hE03)) fun A4 l4 c4 w4 hE4 q4 => ?_
    refine callS (clone_c p.cells (h2.ext (hE03.trans hE4)) (by omega)) fun A5 l5 c5 w5 hE5 hB5 => ?_
    have hl5 := hB5.len
    refine call_clip (clip32_c hB5.cap) fun w6 hU6 => ?_
    have hs4 := hE4.size
    have hs5 := hE5.size
    have hs6 := hU6.size
    have hE05 := (hE03.trans hE4).trans hE5
    have hA5 : ∀ x, blkOf A5 x → w4.heap.size ≤ x ∧ x < w5.heap.size := fun x hx => by have := hB5.blk hx; exact ⟨this.1, this.2.1⟩
    have hd := RowB.doneF hB5 (by omega)
    rw [hx']
    refine ⟨A4, l4, c4, A5, l5, l5, Rng w3.heap.size w4.heap.size, blkOf A5, rfl, ⟨(q4.ext hE5).upd hU6 fun x hx hS => ?_, hd.updF hU6 fun x hx hS => ?_, fun x hx hg => ?_⟩, fun x hx => ?_, fl hE05 hU6 hid1⟩
    · have := hx.1; simp only [setOf, no, or_false] at hS; omega
    · have := hA5 x hx; simp only [setOf, no, or_false] at hS; omega
    · have := hA5 x hg; have := hx.2; omega
    · rcases hx with hx | hx
      · have := hx.1; have := hx.2; omega
      · have := hA5 x hx; omega
theorem refFold_c (p : Pl) (hN : p.root.size < 2 ^ 30) (hi : inR p.root = true) {w : World} {F G : Nat → Prop} {A : Option Addr} {l c : Nat} {B : Option Addr} {bl bc : Nat} (h : NdsR w F p.root.kids A l c) (h2 : IntsR w G p.cells B bl bc) (hF : ∀ x, F x ∨ G x → x < w.heap.size) :
    CallsX E.P 22 #[plA p A l c B bl bc] w (fun v w' => ∃ A l c B bl bc, v = .tuple #[plA (foldPl p (rightB p)).1 A l c B bl bc, .int .i64 (foldPl p (rightB p)).2] ∧ NdsR w' (Rng w.heap.size w'.heap.size) (foldPl p (rightB p)).1.root.kids A l c ∧
      IntsR w' (Rng w.heap.size w'.heap.size) (foldPl p (rightB p)).1.cells B bl bc ∧ Ext w w') never := by
  refine vc22 ?_
  intro id hid id1 hid1 w1 hE1 hi0 hi1
  have hE1 : Ext w w1 := hE1
  have hs1 := hE1.size
  refine callB (refRight_c p (h.ext hE1) (h2.ext hE1) (fun x hx => by have := hF x hx; omega)) fun w2 hE2 => ⟨fun hx w3 hU3 => ?_, fun hx w3 hE3 => ?_⟩
  · have hx' : rightB p = false := by simpa [rightB] using hx
    rw [hx']
    exact ⟨_, _, _, _, _, _, rfl, nds_nil.plain, ints_of intsO_nil, fl (hE1.trans hE2) hU3 hid1⟩
  · have hx' : rightB p = true := by simpa [rightB] using hx
    have hle := right_le hx'
    have hbl := h2.len
    have hE3 : Ext w2 w3 := hE3
    have hE03 := (hE1.trans hE2).trans hE3
    have hs2 := hE2.size
    have hs3 := hE3.size
    refine callN (refNode_c _ hN p.root (Nat.le_refl _) (rightB_forms hx') hi (h.ext hE03)) fun A4 l4 c4 w4 hE4 q4 => ?_
    have hs4 := hE4.size
    refine pushVC (ids := [id, id1]) (app_nil (h2.ext (hE03.trans hE4)) (by omega)) ⟨⟨fun h => h, fun h => h, trivial⟩⟩ ?_
    intro A5 c5 w5 hB5 hU5 w6 hU6
    have hE5 : Ext w4 w5 := Upd.step (Upd.refl _ _) hU5 (fun _ h => h.elim)
    have hs5 := hE5.size
    have hs6 := hU6.size
    have hd := RowB.done hB5.unown (c' := c5) (by omega) (.inr ⟨rfl, rfl⟩)
    rw [hx']
    refine ⟨A4, l4, c4, A5, _, c5, rfl, ((q4.ext hE5).upd hU6 fun x hx hS => ?_).mono fun x hx => ⟨by have := hx.1; omega, by have := hx.2; omega⟩, ?_, fl ((hE03.trans hE4).trans hE5) hU6 hid1⟩
    · have := hx.1; simp only [setOf, no, or_false] at hS; omega
    · refine RowIn.mono (RowIn.upd (F := fun x => w4.heap.size ≤ x ∧ x < w5.heap.size) (RowIn.mono (ints_of hd) fun x hx => ?_) hU6 fun x hx hS => ?_) fun x hx => ⟨by omega, by omega⟩
      · rcases hx with ⟨_, h⟩ | h
        · exact h.elim
        · exact ⟨h.1, h.2.1⟩
      · simp only [setOf, no, or_false] at hS; omega
end
section
open Go Go.Vx Go.Proofs
theorem foldPl_cells (p : Pl) (b : Bool) : (foldPl p b).1.cells.length ≤ p.cells.length := by
  unfold foldPl; split <;> simp
theorem foldPlans_c (haw : ∀ w, CallsX E.P 21 #[] w (IsV (.bool true) w) never) (p : Pl) (hin : inR p.root = true) {w : World} {F G : Nat → Prop} {A : Option Addr} {l c : Nat} {B : Option Addr} {bl bc : Nat} (h : NdsR w F p.root.kids A l c) (h2 : IntsR w G p.cells B bl bc) (hF : ∀ x, F x ∨ G x → x < w.heap.size) :
    CallsX E.P 6 #[plA p A l c B bl bc] w (IsV (.bool true) w) never := by
  refine vc6 ?_
  intro id hid w1 hE1 hi1
  have hs1 := hE1.size
  refine callB (heavy_c p (h.ext hE1) (h2.ext hE1)) fun w2 hE2 => ⟨fun hx => ⟨rfl, Ext.trans hE1 hE2⟩, fun hx => ?_⟩
  have hE02 : Ext w w2 := Ext.trans hE1 hE2
  obtain ⟨hsz, hcl⟩ := light hx
  have hs2 := hE02.size
  have hs12 := hE2.size
  refine callB (haw w2) fun w3 hE3 => ?_
  have hE03 := hE02.trans hE3
  have hs3 := hE03.size
  have hs23 := hE3.size
  refine ⟨_, _, refFold_c p (by omega) hin (h.ext hE03) (h2.ext hE03) (fun x hx => by have := hF x hx; omega), ?_, never_any⟩
  rintro v w4 ⟨A2, l2, c2, B2, bl2, bc2, rfl, hq, hqc, hE4⟩
  refine ⟨_, _, _, _, _, _, _, _, _, _, rfl, no, hE4, Away.no _, fun id1 hid1 w5 hE5 hi5 => ?_⟩
  have hE05 := (hE03.trans hE4).trans hE5
  have hs4 := hE4.size
  have hs5 : w4.heap.size ≤ w5.heap.size := Upd.size hE5
  have hblen : bl = p.cells.length := h2.len
  refine ⟨_, _, lentPl_c p (h.ext hE05) (h2.ext hE05) (by omega) (by omega), ?_, never_any⟩
  rintro v w6 ⟨A3, l3, c3, B3, bl3, bc3, rfl, hlt, hlti, hE6⟩
  refine ⟨_, _, _, _, _, _, _, _, _, rfl, no, hE6, Away.no _, fun id2 hid2 w7 hE7 hi7 => ?_⟩
  have hs6 := hE6.size
  have hs7 : w6.heap.size ≤ w7.heap.size := Upd.size hE7
  have hE67 : Ext w6 w7 := hE7
  refine ⟨fun x w8 => ∃ j : Nat, x = j ∧ j ≤ 2 ∧ Ext w7 w8, fun x => (2 - x).toNat, ⟨0, rfl, by omega, Upd.refl _ _⟩, ?_⟩
  rintro _ x w8 ⟨j, rfl, hj, hE8⟩
  have hs8 := hE8.size
  have hE48 : Ext w4 w8 := ((Ext.trans hE5 hE6).trans hE67).trans hE8
  have hE08 : Ext w w8 := (hE03.trans hE4).trans hE48
  refine ⟨fun hlt2 => ?_, fun hge => ⟨rfl, hE08⟩⟩
  have hj2 : j < 2 := by simp at hlt2; omega
  have own8 : LtsR w8 (Rng w5.heap.size w6.heap.size) p.root.kids A3 l3 c3 := (hlt.ext hE67).ext hE8
  have owni8 : LtInts w8 (Rng w5.heap.size w6.heap.size) p.cells B3 bl3 bc3 := (hlti.ext hE67).ext hE8
  refine ⟨_, _, planFold_c p (by omega) hin own8.plain owni8.plain (fun x hx => by rcases hx with hx | hx <;> exact Nat.lt_of_lt_of_le hx.2 (by omega)), ?_, never_any⟩
  rintro v w9 ⟨A4, l4, c4, B4, bl4, bc4, F4, G4, rfl, hO, hF4, hE9⟩
  have hs9 := hE9.size
  refine ⟨_, _, _, _, _, _, _, _, _, _, rfl, no, hE9, Away.no _, fun id3 hid3 w10 hE10 hi10 => ?_⟩
  have hs10 : w9.heap.size ≤ w10.heap.size := Upd.size hE10
  have hE10' : Ext w9 w10 := hE10
  have hE410 := (hE48.trans hE9).trans hE10'
  refine callB (samePl_c (foldPl p (rightB p)).1 (foldPl p (rightB p)).1 (hO.1.plain.ext hE10') ((ints_of hO.2.1).ext hE10') (hq.ext hE410) (hqc.ext hE410)) fun w11 hE11 => ?_
  have hE811 := (hE9.trans hE10').trans hE11
  refine callB (keptPl_c p p (own8.ext hE811) (owni8.ext hE811) (h.ext (hE08.trans hE811)) (h2.ext (hE08.trans hE811))) fun w12 hE12 => ?_
  have e1 : samePl (foldPl p (rightB p)).1 (foldPl p (rightB p)).1 = true := by exact samePl_rfl _
  have e2 : keptPl p p = true := keptPl_rfl p
  have e3 : ((foldPl p (rightB p)).2 != (foldPl p (rightB p)).2) = false := by simp
  refine ⟨(fun hh => by cases hh), fun _ => ⟨(fun hh => by rw [e1] at hh; cases hh), fun _ => ⟨(fun hh => by rw [e2] at hh; cases hh), fun _ => ⟨(fun hh => by rw [e3] at hh; cases hh), fun _ => ?_⟩⟩⟩⟩
  have hE912 := (hE10'.trans hE11).trans hE12
  have hs11 := hE11.size
  have hs12 := hE12.size
  have hO12 : PlO w12 F4 G4 (foldPl p (rightB p)).1 A4 l4 c4 B4 bl4 bc4 := ⟨hO.1.ext hE912, RowsG.updF hO.2.1 hE912 (no_no _), hO.2.2⟩
  have hb4 : bl4 = (foldPl p (rightB p)).1.cells.length := (ints_of hO.2.1).len
  have hc4 := foldPl_cells p (rightB p)
  have hz4 := foldPl_size p (rightB p) rightB_forms hin
  refine ⟨_, _, Over_c _ (by omega) hO12 (fun x hx => by have := hF4 x hx; omega) (by omega), ?_, never_any⟩
  rintro v w13 ⟨rfl, hU13⟩
  have hs13 := hU13.size
  refine ⟨_, rfl, _, hU13, away_of (fun i hi hS => ?_), ?_⟩
  · have := hF4 i hS
    simp only [List.mem_cons, List.not_mem_nil, or_false] at hi
    omega
  have hE812 := hE811.trans hE12
  have own13 : LtsR w13 (Rng w5.heap.size w6.heap.size) p.root.kids A3 l3 c3 := (own8.ext hE812).upd hU13 fun x hx hS => by have := hF4 x hS; have := hx.2; omega
  have owni13 : LtInts w13 (Rng w5.heap.size w6.heap.size) p.cells B3 bl3 bc3 := (owni8.ext hE812).upd hU13 fun x hx hS => by have := hF4 x hS; have := hx.2; omega
  have hE013 : Ext w w13 := Upd.step (hE08.trans hE812) hU13 fun x hx => by have := hF4 x hx; have := hE08.size; omega
  refine callB (keptPl_c p p own13 owni13 (h.ext hE013) (h2.ext hE013)) fun w14 hE14 => ⟨(fun hh => by rw [e2] at hh; cases hh), fun _ => ⟨⟨j + 1, w64_succ (by omega), by omega, ?_⟩, ?_⟩⟩
  · refine Upd.step (((hE8.trans hE9).trans hE912)) hU13 (fun x hx => by have := hF4 x hx; omega) |>.trans hE14
  · rw [w64_succ (by omega)]; dsimp only; omega
end
section
open Go Go.Vx Go.Proofs
def sevenT : ByteArray := ByteArray.mk #[49, 32, 43, 32, 50, 32, 42, 32, 51]
def sevenP : Pl := ⟨.mk 1 7 (ByteArray.mk #[]) [], []⟩
def sevenOk : Bool := match parseF sevenT 60 with
  | none => false
  | some r => r.2.1 == 0 && decide (r.1.size ≤ 100) && (ofF r.1).2 == 0 && decide ((ofF r.1).1.root.size ≤ 100) && inR (ofF r.1).1.root &&
    (let q := foldPl (ofF r.1).1 (rightB (ofF r.1).1); q.2 == 0 && samePl q.1 sevenP)
theorem seven_ok : sevenOk = true := by decide +kernel
theorem seven_parts : ∃ r : Ex × Int × Int, parseF sevenT 60 = some r ∧ r.2.1 = 0 ∧ r.1.size ≤ 100 ∧ (ofF r.1).2 = 0 ∧ (ofF r.1).1.root.size ≤ 100 ∧ inR (ofF r.1).1.root = true ∧ (foldPl (ofF r.1).1 (rightB (ofF r.1).1)).2 = 0 ∧
    samePl (foldPl (ofF r.1).1 (rightB (ofF r.1).1)).1 sevenP = true := by
  have h := seven_ok
  unfold sevenOk at h
  split at h
  · cases h
  · rename_i r hr
    simp only [Bool.and_eq_true, beq_iff_eq, decide_eq_true_eq] at h
    obtain ⟨⟨⟨⟨⟨h1, h2⟩, h3⟩, h4⟩, h5⟩, h6, h7⟩ := h
    exact ⟨r, hr, h1, h2, h3, h4, h5, h6, h7⟩
theorem ints_nil {w : World} {F : Nat → Prop} : IntsR w F [] none 0 0 := ⟨rfl, Nat.le_refl _, by decide, by simp, fun h => absurd rfl h⟩
theorem foldAwake_c (w : World) : CallsX E.P 21 #[] w (IsV (.bool true) w) never := by
  obtain ⟨r, hr, e0, hz, f0, hn, hin, g0, hsame⟩ := seven_parts
  refine vc21 ?_
  refine ⟨_, _, parse_c sevenT 60 (by decide) r hr, ?_, never_any⟩
  rintro v w2 ⟨A, l, c, rfl, hx, hE2⟩
  have t2 := hE2.size
  refine ⟨_, _, _, _, _, _, _, _, _, rfl, no, hE2, Away.no _, fun id hid w3 hE3 hi3 => ?_⟩
  have hE3' : Ext w2 w3 := hE3
  have t3 := hE3'.size
  refine ⟨_, _, of_c r.1 (hx.ext hE3') (fun x hx => by have := hx.2; omega) (by omega), ?_, never_any⟩
  rintro v w4 ⟨A4, l4, c4, rfl, hN4, hcells, hE4⟩
  have t4 := hE4.size
  refine ⟨_, _, _, _, _, _, _, _, _, _, rfl, no, hE4, Away.no _, fun id1 hid1 w5 hE5 hi5 => ?_⟩
  have hE5' : Ext w4 w5 := hE5
  have t5 := hE5'.size
  have hI : IntsR w5 no (ofF r.1).1.cells none 0 0 := by rw [hcells]; exact ints_nil
  refine ⟨_, _, planFold_c (ofF r.1).1 (by omega) hin (hN4.ext hE5') hI (fun x hx => by rcases hx with hx | hx; have := hx.2; omega; exact hx.elim), ?_, never_any⟩
  rintro v w6 ⟨A6, l6, c6, B6, bl6, bc6, F6, G6, rfl, hO, hF6, hE6⟩
  have hE06 : Ext w w6 := (((hE2.trans hE3').trans hE4).trans hE5').trans hE6
  refine ⟨_, _, _, _, _, _, _, _, _, _, rfl, no, hE6, Away.no _, fun id2 hid2 => ?_⟩
  have hq := hO.1.plain
  have hqc := ints_of hO.2.1
  generalize foldPl (ofF r.1).1 (rightB (ofF r.1).1) = q at hq hqc g0 hsame ⊢
  refine ⟨fun _ => ⟨fun _ => ⟨fun _ w7 hE7 hi7 => ?_, fun hh => ?_⟩, fun hh => ?_⟩, fun hh => ?_⟩
  · have hE7' : Ext w6 w7 := hE7
    have hs := samePl_c q.1 sevenP (w := w7) (F2 := no) (G2 := no) (hq.ext hE7') (hqc.ext hE7') (nds_nilo (o := false)) ints_nil
    rw [hsame] at hs
    exact callB hs fun w8 hE8 => ⟨rfl, (hE06.trans hE7').trans hE8⟩
  · rw [g0] at hh; exact absurd hh (by decide)
  · rw [f0] at hh; exact absurd hh (by decide)
  · rw [e0] at hh; exact absurd hh (by decide)
theorem foldPlans (p : Pl) (hin : inR p.root = true) {w : World} {F G : Nat → Prop} {A : Option Addr} {l c : Nat} {B : Option Addr} {bl bc : Nat} (h : NdsR w F p.root.kids A l c) (h2 : IntsR w G p.cells B bl bc) (hF : ∀ x, F x ∨ G x → x < w.heap.size) :
    CallsX E.P 6 #[plA p A l c B bl bc] w (IsV (.bool true) w) never := foldPlans_c foldAwake_c p hin h h2 hF
end
end Go.Vx.Tryz
namespace Go.Vx
open Go
section
theorem tok_in {ts : List Tok} {i : Nat} (h : (tokAt ts i).kind ≠ 0) : i < ts.length := by
  refine Classical.byContradiction fun hn => h ?_
  rw [tokAt, List.getD_eq_getElem?_getD, List.getElem?_eq_none (by omega)]; rfl
def wS (N : Nat) (st : RS) : Nat := if st.e == 0 then N - st.at_ else 0
section
variable {ts : List Tok} {st : RS}
theorem w_le_next : wS ts.length st.next ≤ wS ts.length st := by
  unfold wS RS.next
  dsimp only
  split <;> omega
theorem w_lt_next (h : 1 ≤ wS ts.length st) : wS ts.length st.next + 1 ≤ wS ts.length st := by
  unfold wS RS.next at *
  dsimp only
  split at h
  · rename_i he; rw [if_pos he, if_pos he]; omega
  · omega
theorem w_fail (c : Int) (hc : c ≠ 0) : wS ts.length (failsF ts st c) = 0 := by
  unfold failsF
  split
  · unfold wS; rw [if_neg (by simpa using hc)]
  · rename_i he; unfold wS; rw [if_neg he]
theorem w_takes (s : ByteArray) : wS ts.length (takesF ts st s) ≤ wS ts.length st := by
  unfold takesF
  split
  · exact w_le_next
  · rw [w_fail 120 (by decide)]; exact Nat.zero_le _
theorem w_opens : wS ts.length (opensF ts st) ≤ wS ts.length st := by
  unfold opensF
  split
  · rw [w_fail 121 (by decide)]; exact Nat.zero_le _
  · exact w_le_next (st := st)
theorem w_lt_opens (h : 1 ≤ wS ts.length st) : wS ts.length (opensF ts st) + 1 ≤ wS ts.length st := by
  unfold opensF
  split
  · rw [w_fail 121 (by decide)]; exact h
  · exact w_lt_next (st := st) h
theorem w_bracket (s : ByteArray) : wS ts.length (bracketF ts st s) ≤ wS ts.length st := by
  unfold bracketF
  split
  · exact w_opens
  · rw [w_fail 120 (by decide)]; exact Nat.zero_le _
theorem w_lt_bracket (s : ByteArray) (h : 1 ≤ wS ts.length st) : wS ts.length (bracketF ts st s) + 1 ≤ wS ts.length st := by
  unfold bracketF
  split
  · exact w_lt_opens h
  · rw [w_fail 120 (by decide)]; exact h
theorem w_closes (s : ByteArray) : wS ts.length (closesF ts st s) ≤ wS ts.length st := w_takes s
theorem w_pos (he : st.e = 0) (hk : (tokAt ts st.at_).kind ≠ 0) : 1 ≤ wS ts.length st := by
  have := tok_in hk
  unfold wS
  rw [if_pos (by rw [he]; rfl)]; omega
theorem isF_pos {s : ByteArray} (h : isF ts st s = true) : 1 ≤ wS ts.length st := by
  simp only [isF, Bool.and_eq_true, Bool.or_eq_true, beq_iff_eq] at h
  refine w_pos h.1.1 ?_
  rcases h.1.2 with h | h <;> rw [h] <;> decide
theorem among_pos : ∀ (l : List ByteArray) (i : Nat), amongL ts st i l ≥ 0 → 1 ≤ wS ts.length st
  | [], i, h => by simp [amongL] at h
  | x :: l, i, h => by
    rw [amongL] at h
    split at h
    · rename_i hx; exact isF_pos hx
    · exact among_pos l (i + 1) h
end
def okC (N : Nat) : Cl → RS → Prop
  | .row r, _ => 1 ≤ r ∧ r ≤ 7
  | .loop r k _, st => (r = 1 ∨ r = 2 ∨ r = 4 ∨ r = 5 ∨ r = 6) ∧ (k ≥ 0 → 1 ≤ wS N st)
  | .choice _, st => 1 ≤ wS N st
  | .call _ _, st => 1 ≤ wS N st
  | .quant _ _, st => 1 ≤ wS N st
  | .list _, st => 1 ≤ wS N st
  | _, _ => True
def rankC : Cl → RS → Nat
  | .row r, _ => 2 * (10 - r.toNat)
  | .loop _ _ _, _ => 2
  | .not, _ => 13
  | .unary, _ => 5
  | .atom, _ => 4
  | .choice _, _ => 3
  | .call _ _, _ => 3
  | .quant _ _, _ => 3
  | .set, _ => 4
  | .list _, _ => 3
  | .more _ en _, st => if !en && st.e == 0 then 20 else 1
def sizeC : Cl → RS → Nat
  | .loop _ _ a, _ => a.size
  | .more _ en acc, st => if !en && st.e == 0 then 2 + Ex.sizes acc else 1 + Ex.sizes acc
  | _, _ => 1
theorem sizes_app : ∀ (l : List Ex) (x : Ex), Ex.sizes (l ++ [x]) = Ex.sizes l + x.size
  | [], x => by simp [Ex.sizes]
  | y :: l, x => by rw [List.cons_append, Ex.sizes, Ex.sizes, sizes_app l x]; omega
theorem ex0_size : ex0.size = 1 := by simp [ex0, Ex.size, Ex.sizes]
def EndsC (ts : List Tok) (f : Nat) (cl : Cl) (st : RS) : Prop := ∃ r, rd ts f cl st = some r ∧ wS ts.length r.2 ≤ wS ts.length st ∧ r.1.size + 3 * wS ts.length r.2 ≤ sizeC cl st + 3 * wS ts.length st
def IhC (ts : List Tok) (f : Nat) : Prop := ∀ cl st, okC ts.length cl st → 32 * wS ts.length st + rankC cl st ≤ f → EndsC ts f cl st
section
variable {ts : List Tok} {f : Nat} {st : RS}
theorem row1_at (ih : IhC ts f) {s : RS} (h : 32 * wS ts.length s + 18 ≤ f) : ∃ r, rd ts f (.row 1) s = some r ∧ wS ts.length r.2 ≤ wS ts.length s ∧ r.1.size + 3 * wS ts.length r.2 ≤ 1 + 3 * wS ts.length s := ih (.row 1) s ⟨by decide, by decide⟩ h
theorem nfB {c : Bool} (h : c = false) : ¬ c = true := by rw [h]; exact Bool.false_ne_true
theorem ends_row (ih : IhC ts f) (r : Int) (h1 : 1 ≤ r) (h7 : r ≤ 7) (hm : 32 * wS ts.length st + 2 * (10 - r.toNat) ≤ f + 1) : EndsC ts (f + 1) (.row r) st := by
  unfold EndsC
  rw [rd]
  show ∃ x, _ ∧ _ ∧ _ ≤ 1 + _
  by_cases he : (st.e != 0) = true
  · rw [if_pos he]; exact ⟨_, rfl, Nat.le_refl _, by dsimp only; rw [ex0_size]; omega⟩
  rw [if_neg he]
  by_cases h3 : (r == 3) = true
  · rw [if_pos h3]
    have : r = 3 := by simpa using h3
    subst this
    exact ih .not st trivial (by show _ + 13 ≤ f; simp at hm; omega)
  rw [if_neg h3]
  by_cases h7' : (r == 7) = true
  · rw [if_pos h7']
    have : r = 7 := by simpa using h7'
    subst this
    exact ih .unary st trivial (by show _ + 5 ≤ f; simp at hm; omega)
  rw [if_neg h7']
  have n3 : r ≠ 3 := by simpa using h3
  have n7 : r ≠ 7 := by simpa using h7'
  have hw : w64 (r + 1) = r + 1 := w64_id (by omega) (by omega)
  rw [hw]
  obtain ⟨p, hp, wp, sp⟩ := ih (.row (r + 1)) st ⟨by omega, by omega⟩ (by show _ + 2 * (10 - (r + 1).toNat) ≤ f; omega)
  rw [hp, Option.bind_some]
  obtain ⟨q, hq, wq, sq⟩ := ih (.loop r (amongF ts p.2 (signsL r)) p.1) p.2 ⟨by omega, among_pos _ 0⟩ (by show _ + 2 ≤ f; omega)
  have sp : p.1.size + 3 * wS ts.length p.2 ≤ 1 + 3 * wS ts.length st := sp
  have sq : q.1.size + 3 * wS ts.length q.2 ≤ p.1.size + 3 * wS ts.length p.2 := sq
  exact ⟨q, hq, by omega, by omega⟩
theorem ends_loop (ih : IhC ts f) (r k : Int) (a : Ex) (hr : r = 1 ∨ r = 2 ∨ r = 4 ∨ r = 5 ∨ r = 6) (hk : k ≥ 0 → 1 ≤ wS ts.length st) (hm : 32 * wS ts.length st + 2 ≤ f + 1) : EndsC ts (f + 1) (.loop r k a) st := by
  unfold EndsC
  rw [rd]
  show ∃ x, _ ∧ _ ∧ _ ≤ a.size + _
  by_cases hc : (decide (k ≥ 0) && st.e == 0) = true
  · rw [if_pos hc]
    simp only [Bool.and_eq_true, decide_eq_true_eq] at hc
    have w1 := hk hc.1
    have w2 := w_lt_next (st := st) w1
    have hw : w64 (r + 1) = r + 1 := w64_id (by omega) (by omega)
    rw [hw]
    obtain ⟨p, hp, wp, sp⟩ := ih (.row (r + 1)) st.next ⟨by omega, by omega⟩ (by show _ + 2 * (10 - (r + 1).toNat) ≤ f; omega)
    have sp : p.1.size + 3 * wS ts.length p.2 ≤ 1 + 3 * wS ts.length st.next := sp
    rw [hp, Option.bind_some]
    have hsz : ∀ {kd t : Int} {s : ByteArray}, (Ex.mk kd 0 s [a, p.1] t).size = 1 + (a.size + p.1.size) := by intros; simp [Ex.size, Ex.sizes]
    split
    · exact ⟨_, rfl, by show wS ts.length p.2 ≤ _; omega, by show (Ex.mk _ 0 _ [a, p.1] _).size + 3 * wS ts.length p.2 ≤ _; rw [hsz]; omega⟩
    · obtain ⟨q, hq, wq, sq⟩ := ih (.loop r (amongF ts p.2 (signsL r)) (.mk ((kindsL r).getD k.toNat 0) 0 (ByteArray.mk #[]) [a, p.1] (tokAt ts st.at_).at_)) p.2 ⟨hr, among_pos _ 0⟩ (by show _ + 2 ≤ f; omega)
      have sq : q.1.size + 3 * wS ts.length q.2 ≤ (Ex.mk ((kindsL r).getD k.toNat 0) 0 (ByteArray.mk #[]) [a, p.1] (tokAt ts st.at_).at_).size + 3 * wS ts.length p.2 := sq
      rw [hsz] at sq
      exact ⟨q, hq, by omega, by omega⟩
  · rw [if_neg hc]
    exact ⟨_, rfl, Nat.le_refl _, Nat.le_refl _⟩
theorem one_size {k n t : Int} {s : ByteArray} {x : Ex} : (Ex.mk k n s [x] t).size = 1 + x.size := by simp [Ex.size, Ex.sizes]
theorem two_size {k n t : Int} {s : ByteArray} {x y : Ex} : (Ex.mk k n s [x, y] t).size = 1 + (x.size + y.size) := by simp [Ex.size, Ex.sizes]
theorem leaf_size {k n t : Int} {s : ByteArray} : (Ex.mk k n s [] t).size = 1 := by simp [Ex.size, Ex.sizes]
theorem ends_not (ih : IhC ts f) (hm : 32 * wS ts.length st + 13 ≤ f + 1) : EndsC ts (f + 1) .not st := by
  unfold EndsC
  rw [rd]
  show ∃ x, _ ∧ _ ∧ _ ≤ 1 + _
  split
  · exact ih (.row 4) st ⟨by decide, by decide⟩ (by show _ + 12 ≤ f; omega)
  · rename_i h
    have w1 := w_lt_opens (isF_pos (by simpa using h))
    obtain ⟨p, hp, wp, sp⟩ := ih (.row 3) (opensF ts st) ⟨by decide, by decide⟩ (by show _ + 14 ≤ f; omega)
    have sp : p.1.size + 3 * wS ts.length p.2 ≤ 1 + 3 * wS ts.length (opensF ts st) := sp
    rw [hp, Option.map_some]
    exact ⟨_, rfl, by show wS ts.length p.2 ≤ _; omega, by show (Ex.mk _ _ _ [p.1] _).size + 3 * wS ts.length p.2 ≤ _; rw [one_size]; omega⟩
theorem ends_unary (ih : IhC ts f) (hm : 32 * wS ts.length st + 5 ≤ f + 1) : EndsC ts (f + 1) .unary st := by
  unfold EndsC
  rw [rd]
  show ∃ x, _ ∧ _ ∧ _ ≤ 1 + _
  split
  · exact ih .atom st trivial (by show _ + 4 ≤ f; omega)
  · rename_i h
    have w1 := w_lt_opens (isF_pos (by simpa using h))
    obtain ⟨p, hp, wp, sp⟩ := ih (.row 7) (opensF ts st) ⟨by decide, by decide⟩ (by show _ + 6 ≤ f; omega)
    have sp : p.1.size + 3 * wS ts.length p.2 ≤ 1 + 3 * wS ts.length (opensF ts st) := sp
    rw [hp, Option.map_some]
    exact ⟨_, rfl, by show wS ts.length p.2 ≤ _; omega, by show (Ex.mk _ _ _ [p.1] _).size + 3 * wS ts.length p.2 ≤ _; rw [one_size]; omega⟩
theorem leaf_ends {k n t : Int} {s : ByteArray} {s2 : RS} (h : wS ts.length s2 ≤ wS ts.length st) : ∃ r, some ((Ex.mk k n s [] t), s2) = some r ∧ wS ts.length r.2 ≤ wS ts.length st ∧ r.1.size + 3 * wS ts.length r.2 ≤ 1 + 3 * wS ts.length st :=
  ⟨_, rfl, h, by dsimp only; rw [leaf_size]; omega⟩
theorem fail_ends (c : Int) {s2 : RS} (hc : c ≠ 0) : ∃ r, some (ex0, failsF ts s2 c) = some r ∧ wS ts.length r.2 ≤ wS ts.length st ∧ r.1.size + 3 * wS ts.length r.2 ≤ 1 + 3 * wS ts.length st := by
  refine ⟨_, rfl, ?_, ?_⟩
  · dsimp only; rw [w_fail c hc]; exact Nat.zero_le _
  · dsimp only; rw [w_fail c hc, ex0_size]; omega
theorem ends_atom (ih : IhC ts f) (hm : 32 * wS ts.length st + 4 ≤ f + 1) : EndsC ts (f + 1) .atom st := by
  unfold EndsC
  rw [rd]
  show ∃ x, _ ∧ _ ∧ _ ≤ 1 + _
  split
  · exact ⟨_, rfl, Nat.le_refl _, by dsimp only; rw [ex0_size]; omega⟩
  split
  · exact leaf_ends w_le_next
  split
  · exact leaf_ends w_le_next
  split
  · exact leaf_ends w_le_next
  split
  · split
    · exact fail_ends 120 (by decide)
    · exact leaf_ends (Nat.le_trans w_le_next w_le_next)
  split
  · rename_i h
    have h : amongF ts st whichL = 1 := by simpa using h
    have w0 := among_pos (ts := ts) (st := st) whichL 0 (by show amongF ts st whichL ≥ 0; omega)
    have w1 := w_lt_bracket (ByteArray.mk #[40]) w0
    obtain ⟨p, hp, wp, sp⟩ := row1_at ih (s := bracketF ts st (ByteArray.mk #[40])) (by omega)
    rw [hp, Option.map_some]
    have w2 := w_closes (ts := ts) (st := p.2) (ByteArray.mk #[41])
    exact ⟨_, rfl, by dsimp only; omega, by dsimp only; omega⟩
  split
  · rename_i h
    have h : amongF ts st whichL = 2 := by simpa using h
    exact ih (.choice _) st (among_pos (ts := ts) (st := st) whichL 0 (by show amongF ts st whichL ≥ 0; omega)) (by show _ + 3 ≤ f; omega)
  split
  · rename_i h
    exact ih (.call _ _) st (among_pos (ts := ts) (st := st) callsL 0 (of_decide_eq_true h)) (by show _ + 3 ≤ f; omega)
  split
  · rename_i h
    exact ih (.quant _ _) st (among_pos (ts := ts) (st := st) quantsL 0 (of_decide_eq_true h)) (by show _ + 3 ≤ f; omega)
  · exact fail_ends 120 (by decide)
theorem ends_choice (ih : IhC ts f) (t : Int) (h1 : 1 ≤ wS ts.length st) (hm : 32 * wS ts.length st + 3 ≤ f + 1) : EndsC ts (f + 1) (.choice t) st := by
  unfold EndsC
  rw [rd]
  show ∃ x, _ ∧ _ ∧ _ ≤ 1 + _
  have w1 := w_lt_opens h1
  obtain ⟨a, ha, wa, sa⟩ := row1_at ih (s := opensF ts st) (by omega)
  rw [ha, Option.bind_some]
  have w2 := w_takes (ts := ts) (st := a.2) (ByteArray.mk #[116, 104, 101, 110])
  obtain ⟨b, hb, wb, sb⟩ := row1_at ih (s := takesF ts a.2 (ByteArray.mk #[116, 104, 101, 110])) (by omega)
  rw [hb, Option.bind_some]
  have w3 := w_takes (ts := ts) (st := b.2) (ByteArray.mk #[101, 108, 115, 101])
  obtain ⟨c, hc, wc, sc⟩ := row1_at ih (s := takesF ts b.2 (ByteArray.mk #[101, 108, 115, 101])) (by omega)
  rw [hc, Option.map_some]
  refine ⟨_, rfl, by show wS ts.length c.2 ≤ _; omega, ?_⟩
  show (Ex.mk _ _ _ [a.1, b.1, c.1] _).size + 3 * wS ts.length c.2 ≤ _
  simp only [Ex.size, Ex.sizes]
  omega
theorem ends_call (ih : IhC ts f) (i t : Int) (h1 : 1 ≤ wS ts.length st) (hm : 32 * wS ts.length st + 3 ≤ f + 1) : EndsC ts (f + 1) (.call i t) st := by
  unfold EndsC
  rw [rd]
  show ∃ x, _ ∧ _ ∧ _ ≤ 1 + _
  have w0 := w_lt_next (st := st) h1
  have w1 := w_bracket (ts := ts) (st := st.next) (ByteArray.mk #[40])
  obtain ⟨a, ha, wa, sa⟩ := row1_at ih (s := bracketF ts st.next (ByteArray.mk #[40])) (by omega)
  rw [ha, Option.bind_some]
  split
  · have w2 := w_takes (ts := ts) (st := a.2) (ByteArray.mk #[44])
    obtain ⟨b, hb, wb, sb⟩ := row1_at ih (s := takesF ts a.2 (ByteArray.mk #[44])) (by omega)
    rw [hb, Option.map_some]
    have w3 := w_closes (ts := ts) (st := b.2) (ByteArray.mk #[41])
    exact ⟨_, rfl, by dsimp only; omega, by dsimp only; rw [two_size]; omega⟩
  · have w3 := w_closes (ts := ts) (st := a.2) (ByteArray.mk #[41])
    exact ⟨_, rfl, by dsimp only; omega, by dsimp only; rw [one_size]; omega⟩
theorem ends_quant (ih : IhC ts f) (i t : Int) (h1 : 1 ≤ wS ts.length st) (hm : 32 * wS ts.length st + 3 ≤ f + 1) : EndsC ts (f + 1) (.quant i t) st := by
  unfold EndsC
  rw [rd]
  show ∃ x, _ ∧ _ ∧ _ ≤ 1 + _
  split
  · exact fail_ends 121 (by decide)
  split
  · exact fail_ends 121 (by decide)
  have w0 : wS ts.length (opensF ts { st with quants := w64 (st.quants + 1) }) + 1 ≤ wS ts.length st := w_lt_opens (st := { st with quants := w64 (st.quants + 1) }) h1
  generalize opensF ts { st with quants := w64 (st.quants + 1) } = q at w0 ⊢
  split
  · exact fail_ends 120 (by decide)
  have w1 := w_le_next (ts := ts) (st := q)
  have w2 := w_takes (ts := ts) (st := q.next) (ByteArray.mk #[105, 110])
  obtain ⟨s, hs, ws, ss⟩ := ih .set (takesF ts q.next (ByteArray.mk #[105, 110])) trivial (by show _ + 4 ≤ f; omega)
  have ss : s.1.size + 3 * wS ts.length s.2 ≤ 1 + 3 * wS ts.length (takesF ts q.next (ByteArray.mk #[105, 110])) := ss
  rw [hs, Option.bind_some]
  have w3 := w_takes (ts := ts) (st := s.2) (ByteArray.mk #[58])
  obtain ⟨b, hb, wb, sb⟩ := row1_at ih (s := takesF ts s.2 (ByteArray.mk #[58])) (by omega)
  rw [hb, Option.map_some]
  exact ⟨_, rfl, by show wS ts.length b.2 ≤ _; omega, by show (Ex.mk _ _ _ [s.1, b.1] _).size + 3 * wS ts.length b.2 ≤ _; rw [two_size]; omega⟩
theorem ends_set (ih : IhC ts f) (hm : 32 * wS ts.length st + 4 ≤ f + 1) : EndsC ts (f + 1) .set st := by
  unfold EndsC
  rw [rd]
  show ∃ x, _ ∧ _ ∧ _ ≤ 1 + _
  split
  · exact ⟨_, rfl, Nat.le_refl _, by dsimp only; rw [ex0_size]; omega⟩
  split
  · exact leaf_ends w_le_next
  split
  · rename_i h
    have h : amongF ts st setsL = 1 := by simpa using h
    have w0 := w_lt_next (st := st) (among_pos (ts := ts) (st := st) setsL 0 (by show amongF ts st setsL ≥ 0; omega))
    have w1 := w_bracket (ts := ts) (st := st.next) (ByteArray.mk #[40])
    obtain ⟨a, ha, wa, sa⟩ := row1_at ih (s := bracketF ts st.next (ByteArray.mk #[40])) (by omega)
    rw [ha, Option.map_some]
    have w3 := w_closes (ts := ts) (st := a.2) (ByteArray.mk #[41])
    exact ⟨_, rfl, by dsimp only; omega, by dsimp only; rw [one_size]; omega⟩
  split
  · rename_i h
    have h : amongF ts st setsL = 2 := by simpa using h
    exact ih (.list _) st (among_pos (ts := ts) (st := st) setsL 0 (by show amongF ts st setsL ≥ 0; omega)) (by show _ + 3 ≤ f; omega)
  split
  · exact leaf_ends w_le_next
  · exact fail_ends 120 (by decide)
theorem rank_more {t : Int} {en : Bool} {acc : List Ex} {s : RS} : rankC (.more t en acc) s ≤ 20 := by
  show (if !en && s.e == 0 then 20 else 1) ≤ 20
  split <;> decide
theorem size_more {t : Int} {en : Bool} {acc : List Ex} {s : RS} : sizeC (.more t en acc) s ≤ 2 + Ex.sizes acc := by
  show (if !en && s.e == 0 then 2 + Ex.sizes acc else 1 + Ex.sizes acc) ≤ _
  split <;> omega
theorem ends_list (ih : IhC ts f) (t : Int) (h1 : 1 ≤ wS ts.length st) (hm : 32 * wS ts.length st + 3 ≤ f + 1) : EndsC ts (f + 1) (.list t) st := by
  unfold EndsC
  rw [rd]
  show ∃ x, _ ∧ _ ∧ _ ≤ 1 + _
  have w1 := w_lt_bracket (ByteArray.mk #[123]) h1
  obtain ⟨q, hq, wq, sq⟩ := ih (.more t (isF ts (bracketF ts st (ByteArray.mk #[123])) (ByteArray.mk #[125])) []) (bracketF ts st (ByteArray.mk #[123])) trivial (by have := rank_more (t := t) (en := isF ts (bracketF ts st (ByteArray.mk #[123])) (ByteArray.mk #[125])) (acc := []) (s := bracketF ts st (ByteArray.mk #[123])); omega)
  have := size_more (t := t) (en := isF ts (bracketF ts st (ByteArray.mk #[123])) (ByteArray.mk #[125])) (acc := []) (s := bracketF ts st (ByteArray.mk #[123]))
  have e0 : Ex.sizes [] = 0 := by simp [Ex.sizes]
  rw [e0] at this
  exact ⟨q, hq, by omega, by omega⟩
theorem ends_more (ih : IhC ts f) (t : Int) (en : Bool) (acc : List Ex) (hm : 32 * wS ts.length st + rankC (.more t en acc) st ≤ f + 1) : EndsC ts (f + 1) (.more t en acc) st := by
  unfold EndsC
  rw [rd]
  by_cases hc : (!en && st.e == 0) = true
  · have e1 : sizeC (.more t en acc) st = 2 + Ex.sizes acc := if_pos hc
    have e2 : rankC (.more t en acc) st = 20 := if_pos hc
    rw [e2] at hm
    rw [e1, if_pos hc]
    obtain ⟨p, hp, wp, sp⟩ := row1_at ih (s := st) (by omega)
    rw [hp, Option.bind_some]
    by_cases hb : isF ts p.2 (ByteArray.mk #[125]) = true
    · rw [if_pos hb, hb]
      have e3 : sizeC (.more t true (acc ++ [p.1])) p.2 = 1 + (Ex.sizes acc + p.1.size) := by rw [← sizes_app]; rfl
      obtain ⟨q, hq, wq, sq⟩ := ih (.more t true (acc ++ [p.1])) p.2 trivial (by show _ + 1 ≤ f; omega)
      exact ⟨q, hq, by omega, by omega⟩
    · have hb0 : isF ts p.2 (ByteArray.mk #[125]) = false := by simpa using hb
      rw [if_neg hb, hb0]
      by_cases hf : isF ts p.2 (ByteArray.mk #[44]) = true
      · have w2 : wS ts.length (takesF ts p.2 (ByteArray.mk #[44])) + 1 ≤ wS ts.length p.2 := by unfold takesF; rw [if_pos hf]; exact w_lt_next (isF_pos hf)
        obtain ⟨q, hq, wq, sq⟩ := ih (.more t false (acc ++ [p.1])) (takesF ts p.2 (ByteArray.mk #[44])) trivial (by have := rank_more (t := t) (en := false) (acc := acc ++ [p.1]) (s := takesF ts p.2 (ByteArray.mk #[44])); omega)
        have := size_more (t := t) (en := false) (acc := acc ++ [p.1]) (s := takesF ts p.2 (ByteArray.mk #[44]))
        rw [sizes_app] at this
        exact ⟨q, hq, by omega, by omega⟩
      · have e4 : takesF ts p.2 (ByteArray.mk #[44]) = failsF ts p.2 120 := by unfold takesF; rw [if_neg hf]
        rw [e4]
        have w2 := w_fail (ts := ts) (st := p.2) 120 (by decide)
        have e5 : ((failsF ts p.2 120).e == 0) = false := by
          unfold failsF
          split
          · rfl
          · rename_i h; simpa using h
        have e6 : (!false && (failsF ts p.2 120).e == 0) = false := by rw [e5]; rfl
        have e7 : sizeC (.more t false (acc ++ [p.1])) (failsF ts p.2 120) = 1 + (Ex.sizes acc + p.1.size) := by rw [← sizes_app]; exact if_neg (nfB e6)
        have e8 : rankC (.more t false (acc ++ [p.1])) (failsF ts p.2 120) = 1 := if_neg (nfB e6)
        obtain ⟨q, hq, wq, sq⟩ := ih (.more t false (acc ++ [p.1])) (failsF ts p.2 120) trivial (by rw [e8]; omega)
        exact ⟨q, hq, by omega, by omega⟩
  · have e1 : sizeC (.more t en acc) st = 1 + Ex.sizes acc := if_neg hc
    rw [e1, if_neg hc]
    have w3 := w_closes (ts := ts) (st := st) (ByteArray.mk #[125])
    exact ⟨_, rfl, w3, by show (Ex.mk _ _ _ acc _).size + _ ≤ _; rw [Ex.size]; dsimp only; omega⟩
end
theorem rd_ends (ts : List Tok) : ∀ f, IhC ts f
  | 0, cl, st, hok, hm => by
    exfalso
    cases cl with
    | row r => have h : 32 * wS ts.length st + 2 * (10 - r.toNat) ≤ 0 := hm; have := hok.2; omega
    | loop r k a => have h : 32 * wS ts.length st + 2 ≤ 0 := hm; omega
    | not => have h : 32 * wS ts.length st + 13 ≤ 0 := hm; omega
    | unary => have h : 32 * wS ts.length st + 5 ≤ 0 := hm; omega
    | atom => have h : 32 * wS ts.length st + 4 ≤ 0 := hm; omega
    | choice t => have h : 32 * wS ts.length st + 3 ≤ 0 := hm; omega
    | call i t => have h : 32 * wS ts.length st + 3 ≤ 0 := hm; omega
    | quant i t => have h : 32 * wS ts.length st + 3 ≤ 0 := hm; omega
    | set => have h : 32 * wS ts.length st + 4 ≤ 0 := hm; omega
    | list t => have h : 32 * wS ts.length st + 3 ≤ 0 := hm; omega
    | more t en acc => have h : 32 * wS ts.length st + (if !en && st.e == 0 then 20 else 1) ≤ 0 := hm; split at h <;> omega
  | f + 1, cl, st, hok, hm => by
    have ih := rd_ends ts f
    cases cl with
    | row r => exact ends_row ih r hok.1 hok.2 hm
    | loop r k a => exact ends_loop ih r k a hok.1 hok.2 hm
    | not => exact ends_not ih hm
    | unary => exact ends_unary ih hm
    | atom => exact ends_atom ih hm
    | choice t => exact ends_choice ih t hok hm
    | call i t => exact ends_call ih i t hok hm
    | quant i t => exact ends_quant ih i t hok hm
    | set => exact ends_set ih hm
    | list t => exact ends_list ih t hok hm
    | more t en acc => exact ends_more ih t en acc hm
theorem scanL_len (s : ByteArray) : ∀ (f i : Nat) (acc : List Tok), (scanL s f i acc).1.length ≤ acc.length + f + 1
  | 0, i, acc => by simp [scanL]
  | f + 1, i, acc => by
    rw [scanL]
    split
    · split
      · have := scanL_len s f (i + 1) acc; omega
      · split
        · simp
        · have := scanL_len s f (tokF s i).2.1 (acc ++ [(tokF s i).1])
          rw [List.length_append] at this
          simp only [List.length_cons, List.length_nil] at this
          omega
    · simp
theorem scan_len (s : ByteArray) : (scanF s).1.length ≤ 2001 := by
  unfold scanF
  split
  · simp
  · rename_i h
    have h : s.size ≤ 2000 := by simp at h; omega
    have := scanL_len s s.size 0 []
    simp at this; omega
theorem parse_ends (s : ByteArray) : ∃ f r, f < 2 ^ 30 ∧ parseF s f = some r ∧ r.1.size ≤ 10000 := by
  refine ⟨100000, ?_⟩
  unfold parseF
  split
  · exact ⟨_, by decide, rfl, by dsimp only; rw [ex0_size]; decide⟩
  · have hl := scan_len s
    generalize (scanF s).1 = ts at hl
    obtain ⟨p, hp, wp, sp⟩ := row1_at (rd_ends ts 100000) (s := ⟨0, 0, 0, 0, 0⟩) (by show 32 * (ts.length - 0) + 18 ≤ _; omega)
    have hs : wS ts.length ⟨0, 0, 0, 0, 0⟩ = ts.length := rfl
    unfold parseL
    rw [hp, Option.map_some]
    refine ⟨_, by decide, rfl, ?_⟩
    dsimp only
    generalize (if p.2.e == 0 then if (tokAt ts p.2.at_).kind != 0 then failsF ts p.2 120 else p.2 else p.2) = s2
    split
    · dsimp only; rw [ex0_size]; decide
    · dsimp only; omega
end
section
open Go
mutual
def exR : Ex → Bool
  | .mk _ n _ l _ => inB n && exRL l
def exRL : List Ex → Bool
  | [] => true
  | x :: l => exR x && exRL l
end
theorem exRL_app : ∀ {l : List Ex} {x : Ex}, exRL l = true → exR x = true → exRL (l ++ [x]) = true
  | [], x, _, h => by rw [List.nil_append, exRL, h]; rfl
  | y :: l, x, h1, h => by
    rw [exRL, Bool.and_eq_true] at h1
    rw [List.cons_append, exRL, h1.1, exRL_app h1.2 h]; rfl
def tokR (ts : List Tok) : Prop := ∀ i, inB (tokAt ts i).n = true
theorem in_w (x : Int) : inB (w64 x) = true := inB_iff.2 (w64_in x)
theorem among_le (ts : List Tok) (st : RS) : ∀ (l : List ByteArray) (i : Nat), amongL ts st i l = -1 ∨ (0 ≤ amongL ts st i l ∧ amongL ts st i l < ((i + l.length : Nat) : Int))
  | [], i => .inl rfl
  | x :: l, i => by
    rw [amongL]
    split
    · exact .inr ⟨by omega, by simp; omega⟩
    · rcases among_le ts st l (i + 1) with h | h
      · exact .inl h
      · exact .inr ⟨h.1, by have := h.2; simp at this ⊢; omega⟩
def clR : Cl → Prop
  | .loop _ _ a => exR a = true
  | .more _ _ acc => exRL acc = true
  | _ => True
theorem ex0_in : exR ex0 = true := by rw [ex0, exR, exRL]; rfl
theorem one_in {k n t : Int} {s : ByteArray} {a : Ex} (hn : inB n = true) (ha : exR a = true) : exR (.mk k n s [a] t) = true := by rw [exR, exRL, exRL, hn, ha]; rfl
theorem two_in {k n t : Int} {s : ByteArray} {a b : Ex} (hn : inB n = true) (ha : exR a = true) (hb : exR b = true) : exR (.mk k n s [a, b] t) = true := by rw [exR, exRL, exRL, exRL, hn, ha, hb]; rfl
theorem three_in {k n t : Int} {s : ByteArray} {a b c : Ex} (hn : inB n = true) (ha : exR a = true) (hb : exR b = true) (hc : exR c = true) : exR (.mk k n s [a, b, c] t) = true := by rw [exR, exRL, exRL, exRL, exRL, hn, ha, hb, hc]; rfl
theorem leaf_in {k n t : Int} {s : ByteArray} (hn : inB n = true) : exR (.mk k n s [] t) = true := by rw [exR, exRL, hn]; rfl
theorem z_in : inB 0 = true := by decide
theorem some_in {e : Ex} {s : RS} {r : Ex × RS} (h : some (e, s) = some r) (he : exR e = true) : exR r.1 = true := by cases h; exact he
theorem ite_in {c : Prop} [Decidable c] {x y : Option (Ex × RS)} {r : Ex × RS} (h : (if c then x else y) = some r) (h1 : x = some r → exR r.1 = true) (h2 : y = some r → exR r.1 = true) : exR r.1 = true := by
  split at h
  · exact h1 h
  · exact h2 h
theorem rd_in {ts : List Tok} (ht : tokR ts) : ∀ (f : Nat) (cl : Cl) (st : RS) (r : Ex × RS), rd ts f cl st = some r → clR cl → exR r.1 = true := by
  intro f
  induction f with
  | zero => intro cl st r h _; cases cl <;> simp [rd] at h
  | succ f ih =>
    intro cl st r h hc
    have bnd : ∀ {x : Option (Ex × RS)} {g : Ex × RS → Option (Ex × RS)}, x.bind g = some r → ∃ p, x = some p ∧ g p = some r := fun h => bind_some' h
    have mp : ∀ {x : Option (Ex × RS)} {g : Ex × RS → Ex × RS}, x.map g = some r → ∃ p, x = some p ∧ g p = r := fun h => map_some' h
    cases cl with
    | row k =>
      rw [rd] at h
      refine ite_in h (fun h => some_in h ex0_in) fun h => ite_in h (fun h => ih _ _ _ h trivial) fun h => ite_in h (fun h => ih _ _ _ h trivial) fun h => ?_
      obtain ⟨p, h1, h2⟩ := bnd h
      exact ih (.loop _ _ _) _ _ h2 (ih _ _ _ h1 trivial)
    | loop k j a =>
      rw [rd] at h
      refine ite_in h (fun h => ?_) fun h => some_in h hc
      obtain ⟨p, h1, h2⟩ := bnd h
      have hp := ih _ _ _ h1 trivial
      exact ite_in h2 (fun h => some_in h (two_in z_in hc hp)) fun h => ih (.loop _ _ _) _ _ h (two_in z_in hc hp)
    | not =>
      rw [rd] at h
      refine ite_in h (fun h => ih _ _ _ h trivial) fun h => ?_
      obtain ⟨p, h1, rfl⟩ := mp h
      exact one_in z_in (ih _ _ _ h1 trivial)
    | unary =>
      rw [rd] at h
      refine ite_in h (fun h => ih _ _ _ h trivial) fun h => ?_
      obtain ⟨p, h1, rfl⟩ := mp h
      exact one_in z_in (ih _ _ _ h1 trivial)
    | atom =>
      rw [rd] at h
      refine ite_in h (fun h => some_in h ex0_in) fun h => ite_in h (fun h => some_in h (leaf_in (ht _))) fun h => ite_in h (fun h => some_in h (leaf_in z_in)) fun h => ite_in h (fun h => some_in h (leaf_in ?_)) fun h =>
        ite_in h (fun h => ite_in h (fun h => some_in h ex0_in) fun h => some_in h (leaf_in (ht _))) fun h => ite_in h (fun h => ?_) fun h => ite_in h (fun h => ih _ _ _ h trivial) fun h => ite_in h (fun h => ih _ _ _ h trivial) fun h => ite_in h (fun h => ih _ _ _ h trivial) fun h => some_in h ex0_in
      · rcases among_le ts st truthL 0 with e | e
        · rw [amongF, e]; decide
        · have h2 : truthL.length = 2 := rfl
          rw [h2] at e
          rw [inB_iff]; unfold amongF; exact ⟨by omega, by omega⟩
      · obtain ⟨p, h1, rfl⟩ := mp h
        exact ih _ _ p h1 trivial
    | choice t =>
      rw [rd] at h
      obtain ⟨a, h1, h⟩ := bnd h
      obtain ⟨b, h2, h⟩ := bnd h
      obtain ⟨c, h3, rfl⟩ := mp h
      exact three_in z_in (ih _ _ _ h1 trivial) (ih _ _ _ h2 trivial) (ih _ _ _ h3 trivial)
    | call i t =>
      rw [rd] at h
      obtain ⟨a, h1, h⟩ := bnd h
      refine ite_in h (fun h => ?_) fun h => some_in h (one_in (in_w _) (ih _ _ _ h1 trivial))
      obtain ⟨b, h2, rfl⟩ := mp h
      exact two_in (in_w _) (ih _ _ _ h1 trivial) (ih _ _ _ h2 trivial)
    | quant i t =>
      rw [rd] at h
      refine ite_in h (fun h => some_in h ex0_in) fun h => ite_in h (fun h => some_in h ex0_in) fun h => ite_in h (fun h => some_in h ex0_in) fun h => ?_
      obtain ⟨a, h1, h⟩ := bnd h
      obtain ⟨b, h2, rfl⟩ := mp h
      exact two_in (in_w _) (ih _ _ _ h1 trivial) (ih _ _ _ h2 trivial)
    | set =>
      rw [rd] at h
      refine ite_in h (fun h => some_in h ex0_in) fun h => ite_in h (fun h => some_in h (leaf_in z_in)) fun h => ite_in h (fun h => ?_) fun h => ite_in h (fun h => ih _ _ _ h trivial) fun h => ite_in h (fun h => some_in h (leaf_in z_in)) fun h => some_in h ex0_in
      obtain ⟨p, h1, rfl⟩ := mp h
      exact one_in z_in (ih _ _ _ h1 trivial)
    | list t =>
      rw [rd] at h
      exact ih (.more _ _ _) _ _ h (show exRL [] = true by rw [exRL])
    | more t en acc =>
      rw [rd] at h
      have hc : exRL acc = true := hc
      refine ite_in h (fun h => ?_) fun h => some_in h (by rw [exR, hc]; rfl)
      obtain ⟨p, h1, h2⟩ := bnd h
      exact ih (.more _ _ _) _ _ h2 (exRL_app hc (ih _ _ _ h1 trivial))
theorem numW_in (s : ByteArray) : ∀ (f : Nat) (n : Int) (i : Nat) (v : Int), inB n = true → numW s f n i = some v → inB v = true
  | 0, n, i, v, hn, h => by rw [numW] at h; cases h; exact hn
  | f + 1, n, i, v, hn, h => by
    rw [numW] at h
    split at h
    · cases h
    · exact numW_in s f _ _ v (in_w _) h
theorem numF_in {s : ByteArray} {v : Int} (h : numF s = some v) : inB v = true := by
  unfold numF at h
  split at h
  · cases h
  · split at h
    · cases h
    · exact numW_in s _ _ _ v z_in h
theorem tokF_in (s : ByteArray) (i : Nat) : inB (tokF s i).1.n = true := by
  unfold tokF
  split
  · split
    · exact z_in
    · rename_i n hn; exact numF_in hn
  · split
    · split
      · exact z_in
      · split <;> exact z_in
    · split <;> exact z_in
theorem scanL_in (s : ByteArray) : ∀ (f i : Nat) (acc : List Tok), (∀ t ∈ acc, inB t.n = true) → ∀ t ∈ (scanL s f i acc).1, inB t.n = true
  | 0, i, acc, h => fun t ht => by
    rw [scanL] at ht
    rcases List.mem_append.1 ht with ht | ht
    · exact h t ht
    · cases List.mem_singleton.1 ht; exact z_in
  | f + 1, i, acc, h => fun t ht => by
    rw [scanL] at ht
    split at ht
    · split at ht
      · exact scanL_in s f _ acc h t ht
      · split at ht
        · cases ht
        · refine scanL_in s f _ _ (fun u hu => ?_) t ht
          rcases List.mem_append.1 hu with hu | hu
          · exact h u hu
          · cases List.mem_singleton.1 hu; exact tokF_in s i
    · rcases List.mem_append.1 ht with ht | ht
      · exact h t ht
      · cases List.mem_singleton.1 ht; exact z_in
theorem scan_in (s : ByteArray) : tokR (scanF s).1 := fun i => by
  unfold tokAt
  rw [List.getD_eq_getElem?_getD]
  cases h : (scanF s).1[i]? with
  | none => exact z_in
  | some t =>
    have hm := List.mem_of_getElem? h
    unfold scanF at hm
    split at hm
    · cases hm
    · exact scanL_in s _ _ _ (fun t ht => by cases ht) t hm
theorem parse_in {s : ByteArray} {f : Nat} {r : Ex × Int × Int} (h : parseF s f = some r) : exR r.1 = true := by
  unfold parseF at h
  split at h
  · cases h; exact ex0_in
  · unfold parseL at h
    obtain ⟨p, h1, h2⟩ := map_some' h
    have hp := rd_in (scan_in s) _ _ _ _ h1 trivial
    dsimp only at h2
    have key : ∀ {c : Prop} [Decidable c] {x y : Ex × Int × Int}, exR x.1 = true → exR y.1 = true → exR (if c then x else y).1 = true := fun hx hy => by split <;> assumption
    rw [← h2]
    exact key ex0_in hp
theorem lastIn_in (a : ByteArray) : ∀ (i : Nat) (n : Int) (l : List ByteArray), inB n = true → i + l.length ≤ 2 ^ 60 → inB (lastIn a i n l) = true
  | _, n, [], h, _ => h
  | i, n, x :: l, h, hl => by
    rw [lastIn]
    simp only [List.length_cons] at hl
    refine lastIn_in a (i + 1) _ l ?_ (by omega)
    split
    · rw [inB_iff]; exact ⟨by omega, by omega⟩
    · exact h
mutual
theorem nodeF_in : ∀ (e : Ex) (bd : List ByteArray), exR e = true → bd.length + e.size ≤ 2 ^ 60 → inR (nodeF e bd) = true
  | .mk k n s l t, bd, h, hs => by
    rw [exR, Bool.and_eq_true] at h
    simp only [Ex.size] at hs
    rw [nodeF]
    split
    · rw [inR, inRL, lastIn_in s 0 n bd h.1 (by omega)]; rfl
    · rw [inR, h.1, nodesF_in k s 0 l bd h.2 (by omega)]; rfl
theorem nodesF_in (k : Int) (s : ByteArray) : ∀ (i : Nat) (l : List Ex) (bd : List ByteArray), exRL l = true → bd.length + Ex.sizes l + 1 ≤ 2 ^ 60 → inRL (nodesF k s i l bd) = true
  | _, [], _, _, _ => by rw [nodesF, inRL]
  | i, x :: l, bd, h, hs => by
    rw [exRL, Bool.and_eq_true] at h
    simp only [Ex.sizes] at hs
    rw [nodesF, inRL, nodesF_in k s (i + 1) l bd h.2 (by omega), nodeF_in x _ h.1 ?_]
    · rfl
    · split
      · simp; omega
      · omega
end
theorem of_in {e : Ex} (h : exR e = true) (hs : e.size ≤ 10000) : inR (ofF e).1.root = true := by
  unfold ofF
  split
  · rw [inR, inRL]; decide
  · exact nodeF_in e [] h (by simp; omega)
end
end Go.Vx
namespace Go.Vx.Tryz
open Go Go.Vx Go.Proofs
section
theorem foldTexts (s : ByteArray) {w : World} : CallsX E.P 7 #[.string s] w (IsV (.bool true) w) never := by
  obtain ⟨f, r, hf, hr, hz⟩ := parse_ends s
  have hin := of_in (parse_in hr) hz
  refine vc7 ?_
  refine ⟨_, _, parse_c s f hf r hr, ?_, never_any⟩
  rintro v w2 ⟨A, l, c, rfl, hx, hE2⟩
  refine ⟨_, _, _, _, _, _, _, _, _, rfl, no, hE2, Away.no _, fun id hid w3 hE3 hi3 => ?_⟩
  have hE3' : Ext w2 w3 := hE3
  have t3 := hE3'.size
  refine ⟨_, _, of_c r.1 (hx.ext hE3') (fun x hx => by have := hx.2; omega) (by omega), ?_, never_any⟩
  rintro v w4 ⟨A4, l4, c4, rfl, hN4, hcells, hE4⟩
  have hE04 : Ext w w4 := (hE2.trans hE3').trans hE4
  refine ⟨_, _, _, _, _, _, _, _, _, _, rfl, no, hE4, Away.no _, fun id1 hid1 => ⟨fun _ w5 hE5 hi5 => callB (foldAwake_c w5) fun w6 hE6 => ⟨rfl, (Ext.trans hE04 hE5).trans hE6⟩, fun _ => ⟨fun _ w5 hE5 hi5 => callB (foldAwake_c w5) fun w6 hE6 => ⟨rfl, (Ext.trans hE04 hE5).trans hE6⟩, fun _ w5 hE5 hi5 => ?_⟩⟩⟩
  have hE5' : Ext w4 w5 := hE5
  have t5 := hE5'.size
  have hI : IntsR w5 no (ofF r.1).1.cells none 0 0 := by rw [hcells]; exact ints_nil
  exact callB (foldPlans (ofF r.1).1 hin (hN4.ext hE5') hI (fun x hx => by rcases hx with hx | hx; have := hx.2; omega; exact hx.elim)) fun w6 hE6 => ⟨rfl, (hE04.trans hE5').trans hE6⟩
end
end Go.Vx.Tryz
