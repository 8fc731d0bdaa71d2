/- Texts of the walk, gathered. -/
import Derived.Test.YtingeadhfbcacaaGreatMa3
import Derived.Test.YtingeadhfbcacaaGreatMa1
import Derived.Test.YtingeadhfbcacaaGreatMa2
import Derived.Shelf.Strings.Runes
set_option linter.unusedSimpArgs false
set_option linter.unusedVariables false
namespace Go.Vx.Tryz
open Go Go.Vx Go.Proofs
section
variable {b : Nat}
theorem wfL_at {k : Int} : ∀ {l : List Ex} {i : Nat}, wfL k i l = true → ∀ j (hj : j < l.length), wfE l[j] (k == 21 && ((i + j : Nat) : Int) == 0) = true
  | [], _, _, _, hj => by simp at hj
  | x :: l, i, h, j, hj => by
    rw [wfL, Bool.and_eq_true] at h
    cases j with
    | zero => exact h.1
    | succ j =>
      have := wfL_at h.2 j (by simp at hj; omega)
      rw [show i + 1 + j = i + (j + 1) by omega] at this
      exact this
theorem wf_parts {e : Ex} {set : Bool} (h : wfE e set = true) : isSetF e.k = set ∧ ¬ (kidsN e.k e.n < -1) ∧ (kidsN e.k e.n ≥ 0 → (e.kids.length : Int) = kidsN e.k e.n) ∧ ∀ j, j < e.kids.length → wfE (e.kid j) (e.k == 21 && (j : Int) == 0) = true := by
  obtain ⟨k, n, s, l, t⟩ := e
  rw [wfE] at h
  simp only [Bool.and_eq_true, Bool.not_eq_true', decide_eq_false_iff_not, Bool.or_eq_true, beq_iff_eq] at h
  obtain ⟨⟨⟨⟨_, h2⟩, h3⟩, h4⟩, h5⟩ := h
  refine ⟨h4, h2, fun hk => ?_, fun j hj => ?_⟩
  · rcases h3 with h3 | h3
    · exact absurd hk (by have h3 : ¬ (kidsN k n ≥ 0) := by simpa using h3
                          exact h3)
    · exact h3
  · rw [kid_eq hj]
    have := wfL_at h5 j hj
    rw [Nat.zero_add] at this
    exact this
theorem kind_step {kf : CS → Ex → Int × CS} {e : Ex} (hb : BKc kf) (hk : ∀ i, i < e.kids.length → (e.k == 21 && (i : Int) == 0) = false → KCk b kf (e.kid i)) (hkk : e.k = 21 → ∀ i, i < (e.kid 0).kids.length → KCk b kf ((e.kid 0).kid i)) (hwf : wfE e false = true)
    {w : World} {A : Option Addr} {c : Nat} {B : Option Addr} {l cc : Nat} {st : CS} (hw : CkW w b A c st) (hr : ExsR w (NB b) e.kids B l cc) (hs : st.bound.length + e.size ≤ 2 ^ 30) :
    CallsX E.P 61 #[.pointer (some ⟨b, 0, none⟩), exA e B l cc] w (CkI b w (bodyC kf st e)) never := by
  obtain ⟨hset, hkn, hkl, _⟩ := wf_parts hwf
  refine vc61 hw.hh ?_
  intro id hid
  have hlt := hw.blt
  have aw : Away [id] (OB b) := away_ob hlt (by simp; omega)
  have cnt : ∀ {k m : Int}, (e.k == k) = true → kidsN k e.n = m → 0 ≤ m → (e.kids.length : Int) = m := fun h h2 h3 => by
    rw [eq_of_beq h, h2] at hkl
    exact hkl h3
  have kk : ∀ {k : Int}, (e.k == k) = true → k ≠ 21 → ∀ i, i < e.kids.length → KCk b kf (e.kid i) := fun h hne i hi => hk i hi (by
    have h1 : (e.k == 21) = false := by rw [eq_of_beq h]; simpa using hne
    rw [h1]; rfl)
  have keep : ∀ {wa wb : World} {kk : List Ex} {D : Option Addr} {m d : Nat}, ExsR wa (NB b) kk D m d → Upd wa wb (OB b) → ExsR wb (NB b) kk D m d := fun q k => q.upd' k fun x hx _ hS => by have hx : x < b := hx; have hS : x = b := hS; omega
  have sz : ∀ {s : CS} {i : Nat}, s.bound = st.bound → i < e.kids.length → s.bound.length + (e.kid i).size ≤ 2 ^ 30 := fun h hi => by have := kid_sz hi; rw [h]; omega
  unfold bodyC
  refine ⟨fun c1 w1 hE1 hi1 hh1 => ?_, fun c1 => ?_⟩
  · rw [if_pos c1]
    exact ⟨rfl, A, c, hw.ext hE1, ext_ob hE1⟩
  rw [if_neg (nfc c1)]
  refine ⟨fun c2 w1 hE1 hi1 hh1 => ?_, fun c2 => ?_⟩
  · rw [if_pos c2]
    exact ⟨rfl, A, c, hw.ext hE1, ext_ob hE1⟩
  rw [if_neg (nfc c2)]
  refine ⟨fun c3 w1 hE1 hi1 hh1 => ?_, fun c3 => ?_⟩
  · rw [if_pos c3]
    exact ⟨rfl, A, c, hw.ext hE1, ext_ob hE1⟩
  rw [if_neg (nfc c3)]
  refine ⟨fun c4 w1 hE1 hi1 hh1 => ?_, fun c4 => ?_⟩
  · rw [if_pos c4]
    exact callCI (nameC_c e (hw.ext hE1)) aw fun A2 c2 w2 hw2 hU2 hh2 => ⟨rfl, A2, c2, hw2, (ext_ob hE1).tb hU2⟩
  rw [if_neg (nfc c4)]
  refine ⟨fun c6 => ?_, fun c6 => ?_⟩
  · rw [if_pos c6]
    have hl := cnt c6 (m := 1) rfl (by decide)
    refine hr.idx (j := 0) (by omega) fun ad ha w1 hE1 hi1 => kid_cell (hr.ext hE1) (j := 0) (by omega) ha fun A1 l1 c1 q1 hh1 => ?_
    exact callCU (cmust_c (kk c6 (by decide) 0 (by omega)) 1 (hw.ext hE1) q1 (sz rfl (by omega))) aw fun A2 c2 w2 hw2 hU2 hh2 => ⟨rfl, A2, c2, hw2, (ext_ob hE1).tb hU2⟩
  rw [if_neg (nfc c6)]
  refine ⟨fun c7 => ?_, fun c7 => ?_⟩
  · rw [if_pos c7]
    have hl := cnt c7 (m := 1) rfl (by decide)
    refine hr.idx (j := 0) (by omega) fun ad ha w1 hE1 hi1 => kid_cell (hr.ext hE1) (j := 0) (by omega) ha fun A1 l1 c1 q1 hh1 => ?_
    exact callCU (cmust_c (kk c7 (by decide) 0 (by omega)) 2 (hw.ext hE1) q1 (sz rfl (by omega))) aw fun A2 c2 w2 hw2 hU2 hh2 => ⟨rfl, A2, c2, hw2, (ext_ob hE1).tb hU2⟩
  rw [if_neg (nfc c7)]
  refine ⟨fun c8 w1 hE1 hi1 hh1 => ?_, fun c8 => ?_⟩
  · rw [if_pos (by rw [c8]; rfl)]
    have hl := cnt c8 (m := 2) rfl (by decide)
    exact callCI (bin_c hb (by omega) (kk c8 (by decide)) 1 1 (hw.ext hE1) (hr.ext hE1) hs) aw fun A2 c2 w2 hw2 hU2 hh2 => ⟨rfl, A2, c2, hw2, (ext_ob hE1).tb hU2⟩
  refine ⟨fun c9 w1 hE1 hi1 hh1 => ?_, fun c9 => ?_⟩
  · rw [if_pos (by rw [c8, c9]; rfl)]
    have hl := cnt c9 (m := 2) rfl (by decide)
    exact callCI (bin_c hb (by omega) (kk c9 (by decide)) 1 1 (hw.ext hE1) (hr.ext hE1) hs) aw fun A2 c2 w2 hw2 hU2 hh2 => ⟨rfl, A2, c2, hw2, (ext_ob hE1).tb hU2⟩
  refine ⟨fun c10 w1 hE1 hi1 hh1 => ?_, fun c10 => ?_⟩
  · rw [if_pos (by rw [c8, c9, c10]; rfl)]
    have hl := cnt c10 (m := 2) rfl (by decide)
    exact callCI (bin_c hb (by omega) (kk c10 (by decide)) 1 1 (hw.ext hE1) (hr.ext hE1) hs) aw fun A2 c2 w2 hw2 hU2 hh2 => ⟨rfl, A2, c2, hw2, (ext_ob hE1).tb hU2⟩
  refine ⟨fun c11 w1 hE1 hi1 hh1 => ?_, fun c11 => ?_⟩
  · rw [if_pos (by rw [c8, c9, c10, c11]; rfl)]
    have hl := cnt c11 (m := 2) rfl (by decide)
    exact callCI (bin_c hb (by omega) (kk c11 (by decide)) 1 1 (hw.ext hE1) (hr.ext hE1) hs) aw fun A2 c2 w2 hw2 hU2 hh2 => ⟨rfl, A2, c2, hw2, (ext_ob hE1).tb hU2⟩
  refine ⟨fun c12 w1 hE1 hi1 hh1 => ?_, fun c12 => ?_⟩
  · rw [if_pos (by rw [c8, c9, c10, c11, c12]; rfl)]
    have hl := cnt c12 (m := 2) rfl (by decide)
    exact callCI (bin_c hb (by omega) (kk c12 (by decide)) 1 1 (hw.ext hE1) (hr.ext hE1) hs) aw fun A2 c2 w2 hw2 hU2 hh2 => ⟨rfl, A2, c2, hw2, (ext_ob hE1).tb hU2⟩
  rw [iff0 (show (e.k == 8 || e.k == 9 || e.k == 10 || e.k == 11 || e.k == 12) = false by rw [c8, c9, c10, c11, c12]; rfl)]
  refine ⟨fun c15 w1 hE1 hi1 hh1 => ?_, fun c15 => ?_⟩
  · rw [if_pos (by rw [c15]; rfl)]
    have hl := cnt c15 (m := 2) rfl (by decide)
    exact callCI (bin_c hb (by omega) (kk c15 (by decide)) 1 2 (hw.ext hE1) (hr.ext hE1) hs) aw fun A2 c2 w2 hw2 hU2 hh2 => ⟨rfl, A2, c2, hw2, (ext_ob hE1).tb hU2⟩
  refine ⟨fun c16 w1 hE1 hi1 hh1 => ?_, fun c16 => ?_⟩
  · rw [if_pos (by rw [c15, c16]; rfl)]
    have hl := cnt c16 (m := 2) rfl (by decide)
    exact callCI (bin_c hb (by omega) (kk c16 (by decide)) 1 2 (hw.ext hE1) (hr.ext hE1) hs) aw fun A2 c2 w2 hw2 hU2 hh2 => ⟨rfl, A2, c2, hw2, (ext_ob hE1).tb hU2⟩
  rw [iff0 (show (e.k == 15 || e.k == 16) = false by rw [c15, c16]; rfl)]
  refine ⟨fun c17 w1 hE1 hi1 hh1 => ?_, fun c17 => ?_⟩
  · rw [if_pos (by rw [c17]; rfl)]
    have hl := cnt c17 (m := 2) rfl (by decide)
    exact callCI (bin_c hb (by omega) (kk c17 (by decide)) 2 2 (hw.ext hE1) (hr.ext hE1) hs) aw fun A2 c2 w2 hw2 hU2 hh2 => ⟨rfl, A2, c2, hw2, (ext_ob hE1).tb hU2⟩
  refine ⟨fun c18 w1 hE1 hi1 hh1 => ?_, fun c18 => ?_⟩
  · rw [if_pos (by rw [c17, c18]; rfl)]
    have hl := cnt c18 (m := 2) rfl (by decide)
    exact callCI (bin_c hb (by omega) (kk c18 (by decide)) 2 2 (hw.ext hE1) (hr.ext hE1) hs) aw fun A2 c2 w2 hw2 hU2 hh2 => ⟨rfl, A2, c2, hw2, (ext_ob hE1).tb hU2⟩
  rw [iff0 (show (e.k == 17 || e.k == 18) = false by rw [c17, c18]; rfl)]
  refine ⟨fun c13 => ?_, fun c13 => ?_⟩
  · rw [if_pos (by rw [c13]; rfl)]
    have hl := cnt c13 (m := 2) rfl (by decide)
    refine hr.idx (j := 0) (by omega) fun ad ha w1 hE1 hi1 => kid_cell (hr.ext hE1) (j := 0) (by omega) ha fun A1 l1 c1 q1 hh1 => ?_
    refine callCI (kk c13 (by decide) 0 (by omega) (hw.ext hE1) q1 (sz rfl (by omega))) aw fun A2 c2 w2 hw2 hU2 => ?_
    have hr2 := keep hr ((ext_ob hE1).tb hU2)
    refine hr2.idx (j := 1) (by omega) fun ad1 ha1 => kid_cell hr2 (j := 1) (by omega) ha1 fun A3 l3 c3 q3 hh2 => ?_
    exact callCU (cmust_c (kk c13 (by decide) 1 (by omega)) _ hw2 q3 (sz (hb _ _) (by omega))) aw fun A4 c4 w4 hw4 hU4 hh4 => ⟨rfl, A4, c4, hw4, ((ext_ob hE1).tb hU2).tb hU4⟩
  refine ⟨fun c14 => ?_, fun c14 => ?_⟩
  · rw [if_pos (by rw [c13, c14]; rfl)]
    have hl := cnt c14 (m := 2) rfl (by decide)
    refine hr.idx (j := 0) (by omega) fun ad ha w1 hE1 hi1 => kid_cell (hr.ext hE1) (j := 0) (by omega) ha fun A1 l1 c1 q1 hh1 => ?_
    refine callCI (kk c14 (by decide) 0 (by omega) (hw.ext hE1) q1 (sz rfl (by omega))) aw fun A2 c2 w2 hw2 hU2 => ?_
    have hr2 := keep hr ((ext_ob hE1).tb hU2)
    refine hr2.idx (j := 1) (by omega) fun ad1 ha1 => kid_cell hr2 (j := 1) (by omega) ha1 fun A3 l3 c3 q3 hh2 => ?_
    exact callCU (cmust_c (kk c14 (by decide) 1 (by omega)) _ hw2 q3 (sz (hb _ _) (by omega))) aw fun A4 c4 w4 hw4 hU4 hh4 => ⟨rfl, A4, c4, hw4, ((ext_ob hE1).tb hU2).tb hU4⟩
  rw [iff0 (show (e.k == 13 || e.k == 14) = false by rw [c13, c14]; rfl)]
  refine ⟨fun c19 => ?_, fun c19 => ?_⟩
  · rw [if_pos c19]
    have hl := cnt c19 (m := 3) rfl (by decide)
    unfold ifC
    dsimp only
    refine hr.idx (j := 0) (by omega) fun ad ha w1 hE1 hi1 => kid_cell (hr.ext hE1) (j := 0) (by omega) ha fun A1 l1 c1 q1 hh1 => ?_
    refine callCU (cmust_c (kk c19 (by decide) 0 (by omega)) 2 (hw.ext hE1) q1 (sz rfl (by omega))) aw fun A2 c2 w2 hw2 hU2 => ⟨fun d1 hh2 => ?_, fun d1 => ?_⟩
    · rw [if_pos d1]
      exact ⟨rfl, A2, c2, hw2, (ext_ob hE1).tb hU2⟩
    rw [if_neg (nfc d1)]
    have hr2 := keep hr ((ext_ob hE1).tb hU2)
    have b2 := mustC_b hb st (e.kid 0) 2
    refine hr2.idx (j := 1) (by omega) fun ad1 ha1 => kid_cell hr2 (j := 1) (by omega) ha1 fun A3 l3 c3 q3 hh2 => ?_
    refine callCI (kk c19 (by decide) 1 (by omega) hw2 q3 (sz b2 (by omega))) aw fun A4 c4 w4 hw4 hU4 => ?_
    have hr4 := keep hr2 hU4
    refine hr4.idx (j := 2) (by omega) fun ad2 ha2 => kid_cell hr4 (j := 2) (by omega) ha2 fun A5 l5 c5 q5 hh4 => ?_
    exact callCU (cmust_c (kk c19 (by decide) 2 (by omega)) _ hw4 q5 (sz ((hb _ _).trans b2) (by omega))) aw fun A6 c6 w6 hw6 hU6 hh6 => ⟨rfl, A6, c6, hw6, (((ext_ob hE1).tb hU2).tb hU4).tb hU6⟩
  rw [if_neg (nfc c19)]
  refine ⟨fun c20 w1 hE1 hi1 => ?_, fun c20 w1 hE1 hi1 hh1 => ?_⟩
  · rw [if_pos c20]
    have hE1' : Ext w w1 := hE1
    have hr1 := hr.ext hE1'
    obtain rfl := hr.len
    have hsm := hr.lt
    refine ⟨fun x a2 n1 c1 x5 x6 w2 => ∃ (j : Nat) (s : CS), x = j ∧ j ≤ e.kids.length ∧ allC kf 3 s (e.kids.drop j) = allC kf 3 st e.kids ∧ s.bound = st.bound ∧ (n1 = s.bound.length ∧ x5 = s.e ∧ x6 = s.at_) ∧ CkW w2 b a2 c1 s ∧ Upd w1 w2 (OB b), fun x _ _ _ _ _ => ((e.kids.length : Int) - x).toNat,
      ⟨0, st, rfl, Nat.zero_le _, rfl, rfl, ⟨rfl, rfl, rfl⟩, hw.ext hE1', Upd.refl _ _⟩, ?_⟩
    rintro _ x A2 n1 c2 x5 x6 w2 ⟨j, s, rfl, hj, hg, hbs, ⟨rfl, rfl, rfl⟩, hw2, hU2⟩
    refine ⟨fun hx => ?_, fun hx => ?_⟩
    · have hjl : j < e.kids.length := by simpa using hx
      rw [drop_cons hjl, allC] at hg
      have q2 := keep hr1 hU2
      refine q2.idx hjl fun ad1 ha1 => kid_cell q2 hjl ha1 fun A3 l3 c3 q3 hh2 => ?_
      refine callCU (cmust_c (kk c20 (by decide) j hjl) 3 hw2 q3 (sz hbs hjl)) aw fun A4 c4 w4 hw4 hU4 => ?_
      refine ⟨⟨j + 1, _, w64_succ (by omega), hjl, by rw [kid_eq hjl]; exact hg, by rw [mustC_b hb, hbs], ⟨rfl, rfl, rfl⟩, hw4, hU2.tb hU4⟩, ?_⟩
      dsimp only
      rw [w64_succ (by omega)]; exact mea_succ hjl
    · have hjl : ¬ j < e.kids.length := by simpa using hx
      rw [List.drop_eq_nil_of_le (by omega), allC] at hg
      rw [← hg]
      exact callI (gives_c _) fun w3 hE3 hh3 => ⟨rfl, A2, c2, hw2.ext hE3, ((ext_ob hE1').tb hU2).tb (ext_ob hE3)⟩
  rw [if_neg (nfc c20)]
  have c21 : e.k = 21 := by
    refine Classical.byContradiction fun hne => hkn ?_
    have h21 : (e.k == 21) = false := by simpa using hne
    have hq : ∀ k : Int, 22 ≤ k → k ≤ 25 → (e.k == k) = false := fun k h1 h2 => by
      cases h : e.k == k with
      | false => rfl
      | true =>
        rw [eq_of_beq h] at hset
        simp only [isSetF, Bool.and_eq_false_iff, decide_eq_false_iff_not] at hset
        omega
    unfold kidsN
    rw [c1, c2, c3, c4, hq 22 (by decide) (by decide), hq 23 (by decide) (by decide), c6, c7, hq 24 (by decide) (by decide), c8, c9, c10, c11, c12, c13, c14, c15, c16, c17, c18, h21, c19, hq 25 (by decide) (by decide), c20]
    exact (by decide : (-2 : Int) < -1)
  have hl := cnt (k := 21) (m := 2) (by rw [c21]; rfl) rfl (by decide)
  refine callCI (quantC_c hb (by omega) (hkk c21) (hk 1 (by omega) (by rw [c21]; rfl)) (hw.ext hE1) (hr.ext hE1) hs) aw fun A2 c2 w2 hw2 hU2 hh2 => ⟨rfl, A2, c2, hw2, (ext_ob hE1).tb hU2⟩
theorem kind_c' : ∀ (f : Nat) (e : Ex), e.size ≤ f → wfE e false = true → KCk b (kindC f) e := by
  intro f
  induction f with
  | zero => intro e hn; cases e with | mk k v s l t => simp only [Ex.size] at hn; omega
  | succ f ih =>
    intro e hn hwf w A c B l cc st hw hr hs
    obtain ⟨_, _, _, hkid⟩ := wf_parts hwf
    rw [kindC]
    refine kind_step (kind_b f) (fun i hi h0 => ih _ ?_ ?_) (fun h21 i hi => ?_) hwf hw hr hs
    · have := kid_sz hi; omega
    · have := hkid i hi; rw [h0] at this; exact this
    · have h0 : 0 < e.kids.length := by
        rcases Nat.eq_zero_or_pos e.kids.length with h | h
        · have hk : e.kid 0 = ex0 := by rw [Ex.kid, List.eq_nil_of_length_eq_zero h]; rfl
          rw [hk] at hi
          exact absurd hi (Nat.not_lt_zero _)
        · exact h
      have hq := hkid 0 h0
      rw [h21] at hq
      have hq : wfE (e.kid 0) true = true := hq
      obtain ⟨p1, _, _, p4⟩ := wf_parts hq
      have hp := p4 i hi
      have hne : ((e.kid 0).k == 21) = false := by
        cases h : (e.kid 0).k == 21 with
        | false => rfl
        | true => rw [eq_of_beq h] at p1; exact absurd p1 (by decide)
      rw [hne] at hp
      have hsz : ((e.kid 0).kid i).size ≤ f := by
        have := kid_sz h0
        have := kid_sz hi
        omega
      exact @ih _ hsz hp
theorem check_c (e : Ex) {w : World} {F : Nat → Prop} {B : Option Addr} {l cc : Nat} (hr : ExsR w F e.kids B l cc) (hF : ∀ x, F x → x < w.heap.size) (hs : e.size ≤ 2 ^ 30) :
    CallsX E.P 40 #[exA e B l cc] w (IsV (.tuple #[.int .i64 (checkF e).1, .int .i64 (checkF e).2.1, .int .i64 (checkF e).2.2]) w) never := by
  refine vc40 ?_
  intro id hid w1 hE1 hi1
  have hE1' : Ext w w1 := hE1
  have t1 := hE1'.size
  refine callB (rightE_c e (hr.ext hE1') fun x hx => by have := hF x hx; omega) fun w2 hE2 => ⟨fun h1 => ?_, fun h1 id2 hid2 w3 hE3 hi3 hh3 => ?_⟩
  · unfold checkF
    rw [if_pos h1]
    exact ⟨rfl, hE1'.trans hE2⟩
  · have hright : rightE e = true := by simpa using h1
    have hE3' : Ext w2 w3 := hE3
    have t2 := hE2.size
    have t3 := hE3'.size
    have hE03 : Ext w w3 := (hE1'.trans hE2).trans hE3'
    have hw3 : CkW w3 id2 none 0 ⟨[], 0, 0⟩ := ⟨hh3, ⟨rfl, Nat.le_refl _, by decide, by simp, fun h => absurd rfl h⟩⟩
    have hr3 : ExsR w3 (NB id2) e.kids B l cc := (hr.ext hE03).mono fun x hx => by have := hF x hx; show x < id2; omega
    refine callCI (kind_c' e.size e (Nat.le_refl _) (right_wf hright) hw3 hr3 (by simpa using hs)) (away_of fun i hi hS => by simp only [List.mem_cons, List.not_mem_nil, or_false] at hi; have hS : i = id2 := hS; omega) fun A2 c2 w4 hw4 hU4 => ?_
    have hE4 : Ext w w4 := Upd.step hE03 hU4 fun x hx => by have hx : x = id2 := hx; omega
    unfold checkF
    rw [if_neg (nfc h1)]
    dsimp only
    refine ⟨fun h2 w5 hE5 => ?_, fun h2 => ?_⟩
    · rw [if_pos h2]
      exact ⟨rfl, hE4.trans hE5⟩
    · rw [if_neg (nfc h2)]
      exact ⟨rfl, hE4⟩
end
section
open Go Go.Vx Go.Proofs
def NwR (w : World) (n : Nd) : Value → World → Prop := fun v w' => ∃ A l c, v = ndA n A l c ∧ NdsR w' (Rng w.heap.size w'.heap.size) n.kids A l c ∧ Ext w w'
theorem callNw {f : Nat} {args : Array Value} {w : World} {X : ContX} {ids : List Nat} {n : Nd} (h : CallsX E.P f args w (NwR w n) never) {K : Int → Int → ByteArray → Option Addr → Nat → Nat → World → Prop}
    (k : ∀ A l c w2, NdsR w2 (Rng w.heap.size w2.heap.size) n.kids A l c → Ext w w2 → K n.k n.n n.s A l c w2) :
    ∃ (R : Value → World → Prop) (X' : ContX), CallsX E.P f args w R X' ∧ (∀ v w2, R v w2 → ∃ x4 x5, ∃ x6 a2, ∃ n2 c2, v = .agg #[.int .i64 x4, .int .i64 x5, .string x6, .slice a2 n2 c2] ∧ ∃ S, Upd w w2 S ∧ Away ids S ∧ K x4 x5 x6 a2 n2 c2 w2) ∧ ∀ ch w2, X' ch w2 → X ch w2 :=
  ⟨_, _, h, fun _ w2 ⟨A, l, c, hv, hN, hE⟩ => ⟨_, _, _, _, _, _, hv, no, hE, Away.no _, k A l c w2 hN hE⟩, never_any⟩
theorem strs_keep {w w' : World} {G : Nat → Prop} {l : List ByteArray} {A : Option Addr} {n c : Nat} (h : StrsR w G l A n c) (k : Ext w w') : StrsR w' G l A n c := RowIn.upd' h k fun _ _ _ h => h
theorem strs_len {w : World} {G : Nat → Prop} {l : List ByteArray} {A : Option Addr} {n c : Nat} (h : StrsR w G l A n c) : n = l.length := by simpa using RowIn.len h
theorem ex_pos : ∀ (e : Ex), 1 ≤ e.size
  | .mk _ _ _ _ _ => by rw [Ex.size]; omega
theorem ex_len : ∀ (l : List Ex), l.length ≤ Ex.sizes l
  | [] => Nat.zero_le _
  | x :: l => by
    have := ex_len l
    have := ex_pos x
    rw [Ex.sizes, List.length_cons]; omega
theorem kids_le (e : Ex) : e.kids.length ≤ e.size := by
  cases e with | mk k n s l t => have := ex_len l; simp only [Ex.size, Ex.kids]; omega
theorem node_c : ∀ (f : Nat) (e : Ex), e.size ≤ f → ∀ (bd : List ByteArray) {w : World} {F G : Nat → Prop} {B : Option Addr} {l cc : Nat} {D : Option Addr} {m d : Nat}, ExsR w F e.kids B l cc → StrsR w G bd D m d → bd.length + e.size ≤ 2 ^ 30 →
    CallsX E.P 41 #[exA e B l cc, .slice D m d] w (NwR w (nodeF e bd)) never := by
  intro f
  induction f with
  | zero => intro e hn; cases e with | mk k v s l t => simp only [Ex.size] at hn; omega
  | succ f ih =>
    intro e hn bd w F G B l cc D m d hr hbd hs
    obtain rfl := strs_len hbd
    obtain rfl := hr.len
    have hsm := hr.lt
    have hkl := kids_le e
    refine vc41 ?_
    intro id hid id1 hid1 id2 hid2
    have fin : ∀ {w1 w2 : World} {i : Nat}, Ext w w1 → w.heap.size ≤ i → Upd w1 w2 (setOf [i]) → Ext w w2 := fun h1 h2 h3 => Upd.step h1 h3 fun x hx => by simp only [setOf, no, or_false] at hx; omega
    refine ⟨fun _ _ _ _ _ _ x6 x7 x8 w1 => (e.k == 4) = false ∧ (x6 = e.k ∧ x7 = e.n ∧ x8 = (if e.k == 23 then e.s else ByteArray.mk #[])) ∧ Ext w w1 ∧ id < w1.heap.size ∧ id1 < w1.heap.size ∧ id2 < w1.heap.size, ⟨fun c4 w1 hE1 i0 i1 i2 => ?_, fun c4 => ⟨fun c23 w1 hE1 i0 i1 i2 => ⟨c4, ⟨rfl, rfl, by rw [c23]; rfl⟩, hE1, i0, i1, i2⟩, fun c23 w1 hE1 i0 i1 i2 => ⟨c4, ⟨rfl, rfl, by rw [c23]; rfl⟩, hE1, i0, i1, i2⟩⟩⟩, ?_⟩
    · have hE1' : Ext w w1 := hE1
      refine ⟨fun x x1 w2 => ∃ j : Nat, x = j ∧ j ≤ bd.length ∧ lastIn e.s j x1 (bd.drop j) = lastIn e.s 0 e.n bd ∧ Ext w w2 ∧ w1.heap.size ≤ w2.heap.size, fun x _ => ((bd.length : Int) - x).toNat, ⟨0, rfl, Nat.zero_le _, rfl, hE1', Nat.le_refl _⟩, ?_⟩
      rintro _ x x1 w2 ⟨j, rfl, hj, hg, hE2, hs2⟩
      have hbd2 := strs_keep hbd hE2
      have hlt := RowIn.lt hbd
      refine ⟨fun hlt2 => ?_, fun hlt2 w3 hU3 => ?_⟩
      · have hjl : j < bd.length := by simpa using hlt2
        rw [drop_cons hjl, lastIn] at hg
        obtain ⟨ad, r, e1, hr, _, hc⟩ := RowIn.get hbd2 (j : Int) (by omega) (by omega)
        have hnn : Int.toNat (j : Int) = j := by omega
        rw [hnn, List.getElem?_map, List.getElem?_eq_getElem hjl] at hr
        cases hr
        refine ⟨⟨by omega, by omega⟩, ad, e1, fun w3 hE3 => ⟨_, CellsIn.ext hc hE3 (fun h => h), fun hx w4 hU4 => ?_, fun hx => ?_⟩⟩
        · rw [if_pos hx] at hg
          have hE3' : Ext w2 w3 := hE3
          have t3 := hE3'.size
          have t4 := hU4.size
          refine ⟨⟨j + 1, w64_succ (by omega), hjl, hg, fin (hE2.trans hE3') hid2 hU4, by omega⟩, ?_⟩
          dsimp only
          rw [w64_succ (by omega)]; exact mea_succ hjl
        · rw [if_neg (nfc hx)] at hg
          have hE3' : Ext w2 w3 := hE3
          have t3 := hE3'.size
          refine ⟨⟨j + 1, w64_succ (by omega), hjl, hg, hE2.trans hE3', by omega⟩, ?_⟩
          dsimp only
          rw [w64_succ (by omega)]; exact mea_succ hjl
      · have hjl : ¬ j < bd.length := by simpa using hlt2
        rw [List.drop_eq_nil_of_le (by omega), lastIn] at hg
        have hN : nodeF e bd = .mk 5 x1 (ByteArray.mk #[]) [] := by
          rw [hg]
          cases e with | mk k n s l t => have c4 : (k == 4) = true := c4; rw [nodeF, if_pos c4]; rfl
        rw [hN]
        exact ⟨none, 0, 0, rfl, nds_nil.plain, fin hE2 hid1 hU3⟩
    rintro _ _ _ _ _ _ _ x6 x7 x8 w1 ⟨c4, ⟨rfl, rfl, rfl⟩, hE1, i0, i1, i2⟩
    have hN : nodeF e bd = .mk e.k e.n (if e.k == 23 then e.s else ByteArray.mk #[]) (nodesF e.k e.s 0 e.kids bd) := by
      cases e with | mk k n s l t => have c4 : (k == 4) = false := c4; rw [nodeF, if_neg (nfc c4)]; rfl
    rw [hN]
    have t1 := hE1.size
    have hr1 := hr.ext hE1
    have hbd1 := strs_keep hbd hE1
    refine ⟨fun x a1 n1 c1 w2 => ∃ (j : Nat) (sd : List Nd), x = j ∧ j ≤ e.kids.length ∧ sd ++ nodesF e.k e.s j (e.kids.drop j) bd = nodesF e.k e.s 0 e.kids bd ∧ NdsB w2 false w1.heap.size w2.heap.size no no sd a1 n1 c1 ∧ Ext w w2 ∧ w1.heap.size ≤ w2.heap.size ∧ sd.length = j,
      fun x _ _ _ => ((e.kids.length : Int) - x).toNat, ⟨0, [], rfl, Nat.zero_le _, rfl, RowB.nil (fun _ h => h.elim) (Nat.le_refl _), hE1, Nat.le_refl _, rfl⟩, ?_⟩
    rintro _ x a1 n1 c1 w2 ⟨j, sd, rfl, hj, hg, hB, hE2, t2, hsd⟩
    obtain rfl := hB.len
    refine ⟨fun hlt2 => ?_, fun hlt2 w3 hU3 => ?_⟩
    · have hjl : j < e.kids.length := by simpa using hlt2
      rw [drop_cons hjl, nodesF] at hg
      generalize hin : (if e.k == 21 && (j : Int) == 1 then bd ++ [e.s] else bd) = inn at hg
      have hbd2 := strs_keep hbd hE2
      have hkz : e.kids[j].size < e.size := by have := kid_sz hjl; rw [kid_eq hjl] at this; exact this
      have hil : inn.length ≤ bd.length + 1 := by rw [← hin]; split <;> simp
      refine ⟨fun a4 n4 c4 w4 => StrsR w4 (fun _ => True) inn a4 n4 c4 ∧ Ext w2 w4, ⟨fun c21 => ⟨fun cj => ?_, fun cj => ⟨?_, Upd.refl _ _⟩⟩, fun c21 => ⟨?_, Upd.refl _ _⟩⟩, ?_⟩
      · refine pushVC (names_nil hbd2 (by omega)) (away_of fun _ _ h => h) fun A5 c5 w5 hB5 hU5 => ?_
        have hE5 : Ext w2 w5 := Upd.mono hU5 fun _ h => h
        have t5 := hE5.size
        intro id3 hid3 w6 hE6 i3 hh6
        refine pushVC (names_push hB5 hE6 hh6 (by omega)) (away_of fun i hi hS => ?_) fun A7 c7 w7 hB7 hU7 hh7 => ?_
        · have := hB5.blk hS; simp only [List.mem_cons, List.not_mem_nil, or_false] at hi; omega
        · refine ⟨?_, Upd.step (hE5.trans hE6) hU7 fun x hx => (hB5.blk hx).1⟩
          rw [← hin, if_pos (by rw [c21, cj]; rfl)]
          exact strs_done hB7 (by omega) fun _ _ => trivial
      · rw [← hin, if_neg (by rw [cj]; simp)]
        exact RowIn.mono hbd2 fun _ _ => trivial
      · rw [← hin, if_neg (by rw [c21]; simp)]
        exact RowIn.mono hbd2 fun _ _ => trivial
      rintro _ a4 n4 c4' w4 ⟨hS4, hE4⟩
      have t4 := hE4.size
      refine (hr.ext (hE2.trans hE4)).idx hjl fun ad ha => (hr.ext (hE2.trans hE4)).cell ha hjl fun A1 l1 c1' q1 => ?_
      refine callNw (ih e.kids[j] (by omega) inn q1 hS4 (by omega)) fun A5 l5 c5 w5 hN5 hE5 id4 hid4 id5 hid5 w6 hE6 i4 i5 hh6 => ?_
      have t5 := hE5.size
      refine pushVC (RowB.push (x := nodeF e.kids[j] inn) (cs := ndV (nodeF e.kids[j] inn) A5 l5 c5) (Fk := Rng w4.heap.size w5.heap.size) sl22 ((hB.ext hE4).ext hE5) hN5.node (fun x hx => .inr ⟨by have := hx.1; omega, hx.2, fun h => h⟩) hE6 (fun _ h => h.elim) hh6 (by omega)) (away_of fun i hi hS => ?_) ?_
      · have := hB.blk hS; simp only [List.mem_cons, List.not_mem_nil, or_false] at hi; omega
      intro A7 c7 w7 ⟨hB7, _⟩ hU7 w8 hU8 hh8
      have t6 := Upd.size hE6
      have t7 := hU7.size
      have t8 := hU8.size
      have hE7 : Ext w w7 := Upd.step (((hE2.trans hE4).trans hE5).trans hE6) hU7 fun x hx => by have := (hB.blk hx).1; omega
      have hE8 : Ext w w8 := fin hE7 hid2 hU8
      refine ⟨⟨j + 1, sd ++ [nodeF e.kids[j] inn], w64_succ (by omega), hjl, ?_, ?_, hE8, by omega, by simp [hsd]⟩, ?_⟩
      · rw [← hg, List.append_assoc]; rfl
      · exact (hB7.upd hU8 fun x hx => ⟨fun h => h, .inr (by simp only [setOf, no, or_false] at hx; omega)⟩).re t8 (Nat.le_refl _) (fun x hx => .inl hx)
      · dsimp only
        rw [w64_succ (by omega)]; exact mea_succ hjl
    · have hjl : ¬ j < e.kids.length := by simpa using hlt2
      rw [List.drop_eq_nil_of_le (by omega), nodesF, List.append_nil] at hg
      have t3 := hU3.size
      rw [← hg]
      refine ⟨a1, _, c1, rfl, ?_, fin hE2 hid1 hU3⟩
      have hB3 := hB.upd hU3 fun x hx => ⟨fun h => h, .inr (by simp only [setOf, no, or_false] at hx; omega)⟩
      exact (nds_of (RowB.done hB3 (by omega) (.inr ⟨rfl, rfl⟩))).mono fun x hx => by
        rcases hx with h | h
        · exact h.2.elim
        · exact ⟨by omega, by omega⟩
theorem of_c (e : Ex) {w : World} {F : Nat → Prop} {B : Option Addr} {l cc : Nat} (hr : ExsR w F e.kids B l cc) (hF : ∀ x, F x → x < w.heap.size) (hs : e.size ≤ 2 ^ 30) :
    CallsX E.P 17 #[exA e B l cc] w (fun v w' => ∃ A l c, v = .tuple #[plA (ofF e).1 A l c none 0 0, .int .i64 (ofF e).2] ∧ NdsR w' (Rng w.heap.size w'.heap.size) (ofF e).1.root.kids A l c ∧ (ofF e).1.cells = [] ∧ Ext w w') never := by
  refine vc17 ?_
  intro id hid id1 hid1 w1 hE1 i0 i1
  have hE1' : Ext w w1 := hE1
  have t1 := hE1'.size
  refine ⟨_, _, check_c e (hr.ext hE1') (fun x hx => by have := hF x hx; omega) hs, ?_, never_any⟩
  rintro v w2 ⟨rfl, hE2⟩
  have t2 := hE2.size
  have fin : ∀ {w3 w4 : World}, Ext w w3 → Upd w3 w4 (setOf [id1]) → Ext w w4 := fun h1 h3 => Upd.step h1 h3 fun x hx => by simp only [setOf, no, or_false] at hx; omega
  refine ⟨_, _, _, rfl, no, hE2, Away.no _, fun h w3 hU3 => ?_, fun h => ?_⟩
  · unfold ofF
    rw [if_pos h]
    exact ⟨none, 0, 0, rfl, nds_nil.plain, rfl, fin (hE1'.trans hE2) hU3⟩
  · unfold ofF
    rw [if_neg (nfc h)]
    have hE02 := hE1'.trans hE2
    refine callNw (node_c e.size e (Nat.le_refl _) [] (G := no) (hr.ext hE02) ⟨rfl, Nat.le_refl _, by decide, by simp, fun h => absurd rfl h⟩ (by simpa using hs)) fun A l c w3 hN hE3 w4 hU4 => ?_
    have t3 := hE3.size
    have t4 := hU4.size
    refine ⟨A, l, c, rfl, ?_, rfl, fin (hE02.trans hE3) hU4⟩
    exact (hN.upd' hU4 fun x hx _ hS => by simp only [setOf, no, or_false] at hS; have := hx.1; omega).mono fun x hx => ⟨by have := hx.1; omega, by have := hx.2; omega⟩
end
section
open Go Go.Vx Go.Proofs
set_option maxRecDepth 100000
variable {w : World} {R : Value → World → Prop} {X : ContX}
theorem vc132 {a : Nat} {a0 : Option Addr} {a0l a0c : Nat} {a1 a2 : Option Nat} {a3 b0 b1 : Int} {b2 : ByteArray} {b3 : Option Addr} {b3l b3c : Nat} {c d : Int} (ha : w.heap[a]? = some (.cells #[.slice a0 a0l a0c, .map a1, .map a2, .int .i64 a3] 103 (0, 0))) (h : 
 nB w fun id => fL w [] fun w1 => id < w1.heap.size → hA w1 a #[.slice a0 a0l a0c, Value.map a1, Value.map a2, .int .i64 a3] 103 → cU 109 #[.pointer (some ⟨a, 0, none⟩), .bool (b1 == 0)] w1 [id] X fun v1 w2 => ∃ a1 n, ∃ c1 r, ∃ r1 x, hA w2 a #[.slice a1 n c1, Value.map r, Value.map r1, .int .i64 x] 103 ∧ 4 = 4 ∧ iX 1 b3l b3 fun ad => iX 0 b3l b3 fun ad1 => (fL w2 [] fun w11 => lA w11 (Addr.add ad 4) fun x1 x2 x3 a2 n1 c2 => lA w11 (Addr.add ad1 0) fun x4 x5 x6 a3 n2 c3 => hA w11 a #[.slice a1 n c1, Value.map r, Value.map r1, .int .i64 x] 103 → cI 79 #[.pointer (some ⟨a, 0, none⟩), Av x4 x5 x6 a3 n2 c3, .int .i64 c, .int .i64 d] w11 [id] X fun x7 w21 => ∃ a4 n3, ∃ c4 r2, ∃ r3 x8, hA w21 a #[.slice a4 n3 c4, Value.map r2, Value.map r3, .int .i64 x8] 103 ∧ 4 = 4 ∧ (hA w21 a #[.slice a4 n3 c4, Value.map r2, Value.map r3, .int .i64 x8] 103 → cU 137 #[.pointer (some ⟨a, 0, none⟩), Av x1 x2 x3 a2 n1 c2, .int .i64 x7, .int .i64 c, .int .i64 d] w21 [id] X fun v4 w22 => ∃ a5 n4, ∃ c5 r4, ∃ r5 x9, hA w22 a #[.slice a5 n4 c5, Value.map r4, Value.map r5, .int .i64 x9] 103 ∧ 4 = 4 ∧ (hA w22 a #[.slice a5 n4 c5, Value.map r4, Value.map r5, .int .i64 x9] 103 → R (.int .i64 2) w22))) ∧ fL w2 [] fun w12 => lA w12 (Addr.add ad1 0) fun x10 x11 x12 a6 n5 c6 => (lA w12 (Addr.add ad 4) fun x13 x14 x15 a7 n6 c7 => hA w12 a #[.slice a1 n c1, Value.map r, Value.map r1, .int .i64 x] 103 → cI 79 #[.pointer (some ⟨a, 0, none⟩), Av x10 x11 x12 a6 n5 c6, .int .i64 c, .int .i64 d] w12 [id] X fun x16 w25 => ∃ a8 n7, ∃ c8 r6, ∃ r7 x17, hA w25 a #[.slice a8 n7 c8, Value.map r6, Value.map r7, .int .i64 x17] 103 ∧ 4 = 4 ∧ (hA w25 a #[.slice a8 n7 c8, Value.map r6, Value.map r7, .int .i64 x17] 103 → cU 137 #[.pointer (some ⟨a, 0, none⟩), Av x13 x14 x15 a7 n6 c7, .int .i64 x16, .int .i64 c, .int .i64 d] w25 [id] X fun v7 w26 => ∃ a9 n8, ∃ c9 r8, ∃ r9 x18, hA w26 a #[.slice a9 n8 c9, Value.map r8, Value.map r9, .int .i64 x18] 103 ∧ 4 = 4 ∧ (hA w26 a #[.slice a9 n8 c9, Value.map r8, Value.map r9, .int .i64 x18] 103 → R (.int .i64 2) w26))) ∧ (hA w12 a #[.slice a1 n c1, Value.map r, Value.map r1, .int .i64 x] 103 → cI 79 #[.pointer (some ⟨a, 0, none⟩), Av x10 x11 x12 a6 n5 c6, .int .i64 c, .int .i64 d] w12 [id] X fun x19 w29 => ∃ a10 n9, ∃ c10 r10, ∃ r11 x20, hA w29 a #[.slice a10 n9 c10, Value.map r10, Value.map r11, .int .i64 x20] 103 ∧ 4 = 4 ∧ lA w29 (Addr.add ad 4) fun x21 x22 x23 a11 n10 c11 => hA w29 a #[.slice a10 n9 c10, Value.map r10, Value.map r11, .int .i64 x20] 103 → cU 137 #[.pointer (some ⟨a, 0, none⟩), Av x21 x22 x23 a11 n10 c11, .int .i64 x19, .int .i64 c, .int .i64 d] w29 [id] X fun v10 w210 => ∃ a12 n11, ∃ c12 r12, ∃ r13 x24, hA w210 a #[.slice a12 n11 c12, Value.map r12, Value.map r13, .int .i64 x24] 103 ∧ 4 = 4 ∧ (hA w210 a #[.slice a12 n11 c12, Value.map r12, Value.map r13, .int .i64 x24] 103 → R (.int .i64 2) w210))
 ) : CallsX E.P 132 #[.pointer (some ⟨a, 0, none⟩), Av b0 b1 b2 b3 b3l b3c, .int .i64 c, .int .i64 d] w R X :=
  calls_vc E_ok ⟨[], []⟩ (f := 132) Tryz.func132 rfl [(.pointer (some ⟨a, 0, none⟩), .ptr 0 0), (Av b0 b1 b2 b3 b3l b3c, .no), (.int .i64 c, .no), (.int .i64 d, .no)] [⟨a, 103, false, [⟨.slice a0 a0l a0c, .no, 0⟩, ⟨.map a1, .no, 0⟩, ⟨.map a2, .no, 0⟩, ⟨.int .i64 a3, .no, 0⟩]⟩] (bls1 ha) nod1 (plain_of rfl) (shs_of ⟨rfl, trivial, trivial, trivial, trivial⟩) h (by kernel_rfl)
theorem vc133 {a : Nat} {a0 : Option Addr} {a0l a0c : Nat} {a1 a2 : Option Nat} {a3 b0 b1 : Int} {b2 : ByteArray} {b3 : Option Addr} {b3l b3c : Nat} {c d : Int} (ha : w.heap[a]? = some (.cells #[.slice a0 a0l a0c, .map a1, .map a2, .int .i64 a3] 103 (0, 0))) (h : 
 nB w fun id => fL w [] fun w1 => id < w1.heap.size → hA w1 a #[.slice a0 a0l a0c, Value.map a1, Value.map a2, .int .i64 a3] 103 → cU 109 #[.pointer (some ⟨a, 0, none⟩), .bool (b1 == 0)] w1 [id] X fun v1 w2 => ∃ a1 n, ∃ c1 r, ∃ r1 x, hA w2 a #[.slice a1 n c1, Value.map r, Value.map r1, .int .i64 x] 103 ∧ 4 = 4 ∧ iX 0 b3l b3 fun ad => lA w2 (Addr.add ad 0) fun x1 x2 x3 a2 n1 c2 => hA w2 a #[.slice a1 n c1, Value.map r, Value.map r1, .int .i64 x] 103 → cU 137 #[.pointer (some ⟨a, 0, none⟩), Av x1 x2 x3 a2 n1 c2, .int .i64 2, .int .i64 c, .int .i64 d] w2 [id] X fun v3 w21 => ∃ a3 n2, ∃ c3 r2, ∃ r3 x4, hA w21 a #[.slice a3 n2 c3, Value.map r2, Value.map r3, .int .i64 x4] 103 ∧ 4 = 4 ∧ iX 1 b3l b3 fun ad1 => lA w21 (Addr.add ad1 4) fun x5 x6 x7 a4 n3 c4 => hA w21 a #[.slice a3 n2 c3, Value.map r2, Value.map r3, .int .i64 x4] 103 → cI 79 #[.pointer (some ⟨a, 0, none⟩), Av x5 x6 x7 a4 n3 c4, .int .i64 c, .int .i64 d] w21 [id] X fun x8 w22 => ∃ a5 n4, ∃ c5 r4, ∃ r5 x9, hA w22 a #[.slice a5 n4 c5, Value.map r4, Value.map r5, .int .i64 x9] 103 ∧ 4 = 4 ∧ iX 2 b3l b3 fun ad2 => lA w22 (Addr.add ad2 8) fun x10 x11 x12 a6 n5 c6 => hA w22 a #[.slice a5 n4 c5, Value.map r4, Value.map r5, .int .i64 x9] 103 → cU 137 #[.pointer (some ⟨a, 0, none⟩), Av x10 x11 x12 a6 n5 c6, .int .i64 x8, .int .i64 c, .int .i64 d] w22 [id] X fun v6 w23 => ∃ a7 n6, ∃ c7 r6, ∃ r7 x13, hA w23 a #[.slice a7 n6 c7, Value.map r6, Value.map r7, .int .i64 x13] 103 ∧ 4 = 4 ∧ (hA w23 a #[.slice a7 n6 c7, Value.map r6, Value.map r7, .int .i64 x13] 103 → R (.int .i64 x8) w23)
 ) : CallsX E.P 133 #[.pointer (some ⟨a, 0, none⟩), Av b0 b1 b2 b3 b3l b3c, .int .i64 c, .int .i64 d] w R X :=
  calls_vc E_ok ⟨[], []⟩ (f := 133) Tryz.func133 rfl [(.pointer (some ⟨a, 0, none⟩), .ptr 0 0), (Av b0 b1 b2 b3 b3l b3c, .no), (.int .i64 c, .no), (.int .i64 d, .no)] [⟨a, 103, false, [⟨.slice a0 a0l a0c, .no, 0⟩, ⟨.map a1, .no, 0⟩, ⟨.map a2, .no, 0⟩, ⟨.int .i64 a3, .no, 0⟩]⟩] (bls1 ha) nod1 (plain_of rfl) (shs_of ⟨rfl, trivial, trivial, trivial, trivial⟩) h (by kernel_rfl)
theorem vc135 {a : Nat} {a0 : Option Addr} {a0l a0c : Nat} {a1 a2 : Option Nat} {a3 b0 b1 : Int} {b2 : ByteArray} {b3 : Option Addr} {b3l b3c : Nat} {c d : Int} (ha : w.heap[a]? = some (.cells #[.slice a0 a0l a0c, .map a1, .map a2, .int .i64 a3] 103 (0, 0))) (h : 
 nB w fun id => ∃ (I : Option Addr → Nat → Nat → Option Nat → Option Nat → Int → World → Prop), dB (decide (b1 ≥ 1)) (dB (decide (b1 ≤ 6)) (fL w [] fun w1 => id < w1.heap.size → hA w1 a #[.slice a0 a0l a0c, Value.map a1, Value.map a2, .int .i64 a3] 103 → cU 109 #[.pointer (some ⟨a, 0, none⟩), .bool (decide (d < 4))] w1 [id] X fun v1 w2 => ∃ a1 n, ∃ c1 r, ∃ r1 x, hA w2 a #[.slice a1 n c1, Value.map r, Value.map r1, .int .i64 x] 103 ∧ 4 = 4 ∧ I a1 n c1 r r1 x w2) (fL w [] fun w11 => id < w11.heap.size → hA w11 a #[.slice a0 a0l a0c, Value.map a1, Value.map a2, .int .i64 a3] 103 → cU 109 #[.pointer (some ⟨a, 0, none⟩), .bool false] w11 [id] X fun v3 w22 => ∃ a2 n1, ∃ c2 r2, ∃ r3 x1, hA w22 a #[.slice a2 n1 c2, Value.map r2, Value.map r3, .int .i64 x1] 103 ∧ 4 = 4 ∧ I a2 n1 c2 r2 r3 x1 w22)) (fL w [] fun w12 => id < w12.heap.size → hA w12 a #[.slice a0 a0l a0c, Value.map a1, Value.map a2, .int .i64 a3] 103 → cU 109 #[.pointer (some ⟨a, 0, none⟩), .bool false] w12 [id] X fun v5 w24 => ∃ a3 n2, ∃ c3 r4, ∃ r5 x2, hA w24 a #[.slice a3 n2 c3, Value.map r4, Value.map r5, .int .i64 x2] 103 ∧ 4 = 4 ∧ I a3 n2 c3 r4 r5 x2 w24) ∧ ∀ (jk : Nat → Value) (a4 : Option Addr) (n3 c4 : Nat) (r6 r7 : Option Nat) (x3 : Int) (w26 : World), I a4 n3 c4 r6 r7 x3 w26 → iX 0 b3l b3 fun ad => lA w26 (Addr.add ad 0) fun x4 x5 x6 a5 n4 c5 => hA w26 a #[.slice a4 n3 c4, Value.map r6, Value.map r7, .int .i64 x3] 103 → cU 149 #[.pointer (some ⟨a, 0, none⟩), Av x4 x5 x6 a5 n4 c5, .int .i64 c, .int .i64 (w64 (d + 1))] w26 [id] X fun v7 w27 => ∃ a6 n5, ∃ c6 r8, ∃ r9 x7, hA w27 a #[.slice a6 n5 c6, Value.map r8, Value.map r9, .int .i64 x7] 103 ∧ 4 = 4 ∧ dB (decide (b1 ≤ 3)) (∃ (I1 : Int → World → Prop), dB (decide (b1 ≤ 2)) (I1 2 w27) (I1 1 w27) ∧ ∀ (jk1 : Nat → Value) (x8 : Int) (w28 : World), I1 x8 w28 → iX 1 b3l b3 fun ad1 => lA w28 (Addr.add ad1 4) fun x9 x10 x11 a7 n6 c7 => hA w28 a #[.slice a6 n5 c6, Value.map r8, Value.map r9, .int .i64 x7] 103 → cU 137 #[.pointer (some ⟨a, 0, none⟩), Av x9 x10 x11 a7 n6 c7, .int .i64 2, .int .i64 (w64 (c + 1)), .int .i64 (w64 (d + 1))] w28 [id] X fun v9 w29 => ∃ a8 n7, ∃ c8 r10, ∃ r11 x12, hA w29 a #[.slice a8 n7 c8, Value.map r10, Value.map r11, .int .i64 x12] 103 ∧ 4 = 4 ∧ (hA w29 a #[.slice a8 n7 c8, Value.map r10, Value.map r11, .int .i64 x12] 103 → R (.int .i64 x8) w29)) (∃ (I2 : Int → World → Prop), dB (decide (b1 ≤ 2)) (I2 2 w27) (I2 1 w27) ∧ ∀ (jk2 : Nat → Value) (x13 : Int) (w211 : World), I2 x13 w211 → iX 1 b3l b3 fun ad2 => lA w211 (Addr.add ad2 4) fun x14 x15 x16 a9 n8 c9 => hA w211 a #[.slice a6 n5 c6, Value.map r8, Value.map r9, .int .i64 x7] 103 → cU 137 #[.pointer (some ⟨a, 0, none⟩), Av x14 x15 x16 a9 n8 c9, .int .i64 1, .int .i64 (w64 (c + 1)), .int .i64 (w64 (d + 1))] w211 [id] X fun v11 w212 => ∃ a10 n9, ∃ c10 r12, ∃ r13 x17, hA w212 a #[.slice a10 n9 c10, Value.map r12, Value.map r13, .int .i64 x17] 103 ∧ 4 = 4 ∧ (hA w212 a #[.slice a10 n9 c10, Value.map r12, Value.map r13, .int .i64 x17] 103 → R (.int .i64 x13) w212))
 ) : CallsX E.P 135 #[.pointer (some ⟨a, 0, none⟩), Av b0 b1 b2 b3 b3l b3c, .int .i64 c, .int .i64 d] w R X :=
  calls_vc E_ok ⟨[], [(2, ⟨[], [(0, 0, .slc), (0, 1, .map), (0, 2, .map), (0, 3, .int .i64)]⟩), (8, ⟨[(10, .int .i64)], []⟩)]⟩ (f := 135) Tryz.func135 rfl [(.pointer (some ⟨a, 0, none⟩), .ptr 0 0), (Av b0 b1 b2 b3 b3l b3c, .no), (.int .i64 c, .no), (.int .i64 d, .no)] [⟨a, 103, false, [⟨.slice a0 a0l a0c, .no, 0⟩, ⟨.map a1, .no, 0⟩, ⟨.map a2, .no, 0⟩, ⟨.int .i64 a3, .no, 0⟩]⟩] (bls1 ha) nod1 (plain_of rfl) (shs_of ⟨rfl, trivial, trivial, trivial, trivial⟩) h (by kernel_rfl)
theorem vc136 {a : Nat} {a0 : Option Addr} {a0l a0c : Nat} {a1 a2 : Option Nat} {a3 b0 b1 : Int} {b2 : ByteArray} {b3 : Option Addr} {b3l b3c : Nat} {c d : Int} (ha : w.heap[a]? = some (.cells #[.slice a0 a0l a0c, .map a1, .map a2, .int .i64 a3] 103 (0, 0))) (h : 
 nB w fun id => ∃ (I : Option Addr → Nat → Nat → Option Nat → Option Nat → Int → World → Prop), dB (decide (b1 ≥ 0)) (dB (decide (b1 < (↑a0l : Int))) (iX b1 a0l a0 fun ad => fL w [] fun w1 => id < w1.heap.size → lI w1 (Addr.add ad (Int.toNat b1 * 1)) fun x => hA w1 a #[.slice a0 a0l a0c, Value.map a1, Value.map a2, .int .i64 a3] 103 → cU 109 #[.pointer (some ⟨a, 0, none⟩), .bool (decide (x ≤ c))] w1 [id] X fun v1 w2 => ∃ a1 n, ∃ c1 r, ∃ r1 x1, hA w2 a #[.slice a1 n c1, Value.map r, Value.map r1, .int .i64 x1] 103 ∧ 4 = 4 ∧ I a1 n c1 r r1 x1 w2) (fL w [] fun w11 => id < w11.heap.size → hA w11 a #[.slice a0 a0l a0c, Value.map a1, Value.map a2, .int .i64 a3] 103 → cU 109 #[.pointer (some ⟨a, 0, none⟩), .bool false] w11 [id] X fun v3 w22 => ∃ a2 n1, ∃ c2 r2, ∃ r3 x2, hA w22 a #[.slice a2 n1 c2, Value.map r2, Value.map r3, .int .i64 x2] 103 ∧ 4 = 4 ∧ I a2 n1 c2 r2 r3 x2 w22)) (fL w [] fun w12 => id < w12.heap.size → hA w12 a #[.slice a0 a0l a0c, Value.map a1, Value.map a2, .int .i64 a3] 103 → cU 109 #[.pointer (some ⟨a, 0, none⟩), .bool false] w12 [id] X fun v5 w24 => ∃ a3 n2, ∃ c3 r4, ∃ r5 x3, hA w24 a #[.slice a3 n2 c3, Value.map r4, Value.map r5, .int .i64 x3] 103 ∧ 4 = 4 ∧ I a3 n2 c3 r4 r5 x3 w24) ∧ ∀ (jk : Nat → Value) (a4 : Option Addr) (n3 c4 : Nat) (r6 r7 : Option Nat) (x4 : Int) (w26 : World), I a4 n3 c4 r6 r7 x4 w26 → ∃ (I1 : Int → Option Addr → Nat → Nat → Option Nat → Option Nat → Int → World → Prop), (iX 0 b3l b3 fun ad1 => lA w26 (Addr.add ad1 0) fun x5 x6 x7 a5 n4 c5 => hA w26 a #[.slice a4 n3 c4, Value.map r6, Value.map r7, .int .i64 x4] 103 → cI 79 #[.pointer (some ⟨a, 0, none⟩), Av x5 x6 x7 a5 n4 c5, .int .i64 c, .int .i64 d] w26 [id] X fun x8 w27 => ∃ a6 n5, ∃ c6 r8, ∃ r9 x9, hA w27 a #[.slice a6 n5 c6, Value.map r8, Value.map r9, .int .i64 x9] 103 ∧ 4 = 4 ∧ I1 x8 a6 n5 c6 r8 r9 x9 w27) ∧ ∀ (jk1 : Nat → Value) (x10 : Int) (a7 : Option Addr) (n6 c7 : Nat) (r10 r11 : Option Nat) (x11 : Int) (w29 : World), I1 x10 a7 n6 c7 r10 r11 x11 w29 → (fL w29 [] fun w13 => ∃ x12 x13, ∃ x14 a8, ∃ n7 c8 x15, Sem.run E.P (Instr.lookup 100 (Value.map r10) (.int .i64 b1) true) w13 = Result.ok (.tuple #[Av x12 x13 x14 a8 n7 c8, .bool x15]) w13 ∧ nB w13 fun id1 => ∃ (I2 : Option Addr → Nat → Nat → Option Nat → Option Nat → Int → World → Prop), (iX 0 b3l b3 fun ad2 => fL w13 [] fun w14 => id1 < w14.heap.size → lA w14 (Addr.add ad2 0) fun x16 x17 x18 a9 n8 c9 => iX b1 n6 a7 fun ad3 => lI w14 (Addr.add ad3 (Int.toNat b1 * 1)) fun x19 => ∃ R5 X'4, CallsX E.P 150 #[Av x16 x17 x18 a9 n8 c9, .int .i64 c] w14 R5 X'4 ∧ (∀ v7 w210, R5 v7 w210 → ∃ x20, v7 = .int .i64 x20 ∧ Upd w14 w210 no ∧ dB (decide (x20 ≤ x19)) (dB (!x15) (hA w210 a #[.slice a7 n6 c7, Value.map r10, Value.map r11, .int .i64 x11] 103 → cU 109 #[.pointer (some ⟨a, 0, none⟩), .bool true] w210 [id, id1] X fun v9 w211 => ∃ a10 n9, ∃ c10 r12, ∃ r13 x21, hA w211 a #[.slice a10 n9 c10, Value.map r12, Value.map r13, .int .i64 x21] 103 ∧ 4 = 4 ∧ I2 a10 n9 c10 r12 r13 x21 w211) (iX 0 b3l b3 fun ad4 => lA w210 (Addr.add ad4 0) fun x22 x23 x24 a11 n10 c11 => ∃ R7 X'6, CallsX E.P 44 #[Av x12 x13 x14 a8 n7 c8, Av x22 x23 x24 a11 n10 c11] w210 R7 X'6 ∧ (∀ v10 w213, R7 v10 w213 → ∃ x25, v10 = .bool x25 ∧ Upd w210 w213 no ∧ dB x25 (∃ x26, Sem.run E.P (Instr.lookup 101 (Value.map r11) (.int .i64 b1) false) w213 = Result.ok (.int .i64 x26) w213 ∧ dB (x26 == c) (hA w213 a #[.slice a7 n6 c7, Value.map r10, Value.map r11, .int .i64 x11] 103 → cU 109 #[.pointer (some ⟨a, 0, none⟩), .bool true] w213 [id, id1] X fun v12 w214 => ∃ a12 n11, ∃ c12 r14, ∃ r15 x27, hA w214 a #[.slice a12 n11 c12, Value.map r14, Value.map r15, .int .i64 x27] 103 ∧ 4 = 4 ∧ I2 a12 n11 c12 r14 r15 x27 w214) (∃ R9 X'8, CallsX E.P 151 #[Av x12 x13 x14 a8 n7 c8] w213 R9 X'8 ∧ (∀ v13 w216, R9 v13 w216 → ∃ x28, v13 = .bool x28 ∧ Upd w213 w216 no ∧ (hA w216 a #[.slice a7 n6 c7, Value.map r10, Value.map r11, .int .i64 x11] 103 → cU 109 #[.pointer (some ⟨a, 0, none⟩), .bool !x28] w216 [id, id1] X fun v15 w217 => ∃ a13 n12, ∃ c13 r16, ∃ r17 x29, hA w217 a #[.slice a13 n12 c13, Value.map r16, Value.map r17, .int .i64 x29] 103 ∧ 4 = 4 ∧ I2 a13 n12 c13 r16 r17 x29 w217)) ∧ PX X'8 X)) (hA w213 a #[.slice a7 n6 c7, Value.map r10, Value.map r11, .int .i64 x11] 103 → cU 109 #[.pointer (some ⟨a, 0, none⟩), .bool false] w213 [id, id1] X fun v17 w220 => ∃ a14 n13, ∃ c14 r18, ∃ r19 x30, hA w220 a #[.slice a14 n13 c14, Value.map r18, Value.map r19, .int .i64 x30] 103 ∧ 4 = 4 ∧ I2 a14 n13 c14 r18 r19 x30 w220)) ∧ PX X'6 X)) (hA w210 a #[.slice a7 n6 c7, Value.map r10, Value.map r11, .int .i64 x11] 103 → cU 109 #[.pointer (some ⟨a, 0, none⟩), .bool false] w210 [id, id1] X fun v19 w223 => ∃ a15 n14, ∃ c15 r20, ∃ r21 x31, hA w223 a #[.slice a15 n14 c15, Value.map r20, Value.map r21, .int .i64 x31] 103 ∧ 4 = 4 ∧ I2 a15 n14 c15 r20 r21 x31 w223)) ∧ PX X'4 X) ∧ ∀ (jk2 : Nat → Value) (a16 : Option Addr) (n15 c16 : Nat) (r22 r23 : Option Nat) (x32 : Int) (w226 : World), I2 a16 n15 c16 r22 r23 x32 w226 → iX 0 b3l b3 fun ad5 => (fL w226 [] fun w15 => lA w15 (Addr.add ad5 0) fun x33 x34 x35 a17 n16 c17 => ∃ R13, RunsTo E.P (Instr.mapEntry 100 (Value.map r22) (.int .i64 b1)) w15 R13 ∧ ∀ v20 w227, R13 v20 w227 → ∃ (u : Value), ∃ k, v20 = .tuple #[u, .int .i64 k] ∧ ∃ S9, Upd w15 w227 S9 ∧ Away [a, id, id1] S9 ∧ ∃ R14, RunsU E.P (Instr.entryStore 100 (Value.map r22) (.int .i64 k) (Av x33 x34 x35 a17 n16 c17)) w227 R14 ∧ ∀ w228, R14 w228 → ∃ S10, Upd w227 w228 S10 ∧ Away [a, id, id1] S10 ∧ ∃ R15, RunsTo E.P (Instr.mapEntry 101 (Value.map r23) (.int .i64 b1)) w228 R15 ∧ ∀ v21 w229, R15 v21 w229 → ∃ (u1 : Value), ∃ k1, v21 = .tuple #[u1, .int .i64 k1] ∧ ∃ S11, Upd w228 w229 S11 ∧ Away [a, id, id1] S11 ∧ ∃ R16, RunsU E.P (Instr.entryStore 101 (Value.map r23) (.int .i64 k1) (.int .i64 c)) w229 R16 ∧ ∀ w230, R16 w230 → ∃ S12, Upd w229 w230 S12 ∧ Away [a, id, id1] S12 ∧ (hA w230 a #[.slice a16 n15 c16, Value.map r22, Value.map r23, .int .i64 x32] 103 → R (.int .i64 x10) w230)) ∧ fL w226 [] fun w16 => ∃ R17, RunsTo E.P (Instr.mapEntry 100 (Value.map r22) (.int .i64 b1)) w16 R17 ∧ ∀ v22 w231, R17 v22 w231 → ∃ (u2 : Value), ∃ k2, v22 = .tuple #[u2, .int .i64 k2] ∧ ∃ S13, Upd w16 w231 S13 ∧ Away [a, id, id1] S13 ∧ lA w231 (Addr.add ad5 0) fun x36 x37 x38 a18 n17 c18 => ∃ R18, RunsU E.P (Instr.entryStore 100 (Value.map r22) (.int .i64 k2) (Av x36 x37 x38 a18 n17 c18)) w231 R18 ∧ ∀ w232, R18 w232 → ∃ S14, Upd w231 w232 S14 ∧ Away [a, id, id1] S14 ∧ ∃ R19, RunsTo E.P (Instr.mapEntry 101 (Value.map r23) (.int .i64 b1)) w232 R19 ∧ ∀ v23 w233, R19 v23 w233 → ∃ (u3 : Value), ∃ k3, v23 = .tuple #[u3, .int .i64 k3] ∧ ∃ S15, Upd w232 w233 S15 ∧ Away [a, id, id1] S15 ∧ ∃ R20, RunsU E.P (Instr.entryStore 101 (Value.map r23) (.int .i64 k3) (.int .i64 c)) w233 R20 ∧ ∀ w234, R20 w234 → ∃ S16, Upd w233 w234 S16 ∧ Away [a, id, id1] S16 ∧ (hA w234 a #[.slice a16 n15 c16, Value.map r22, Value.map r23, .int .i64 x32] 103 → R (.int .i64 x10) w234)) ∧ nB w29 fun id2 => fL w29 [] fun w17 => id2 < w17.heap.size → ∃ x39 x40, ∃ x41 a19, ∃ n18 c19 x42, Sem.run E.P (Instr.lookup 100 (Value.map r10) (.int .i64 b1) true) w17 = Result.ok (.tuple #[Av x39 x40 x41 a19 n18 c19, .bool x42]) w17 ∧ ∃ (I3 : Option Addr → Nat → Nat → Option Nat → Option Nat → Int → World → Prop), (iX 0 b3l b3 fun ad6 => fL w17 [id2] fun w18 => lA w18 (Addr.add ad6 0) fun x43 x44 x45 a20 n19 c20 => iX b1 n6 a7 fun ad7 => lI w18 (Addr.add ad7 (Int.toNat b1 * 1)) fun x46 => ∃ R21 X'12, CallsX E.P 150 #[Av x43 x44 x45 a20 n19 c20, .int .i64 c] w18 R21 X'12 ∧ (∀ v24 w235, R21 v24 w235 → ∃ x47, v24 = .int .i64 x47 ∧ Upd w18 w235 no ∧ dB (decide (x47 ≤ x46)) (dB (!x42) (hA w235 a #[.slice a7 n6 c7, Value.map r10, Value.map r11, .int .i64 x11] 103 → cU 109 #[.pointer (some ⟨a, 0, none⟩), .bool true] w235 [id, id2] X fun v26 w236 => ∃ a21 n20, ∃ c21 r24, ∃ r25 x48, hA w236 a #[.slice a21 n20 c21, Value.map r24, Value.map r25, .int .i64 x48] 103 ∧ 4 = 4 ∧ I3 a21 n20 c21 r24 r25 x48 w236) (iX 0 b3l b3 fun ad8 => lA w235 (Addr.add ad8 0) fun x49 x50 x51 a22 n21 c22 => ∃ R23 X'14, CallsX E.P 44 #[Av x39 x40 x41 a19 n18 c19, Av x49 x50 x51 a22 n21 c22] w235 R23 X'14 ∧ (∀ v27 w238, R23 v27 w238 → ∃ x52, v27 = .bool x52 ∧ Upd w235 w238 no ∧ dB x52 (∃ x53, Sem.run E.P (Instr.lookup 101 (Value.map r11) (.int .i64 b1) false) w238 = Result.ok (.int .i64 x53) w238 ∧ dB (x53 == c) (hA w238 a #[.slice a7 n6 c7, Value.map r10, Value.map r11, .int .i64 x11] 103 → cU 109 #[.pointer (some ⟨a, 0, none⟩), .bool true] w238 [id, id2] X fun v29 w239 => ∃ a23 n22, ∃ c23 r26, ∃ r27 x54, hA w239 a #[.slice a23 n22 c23, Value.map r26, Value.map r27, .int .i64 x54] 103 ∧ 4 = 4 ∧ I3 a23 n22 c23 r26 r27 x54 w239) (∃ R25 X'16, CallsX E.P 151 #[Av x39 x40 x41 a19 n18 c19] w238 R25 X'16 ∧ (∀ v30 w241, R25 v30 w241 → ∃ x55, v30 = .bool x55 ∧ Upd w238 w241 no ∧ (hA w241 a #[.slice a7 n6 c7, Value.map r10, Value.map r11, .int .i64 x11] 103 → cU 109 #[.pointer (some ⟨a, 0, none⟩), .bool !x55] w241 [id, id2] X fun v32 w242 => ∃ a24 n23, ∃ c24 r28, ∃ r29 x56, hA w242 a #[.slice a24 n23 c24, Value.map r28, Value.map r29, .int .i64 x56] 103 ∧ 4 = 4 ∧ I3 a24 n23 c24 r28 r29 x56 w242)) ∧ PX X'16 X)) (hA w238 a #[.slice a7 n6 c7, Value.map r10, Value.map r11, .int .i64 x11] 103 → cU 109 #[.pointer (some ⟨a, 0, none⟩), .bool false] w238 [id, id2] X fun v34 w245 => ∃ a25 n24, ∃ c25 r30, ∃ r31 x57, hA w245 a #[.slice a25 n24 c25, Value.map r30, Value.map r31, .int .i64 x57] 103 ∧ 4 = 4 ∧ I3 a25 n24 c25 r30 r31 x57 w245)) ∧ PX X'14 X)) (hA w235 a #[.slice a7 n6 c7, Value.map r10, Value.map r11, .int .i64 x11] 103 → cU 109 #[.pointer (some ⟨a, 0, none⟩), .bool false] w235 [id, id2] X fun v36 w248 => ∃ a26 n25, ∃ c26 r32, ∃ r33 x58, hA w248 a #[.slice a26 n25 c26, Value.map r32, Value.map r33, .int .i64 x58] 103 ∧ 4 = 4 ∧ I3 a26 n25 c26 r32 r33 x58 w248)) ∧ PX X'12 X) ∧ ∀ (jk3 : Nat → Value) (a27 : Option Addr) (n26 c27 : Nat) (r34 r35 : Option Nat) (x59 : Int) (w251 : World), I3 a27 n26 c27 r34 r35 x59 w251 → iX 0 b3l b3 fun ad9 => (fL w251 [] fun w19 => lA w19 (Addr.add ad9 0) fun x60 x61 x62 a28 n27 c28 => ∃ R29, RunsTo E.P (Instr.mapEntry 100 (Value.map r34) (.int .i64 b1)) w19 R29 ∧ ∀ v37 w252, R29 v37 w252 → ∃ (u4 : Value), ∃ k4, v37 = .tuple #[u4, .int .i64 k4] ∧ ∃ S22, Upd w19 w252 S22 ∧ Away [a, id, id2] S22 ∧ ∃ R30, RunsU E.P (Instr.entryStore 100 (Value.map r34) (.int .i64 k4) (Av x60 x61 x62 a28 n27 c28)) w252 R30 ∧ ∀ w253, R30 w253 → ∃ S23, Upd w252 w253 S23 ∧ Away [a, id, id2] S23 ∧ ∃ R31, RunsTo E.P (Instr.mapEntry 101 (Value.map r35) (.int .i64 b1)) w253 R31 ∧ ∀ v38 w254, R31 v38 w254 → ∃ (u5 : Value), ∃ k5, v38 = .tuple #[u5, .int .i64 k5] ∧ ∃ S24, Upd w253 w254 S24 ∧ Away [a, id, id2] S24 ∧ ∃ R32, RunsU E.P (Instr.entryStore 101 (Value.map r35) (.int .i64 k5) (.int .i64 c)) w254 R32 ∧ ∀ w255, R32 w255 → ∃ S25, Upd w254 w255 S25 ∧ Away [a, id, id2] S25 ∧ (hA w255 a #[.slice a27 n26 c27, Value.map r34, Value.map r35, .int .i64 x59] 103 → R (.int .i64 x10) w255)) ∧ fL w251 [] fun w110 => ∃ R33, RunsTo E.P (Instr.mapEntry 100 (Value.map r34) (.int .i64 b1)) w110 R33 ∧ ∀ v39 w256, R33 v39 w256 → ∃ (u6 : Value), ∃ k6, v39 = .tuple #[u6, .int .i64 k6] ∧ ∃ S26, Upd w110 w256 S26 ∧ Away [a, id, id2] S26 ∧ lA w256 (Addr.add ad9 0) fun x63 x64 x65 a29 n28 c29 => ∃ R34, RunsU E.P (Instr.entryStore 100 (Value.map r34) (.int .i64 k6) (Av x63 x64 x65 a29 n28 c29)) w256 R34 ∧ ∀ w257, R34 w257 → ∃ S27, Upd w256 w257 S27 ∧ Away [a, id, id2] S27 ∧ ∃ R35, RunsTo E.P (Instr.mapEntry 101 (Value.map r35) (.int .i64 b1)) w257 R35 ∧ ∀ v40 w258, R35 v40 w258 → ∃ (u7 : Value), ∃ k7, v40 = .tuple #[u7, .int .i64 k7] ∧ ∃ S28, Upd w257 w258 S28 ∧ Away [a, id, id2] S28 ∧ ∃ R36, RunsU E.P (Instr.entryStore 101 (Value.map r35) (.int .i64 k7) (.int .i64 c)) w258 R36 ∧ ∀ w259, R36 w259 → ∃ S29, Upd w258 w259 S29 ∧ Away [a, id, id2] S29 ∧ (hA w259 a #[.slice a27 n26 c27, Value.map r34, Value.map r35, .int .i64 x59] 103 → R (.int .i64 x10) w259)
 ) : CallsX E.P 136 #[.pointer (some ⟨a, 0, none⟩), Av b0 b1 b2 b3 b3l b3c, .int .i64 c, .int .i64 d] w R X :=
  calls_vc E_ok ⟨[(100004, ⟨[], []⟩)], [(2, ⟨[], [(0, 0, .slc), (0, 1, .map), (0, 2, .map), (0, 3, .int .i64)]⟩), (3, ⟨[(9, .int .i64)], [(0, 0, .slc), (0, 1, .map), (0, 2, .map), (0, 3, .int .i64)]⟩), (5, ⟨[], [(0, 0, .slc), (0, 1, .map), (0, 2, .map), (0, 3, .int .i64)]⟩)]⟩ (f := 136) Tryz.func136 rfl [(.pointer (some ⟨a, 0, none⟩), .ptr 0 0), (Av b0 b1 b2 b3 b3l b3c, .no), (.int .i64 c, .no), (.int .i64 d, .no)] [⟨a, 103, false, [⟨.slice a0 a0l a0c, .no, 0⟩, ⟨.map a1, .no, 0⟩, ⟨.map a2, .no, 0⟩, ⟨.int .i64 a3, .no, 0⟩]⟩] (bls1 ha) nod1 (plain_of rfl) (shs_of ⟨rfl, trivial, trivial, trivial, trivial⟩) h (by kernel_rfl)
abbrev V111 (n : Nat) (a0 a1 a2 : Int) (b : Nat) (b0 : Option Addr) (b0l b0c : Nat) (b1 b2 : Option Nat) (b3 c0 c1 : Int) (c2 : ByteArray) (c3 : Option Addr) (c3l c3c : Nat) (d e : Int) (w : World) (R : Value → World → Prop) (X : ContX) : Prop :=
 nB w fun id => nB w fun id1 => ∃ (I : Option Addr → Nat → Nat → Option Nat → Option Nat → Int → World → Prop), dB ((↑c3l : Int) == a0) (dB (strEq c2 (ByteArray.mk #[])) (fL w [] fun w1 => id < w1.heap.size → id1 < w1.heap.size → ∃ R1 X', CallsX E.P n #[.int .i64 c1] w1 R1 X' ∧ (∀ v w2, R1 v w2 → ∃ x, v = .bool x ∧ ∃ S, Upd w1 w2 S ∧ Away [b, id, id1] S ∧ (hA w2 b #[.slice b0 b0l b0c, Value.map b1, Value.map b2, .int .i64 b3] 103 → cU 109 #[.pointer (some ⟨b, 0, none⟩), .bool x] w2 [id, id1] X fun v2 w21 => ∃ a n, ∃ c r, ∃ r1 x1, hA w21 b #[.slice a n c, Value.map r, Value.map r1, .int .i64 x1] 103 ∧ 4 = 4 ∧ I a n c r r1 x1 w21)) ∧ PX X' X) (fL w [] fun w11 => id < w11.heap.size → id1 < w11.heap.size → hA w11 b #[.slice b0 b0l b0c, Value.map b1, Value.map b2, .int .i64 b3] 103 → cU 109 #[.pointer (some ⟨b, 0, none⟩), .bool false] w11 [id, id1] X fun v4 w24 => ∃ a1 n1, ∃ c1 r2, ∃ r3 x2, hA w24 b #[.slice a1 n1 c1, Value.map r2, Value.map r3, .int .i64 x2] 103 ∧ 4 = 4 ∧ I a1 n1 c1 r2 r3 x2 w24)) (fL w [] fun w12 => id < w12.heap.size → id1 < w12.heap.size → hA w12 b #[.slice b0 b0l b0c, Value.map b1, Value.map b2, .int .i64 b3] 103 → cU 109 #[.pointer (some ⟨b, 0, none⟩), .bool false] w12 [id, id1] X fun v6 w26 => ∃ a2 n2, ∃ c2 r4, ∃ r5 x3, hA w26 b #[.slice a2 n2 c2, Value.map r4, Value.map r5, .int .i64 x3] 103 ∧ 4 = 4 ∧ I a2 n2 c2 r4 r5 x3 w26) ∧ ∀ (jk : Nat → Value) (a3 : Option Addr) (n3 c3_1 : Nat) (r6 r7 : Option Nat) (x4 : Int) (w28 : World), I a3 n3 c3_1 r6 r7 x4 w28 → ∃ (I1 : Int → Option Addr → Nat → Nat → Option Nat → Option Nat → Int → World → Prop), ∃ (m : Int → Option Addr → Nat → Nat → Option Nat → Option Nat → Int → Nat), I1 0 a3 n3 c3_1 r6 r7 x4 w28 ∧ ∀ (jk1 : Nat → Value) (x5 : Int) (a4 : Option Addr) (n4 c4 : Nat) (r8 r9 : Option Nat) (x6 : Int) (w29 : World), I1 x5 a4 n4 c4 r8 r9 x6 w29 → dB (decide (x5 < (↑c3l : Int))) (iX x5 c3l c3 fun ad => lA w29 (Addr.add ad (Int.toNat x5 * 4)) fun x7 x8 x9 a5 n5 c5 => nB w29 fun id2 => fL w29 [] fun w13 => id2 < w13.heap.size → hA w13 b #[.slice a4 n4 c4, Value.map r8, Value.map r9, .int .i64 x6] 103 → cU 137 #[.pointer (some ⟨b, 0, none⟩), Av x7 x8 x9 a5 n5 c5, .int .i64 a1, .int .i64 d, .int .i64 e] w13 [id, id1, id2] X fun v8 w210 => ∃ a6 n6, ∃ c6 r10, ∃ r11 x10, hA w210 b #[.slice a6 n6 c6, Value.map r10, Value.map r11, .int .i64 x10] 103 ∧ 4 = 4 ∧ I1 (w64 (x5 + 1)) a6 n6 c6 r10 r11 x10 w210 ∧ m (w64 (x5 + 1)) a6 n6 c6 r10 r11 x10 < m x5 a4 n4 c4 r8 r9 x6) (hA w29 b #[.slice a4 n4 c4, Value.map r8, Value.map r9, .int .i64 x6] 103 → R (.int .i64 a2) w29)
theorem vc111_127 {a0 a1 a2 : Int} {b : Nat} {b0 : Option Addr} {b0l b0c : Nat} {b1 b2 : Option Nat} {b3 c0 c1 : Int} {c2 : ByteArray} {c3 : Option Addr} {c3l c3c : Nat} {d e : Int} (hb : w.heap[b]? = some (.cells #[.slice b0 b0l b0c, .map b1, .map b2, .int .i64 b3] 103 (0, 0))) (h : V111 127 a0 a1 a2 b b0 b0l b0c b1 b2 b3 c0 c1 c2 c3 c3l c3c d e w R X) : CallsX E.P 111 #[.agg #[.int .i64 a0, .int .i64 a1, .int .i64 a2, .func (.func 127) #[] #[]], .pointer (some ⟨b, 0, none⟩), Av c0 c1 c2 c3 c3l c3c, .int .i64 d, .int .i64 e] w R X :=
  calls_vc E_ok ⟨[(3, ⟨[(36, .int .i64)], [(0, 0, .slc), (0, 1, .map), (0, 2, .map), (0, 3, .int .i64)]⟩)], [(2, ⟨[], [(0, 0, .slc), (0, 1, .map), (0, 2, .map), (0, 3, .int .i64)]⟩)]⟩ (f := 111) Tryz.func111 rfl [(.agg #[.int .i64 a0, .int .i64 a1, .int .i64 a2, .func (.func 127) #[] #[]], .no), (.pointer (some ⟨b, 0, none⟩), .ptr 0 0), (Av c0 c1 c2 c3 c3l c3c, .no), (.int .i64 d, .no), (.int .i64 e, .no)] [⟨b, 103, false, [⟨.slice b0 b0l b0c, .no, 0⟩, ⟨.map b1, .no, 0⟩, ⟨.map b2, .no, 0⟩, ⟨.int .i64 b3, .no, 0⟩]⟩] (bls1 hb) nod1 (plain_of rfl) (shs_of ⟨trivial, rfl, trivial, trivial, trivial, trivial⟩) h (by kernel_rfl)
theorem vc111_128 {a0 a1 a2 : Int} {b : Nat} {b0 : Option Addr} {b0l b0c : Nat} {b1 b2 : Option Nat} {b3 c0 c1 : Int} {c2 : ByteArray} {c3 : Option Addr} {c3l c3c : Nat} {d e : Int} (hb : w.heap[b]? = some (.cells #[.slice b0 b0l b0c, .map b1, .map b2, .int .i64 b3] 103 (0, 0))) (h : V111 128 a0 a1 a2 b b0 b0l b0c b1 b2 b3 c0 c1 c2 c3 c3l c3c d e w R X) : CallsX E.P 111 #[.agg #[.int .i64 a0, .int .i64 a1, .int .i64 a2, .func (.func 128) #[] #[]], .pointer (some ⟨b, 0, none⟩), Av c0 c1 c2 c3 c3l c3c, .int .i64 d, .int .i64 e] w R X :=
  calls_vc E_ok ⟨[(3, ⟨[(36, .int .i64)], [(0, 0, .slc), (0, 1, .map), (0, 2, .map), (0, 3, .int .i64)]⟩)], [(2, ⟨[], [(0, 0, .slc), (0, 1, .map), (0, 2, .map), (0, 3, .int .i64)]⟩)]⟩ (f := 111) Tryz.func111 rfl [(.agg #[.int .i64 a0, .int .i64 a1, .int .i64 a2, .func (.func 128) #[] #[]], .no), (.pointer (some ⟨b, 0, none⟩), .ptr 0 0), (Av c0 c1 c2 c3 c3l c3c, .no), (.int .i64 d, .no), (.int .i64 e, .no)] [⟨b, 103, false, [⟨.slice b0 b0l b0c, .no, 0⟩, ⟨.map b1, .no, 0⟩, ⟨.map b2, .no, 0⟩, ⟨.int .i64 b3, .no, 0⟩]⟩] (bls1 hb) nod1 (plain_of rfl) (shs_of ⟨trivial, rfl, trivial, trivial, trivial, trivial⟩) h (by kernel_rfl)
theorem vc111_129 {a0 a1 a2 : Int} {b : Nat} {b0 : Option Addr} {b0l b0c : Nat} {b1 b2 : Option Nat} {b3 c0 c1 : Int} {c2 : ByteArray} {c3 : Option Addr} {c3l c3c : Nat} {d e : Int} (hb : w.heap[b]? = some (.cells #[.slice b0 b0l b0c, .map b1, .map b2, .int .i64 b3] 103 (0, 0))) (h : V111 129 a0 a1 a2 b b0 b0l b0c b1 b2 b3 c0 c1 c2 c3 c3l c3c d e w R X) : CallsX E.P 111 #[.agg #[.int .i64 a0, .int .i64 a1, .int .i64 a2, .func (.func 129) #[] #[]], .pointer (some ⟨b, 0, none⟩), Av c0 c1 c2 c3 c3l c3c, .int .i64 d, .int .i64 e] w R X :=
  calls_vc E_ok ⟨[(3, ⟨[(36, .int .i64)], [(0, 0, .slc), (0, 1, .map), (0, 2, .map), (0, 3, .int .i64)]⟩)], [(2, ⟨[], [(0, 0, .slc), (0, 1, .map), (0, 2, .map), (0, 3, .int .i64)]⟩)]⟩ (f := 111) Tryz.func111 rfl [(.agg #[.int .i64 a0, .int .i64 a1, .int .i64 a2, .func (.func 129) #[] #[]], .no), (.pointer (some ⟨b, 0, none⟩), .ptr 0 0), (Av c0 c1 c2 c3 c3l c3c, .no), (.int .i64 d, .no), (.int .i64 e, .no)] [⟨b, 103, false, [⟨.slice b0 b0l b0c, .no, 0⟩, ⟨.map b1, .no, 0⟩, ⟨.map b2, .no, 0⟩, ⟨.int .i64 b3, .no, 0⟩]⟩] (bls1 hb) nod1 (plain_of rfl) (shs_of ⟨trivial, rfl, trivial, trivial, trivial, trivial⟩) h (by kernel_rfl)
theorem vc111_130 {a0 a1 a2 : Int} {ab b : Nat} {b0 : Option Addr} {b0l b0c : Nat} {b1 b2 : Option Nat} {b3 c0 c1 : Int} {c2 : ByteArray} {c3 : Option Addr} {c3l c3c : Nat} {d e : Int} (hb : w.heap[b]? = some (.cells #[.slice b0 b0l b0c, .map b1, .map b2, .int .i64 b3] 103 (0, 0))) (h : 
 nB w fun id => nB w fun id1 => ∃ (I : Option Addr → Nat → Nat → Option Nat → Option Nat → Int → World → Prop), dB ((↑c3l : Int) == a0) (dB (strEq c2 (ByteArray.mk #[])) (fL w [] fun w1 => id < w1.heap.size → id1 < w1.heap.size → cB 130 #[.int .i64 c1, .pointer (some ⟨ab, 0, none⟩)] w1 [b, id, id1] X fun x w2 => hA w2 b #[.slice b0 b0l b0c, Value.map b1, Value.map b2, .int .i64 b3] 103 → cU 109 #[.pointer (some ⟨b, 0, none⟩), .bool x] w2 [id, id1] X fun v2 w21 => ∃ a n, ∃ c r, ∃ r1 x1, hA w21 b #[.slice a n c, Value.map r, Value.map r1, .int .i64 x1] 103 ∧ 4 = 4 ∧ I a n c r r1 x1 w21) (fL w [] fun w11 => id < w11.heap.size → id1 < w11.heap.size → hA w11 b #[.slice b0 b0l b0c, Value.map b1, Value.map b2, .int .i64 b3] 103 → cU 109 #[.pointer (some ⟨b, 0, none⟩), .bool false] w11 [id, id1] X fun v4 w24 => ∃ a1 n1, ∃ c1 r2, ∃ r3 x2, hA w24 b #[.slice a1 n1 c1, Value.map r2, Value.map r3, .int .i64 x2] 103 ∧ 4 = 4 ∧ I a1 n1 c1 r2 r3 x2 w24)) (fL w [] fun w12 => id < w12.heap.size → id1 < w12.heap.size → hA w12 b #[.slice b0 b0l b0c, Value.map b1, Value.map b2, .int .i64 b3] 103 → cU 109 #[.pointer (some ⟨b, 0, none⟩), .bool false] w12 [id, id1] X fun v6 w26 => ∃ a2 n2, ∃ c2 r4, ∃ r5 x3, hA w26 b #[.slice a2 n2 c2, Value.map r4, Value.map r5, .int .i64 x3] 103 ∧ 4 = 4 ∧ I a2 n2 c2 r4 r5 x3 w26) ∧ ∀ (jk : Nat → Value) (a3 : Option Addr) (n3 c3_1 : Nat) (r6 r7 : Option Nat) (x4 : Int) (w28 : World), I a3 n3 c3_1 r6 r7 x4 w28 → ∃ (I1 : Int → Option Addr → Nat → Nat → Option Nat → Option Nat → Int → World → Prop), ∃ (m : Int → Option Addr → Nat → Nat → Option Nat → Option Nat → Int → Nat), I1 0 a3 n3 c3_1 r6 r7 x4 w28 ∧ ∀ (jk1 : Nat → Value) (x5 : Int) (a4 : Option Addr) (n4 c4 : Nat) (r8 r9 : Option Nat) (x6 : Int) (w29 : World), I1 x5 a4 n4 c4 r8 r9 x6 w29 → dB (decide (x5 < (↑c3l : Int))) (iX x5 c3l c3 fun ad => lA w29 (Addr.add ad (Int.toNat x5 * 4)) fun x7 x8 x9 a5 n5 c5 => nB w29 fun id2 => fL w29 [] fun w13 => id2 < w13.heap.size → hA w13 b #[.slice a4 n4 c4, Value.map r8, Value.map r9, .int .i64 x6] 103 → cU 137 #[.pointer (some ⟨b, 0, none⟩), Av x7 x8 x9 a5 n5 c5, .int .i64 a1, .int .i64 d, .int .i64 e] w13 [id, id1, id2] X fun v8 w210 => ∃ a6 n6, ∃ c6 r10, ∃ r11 x10, hA w210 b #[.slice a6 n6 c6, Value.map r10, Value.map r11, .int .i64 x10] 103 ∧ 4 = 4 ∧ I1 (w64 (x5 + 1)) a6 n6 c6 r10 r11 x10 w210 ∧ m (w64 (x5 + 1)) a6 n6 c6 r10 r11 x10 < m x5 a4 n4 c4 r8 r9 x6) (hA w29 b #[.slice a4 n4 c4, Value.map r8, Value.map r9, .int .i64 x6] 103 → R (.int .i64 a2) w29)
 ) : CallsX E.P 111 #[.agg #[.int .i64 a0, .int .i64 a1, .int .i64 a2, .func (.func 130) #[] #[.pointer (some ⟨ab, 0, none⟩)]], .pointer (some ⟨b, 0, none⟩), Av c0 c1 c2 c3 c3l c3c, .int .i64 d, .int .i64 e] w R X :=
  calls_vc E_ok ⟨[(3, ⟨[(36, .int .i64)], [(0, 0, .slc), (0, 1, .map), (0, 2, .map), (0, 3, .int .i64)]⟩)], [(2, ⟨[], [(0, 0, .slc), (0, 1, .map), (0, 2, .map), (0, 3, .int .i64)]⟩)]⟩ (f := 111) Tryz.func111 rfl [(.agg #[.int .i64 a0, .int .i64 a1, .int .i64 a2, .func (.func 130) #[] #[.pointer (some ⟨ab, 0, none⟩)]], .no), (.pointer (some ⟨b, 0, none⟩), .ptr 0 0), (Av c0 c1 c2 c3 c3l c3c, .no), (.int .i64 d, .no), (.int .i64 e, .no)] [⟨b, 103, false, [⟨.slice b0 b0l b0c, .no, 0⟩, ⟨.map b1, .no, 0⟩, ⟨.map b2, .no, 0⟩, ⟨.int .i64 b3, .no, 0⟩]⟩] (bls1 hb) nod1 (plain_of rfl) (shs_of ⟨trivial, rfl, trivial, trivial, trivial, trivial⟩) h (by kernel_rfl)
theorem vc111_131 {a0 a1 a2 : Int} {b : Nat} {b0 : Option Addr} {b0l b0c : Nat} {b1 b2 : Option Nat} {b3 c0 c1 : Int} {c2 : ByteArray} {c3 : Option Addr} {c3l c3c : Nat} {d e : Int} (hb : w.heap[b]? = some (.cells #[.slice b0 b0l b0c, .map b1, .map b2, .int .i64 b3] 103 (0, 0))) (h : V111 131 a0 a1 a2 b b0 b0l b0c b1 b2 b3 c0 c1 c2 c3 c3l c3c d e w R X) : CallsX E.P 111 #[.agg #[.int .i64 a0, .int .i64 a1, .int .i64 a2, .func (.func 131) #[] #[]], .pointer (some ⟨b, 0, none⟩), Av c0 c1 c2 c3 c3l c3c, .int .i64 d, .int .i64 e] w R X :=
  calls_vc E_ok ⟨[(3, ⟨[(36, .int .i64)], [(0, 0, .slc), (0, 1, .map), (0, 2, .map), (0, 3, .int .i64)]⟩)], [(2, ⟨[], [(0, 0, .slc), (0, 1, .map), (0, 2, .map), (0, 3, .int .i64)]⟩)]⟩ (f := 111) Tryz.func111 rfl [(.agg #[.int .i64 a0, .int .i64 a1, .int .i64 a2, .func (.func 131) #[] #[]], .no), (.pointer (some ⟨b, 0, none⟩), .ptr 0 0), (Av c0 c1 c2 c3 c3l c3c, .no), (.int .i64 d, .no), (.int .i64 e, .no)] [⟨b, 103, false, [⟨.slice b0 b0l b0c, .no, 0⟩, ⟨.map b1, .no, 0⟩, ⟨.map b2, .no, 0⟩, ⟨.int .i64 b3, .no, 0⟩]⟩] (bls1 hb) nod1 (plain_of rfl) (shs_of ⟨trivial, rfl, trivial, trivial, trivial, trivial⟩) h (by kernel_rfl)
theorem vc111_134 {a0 a1 a2 : Int} {b : Nat} {b0 : Option Addr} {b0l b0c : Nat} {b1 b2 : Option Nat} {b3 c0 c1 : Int} {c2 : ByteArray} {c3 : Option Addr} {c3l c3c : Nat} {d e : Int} (hb : w.heap[b]? = some (.cells #[.slice b0 b0l b0c, .map b1, .map b2, .int .i64 b3] 103 (0, 0))) (h : V111 134 a0 a1 a2 b b0 b0l b0c b1 b2 b3 c0 c1 c2 c3 c3l c3c d e w R X) : CallsX E.P 111 #[.agg #[.int .i64 a0, .int .i64 a1, .int .i64 a2, .func (.func 134) #[] #[]], .pointer (some ⟨b, 0, none⟩), Av c0 c1 c2 c3 c3l c3c, .int .i64 d, .int .i64 e] w R X :=
  calls_vc E_ok ⟨[(3, ⟨[(36, .int .i64)], [(0, 0, .slc), (0, 1, .map), (0, 2, .map), (0, 3, .int .i64)]⟩)], [(2, ⟨[], [(0, 0, .slc), (0, 1, .map), (0, 2, .map), (0, 3, .int .i64)]⟩)]⟩ (f := 111) Tryz.func111 rfl [(.agg #[.int .i64 a0, .int .i64 a1, .int .i64 a2, .func (.func 134) #[] #[]], .no), (.pointer (some ⟨b, 0, none⟩), .ptr 0 0), (Av c0 c1 c2 c3 c3l c3c, .no), (.int .i64 d, .no), (.int .i64 e, .no)] [⟨b, 103, false, [⟨.slice b0 b0l b0c, .no, 0⟩, ⟨.map b1, .no, 0⟩, ⟨.map b2, .no, 0⟩, ⟨.int .i64 b3, .no, 0⟩]⟩] (bls1 hb) nod1 (plain_of rfl) (shs_of ⟨trivial, rfl, trivial, trivial, trivial, trivial⟩) h (by kernel_rfl)
abbrev V112 (n : Nat) (a0 : Int) (b : Nat) (b0 : Option Addr) (b0l b0c : Nat) (b1 b2 : Option Nat) (b3 c0 c1 : Int) (c2 : ByteArray) (c3 : Option Addr) (c3l c3c : Nat) (d e : Int) (w : World) (R : Value → World → Prop) (X : ContX) : Prop :=
 nB w fun id => nB w fun id1 => ∃ (I : Option Addr → Nat → Nat → Option Nat → Option Nat → Int → World → Prop), dB ((↑c3l : Int) == a0) (fL w [] fun w1 => id < w1.heap.size → id1 < w1.heap.size → hA w1 b #[.slice b0 b0l b0c, Value.map b1, Value.map b2, .int .i64 b3] 103 → cU 109 #[.pointer (some ⟨b, 0, none⟩), .bool (strEq c2 (ByteArray.mk #[]))] w1 [id, id1] X fun v1 w2 => ∃ a n, ∃ c r, ∃ r1 x, hA w2 b #[.slice a n c, Value.map r, Value.map r1, .int .i64 x] 103 ∧ 4 = 4 ∧ I a n c r r1 x w2) (fL w [] fun w11 => id < w11.heap.size → id1 < w11.heap.size → hA w11 b #[.slice b0 b0l b0c, Value.map b1, Value.map b2, .int .i64 b3] 103 → cU 109 #[.pointer (some ⟨b, 0, none⟩), .bool false] w11 [id, id1] X fun v3 w22 => ∃ a1 n1, ∃ c1 r2, ∃ r3 x1, hA w22 b #[.slice a1 n1 c1, Value.map r2, Value.map r3, .int .i64 x1] 103 ∧ 4 = 4 ∧ I a1 n1 c1 r2 r3 x1 w22) ∧ ∀ (jk : Nat → Value) (a2 : Option Addr) (n2 c2_1 : Nat) (r4 r5 : Option Nat) (x2 : Int) (w24 : World), I a2 n2 c2_1 r4 r5 x2 w24 → hA w24 b #[.slice a2 n2 c2_1, Value.map r4, Value.map r5, .int .i64 x2] 103 → ∃ R3 X'2, CallsX E.P n #[.pointer (some ⟨b, 0, none⟩), Av c0 c1 c2 c3 c3l c3c, .int .i64 d, .int .i64 e] w24 R3 X'2 ∧ (∀ v4 w25, R3 v4 w25 → ∃ x3, v4 = .int .i64 x3 ∧ ∃ S2, Upd w24 w25 S2 ∧ Away [id, id1] S2 ∧ ∃ a3 n3, ∃ c3 r6, ∃ r7 x4, hA w25 b #[.slice a3 n3 c3, Value.map r6, Value.map r7, .int .i64 x4] 103 ∧ 4 = 4 ∧ (hA w25 b #[.slice a3 n3 c3, Value.map r6, Value.map r7, .int .i64 x4] 103 → R (.int .i64 x3) w25)) ∧ PX X'2 X
theorem vc112_132 {a0 : Int} {b : Nat} {b0 : Option Addr} {b0l b0c : Nat} {b1 b2 : Option Nat} {b3 c0 c1 : Int} {c2 : ByteArray} {c3 : Option Addr} {c3l c3c : Nat} {d e : Int} (hb : w.heap[b]? = some (.cells #[.slice b0 b0l b0c, .map b1, .map b2, .int .i64 b3] 103 (0, 0))) (h : V112 132 a0 b b0 b0l b0c b1 b2 b3 c0 c1 c2 c3 c3l c3c d e w R X) : CallsX E.P 112 #[.agg #[.int .i64 a0, .func (.func 132) #[] #[]], .pointer (some ⟨b, 0, none⟩), Av c0 c1 c2 c3 c3l c3c, .int .i64 d, .int .i64 e] w R X :=
  calls_vc E_ok ⟨[], [(2, ⟨[], [(0, 0, .slc), (0, 1, .map), (0, 2, .map), (0, 3, .int .i64)]⟩)]⟩ (f := 112) Tryz.func112 rfl [(.agg #[.int .i64 a0, .func (.func 132) #[] #[]], .no), (.pointer (some ⟨b, 0, none⟩), .ptr 0 0), (Av c0 c1 c2 c3 c3l c3c, .no), (.int .i64 d, .no), (.int .i64 e, .no)] [⟨b, 103, false, [⟨.slice b0 b0l b0c, .no, 0⟩, ⟨.map b1, .no, 0⟩, ⟨.map b2, .no, 0⟩, ⟨.int .i64 b3, .no, 0⟩]⟩] (bls1 hb) nod1 (plain_of rfl) (shs_of ⟨trivial, rfl, trivial, trivial, trivial, trivial⟩) h (by kernel_rfl)
theorem vc112_133 {a0 : Int} {b : Nat} {b0 : Option Addr} {b0l b0c : Nat} {b1 b2 : Option Nat} {b3 c0 c1 : Int} {c2 : ByteArray} {c3 : Option Addr} {c3l c3c : Nat} {d e : Int} (hb : w.heap[b]? = some (.cells #[.slice b0 b0l b0c, .map b1, .map b2, .int .i64 b3] 103 (0, 0))) (h : V112 133 a0 b b0 b0l b0c b1 b2 b3 c0 c1 c2 c3 c3l c3c d e w R X) : CallsX E.P 112 #[.agg #[.int .i64 a0, .func (.func 133) #[] #[]], .pointer (some ⟨b, 0, none⟩), Av c0 c1 c2 c3 c3l c3c, .int .i64 d, .int .i64 e] w R X :=
  calls_vc E_ok ⟨[], [(2, ⟨[], [(0, 0, .slc), (0, 1, .map), (0, 2, .map), (0, 3, .int .i64)]⟩)]⟩ (f := 112) Tryz.func112 rfl [(.agg #[.int .i64 a0, .func (.func 133) #[] #[]], .no), (.pointer (some ⟨b, 0, none⟩), .ptr 0 0), (Av c0 c1 c2 c3 c3l c3c, .no), (.int .i64 d, .no), (.int .i64 e, .no)] [⟨b, 103, false, [⟨.slice b0 b0l b0c, .no, 0⟩, ⟨.map b1, .no, 0⟩, ⟨.map b2, .no, 0⟩, ⟨.int .i64 b3, .no, 0⟩]⟩] (bls1 hb) nod1 (plain_of rfl) (shs_of ⟨trivial, rfl, trivial, trivial, trivial, trivial⟩) h (by kernel_rfl)
theorem vc112_135 {a0 : Int} {b : Nat} {b0 : Option Addr} {b0l b0c : Nat} {b1 b2 : Option Nat} {b3 c0 c1 : Int} {c2 : ByteArray} {c3 : Option Addr} {c3l c3c : Nat} {d e : Int} (hb : w.heap[b]? = some (.cells #[.slice b0 b0l b0c, .map b1, .map b2, .int .i64 b3] 103 (0, 0))) (h : V112 135 a0 b b0 b0l b0c b1 b2 b3 c0 c1 c2 c3 c3l c3c d e w R X) : CallsX E.P 112 #[.agg #[.int .i64 a0, .func (.func 135) #[] #[]], .pointer (some ⟨b, 0, none⟩), Av c0 c1 c2 c3 c3l c3c, .int .i64 d, .int .i64 e] w R X :=
  calls_vc E_ok ⟨[], [(2, ⟨[], [(0, 0, .slc), (0, 1, .map), (0, 2, .map), (0, 3, .int .i64)]⟩)]⟩ (f := 112) Tryz.func112 rfl [(.agg #[.int .i64 a0, .func (.func 135) #[] #[]], .no), (.pointer (some ⟨b, 0, none⟩), .ptr 0 0), (Av c0 c1 c2 c3 c3l c3c, .no), (.int .i64 d, .no), (.int .i64 e, .no)] [⟨b, 103, false, [⟨.slice b0 b0l b0c, .no, 0⟩, ⟨.map b1, .no, 0⟩, ⟨.map b2, .no, 0⟩, ⟨.int .i64 b3, .no, 0⟩]⟩] (bls1 hb) nod1 (plain_of rfl) (shs_of ⟨trivial, rfl, trivial, trivial, trivial, trivial⟩) h (by kernel_rfl)
theorem vc112_136 {a0 : Int} {b : Nat} {b0 : Option Addr} {b0l b0c : Nat} {b1 b2 : Option Nat} {b3 c0 c1 : Int} {c2 : ByteArray} {c3 : Option Addr} {c3l c3c : Nat} {d e : Int} (hb : w.heap[b]? = some (.cells #[.slice b0 b0l b0c, .map b1, .map b2, .int .i64 b3] 103 (0, 0))) (h : V112 136 a0 b b0 b0l b0c b1 b2 b3 c0 c1 c2 c3 c3l c3c d e w R X) : CallsX E.P 112 #[.agg #[.int .i64 a0, .func (.func 136) #[] #[]], .pointer (some ⟨b, 0, none⟩), Av c0 c1 c2 c3 c3l c3c, .int .i64 d, .int .i64 e] w R X :=
  calls_vc E_ok ⟨[], [(2, ⟨[], [(0, 0, .slc), (0, 1, .map), (0, 2, .map), (0, 3, .int .i64)]⟩)]⟩ (f := 112) Tryz.func112 rfl [(.agg #[.int .i64 a0, .func (.func 136) #[] #[]], .no), (.pointer (some ⟨b, 0, none⟩), .ptr 0 0), (Av c0 c1 c2 c3 c3l c3c, .no), (.int .i64 d, .no), (.int .i64 e, .no)] [⟨b, 103, false, [⟨.slice b0 b0l b0c, .no, 0⟩, ⟨.map b1, .no, 0⟩, ⟨.map b2, .no, 0⟩, ⟨.int .i64 b3, .no, 0⟩]⟩] (bls1 hb) nod1 (plain_of rfl) (shs_of ⟨trivial, rfl, trivial, trivial, trivial, trivial⟩) h (by kernel_rfl)
end
section
open Go Go.Vx Go.Proofs
set_option maxRecDepth 100000
variable {w : World} {R : Value → World → Prop} {X : ContX}
theorem vc127 {a : Int}  (h : 
 R (.bool true) w
 ) : CallsX E.P 127 #[.int .i64 a] w R X :=
  calls_vc E_ok ⟨[], []⟩ (f := 127) Tryz.func127 rfl [(.int .i64 a, .no)] [] (bls0) nod0 (plain_of rfl) (shs_of ⟨trivial, trivial⟩) h (by kernel_rfl)
theorem vc128 {a : Int}  (h : 
 dB (a == 0) (R (.bool true) w) (R (.bool (a == 1)) w)
 ) : CallsX E.P 128 #[.int .i64 a] w R X :=
  calls_vc E_ok ⟨[], []⟩ (f := 128) Tryz.func128 rfl [(.int .i64 a, .no)] [] (bls0) nod0 (plain_of rfl) (shs_of ⟨trivial, trivial⟩) h (by kernel_rfl)
theorem vc129 {a : Int}  (h : 
 R (.bool (decide (a ≥ 0))) w
 ) : CallsX E.P 129 #[.int .i64 a] w R X :=
  calls_vc E_ok ⟨[], []⟩ (f := 129) Tryz.func129 rfl [(.int .i64 a, .no)] [] (bls0) nod0 (plain_of rfl) (shs_of ⟨trivial, trivial⟩) h (by kernel_rfl)
theorem vc130 {a : Int} {b : Nat} {b0 : Int} (hb : w.heap[b]? = some (.cells #[.int .i64 b0] 3 (0, 0))) (h : 
 dB (decide (a ≥ 0)) (hA w b #[.int .i64 b0] 3 → R (.bool (decide (a < b0))) w) (hA w b #[.int .i64 b0] 3 → R (.bool false) w)
 ) : CallsX E.P 130 #[.int .i64 a, .pointer (some ⟨b, 0, none⟩)] w R X :=
  calls_vc E_ok ⟨[], []⟩ (f := 130) Tryz.func130 rfl [(.int .i64 a, .no), (.pointer (some ⟨b, 0, none⟩), .ptr 0 0)] [⟨b, 3, false, [⟨.int .i64 b0, .no, 0⟩]⟩] (bls1 hb) nod1 (plain_of rfl) (shs_of ⟨trivial, rfl, trivial⟩) h (by kernel_rfl)
theorem vc131 {a : Int}  (h : 
 R (.bool (a == 0)) w
 ) : CallsX E.P 131 #[.int .i64 a] w R X :=
  calls_vc E_ok ⟨[], []⟩ (f := 131) Tryz.func131 rfl [(.int .i64 a, .no)] [] (bls0) nod0 (plain_of rfl) (shs_of ⟨trivial, trivial⟩) h (by kernel_rfl)
theorem vc134 {a : Int}  (h : 
 dB (decide (a ≥ 4)) (R (.bool (decide (a ≤ 9))) w) (R (.bool false) w)
 ) : CallsX E.P 134 #[.int .i64 a] w R X :=
  calls_vc E_ok ⟨[], []⟩ (f := 134) Tryz.func134 rfl [(.int .i64 a, .no)] [] (bls0) nod0 (plain_of rfl) (shs_of ⟨trivial, trivial⟩) h (by kernel_rfl)
theorem vc79 {a : Nat} {a0 : Option Addr} {a0l a0c : Nat} {a1 a2 : Option Nat} {a3 b0 b1 : Int} {b2 : ByteArray} {b3 : Option Addr} {b3l b3c : Nat} {c d : Int} (ha : w.heap[a]? = some (.cells #[.slice a0 a0l a0c, .map a1, .map a2, .int .i64 a3] 103 (0, 0))) (h : 
 nB w fun id => fL w [a] fun w1 => id < w1.heap.size → hA w1 a #[.slice a0 a0l a0c, Value.map a1, Value.map a2, .int .i64 (w64 (a3 + 1))] 103 → cU 109 #[.pointer (some ⟨a, 0, none⟩), .bool (decide (w64 (a3 + 1) ≤ 4096))] w1 [id] X fun v1 w2 => ∃ a1 n, ∃ c1 r, ∃ r1 x, hA w2 a #[.slice a1 n c1, Value.map r, Value.map r1, .int .i64 x] 103 ∧ 4 = 4 ∧ cU 110 #[Av b0 b1 b2 b3 b3l b3c, .int .i64 c] w2 [a, id] X fun v3 w21 => ∃ is x1, ∃ x2 x3, ∃ (v4 : Value), Sem.run E.P (Instr.typeAssert v3 122 125 true) w21 = Result.ok (.tuple #[.agg #[.int .i64 x1, .int .i64 x2, .int .i64 x3, v4], .bool is]) w21 ∧ dB is (nB w21 fun id1 => Value.oneCell' v4 = true ∧ fL w21 [] fun w11 => id1 < w11.heap.size → hA w11 a #[.slice a1 n c1, Value.map r, Value.map r1, .int .i64 x] 103 → cI 111 #[.agg #[.int .i64 x1, .int .i64 x2, .int .i64 x3, v4], .pointer (some ⟨a, 0, none⟩), Av b0 b1 b2 b3 b3l b3c, .int .i64 c, .int .i64 d] w11 [id, id1] X fun x4 w22 => ∃ a2 n1, ∃ c2 r2, ∃ r3 x5, hA w22 a #[.slice a2 n1 c2, Value.map r2, Value.map r3, .int .i64 x5] 103 ∧ 4 = 4 ∧ (hA w22 a #[.slice a2 n1 c2, Value.map r2, Value.map r3, .int .i64 x5] 103 → R (.int .i64 x4) w22)) (∃ is1 x6, ∃ (v6 : Value), Sem.run E.P (Instr.typeAssert v3 122 128 true) w21 = Result.ok (.tuple #[.agg #[.int .i64 x6, v6], .bool is1]) w21 ∧ dB is1 (nB w21 fun id2 => Value.oneCell' v6 = true ∧ fL w21 [] fun w12 => id2 < w12.heap.size → hA w12 a #[.slice a1 n c1, Value.map r, Value.map r1, .int .i64 x] 103 → cI 112 #[.agg #[.int .i64 x6, v6], .pointer (some ⟨a, 0, none⟩), Av b0 b1 b2 b3 b3l b3c, .int .i64 c, .int .i64 d] w12 [id, id2] X fun x7 w24 => ∃ a3 n2, ∃ c3 r4, ∃ r5 x8, hA w24 a #[.slice a3 n2 c3, Value.map r4, Value.map r5, .int .i64 x8] 103 ∧ 4 = 4 ∧ (hA w24 a #[.slice a3 n2 c3, Value.map r4, Value.map r5, .int .i64 x8] 103 → R (.int .i64 x7) w24)) (X [PanicEntry.mk (Value.iface 98 (.agg #[])) false false] w21))
 ) : CallsX E.P 79 #[.pointer (some ⟨a, 0, none⟩), Av b0 b1 b2 b3 b3l b3c, .int .i64 c, .int .i64 d] w R X :=
  calls_vc E_ok ⟨[], []⟩ (f := 79) Tryz.func79 rfl [(.pointer (some ⟨a, 0, none⟩), .ptr 0 0), (Av b0 b1 b2 b3 b3l b3c, .no), (.int .i64 c, .no), (.int .i64 d, .no)] [⟨a, 103, false, [⟨.slice a0 a0l a0c, .no, 0⟩, ⟨.map a1, .no, 0⟩, ⟨.map a2, .no, 0⟩, ⟨.int .i64 a3, .no, 0⟩]⟩] (bls1 ha) nod1 (plain_of rfl) (shs_of ⟨rfl, trivial, trivial, trivial, trivial⟩) h (by kernel_rfl)
end
end Go.Vx.Tryz
namespace Go.Vx
open Go Go.MapKept
section
def bornOk (ps : List (Int × Value × Nat)) (clock : Nat) : Prop := (ps.map (·.2.2)).Nodup ∧ ∀ p ∈ ps, p.2.2 < clock
def MapG (w : World) (r : Nat) (f : Int → Option Value) : Prop :=
  ∃ (ps : List (Int × Value × Nat)) (clock : Nat), w.heap[r]? = some (.map (ps.map entOf).toArray clock) ∧ (∀ k i, (findP k ps i).map (·.2) = f k) ∧ bornOk ps clock
theorem MapG.toF {w : World} {r : Nat} {f : Int → Option Value} (h : MapG w r f) : MapF w r f := by
  obtain ⟨ps, c, h1, h2, _⟩ := h; exact ⟨ps, c, h1, h2⟩
theorem MapG.lt {w : World} {r : Nat} {f : Int → Option Value} (h : MapG w r f) : r < w.heap.size := h.toF.lt
theorem MapG.upd {w w' : World} {r : Nat} {f : Int → Option Value} {S : Nat → Prop} (h : MapG w r f) (k : Upd w w' S) (hs : ¬ S r) : MapG w' r f := by
  obtain ⟨ps, c, h1, h2, h3⟩ := h
  exact ⟨ps, c, by rw [k.keep r (lt_of_get h1) hs]; exact h1, h2, h3⟩
def MapE (w : World) (r : Nat) (f : Int → Option Value) (k : Int) (st : Nat) : Prop :=
  ∃ (ps : List (Int × Value × Nat)) (clock j : Nat) (v0 : Value) (p : Int × Value × Nat), w.heap[r]? = some (.map (ps.map entOf).toArray clock) ∧ bornOk ps clock ∧ ps[j]? = some p ∧ p.1 = k ∧ p.2.2 = st ∧
    findP k ps 0 = some (j, v0) ∧ ∀ k', k' ≠ k → ∀ i, (findP k' ps i).map (·.2) = f k'
theorem MapE.lt {w : World} {r : Nat} {f : Int → Option Value} {k : Int} {st : Nat} (h : MapE w r f k st) : r < w.heap.size := by
  obtain ⟨ps, c, j, v0, p, h1, _⟩ := h; exact lt_of_get h1
theorem MapE.upd {w w' : World} {r : Nat} {f : Int → Option Value} {k : Int} {st : Nat} {S : Nat → Prop} (h : MapE w r f k st) (u : Upd w w' S) (hs : ¬ S r) : MapE w' r f k st := by
  obtain ⟨ps, c, j, v0, p, h1, h2⟩ := h
  exact ⟨ps, c, j, v0, p, by rw [u.keep r (lt_of_get h1) hs]; exact h1, h2⟩
theorem modify_same {k : Int} : ∀ (ps : List (Int × Value × Nat)) (j : Nat) {p : Int × Value × Nat}, ps[j]? = some p → p.1 = k → ps.modify j (fun q => (k, q.2.1, q.2.2)) = ps
  | [], j, p, h, _ => by simp at h
  | q :: ps, 0, p, h, hk => by
    simp at h; subst h; subst hk; rfl
  | q :: ps, j + 1, p, h, hk => by
    simp only [List.modify_succ_cons]
    rw [modify_same ps j (by simpa using h) hk]
theorem map_modify_key {k : Int} : ∀ (ps : List (Int × Value × Nat)) (j : Nat), (ps.map entOf).modify j (fun e => { e with key := .int .i64 k }) = (ps.modify j fun p => (k, p.2.1, p.2.2)).map entOf
  | [], j => by simp
  | p :: ps, 0 => by simp [entOf]
  | p :: ps, j + 1 => by simp [map_modify_key ps j]
theorem map_modify_val {v : Value} : ∀ (ps : List (Int × Value × Nat)) (j : Nat), (ps.map entOf).modify j (fun e => { e with val := v }) = (ps.modify j fun p => (p.1, v, p.2.2)).map entOf
  | [], j => by simp
  | p :: ps, 0 => by simp [entOf]
  | p :: ps, j + 1 => by simp [map_modify_val ps j]
theorem modify_born {v : Value} : ∀ (ps : List (Int × Value × Nat)) (j : Nat), (ps.modify j fun p => (p.1, v, p.2.2)).map (·.2.2) = ps.map (·.2.2)
  | [], j => by simp
  | p :: ps, 0 => by simp
  | p :: ps, j + 1 => by simp [modify_born ps j]
theorem modify_val_key {k : Int} {v : Value} : ∀ (ps : List (Int × Value × Nat)) (j : Nat) {p : Int × Value × Nat}, ps[j]? = some p → p.1 = k → ps.modify j (fun q => (q.1, v, q.2.2)) = ps.modify j (fun q => (k, v, q.2.2))
  | [], j, p, h, _ => by simp at h
  | q :: ps, 0, p, h, hk => by
    simp at h; subst h; subst hk; rfl
  | q :: ps, j + 1, p, h, hk => by
    simp only [List.modify_succ_cons]
    rw [modify_val_key ps j (by simpa using h) hk]
theorem born_find {ps : List (Int × Value × Nat)} {j : Nat} {p : Int × Value × Nat} (hn : (ps.map (·.2.2)).Nodup) (hj : ps[j]? = some p) : (ps.map entOf).findIdx? (fun e => (e.born : Int) == (p.2.2 : Int)) = some j := by
  obtain ⟨hl, he⟩ := List.getElem?_eq_some_iff.1 hj
  rw [List.findIdx?_eq_some_iff_getElem]
  refine ⟨by simpa using hl, by simp [entOf, he], fun i hi => ?_⟩
  have hil : i < ps.length := by omega
  simp only [List.getElem_map, entOf, beq_iff_eq, Int.natCast_inj]
  intro h
  have := List.pairwise_iff_getElem.1 hn i j (by simpa using hil) (by simpa using hl) hi
  apply this
  simp [h, he]
theorem findP_last {k : Int} {v : Value} {c : Nat} : ∀ (ps : List (Int × Value × Nat)) (i : Nat), findP k ps i = none → findP k (ps ++ [(k, v, c)]) i = some (i + ps.length, v)
  | [], i, _ => by simp [findP]
  | p :: ps, i, h => by
    simp only [findP] at h
    split at h
    · cases h
    · rename_i hk
      have := findP_last (k := k) (v := v) (c := c) ps (i + 1) h
      simp only [List.cons_append, findP, hk, Bool.false_eq_true, if_false, this]
      simp; omega
section
variable {P : Program} {t kt et : Nat} {zv : Value} {w : World} {r : Nat} {f : Int → Option Value}
theorem MapG.entry (T : MapT P t kt et zv) (h : MapG w r f) (k : Int) :
    RunsTo P (Instr.mapEntry t (.map (some r)) (.int .i64 k)) w (fun v w' => ∃ (u : Value) (st : Nat), v = .tuple #[u, .int .i64 st] ∧ MapE w' r f k st ∧ Upd w w' (fun x => x = r) ∧ w'.heap.size = w.heap.size) := by
  obtain ⟨ps, c, h1, h2, h3⟩ := h
  have hlt := lt_of_get h1
  have up : ∀ o : Obj, Upd w { w with heap := w.heap.setIfInBounds r o } (fun x => x = r) := fun o => ⟨rfl, rfl, rfl, by simp, fun k hk hS => by simp [Array.getElem?_setIfInBounds_ne (fun e => hS e.symm)]⟩
  have hset : ∀ o : Obj, (setObj r o).run P w = .ok () { w with heap := w.heap.setIfInBounds r o } := fun o => run_setObj_map o h1
  cases hq : findP k ps 0 with
  | none =>
    refine ⟨_, { w with heap := w.heap.setIfInBounds r (.map ((ps.map entOf).toArray.push (entOf (k, zv, c))) (c + 1)) }, ?_, zv, c, rfl, ⟨ps ++ [(k, zv, c)], c + 1, ps.length, zv, (k, zv, c), ?_, ⟨?_, ?_⟩, by simp, rfl, rfl, ?_, fun k' hk' i => ?_⟩, up _, by simp⟩
    · simp only [Instr.mapEntry, Sem.run_bind, run_underlying T.ht, Result.andThen_ok, run_get_map h1, run_check T.hk, run_find T.hk, hq, T.hz]
      rw [show ({ key := .int .i64 k, val := zv, born := c } : MapEntry) = entOf (k, zv, c) from rfl, hset]
      rfl
    · simp [hlt]
    · rw [List.map_append, List.nodup_append]
      refine ⟨h3.1, by simp, fun a ha b hb => ?_⟩
      obtain ⟨p, hp, rfl⟩ := List.mem_map.1 ha
      simp at hb; subst hb
      have := h3.2 p hp
      omega
    · intro p hp
      rcases List.mem_append.1 hp with hp | hp
      · have := h3.2 p hp; omega
      · simp at hp; subst hp; simp
    · have := findP_last (k := k) (v := zv) (c := c) ps 0 hq
      simpa using this
    · have := findP_push k zv c k' ps 0 hq i
      rw [this, if_neg hk', h2]
  | some q =>
    obtain ⟨j, v0⟩ := q
    have hj : j < ps.length := findP_lt k ps 0 (by rw [Nat.zero_add]; exact hq)
    have hkk : k = ps[j].1 := findP_key k ps 0 (by simpa using hq) hj
    have hgj : ps[j]? = some ps[j] := List.getElem?_eq_getElem hj
    refine ⟨_, { w with heap := w.heap.setIfInBounds r (.map (ps.map entOf).toArray c) }, ?_, v0, ps[j].2.2, rfl, ⟨ps, c, j, v0, ps[j], by simp [hlt], h3, hgj, hkk.symm, rfl, hq, fun k' _ i => h2 k' i⟩, up _, by simp⟩
    simp only [Instr.mapEntry, Sem.run_bind, run_underlying T.ht, Result.andThen_ok, run_get_map h1, run_check T.hk, run_find T.hk, hq]
    have hge : (ps.map entOf).toArray[j]? = some (entOf ps[j]) := by
      rw [List.getElem?_toArray, List.getElem?_map, hgj]; rfl
    rw [hge]
    have hst : (Instr.keyThatStays (.int .i64 k) (.int .i64 k)).run P w = .ok (.int .i64 k) w := by
      have hsb : Instr.sameBits 10000 (.int .i64 k) (.int .i64 k) = true := by simp [Instr.sameBits]
      simp [Instr.keyThatStays, hsb]
    have hen : (((some (entOf ps[j])).map (fun e : MapEntry => e.key)).getD (.int .i64 k)) = .int .i64 k := by
      show Value.int .i64 ps[j].1 = _
      rw [← hkk]
    rw [hen, hst, Result.andThen_ok]
    have hmo : (ps.map entOf).toArray.modify j (fun e => { e with key := .int .i64 k }) = (ps.map entOf).toArray := by
      rw [List.modify_toArray, map_modify_key, modify_same ps j hgj hkk.symm]
    have hse := hset (.map (ps.map entOf).toArray c)
    have : (fun e : MapEntry => ({ key := .int .i64 k, val := e.val, born := e.born } : MapEntry)) = (fun e => { e with key := .int .i64 k }) := rfl
    rw [hmo, hse]
    rfl
theorem MapE.store {k : Int} {st : Nat} (h : MapE w r f k st) (v : Value) :
    RunsU P (Instr.entryStore t (.map (some r)) (.int .i64 st) v) w (fun w' => MapG w' r (fun k' => if k' = k then some v else f k') ∧ Upd w w' (fun x => x = r) ∧ w'.heap.size = w.heap.size) := by
  obtain ⟨ps, c, j, v0, p, h1, h3, hp, hk, hst, hq, h2⟩ := h
  have hlt := lt_of_get h1
  have hset : ∀ o : Obj, (setObj r o).run P w = .ok () { w with heap := w.heap.setIfInBounds r o } := fun o => run_setObj_map o h1
  refine ⟨{ w with heap := w.heap.setIfInBounds r (.map ((ps.modify j fun p => (p.1, v, p.2.2)).map entOf).toArray c) }, ?_, ⟨ps.modify j fun p => (p.1, v, p.2.2), c, by simp [hlt], fun k' i => ?_, ⟨by rw [modify_born]; exact h3.1, fun q hq2 => ?_⟩⟩,
    ⟨rfl, rfl, rfl, by simp, fun k hk hS => by simp [Array.getElem?_setIfInBounds_ne (fun e => hS e.symm)]⟩, by simp⟩
  · have hf : (ps.map entOf).toArray.findIdx? (fun e => (e.born : Int) == (st : Int)) = some j := by
      rw [← hst, List.findIdx?_toArray]; exact born_find h3.1 hp
    simp only [Instr.entryStore, Sem.run_bind, run_get_map h1, Result.andThen_ok, asInt, asIntOf, Sem.run_pure, hf]
    rw [List.modify_toArray, map_modify_val, hset]
  · rw [modify_val_key ps j hp hk, findP_set k v k' ps 0 j v0 (by rw [Nat.zero_add]; exact hq) i]
    by_cases hkk : k' = k
    · simp [hkk, hq]
    · simp [hkk, h2 k' hkk]
  · have : q.2.2 ∈ ps.map (·.2.2) := by rw [← modify_born (v := v) ps j]; exact List.mem_map_of_mem hq2
    obtain ⟨p', hp', e⟩ := List.mem_map.1 this
    rw [← e]; exact h3.2 p' hp'
end
end
section
open Go
def KidV (w : World) (F : Nat → Prop) : Option Nd → Option Value → Prop
  | none, v => v = none
  | some x, v => ∃ A l c, v = some (ndA x A l c) ∧ NdsR w F x.kids A l c
structure LMem (w : World) (b g h : Nat) (zs : List Int) (C : Option Addr) (cc : Nat) (ks : List (Option Nd)) (ts : List Int) : Prop where
  hc : IntsR w (Fw b g h) zs C zs.length cc
  hk : ∃ f, MapG w g f ∧ ∀ (i : Nat) (x : Option Nd), ks[i]? = some x → KidV w (Fw b g h) x (f i)
  ht : ∃ f, MapG w h f ∧ ∀ (i : Nat) (y : Nd), ks[i]? = some (some y) → f i = some (.int .i64 (ts.getD i 0))
  kl : ks.length = zs.length
  tl : ts.length = zs.length
  bg : b ≠ g
  bh : b ≠ h
  gh : g ≠ h
def lcells (zs : List Int) (C : Option Addr) (cc g h : Nat) (st : WS) : Array Value :=
  #[.slice C zs.length cc, .map (some g), .map (some h), .int .i64 st.parts]
def Lst (w : World) (b g h : Nat) (zs : List Int) (C : Option Addr) (cc : Nat) (st : WS) : Prop :=
  w.heap[b]? = some (.cells (lcells zs C cc g h st) 103 (0, 0)) ∧ LMem w b g h zs C cc st.ks st.ts
def unfitCh : List PanicEntry := [PanicEntry.mk (Value.iface 98 (.agg (#[]))) false false]
def LR (b g h : Nat) (zs : List Int) (C : Option Addr) (cc : Nat) (w : World) (r : Option (Int × WS)) : Value → World → Prop :=
  fun v w' => ∃ p, r = some p ∧ v = .int .i64 p.1 ∧ Lst w' b g h zs C cc p.2 ∧ Upd w w' (S3 b g h)
def LU (b g h : Nat) (zs : List Int) (C : Option Addr) (cc : Nat) (w : World) (r : Option WS) : Value → World → Prop :=
  fun v w' => ∃ p, r = some p ∧ v = .tuple #[] ∧ Lst w' b g h zs C cc p ∧ Upd w w' (S3 b g h)
def LX {α : Type} (b g h : Nat) (w : World) (r : Option α) : ContX := fun ch w' => r = none ∧ ch = unfitCh ∧ Upd w w' (S3 b g h)
section
variable {w w' : World} {b g h : Nat} {zs : List Int} {C : Option Addr} {cc : Nat} {ks : List (Option Nd)} {ts : List Int} {S : Nat → Prop} {st : WS}
theorem KidV.upd {x : Option Nd} {v : Option Value} {F : Nat → Prop} (q : KidV w F x v) (k : Upd w w' S) (hs : ∀ b, F b → b < w.heap.size → ¬ S b) : KidV w' F x v := by
  cases x with
  | none => exact q
  | some x => obtain ⟨A, l, c, e, hA⟩ := q; exact ⟨A, l, c, e, hA.upd' k hs⟩
theorem LMem.lt (m : LMem w b g h zs C cc ks ts) : g < w.heap.size ∧ h < w.heap.size := by
  obtain ⟨_, ⟨f, hf, _⟩, ⟨f2, hf2, _⟩, _⟩ := m
  exact ⟨hf.lt, hf2.lt⟩
theorem LMem.upd (m : LMem w b g h zs C cc ks ts) (k : Upd w w' S) (hs : ∀ x, S x → x = b ∨ w.heap.size ≤ x) : LMem w' b g h zs C cc ks ts := by
  have hF : ∀ x, Fw b g h x → x < w.heap.size → ¬ S x := fun x hx hlt hS => by
    rcases hs x hS with e | e
    · exact hx (.inl e)
    · omega
  obtain ⟨lg, lh⟩ := m.lt
  obtain ⟨h1, ⟨f, h2, h3⟩, ⟨f2, h4, h5⟩, h6, h7, h8, h9, h10⟩ := m
  refine ⟨RowIn.upd' h1 k hF, ⟨f, h2.upd k fun hS => ?_, fun i x hx => (h3 i x hx).upd k hF⟩, ⟨f2, h4.upd k fun hS => ?_, h5⟩, h6, h7, h8, h9, h10⟩
  · rcases hs g hS with e | e
    · exact h8 e.symm
    · omega
  · rcases hs h hS with e | e
    · exact h9 e.symm
    · omega
theorem Lst.lt (q : Lst w b g h zs C cc st) : b < w.heap.size ∧ g < w.heap.size ∧ h < w.heap.size := ⟨lt_of_get q.1, q.2.lt⟩
theorem LMem.ext (m : LMem w b g h zs C cc ks ts) (k : Ext w w') : LMem w' b g h zs C cc ks ts := m.upd k (fun _ h => h.elim)
theorem Lst.ext (q : Lst w b g h zs C cc st) (k : Ext w w') : Lst w' b g h zs C cc st :=
  ⟨by rw [k.keep b (lt_of_get q.1) (fun h => h)]; exact q.1, q.2.ext k⟩
end
section
variable {P : Program} {f : Nat} {args : Array Value} {w0 w : World} {ids : List Nat} {b g h : Nat} {zs : List Int} {C : Option Addr} {cc : Nat}
theorem callL {α : Type} {r : Option (Int × WS)} {rc : Option α} (hc : CallsX P f args w (LR b g h zs C cc w r) (LX b g h w r)) (h0 : Upd w0 w (S3 b g h)) (haw : Away ids (S3 b g h)) (hn : r = none → rc = none)
    {K : Int → Option Addr → Nat → Nat → Option Nat → Option Nat → Int → World → Prop}
    (k : ∀ x st w2, r = some (x, st) → Lst w2 b g h zs C cc st → Upd w w2 (S3 b g h) → K x C zs.length cc (some g) (some h) st.parts w2) :
    ∃ (R : Value → World → Prop) (X' : ContX), CallsX P f args w R X' ∧ (∀ v w2, R v w2 → ∃ y, v = .int .i64 y ∧ ∃ S, Upd w w2 S ∧ Away ids S ∧ ∃ a1 n c1 r1 r2, ∃ x, w2.heap[b]? = some (Obj.cells #[.slice a1 n c1, .map r1, .map r2, .int .i64 x] 103) ∧ 4 = 4 ∧ K y a1 n c1 r1 r2 x w2) ∧ ∀ ch w2, X' ch w2 → LX b g h w0 rc ch w2 :=
  ⟨_, _, hc, fun _ w2 ⟨p, hp, hv, hw, hU⟩ => ⟨p.1, hv, _, hU, haw, _, _, _, _, _, _, hw.1, rfl, k p.1 p.2 w2 hp hw hU⟩, fun _ _ ⟨e, hch, hU⟩ => ⟨hn e, hch, h0.t3 hU⟩⟩
theorem callLU {α : Type} {r : Option WS} {rc : Option α} (hc : CallsX P f args w (LU b g h zs C cc w r) (LX b g h w r)) (h0 : Upd w0 w (S3 b g h)) (haw : Away ids (S3 b g h)) (hn : r = none → rc = none)
    {K : Option Addr → Nat → Nat → Option Nat → Option Nat → Int → World → Prop}
    (k : ∀ st w2, r = some st → Lst w2 b g h zs C cc st → Upd w w2 (S3 b g h) → K C zs.length cc (some g) (some h) st.parts w2) :
    ∃ (R : Value → World → Prop) (X' : ContX), CallsX P f args w R X' ∧ (∀ v w2, R v w2 → ∃ y : Value, v = y ∧ ∃ S, Upd w w2 S ∧ Away ids S ∧ ∃ a1 n c1 r1 r2, ∃ x, w2.heap[b]? = some (Obj.cells #[.slice a1 n c1, .map r1, .map r2, .int .i64 x] 103) ∧ 4 = 4 ∧ K a1 n c1 r1 r2 x w2) ∧ ∀ ch w2, X' ch w2 → LX b g h w0 rc ch w2 :=
  ⟨_, _, hc, fun v w2 ⟨p, hp, hv, hw, hU⟩ => ⟨v, rfl, _, hU, haw, _, _, _, _, _, _, hw.1, rfl, k p w2 hp hw hU⟩, fun _ _ ⟨e, hch, hU⟩ => ⟨hn e, hch, h0.t3 hU⟩⟩
end
end
end Go.Vx
namespace Go.Vx.Tryz
open Go Go.Vx Go.Proofs
section
set_option maxRecDepth 100000
variable {w : World} {R : Value → World → Prop} {X : ContX}
theorem vc76 {a : Option Addr} {al ac : Nat}   (h : 
 cI 108 #[.slice a al ac, Value.func (Fn.func 77) #[] #[]] w [] X fun x w2 => R (.bool (decide (x ≥ 0))) w2
 ) : CallsX E.P 76 #[.slice a al ac, .func (.func 77) #[] #[]] w R X :=
  calls_vc E_ok ⟨[], []⟩ (f := 76) Tryz.func76 rfl [(.slice a al ac, .no), (.func (.func 77) #[] #[], .no)] [] (bls0) nod0 (plain_of rfl) (shs_of ⟨trivial, trivial, trivial⟩) h (by kernel_rfl)
theorem vc108 {a : Option Addr} {al ac : Nat}   (h : 
 ∃ (I : Int → World → Prop), ∃ (m : Int → Nat), I 0 w ∧ ∀ (jk : Nat → Value) (x : Int) (w2 : World), I x w2 → dB (decide (x < (↑al : Int))) (iX x al a fun ad => lI w2 (Addr.add ad (Int.toNat x * 1)) fun x1 => cB 77 #[.int .i64 x1] w2 [] X fun x2 w21 => dB x2 (R (.int .i64 x) w21) (I (w64 (x + 1)) w21 ∧ m (w64 (x + 1)) < m x)) (R (.int .i64 (-1)) w2)
 ) : CallsX E.P 108 #[.slice a al ac, .func (.func 77) #[] #[]] w R X :=
  calls_vc E_ok ⟨[(2, ⟨[(8, .int .i64)], []⟩)], []⟩ (f := 108) Tryz.func108 rfl [(.slice a al ac, .no), (.func (.func 77) #[] #[], .no)] [] (bls0) nod0 (plain_of rfl) (shs_of ⟨trivial, trivial, trivial⟩) h (by kernel_rfl)
theorem vc77 {a : Int}  (h : 
 dB (decide (a < 0)) (R (.bool true) w) (R (.bool (decide (a > 4))) w)
 ) : CallsX E.P 77 #[.int .i64 a] w R X :=
  calls_vc E_ok ⟨[], []⟩ (f := 77) Tryz.func77 rfl [(.int .i64 a, .no)] [] (bls0) nod0 (plain_of rfl) (shs_of ⟨trivial, trivial⟩) h (by kernel_rfl)
theorem vc109 {a : Nat} {a0 : Option Addr} {a0l a0c : Nat} {a1 a2 : Option Nat} {a3 : Int} {b : Bool} (ha : w.heap[a]? = some (.cells #[.slice a0 a0l a0c, .map a1, .map a2, .int .i64 a3] 103 (0, 0))) (h : 
 dB (!b) (X [PanicEntry.mk (Value.iface 98 (.agg #[])) false false] w) (hA w a #[.slice a0 a0l a0c, Value.map a1, Value.map a2, .int .i64 a3] 103 → R (.tuple #[]) w)
 ) : CallsX E.P 109 #[.pointer (some ⟨a, 0, none⟩), .bool b] w R X :=
  calls_vc E_ok ⟨[], []⟩ (f := 109) Tryz.func109 rfl [(.pointer (some ⟨a, 0, none⟩), .ptr 0 0), (.bool b, .no)] [⟨a, 103, false, [⟨.slice a0 a0l a0c, .no, 0⟩, ⟨.map a1, .no, 0⟩, ⟨.map a2, .no, 0⟩, ⟨.int .i64 a3, .no, 0⟩]⟩] (bls1 ha) nod1 (plain_of rfl) (shs_of ⟨rfl, trivial, trivial⟩) h (by kernel_rfl)
theorem vc110 {a0 a1 : Int} {a2 : ByteArray} {a3 : Option Addr} {a3l a3c : Nat} {b : Int}  (h : 
 nB w fun id => nB w fun id1 => dB (a0 == 1) (fL w [] fun w1 => id < w1.heap.size → id1 < w1.heap.size → hA w1 id1 #[.int .i64 b] 3 → R (Value.iface 125 (.agg #[.int .i64 0, .int .i64 0, .int .i64 1, Value.func (Fn.func 127) #[] #[]])) w1) (dB (a0 == 2) (fL w [] fun w11 => id < w11.heap.size → id1 < w11.heap.size → hA w11 id1 #[.int .i64 b] 3 → R (Value.iface 125 (.agg #[.int .i64 0, .int .i64 0, .int .i64 2, Value.func (Fn.func 128) #[] #[]])) w11) (dB (a0 == 3) (fL w [] fun w12 => id < w12.heap.size → id1 < w12.heap.size → hA w12 id1 #[.int .i64 b] 3 → R (Value.iface 125 (.agg #[.int .i64 0, .int .i64 0, .int .i64 3, Value.func (Fn.func 129) #[] #[]])) w12) (dB (a0 == 5) (fL w [] fun w13 => id < w13.heap.size → id1 < w13.heap.size → hA w13 id1 #[.int .i64 b] 3 → R (Value.iface 125 (.agg #[.int .i64 0, .int .i64 0, .int .i64 3, Value.func (Fn.func 130) #[] #[.pointer (some ⟨id1, 0, none⟩)]])) w13) (dB (a0 == 6) (fL w [] fun w14 => id < w14.heap.size → id1 < w14.heap.size → hA w14 id1 #[.int .i64 b] 3 → R (Value.iface 125 (.agg #[.int .i64 1, .int .i64 1, .int .i64 1, Value.func (Fn.func 131) #[] #[]])) w14) (dB (a0 == 7) (fL w [] fun w15 => id < w15.heap.size → id1 < w15.heap.size → hA w15 id1 #[.int .i64 b] 3 → R (Value.iface 125 (.agg #[.int .i64 1, .int .i64 2, .int .i64 2, Value.func (Fn.func 131) #[] #[]])) w15) (dB (a0 == 8) (fL w [] fun w16 => id < w16.heap.size → id1 < w16.heap.size → hA w16 id1 #[.int .i64 b] 3 → R (Value.iface 125 (.agg #[.int .i64 2, .int .i64 1, .int .i64 1, Value.func (Fn.func 131) #[] #[]])) w16) (dB (a0 == 9) (fL w [] fun w17 => id < w17.heap.size → id1 < w17.heap.size → hA w17 id1 #[.int .i64 b] 3 → R (Value.iface 125 (.agg #[.int .i64 2, .int .i64 1, .int .i64 1, Value.func (Fn.func 131) #[] #[]])) w17) (dB (a0 == 10) (fL w [] fun w18 => id < w18.heap.size → id1 < w18.heap.size → hA w18 id1 #[.int .i64 b] 3 → R (Value.iface 125 (.agg #[.int .i64 2, .int .i64 1, .int .i64 1, Value.func (Fn.func 131) #[] #[]])) w18) (dB (a0 == 11) (fL w [] fun w19 => id < w19.heap.size → id1 < w19.heap.size → hA w19 id1 #[.int .i64 b] 3 → R (Value.iface 125 (.agg #[.int .i64 2, .int .i64 1, .int .i64 1, Value.func (Fn.func 131) #[] #[]])) w19) (dB (a0 == 12) (fL w [] fun w110 => id < w110.heap.size → id1 < w110.heap.size → hA w110 id1 #[.int .i64 b] 3 → R (Value.iface 125 (.agg #[.int .i64 2, .int .i64 1, .int .i64 1, Value.func (Fn.func 131) #[] #[]])) w110) (dB (a0 == 15) (fL w [] fun w111 => id < w111.heap.size → id1 < w111.heap.size → hA w111 id1 #[.int .i64 b] 3 → R (Value.iface 125 (.agg #[.int .i64 2, .int .i64 1, .int .i64 2, Value.func (Fn.func 131) #[] #[]])) w111) (dB (a0 == 16) (fL w [] fun w112 => id < w112.heap.size → id1 < w112.heap.size → hA w112 id1 #[.int .i64 b] 3 → R (Value.iface 125 (.agg #[.int .i64 2, .int .i64 1, .int .i64 2, Value.func (Fn.func 131) #[] #[]])) w112) (dB (a0 == 17) (fL w [] fun w113 => id < w113.heap.size → id1 < w113.heap.size → hA w113 id1 #[.int .i64 b] 3 → R (Value.iface 125 (.agg #[.int .i64 2, .int .i64 2, .int .i64 2, Value.func (Fn.func 131) #[] #[]])) w113) (dB (a0 == 18) (fL w [] fun w114 => id < w114.heap.size → id1 < w114.heap.size → hA w114 id1 #[.int .i64 b] 3 → R (Value.iface 125 (.agg #[.int .i64 2, .int .i64 2, .int .i64 2, Value.func (Fn.func 131) #[] #[]])) w114) (dB (a0 == 13) (fL w [] fun w115 => id < w115.heap.size → id1 < w115.heap.size → hA w115 id1 #[.int .i64 b] 3 → R (Value.iface 128 (.agg #[.int .i64 2, Value.func (Fn.func 132) #[] #[]])) w115) (dB (a0 == 14) (fL w [] fun w116 => id < w116.heap.size → id1 < w116.heap.size → hA w116 id1 #[.int .i64 b] 3 → R (Value.iface 128 (.agg #[.int .i64 2, Value.func (Fn.func 132) #[] #[]])) w116) (dB (a0 == 19) (fL w [] fun w117 => id < w117.heap.size → id1 < w117.heap.size → hA w117 id1 #[.int .i64 b] 3 → R (Value.iface 128 (.agg #[.int .i64 3, Value.func (Fn.func 133) #[] #[]])) w117) (dB (a0 == 20) (dB (a1 == 1) (fL w [] fun w118 => id < w118.heap.size → id1 < w118.heap.size → hA w118 id1 #[.int .i64 b] 3 → R (Value.iface 125 (.agg #[.int .i64 2, .int .i64 3, .int .i64 2, Value.func (Fn.func 127) #[] #[]])) w118) (dB (a1 == 2) (fL w [] fun w119 => id < w119.heap.size → id1 < w119.heap.size → hA w119 id1 #[.int .i64 b] 3 → R (Value.iface 125 (.agg #[.int .i64 2, .int .i64 3, .int .i64 2, Value.func (Fn.func 127) #[] #[]])) w119) (dB (a1 == 3) (fL w [] fun w120 => id < w120.heap.size → id1 < w120.heap.size → hA w120 id1 #[.int .i64 b] 3 → R (Value.iface 125 (.agg #[.int .i64 2, .int .i64 3, .int .i64 1, Value.func (Fn.func 127) #[] #[]])) w120) (dB (a1 == 10) (fL w [] fun w121 => id < w121.heap.size → id1 < w121.heap.size → hA w121 id1 #[.int .i64 b] 3 → R (Value.iface 125 (.agg #[.int .i64 1, .int .i64 3, .int .i64 3, Value.func (Fn.func 127) #[] #[]])) w121) (fL w [] fun w122 => id < w122.heap.size → id1 < w122.heap.size → hA w122 id1 #[.int .i64 b] 3 → R (Value.iface 125 (.agg #[.int .i64 1, .int .i64 3, .int .i64 1, Value.func (Fn.func 134) #[] #[]])) w122))))) (dB (a0 == 21) (fL w [] fun w123 => id < w123.heap.size → id1 < w123.heap.size → hA w123 id1 #[.int .i64 b] 3 → R (Value.iface 128 (.agg #[.int .i64 2, Value.func (Fn.func 135) #[] #[]])) w123) (dB (a0 == 26) (fL w [] fun w124 => id < w124.heap.size → id1 < w124.heap.size → hA w124 id1 #[.int .i64 b] 3 → R (Value.iface 128 (.agg #[.int .i64 1, Value.func (Fn.func 136) #[] #[]])) w124) (fL w [] fun w125 => id < w125.heap.size → id1 < w125.heap.size → hA w125 id1 #[.int .i64 b] 3 → R Value.nilIface w125)))))))))))))))))))))
 ) : CallsX E.P 110 #[Av a0 a1 a2 a3 a3l a3c, .int .i64 b] w R X :=
  calls_vc E_ok ⟨[(400001, ⟨[], []⟩)], []⟩ (f := 110) Tryz.func110 rfl [(Av a0 a1 a2 a3 a3l a3c, .no), (.int .i64 b, .no)] [] (bls0) nod0 (plain_of rfl) (shs_of ⟨trivial, trivial, trivial⟩) h (by kernel_rfl)
theorem vc137 {a : Nat} {a0 : Option Addr} {a0l a0c : Nat} {a1 a2 : Option Nat} {a3 b0 b1 : Int} {b2 : ByteArray} {b3 : Option Addr} {b3l b3c : Nat} {c d e : Int} (ha : w.heap[a]? = some (.cells #[.slice a0 a0l a0c, .map a1, .map a2, .int .i64 a3] 103 (0, 0))) (h : 
 nB w fun id => fL w [] fun w1 => id < w1.heap.size → hA w1 a #[.slice a0 a0l a0c, Value.map a1, Value.map a2, .int .i64 a3] 103 → cI 79 #[.pointer (some ⟨a, 0, none⟩), Av b0 b1 b2 b3 b3l b3c, .int .i64 d, .int .i64 e] w1 [id] X fun x w2 => ∃ a1 n, ∃ c1 r, ∃ r1 x1, hA w2 a #[.slice a1 n c1, Value.map r, Value.map r1, .int .i64 x1] 103 ∧ 4 = 4 ∧ (hA w2 a #[.slice a1 n c1, Value.map r, Value.map r1, .int .i64 x1] 103 → cU 109 #[.pointer (some ⟨a, 0, none⟩), .bool (x == c)] w2 [id] X fun v2 w21 => ∃ a2 n1, ∃ c2 r2, ∃ r3 x2, hA w21 a #[.slice a2 n1 c2, Value.map r2, Value.map r3, .int .i64 x2] 103 ∧ 4 = 4 ∧ (hA w21 a #[.slice a2 n1 c2, Value.map r2, Value.map r3, .int .i64 x2] 103 → R (.tuple #[]) w21))
 ) : CallsX E.P 137 #[.pointer (some ⟨a, 0, none⟩), Av b0 b1 b2 b3 b3l b3c, .int .i64 c, .int .i64 d, .int .i64 e] w R X :=
  calls_vc E_ok ⟨[], []⟩ (f := 137) Tryz.func137 rfl [(.pointer (some ⟨a, 0, none⟩), .ptr 0 0), (Av b0 b1 b2 b3 b3l b3c, .no), (.int .i64 c, .no), (.int .i64 d, .no), (.int .i64 e, .no)] [⟨a, 103, false, [⟨.slice a0 a0l a0c, .no, 0⟩, ⟨.map a1, .no, 0⟩, ⟨.map a2, .no, 0⟩, ⟨.int .i64 a3, .no, 0⟩]⟩] (bls1 ha) nod1 (plain_of rfl) (shs_of ⟨rfl, trivial, trivial, trivial, trivial, trivial⟩) h (by kernel_rfl)
theorem vc149 {a : Nat} {a0 : Option Addr} {a0l a0c : Nat} {a1 a2 : Option Nat} {a3 b0 b1 : Int} {b2 : ByteArray} {b3 : Option Addr} {b3l b3c : Nat} {c d : Int} (ha : w.heap[a]? = some (.cells #[.slice a0 a0l a0c, .map a1, .map a2, .int .i64 a3] 103 (0, 0))) (h : 
 nB w fun id => ∃ (I : Option Addr → Nat → Nat → Option Nat → Option Nat → Int → World → Prop), dB (decide (w64 (a3 + 1) ≤ 4096)) (fL w [a] fun w1 => id < w1.heap.size → hA w1 a #[.slice a0 a0l a0c, Value.map a1, Value.map a2, .int .i64 (w64 (a3 + 1))] 103 → cU 109 #[.pointer (some ⟨a, 0, none⟩), .bool (b1 == 0)] w1 [id] X fun v1 w2 => ∃ a1 n, ∃ c1 r, ∃ r1 x, hA w2 a #[.slice a1 n c1, Value.map r, Value.map r1, .int .i64 x] 103 ∧ 4 = 4 ∧ I a1 n c1 r r1 x w2) (fL w [a] fun w11 => id < w11.heap.size → hA w11 a #[.slice a0 a0l a0c, Value.map a1, Value.map a2, .int .i64 (w64 (a3 + 1))] 103 → cU 109 #[.pointer (some ⟨a, 0, none⟩), .bool false] w11 [id] X fun v3 w22 => ∃ a2 n1, ∃ c2 r2, ∃ r3 x1, hA w22 a #[.slice a2 n1 c2, Value.map r2, Value.map r3, .int .i64 x1] 103 ∧ 4 = 4 ∧ I a2 n1 c2 r2 r3 x1 w22) ∧ ∀ (jk : Nat → Value) (a3 : Option Addr) (n2 c3 : Nat) (r4 r5 : Option Nat) (x2 : Int) (w24 : World), I a3 n2 c3 r4 r5 x2 w24 → ∃ (I1 : Option Addr → Nat → Nat → Option Nat → Option Nat → Int → World → Prop), dB (b0 == 23) (cB 156 #[.string b2] w24 [a, id] X fun x3 w25 => dB x3 (hA w25 a #[.slice a3 n2 c3, Value.map r4, Value.map r5, .int .i64 x2] 103 → cU 109 #[.pointer (some ⟨a, 0, none⟩), .bool ((↑b3l : Int) == 0)] w25 [id] X fun v6 w26 => ∃ a4 n3, ∃ c4 r6, ∃ r7 x4, hA w26 a #[.slice a4 n3 c4, Value.map r6, Value.map r7, .int .i64 x4] 103 ∧ 4 = 4 ∧ (hA w26 a #[.slice a4 n3 c4, Value.map r6, Value.map r7, .int .i64 x4] 103 → R (.tuple #[]) w26)) (hA w25 a #[.slice a3 n2 c3, Value.map r4, Value.map r5, .int .i64 x2] 103 → cU 109 #[.pointer (some ⟨a, 0, none⟩), .bool false] w25 [id] X fun v8 w28 => ∃ a5 n4, ∃ c5 r8, ∃ r9 x5, hA w28 a #[.slice a5 n4 c5, Value.map r8, Value.map r9, .int .i64 x5] 103 ∧ 4 = 4 ∧ (hA w28 a #[.slice a5 n4 c5, Value.map r8, Value.map r9, .int .i64 x5] 103 → R (.tuple #[]) w28))) (dB (b0 == 22) (hA w24 a #[.slice a3 n2 c3, Value.map r4, Value.map r5, .int .i64 x2] 103 → cU 109 #[.pointer (some ⟨a, 0, none⟩), .bool ((↑b3l : Int) == 0)] w24 [id] X fun v10 w211 => ∃ a6 n5, ∃ c6 r10, ∃ r11 x6, hA w211 a #[.slice a6 n5 c6, Value.map r10, Value.map r11, .int .i64 x6] 103 ∧ 4 = 4 ∧ I1 a6 n5 c6 r10 r11 x6 w211) (dB (b0 == 24) (hA w24 a #[.slice a3 n2 c3, Value.map r4, Value.map r5, .int .i64 x2] 103 → cU 109 #[.pointer (some ⟨a, 0, none⟩), .bool ((↑b3l : Int) == 1)] w24 [id] X fun v12 w213 => ∃ a7 n6, ∃ c7 r12, ∃ r13 x7, hA w213 a #[.slice a7 n6 c7, Value.map r12, Value.map r13, .int .i64 x7] 103 ∧ 4 = 4 ∧ I1 a7 n6 c7 r12 r13 x7 w213) (dB (b0 == 25) (I1 a3 n2 c3 r4 r5 x2 w24) (hA w24 a #[.slice a3 n2 c3, Value.map r4, Value.map r5, .int .i64 x2] 103 → cU 109 #[.pointer (some ⟨a, 0, none⟩), .bool false] w24 [id] X fun v14 w215 => ∃ a8 n7, ∃ c8 r14, ∃ r15 x8, hA w215 a #[.slice a8 n7 c8, Value.map r14, Value.map r15, .int .i64 x8] 103 ∧ 4 = 4 ∧ I1 a8 n7 c8 r14 r15 x8 w215)))) ∧ ∀ (jk1 : Nat → Value) (a9 : Option Addr) (n8 c9 : Nat) (r16 r17 : Option Nat) (x9 : Int) (w217 : World), I1 a9 n8 c9 r16 r17 x9 w217 → hA w217 a #[.slice a9 n8 c9, Value.map r16, Value.map r17, .int .i64 x9] 103 → cU 109 #[.pointer (some ⟨a, 0, none⟩), .bool (strEq b2 (ByteArray.mk #[]))] w217 [id] X fun v16 w218 => ∃ a10 n9, ∃ c10 r18, ∃ r19 x10, hA w218 a #[.slice a10 n9 c10, Value.map r18, Value.map r19, .int .i64 x10] 103 ∧ 4 = 4 ∧ ∃ (I2 : Int → Option Addr → Nat → Nat → Option Nat → Option Nat → Int → World → Prop), ∃ (m : Int → Option Addr → Nat → Nat → Option Nat → Option Nat → Int → Nat), I2 0 a10 n9 c10 r18 r19 x10 w218 ∧ ∀ (jk2 : Nat → Value) (x11 : Int) (a11 : Option Addr) (n10 c11 : Nat) (r20 r21 : Option Nat) (x12 : Int) (w219 : World), I2 x11 a11 n10 c11 r20 r21 x12 w219 → dB (decide (x11 < (↑b3l : Int))) (iX x11 b3l b3 fun ad => lA w219 (Addr.add ad (Int.toNat x11 * 4)) fun x13 x14 x15 a12 n11 c12 => nB w219 fun id1 => fL w219 [] fun w12 => id1 < w12.heap.size → hA w12 a #[.slice a11 n10 c11, Value.map r20, Value.map r21, .int .i64 x12] 103 → cU 137 #[.pointer (some ⟨a, 0, none⟩), Av x13 x14 x15 a12 n11 c12, .int .i64 3, .int .i64 c, .int .i64 d] w12 [id, id1] X fun v18 w220 => ∃ a13 n12, ∃ c13 r22, ∃ r23 x16, hA w220 a #[.slice a13 n12 c13, Value.map r22, Value.map r23, .int .i64 x16] 103 ∧ 4 = 4 ∧ I2 (w64 (x11 + 1)) a13 n12 c13 r22 r23 x16 w220 ∧ m (w64 (x11 + 1)) a13 n12 c13 r22 r23 x16 < m x11 a11 n10 c11 r20 r21 x12) (hA w219 a #[.slice a11 n10 c11, Value.map r20, Value.map r21, .int .i64 x12] 103 → R (.tuple #[]) w219)
 ) : CallsX E.P 149 #[.pointer (some ⟨a, 0, none⟩), Av b0 b1 b2 b3 b3l b3c, .int .i64 c, .int .i64 d] w R X :=
  calls_vc E_ok ⟨[(14, ⟨[(72, .int .i64)], [(0, 0, .slc), (0, 1, .map), (0, 2, .map), (0, 3, .int .i64)]⟩)], [(3, ⟨[], [(0, 0, .slc), (0, 1, .map), (0, 2, .map), (0, 3, .int .i64)]⟩), (12, ⟨[], [(0, 0, .slc), (0, 1, .map), (0, 2, .map), (0, 3, .int .i64)]⟩)]⟩ (f := 149) Tryz.func149 rfl [(.pointer (some ⟨a, 0, none⟩), .ptr 0 0), (Av b0 b1 b2 b3 b3l b3c, .no), (.int .i64 c, .no), (.int .i64 d, .no)] [⟨a, 103, false, [⟨.slice a0 a0l a0c, .no, 0⟩, ⟨.map a1, .no, 0⟩, ⟨.map a2, .no, 0⟩, ⟨.int .i64 a3, .no, 0⟩]⟩] (bls1 ha) nod1 (plain_of rfl) (shs_of ⟨rfl, trivial, trivial, trivial, trivial⟩) h (by kernel_rfl)
theorem vc156 {a : ByteArray}  (h : 
 ∃ R1, RunsTo E.P (Instr.range 9 (.string a)) w R1 ∧ ∀ v w2, R1 v w2 → ∃ (v1 : Value), v = v1 ∧ ∃ S, Upd w w2 S ∧ Away [] S ∧ ∃ (I : Nat → World → Prop), ∃ n0, I n0 w2 ∧ ∀ (n : Nat) (jk : Nat → Value) (w21 : World), I n w21 → ∃ R2, RunsTo E.P (Instr.next v1 true 0) w21 R2 ∧ ∀ v2 w22, R2 v2 w22 → ∃ S1, Upd w21 w22 S1 ∧ Away [] S1 ∧ (v2 = .tuple #[.bool false] ∧ (false = true → False) ∧ (false = false → (decide ((↑(ByteArray.size a) : Int) ≥ 1) = true → (decide ((↑(ByteArray.size a) : Int) ≤ 12) = true → ∃ R3 X', CallsX E.P 159 #[.string a] w22 R3 X' ∧ (∀ v3 w23, R3 v3 w23 → ∃ x, v3 = .bool x ∧ ∃ S2, Upd w22 w23 S2 ∧ Away [] S2 ∧ R (.bool !x) w23) ∧ PX X' X) ∧ (decide ((↑(ByteArray.size a) : Int) ≤ 12) = false → R (.bool false) w22)) ∧ (decide ((↑(ByteArray.size a) : Int) ≥ 1) = false → R (.bool false) w22)) ∨ ∃ i r, v2 = .tuple #[.bool true, .int .i64 i, Value.int IntKind.i32 r] ∧ (true = true → ∃ R4 X'1, CallsX E.P 158 #[Value.int IntKind.i32 r] w22 R4 X'1 ∧ (∀ v4 w25, R4 v4 w25 → ∃ x1, v4 = .int .i64 x1 ∧ ∃ S3, Upd w22 w25 S3 ∧ Away [] S3 ∧ ((x1 != 3) = true → ((i == 0) = true → R (.bool false) w25) ∧ ((i == 0) = false → ((x1 != 2) = true → ((x1 != 5) = true → R (.bool false) w25) ∧ ((x1 != 5) = false → ∃ n2, I n2 w25 ∧ n2 < n)) ∧ ((x1 != 2) = false → ∃ n21, I n21 w25 ∧ n21 < n))) ∧ ((x1 != 3) = false → ∃ n22, I n22 w25 ∧ n22 < n)) ∧ PX X'1 X) ∧ (true = false → (decide ((↑(ByteArray.size a) : Int) ≥ 1) = true → (decide ((↑(ByteArray.size a) : Int) ≤ 12) = true → ∃ R5 X'2, CallsX E.P 159 #[.string a] w22 R5 X'2 ∧ (∀ v5 w27, R5 v5 w27 → ∃ x2, v5 = .bool x2 ∧ ∃ S4, Upd w22 w27 S4 ∧ Away [] S4 ∧ R (.bool !x2) w27) ∧ PX X'2 X) ∧ (decide ((↑(ByteArray.size a) : Int) ≤ 12) = false → R (.bool false) w22)) ∧ (decide ((↑(ByteArray.size a) : Int) ≥ 1) = false → R (.bool false) w22)))
 ) : CallsX E.P 156 #[.string a] w R X :=
  calls_vc E_ok ⟨[(2, ⟨[], []⟩), (200002, ⟨[], []⟩)], []⟩ (f := 156) Tryz.func156 rfl [(.string a, .no)] [] (bls0) nod0 (plain_of rfl) (shs_of ⟨trivial, trivial⟩) h (by kernel_rfl)
theorem vc158 {a : Int}  (h : 
 dB (decide (a ≥ 48)) (dB (decide (a ≤ 57)) (R (.int .i64 2) w) (dB (decide (a ≥ 97)) (dB (decide (a ≤ 122)) (R (.int .i64 3) w) (dB (decide (a ≥ 65)) (dB (decide (a ≤ 90)) (R (.int .i64 4) w) (dB (a == 95) (R (.int .i64 5) w) (dB (a == 32) (R (.int .i64 1) w) (dB (a == 9) (R (.int .i64 1) w) (dB (a == 10) (R (.int .i64 1) w) (dB (a == 13) (R (.int .i64 1) w) (dB (decide (a < 128)) (cB 161 #[.string (ByteArray.mk #[40, 41, 123, 125, 44, 58, 64, 43, 45, 42, 47, 37, 61, 60, 33]), Value.int IntKind.i32 a] w [] X fun x w2 => dB x (R (.int .i64 6) w2) (R (.int .i64 0) w2)) (R (.int .i64 0) w)))))))) (dB (a == 95) (R (.int .i64 5) w) (dB (a == 32) (R (.int .i64 1) w) (dB (a == 9) (R (.int .i64 1) w) (dB (a == 10) (R (.int .i64 1) w) (dB (a == 13) (R (.int .i64 1) w) (dB (decide (a < 128)) (cB 161 #[.string (ByteArray.mk #[40, 41, 123, 125, 44, 58, 64, 43, 45, 42, 47, 37, 61, 60, 33]), Value.int IntKind.i32 a] w [] X fun x1 w22 => dB x1 (R (.int .i64 6) w22) (R (.int .i64 0) w22)) (R (.int .i64 0) w))))))))) (dB (decide (a ≥ 65)) (dB (decide (a ≤ 90)) (R (.int .i64 4) w) (dB (a == 95) (R (.int .i64 5) w) (dB (a == 32) (R (.int .i64 1) w) (dB (a == 9) (R (.int .i64 1) w) (dB (a == 10) (R (.int .i64 1) w) (dB (a == 13) (R (.int .i64 1) w) (dB (decide (a < 128)) (cB 161 #[.string (ByteArray.mk #[40, 41, 123, 125, 44, 58, 64, 43, 45, 42, 47, 37, 61, 60, 33]), Value.int IntKind.i32 a] w [] X fun x2 w24 => dB x2 (R (.int .i64 6) w24) (R (.int .i64 0) w24)) (R (.int .i64 0) w)))))))) (dB (a == 95) (R (.int .i64 5) w) (dB (a == 32) (R (.int .i64 1) w) (dB (a == 9) (R (.int .i64 1) w) (dB (a == 10) (R (.int .i64 1) w) (dB (a == 13) (R (.int .i64 1) w) (dB (decide (a < 128)) (cB 161 #[.string (ByteArray.mk #[40, 41, 123, 125, 44, 58, 64, 43, 45, 42, 47, 37, 61, 60, 33]), Value.int IntKind.i32 a] w [] X fun x3 w26 => dB x3 (R (.int .i64 6) w26) (R (.int .i64 0) w26)) (R (.int .i64 0) w)))))))))) (dB (decide (a ≥ 97)) (dB (decide (a ≤ 122)) (R (.int .i64 3) w) (dB (decide (a ≥ 65)) (dB (decide (a ≤ 90)) (R (.int .i64 4) w) (dB (a == 95) (R (.int .i64 5) w) (dB (a == 32) (R (.int .i64 1) w) (dB (a == 9) (R (.int .i64 1) w) (dB (a == 10) (R (.int .i64 1) w) (dB (a == 13) (R (.int .i64 1) w) (dB (decide (a < 128)) (cB 161 #[.string (ByteArray.mk #[40, 41, 123, 125, 44, 58, 64, 43, 45, 42, 47, 37, 61, 60, 33]), Value.int IntKind.i32 a] w [] X fun x4 w28 => dB x4 (R (.int .i64 6) w28) (R (.int .i64 0) w28)) (R (.int .i64 0) w)))))))) (dB (a == 95) (R (.int .i64 5) w) (dB (a == 32) (R (.int .i64 1) w) (dB (a == 9) (R (.int .i64 1) w) (dB (a == 10) (R (.int .i64 1) w) (dB (a == 13) (R (.int .i64 1) w) (dB (decide (a < 128)) (cB 161 #[.string (ByteArray.mk #[40, 41, 123, 125, 44, 58, 64, 43, 45, 42, 47, 37, 61, 60, 33]), Value.int IntKind.i32 a] w [] X fun x5 w210 => dB x5 (R (.int .i64 6) w210) (R (.int .i64 0) w210)) (R (.int .i64 0) w))))))))) (dB (decide (a ≥ 65)) (dB (decide (a ≤ 90)) (R (.int .i64 4) w) (dB (a == 95) (R (.int .i64 5) w) (dB (a == 32) (R (.int .i64 1) w) (dB (a == 9) (R (.int .i64 1) w) (dB (a == 10) (R (.int .i64 1) w) (dB (a == 13) (R (.int .i64 1) w) (dB (decide (a < 128)) (cB 161 #[.string (ByteArray.mk #[40, 41, 123, 125, 44, 58, 64, 43, 45, 42, 47, 37, 61, 60, 33]), Value.int IntKind.i32 a] w [] X fun x6 w212 => dB x6 (R (.int .i64 6) w212) (R (.int .i64 0) w212)) (R (.int .i64 0) w)))))))) (dB (a == 95) (R (.int .i64 5) w) (dB (a == 32) (R (.int .i64 1) w) (dB (a == 9) (R (.int .i64 1) w) (dB (a == 10) (R (.int .i64 1) w) (dB (a == 13) (R (.int .i64 1) w) (dB (decide (a < 128)) (cB 161 #[.string (ByteArray.mk #[40, 41, 123, 125, 44, 58, 64, 43, 45, 42, 47, 37, 61, 60, 33]), Value.int IntKind.i32 a] w [] X fun x7 w214 => dB x7 (R (.int .i64 6) w214) (R (.int .i64 0) w214)) (R (.int .i64 0) w)))))))))
 ) : CallsX E.P 158 #[.int .i32 a] w R X :=
  calls_vc E_ok ⟨[], []⟩ (f := 158) Tryz.func158 rfl [(.int .i32 a, .no)] [] (bls0) nod0 (plain_of rfl) (shs_of ⟨trivial, trivial⟩) h (by kernel_rfl)
theorem vc159 {a : ByteArray}  (h : 
 nB w fun id => fL w [] fun w1 => id < w1.heap.size → hA w1 id #[.string (ByteArray.mk #[97, 108, 108]), .string (ByteArray.mk #[97, 110, 100]), .string (ByteArray.mk #[97, 114, 111, 117, 110, 100]), .string (ByteArray.mk #[98, 108, 111, 99, 107]), .string (ByteArray.mk #[98, 111, 116, 116, 108, 101, 110, 101, 99, 107]), .string (ByteArray.mk #[99, 111, 110, 110, 101, 99, 116, 101, 100]), .string (ByteArray.mk #[99, 111, 117, 110, 116]), .string (ByteArray.mk #[100, 101, 103, 114, 101, 101]), .string (ByteArray.mk #[101, 108, 115, 101]), .string (ByteArray.mk #[102, 97, 108, 115, 101]), .string (ByteArray.mk #[105, 102]), .string (ByteArray.mk #[105, 110]), .string (ByteArray.mk #[108, 101, 97, 115, 116]), .string (ByteArray.mk #[109, 97, 120]), .string (ByteArray.mk #[109, 105, 110]), .string (ByteArray.mk #[109, 111, 115, 116]), .string (ByteArray.mk #[110, 111, 116]), .string (ByteArray.mk #[111, 114]), .string (ByteArray.mk #[114, 101, 112]), .string (ByteArray.mk #[115, 105, 122, 101]), .string (ByteArray.mk #[115, 111, 109, 101]), .string (ByteArray.mk #[115, 117, 109]), .string (ByteArray.mk #[116, 104, 101, 110]), .string (ByteArray.mk #[116, 111, 116, 97, 108]), .string (ByteArray.mk #[116, 114, 117, 101]), .string (ByteArray.mk #[118, 97, 108, 117, 101]), .string (ByteArray.mk #[118, 101, 114, 116, 105, 99, 101, 115])] 9 → ∃ R1 X', CallsX E.P 162 #[.slice (some ⟨id, 0, none⟩) 27 27, .string a] w1 R1 X' ∧ (∀ v w2, R1 v w2 → ∃ x x1, v = .tuple #[.int .i64 x, .bool x1] ∧ ∃ S, Upd w1 w2 S ∧ Away [id] S ∧ (hA w2 id #[.string (ByteArray.mk #[97, 108, 108]), .string (ByteArray.mk #[97, 110, 100]), .string (ByteArray.mk #[97, 114, 111, 117, 110, 100]), .string (ByteArray.mk #[98, 108, 111, 99, 107]), .string (ByteArray.mk #[98, 111, 116, 116, 108, 101, 110, 101, 99, 107]), .string (ByteArray.mk #[99, 111, 110, 110, 101, 99, 116, 101, 100]), .string (ByteArray.mk #[99, 111, 117, 110, 116]), .string (ByteArray.mk #[100, 101, 103, 114, 101, 101]), .string (ByteArray.mk #[101, 108, 115, 101]), .string (ByteArray.mk #[102, 97, 108, 115, 101]), .string (ByteArray.mk #[105, 102]), .string (ByteArray.mk #[105, 110]), .string (ByteArray.mk #[108, 101, 97, 115, 116]), .string (ByteArray.mk #[109, 97, 120]), .string (ByteArray.mk #[109, 105, 110]), .string (ByteArray.mk #[109, 111, 115, 116]), .string (ByteArray.mk #[110, 111, 116]), .string (ByteArray.mk #[111, 114]), .string (ByteArray.mk #[114, 101, 112]), .string (ByteArray.mk #[115, 105, 122, 101]), .string (ByteArray.mk #[115, 111, 109, 101]), .string (ByteArray.mk #[115, 117, 109]), .string (ByteArray.mk #[116, 104, 101, 110]), .string (ByteArray.mk #[116, 111, 116, 97, 108]), .string (ByteArray.mk #[116, 114, 117, 101]), .string (ByteArray.mk #[118, 97, 108, 117, 101]), .string (ByteArray.mk #[118, 101, 114, 116, 105, 99, 101, 115])] 9 → R (.bool x1) w2)) ∧ PX X' X
 ) : CallsX E.P 159 #[.string a] w R X :=
  calls_vc E_ok ⟨[], []⟩ (f := 159) Tryz.func159 rfl [(.string a, .no)] [] (bls0) nod0 (plain_of rfl) (shs_of ⟨trivial, trivial⟩) h (by kernel_rfl)
theorem vc162 {a : Option Addr} {al ac : Nat} {b : ByteArray}  (h : 
 ∃ (I : Int → Int → World → Prop), ∃ (m : Int → Int → Nat), I 0 (↑al : Int) w ∧ ∀ (jk : Nat → Value) (x x1 : Int) (w2 : World), I x x1 w2 → dB (decide (x < x1)) (iX (w64 (IntKind.wrap IntKind.u64 (w64 (x + x1)) / 2)) al a fun ad => lT w2 (Addr.add ad (Int.toNat (w64 (IntKind.wrap IntKind.u64 (w64 (x + x1)) / 2)) * 1)) fun x2 => cB 164 #[.string x2, .string b] w2 [] X fun x3 w21 => dB x3 (I (w64 (w64 (IntKind.wrap IntKind.u64 (w64 (x + x1)) / 2) + 1)) x1 w21 ∧ m (w64 (w64 (IntKind.wrap IntKind.u64 (w64 (x + x1)) / 2) + 1)) x1 < m x x1) (I x (w64 (IntKind.wrap IntKind.u64 (w64 (x + x1)) / 2)) w21 ∧ m x (w64 (IntKind.wrap IntKind.u64 (w64 (x + x1)) / 2)) < m x x1)) (dB (decide (x < (↑al : Int))) (iX x al a fun ad1 => lT w2 (Addr.add ad1 (Int.toNat x * 1)) fun x4 => dB (strEq x4 b) (R (.tuple #[.int .i64 x, .bool true]) w2) (iX x al a fun ad2 => lT w2 (Addr.add ad2 (Int.toNat x * 1)) fun x5 => cB 165 #[.string x5] w2 [] X fun x6 w23 => dB x6 (cB 165 #[.string b] w23 [] X fun x7 w24 => R (.tuple #[.int .i64 x, .bool x7]) w24) (R (.tuple #[.int .i64 x, .bool false]) w23))) (R (.tuple #[.int .i64 x, .bool false]) w2))
 ) : CallsX E.P 162 #[.slice a al ac, .string b] w R X :=
  calls_vc E_ok ⟨[(3, ⟨[(7, .int .i64), (8, .int .i64)], []⟩)], []⟩ (f := 162) Tryz.func162 rfl [(.slice a al ac, .no), (.string b, .no)] [] (bls0) nod0 (plain_of rfl) (shs_of ⟨trivial, trivial, trivial⟩) h (by kernel_rfl)
theorem vc164 {a b : ByteArray}  (h : 
 cB 170 #[.string a] w [] X fun x w2 => dB x (cB 170 #[.string b] w2 [] X fun x1 w21 => dB (!x1) (R (.bool true) w21) (R (.bool (strLt a b)) w21)) (R (.bool (strLt a b)) w2)
 ) : CallsX E.P 164 #[.string a, .string b] w R X :=
  calls_vc E_ok ⟨[], []⟩ (f := 164) Tryz.func164 rfl [(.string a, .no), (.string b, .no)] [] (bls0) nod0 (plain_of rfl) (shs_of ⟨trivial, trivial, trivial⟩) h (by kernel_rfl)
theorem vc165 {a : ByteArray}  (h : 
 R (.bool !strEq a a) w
 ) : CallsX E.P 165 #[.string a] w R X :=
  calls_vc E_ok ⟨[], []⟩ (f := 165) Tryz.func165 rfl [(.string a, .no)] [] (bls0) nod0 (plain_of rfl) (shs_of ⟨trivial, trivial⟩) h (by kernel_rfl)
theorem vc170 {a : ByteArray}  (h : 
 R (.bool !strEq a a) w
 ) : CallsX E.P 170 #[.string a] w R X :=
  calls_vc E_ok ⟨[], []⟩ (f := 170) Tryz.func170 rfl [(.string a, .no)] [] (bls0) nod0 (plain_of rfl) (shs_of ⟨trivial, trivial⟩) h (by kernel_rfl)
end
end Go.Vx.Tryz
namespace Go.Proofs
def Tryz.lays151_ren : Go.Shelf.Ren := ⟨fun | 151 => 161 | 152 => 163 | 137 => 166 | 119 => 167 | 224 => 168 | 225 => 169 | 217 => 171 | 266 => 172 | n => n, fun | 9 => 9 | 21 => 21 | 4 => 4 | 3 => 3 | 5 => 5 | 0 => 0 | 46 => 144 | n => n, fun n => n⟩
theorem Tryz.lays151 : Lays.n151 Tryz.prog Tryz.lays151_ren := { mixed := by kernel_rfl, f119 := Tryz.func167.trans (congrArg some (by kernel_rfl)), f137 := Tryz.func166.trans (congrArg some (by kernel_rfl)), f151 := Tryz.func161.trans (congrArg some (by kernel_rfl)), f152 := Tryz.func163.trans (congrArg some (by kernel_rfl)), f217 := Tryz.func171.trans (congrArg some (by kernel_rfl)), f224 := Tryz.func168.trans (congrArg some (by kernel_rfl)), f225 := Tryz.func169.trans (congrArg some (by kernel_rfl)), f266 := Tryz.func172.trans (congrArg some (by kernel_rfl)), t0 := Tryz.underlying0, a0 := Tryz.isAgg0, z0 := Tryz.sizeOf0, v0 := Tryz.zeroValue0, t3 := Tryz.underlying3, a3 := Tryz.isAgg3, z3 := Tryz.sizeOf3, v3 := Tryz.zeroValue3, t4 := Tryz.underlying4, a4 := Tryz.isAgg4, z4 := Tryz.sizeOf4, v4 := Tryz.zeroValue4, t5 := Tryz.underlying5, a5 := Tryz.isAgg5, z5 := Tryz.sizeOf5, v5 := Tryz.zeroValue5, t9 := Tryz.underlying9, a9 := Tryz.isAgg9, z9 := Tryz.sizeOf9, v9 := Tryz.zeroValue9, t21 := Tryz.underlying21, a21 := Tryz.isAgg21, z21 := Tryz.sizeOf21, v21 := Tryz.zeroValue21, t46 := Tryz.underlying144, a46 := Tryz.isAgg144, z46 := Tryz.sizeOf144, v46 := Tryz.zeroValue144 }
end Go.Proofs
namespace Go.Vx
open Go
section
theorem of_calls {P : Program} {f : Nat} {args : Array Value} {w : World} {Q : Ending → World → Prop} {R : Value → World → Prop} (h : Calls P f args w Q) (k : ∀ e w', Q e w' → ∃ v, e = .returned v ∧ R v w') : CallsX P f args w R never := by
  exact ⟨h.mono fun e w' hq => by obtain ⟨v, rfl, hr⟩ := k e w' hq; exact hr⟩
end
end Go.Vx
namespace Go.Vx.Tryz
open Go Go.Vx Go.Proofs
section
theorem isNaN_c (a : ByteArray) {w : World} : CallsX E.P 170 #[.string a] w (IsV (.bool false) w) never := by
  refine vc170 ?_
  rw [strEq_refl]; exact ⟨rfl, Upd.refl _ _⟩
theorem isNaN2_c (a : ByteArray) {w : World} : CallsX E.P 165 #[.string a] w (IsV (.bool false) w) never := by
  refine vc165 ?_
  rw [strEq_refl]; exact ⟨rfl, Upd.refl _ _⟩
theorem less_c (a b : ByteArray) {w : World} : CallsX E.P 164 #[.string a, .string b] w (IsV (.bool (strLt a b)) w) never := by
  refine vc164 ?_
  exact callB (isNaN_c a) fun w2 hE => ⟨(fun h => nomatch h), fun _ => ⟨rfl, hE⟩⟩
theorem word_row {w : World} {id : Nat} (h : w.heap[id]? = some (.cells (wordsL.map Value.string).toArray 9 (0, 0))) {m : Nat} (hm : m < wordsL.length) {i : Int} (hi : i = (m : Int)) :
    CellsIn w ((⟨id, 0, none⟩ : Addr).add (Int.toNat i * 1)) [.string wordsL[m]] := by
  subst hi
  have := row_cell (j := m) (c := .string wordsL[m]) h (by simp [hm])
  simpa using this
theorem search_c (a : ByteArray) {w : World} {id : Nat} (hh : w.heap[id]? = some (.cells (wordsL.map Value.string).toArray 9 (0, 0))) :
    CallsX E.P 162 #[.slice (some ⟨id, 0, none⟩) 27 27, .string a] w (fun v w' => (∃ x, v = .tuple #[.int .i64 x, .bool (wordIn a wordsL)]) ∧ Ext w w') never := by
  have hL : wordsL.length = 27 := rfl
  have hlt := lt_of_get hh
  refine vc162 ?_
  refine ⟨fun x x1 w2 => ∃ lo hi : Nat, x = lo ∧ x1 = hi ∧ Halved a lo hi ∧ Ext w w2, fun x x1 => (x1 - x).toNat, ⟨0, 27, rfl, rfl, ⟨by omega, by omega, fun i h hl => by omega, fun i h hl => by omega⟩, Upd.refl _ _⟩, ?_⟩
  rintro _ x x1 w2 ⟨lo, hi, rfl, rfl, hH, hE⟩
  have hw2 : w2.heap[id]? = some (.cells (wordsL.map Value.string).toArray 9 (0, 0)) := by rw [hE.keep id hlt (fun h => h)]; exact hh
  have h27 := hH.2.1
  refine ⟨fun hlh => ?_, fun hlh => ?_⟩
  · have hlh : lo < hi := by simpa using hlh
    have hm : w64 (IntKind.wrap .u64 (w64 ((lo : Int) + (hi : Int))) / 2) = (((lo + hi) / 2 : Nat) : Int) := by
      have e1 : w64 ((lo : Int) + (hi : Int)) = ((lo + hi : Nat) : Int) := by rw [w64_id (by omega) (by omega)]; rfl
      have e2 : IntKind.wrap .u64 ((lo + hi : Nat) : Int) = ((lo + hi : Nat) : Int) := by
        simp only [IntKind.wrap, IntKind.bits, IntKind.signed, Bool.false_and, Bool.false_eq_true, if_false]; omega
      rw [e1, e2, w64_id (by omega) (by omega)]; omega
    rw [hm]
    have hmm : (lo + hi) / 2 < wordsL.length := by omega
    refine ⟨by omega, _, rfl, _, word_row hw2 hmm rfl, callB (less_c _ _) fun w3 hE3 => ⟨fun hs => ?_, fun hs => ?_⟩⟩
    · have e3 : w64 ((((lo + hi) / 2 : Nat) : Int) + 1) = (((lo + hi) / 2 + 1 : Nat) : Int) := by rw [w64_id (by omega) (by omega)]; rfl
      rw [e3]
      exact ⟨⟨_, hi, rfl, rfl, hH.up (by omega) (by omega) hmm hs, hE.trans hE3⟩, by dsimp only; omega⟩
    · exact ⟨⟨lo, _, rfl, rfl, hH.down (by omega) (by omega) hmm hs, hE.trans hE3⟩, by dsimp only; omega⟩
  · have hle : ¬ lo < hi := by simpa using hlh
    have : lo = hi := by have := hH.1; omega
    subst this
    have hd := hH.done
    refine ⟨fun h1 => ?_, fun h1 => ?_⟩
    · have h1 : lo < 27 := by simp at h1; omega
      have hll : lo < wordsL.length := by omega
      rw [dif_pos hll] at hd
      refine ⟨by omega, _, rfl, _, word_row hw2 hll rfl, fun he => ⟨⟨_, by rw [hd, he]⟩, hE⟩, fun he => ⟨by omega, _, rfl, _, word_row hw2 hll rfl, ?_⟩⟩
      exact callB (isNaN2_c _) fun w3 hE3 => ⟨(fun h => nomatch h), fun _ => ⟨⟨_, by rw [hd, he]⟩, hE.trans hE3⟩⟩
    · have h1 : ¬ lo < 27 := by simp at h1; omega
      rw [dif_neg (by omega)] at hd
      exact ⟨⟨_, by rw [hd]⟩, hE⟩
theorem isWord_c (a : ByteArray) {w : World} : CallsX E.P 159 #[.string a] w (IsV (.bool (wordIn a wordsL)) w) never := by
  refine vc159 ?_
  intro id hid w1 hE1 hi hh
  refine ⟨_, _, search_c a hh, ?_, never_any⟩
  rintro v w2 ⟨⟨x, rfl⟩, hE2⟩
  exact ⟨_, _, rfl, no, hE2, Away.no _, fun _ => ⟨rfl, hE1.trans hE2⟩⟩
def ClassR (r : Int) (w : World) : Value → World → Prop := fun v w' => ∃ k : Int, v = .int .i64 k ∧ Ext w w' ∧ (k != 3) = !smallB r ∧ (k != 2) = !digitB r ∧ (k != 5) = !(r == 95)
theorem contains_c (s : ByteArray) (r : Int) (h0 : 0 ≤ r) (h1 : r < 128) {w : World} : CallsX E.P 161 #[.string s, .int .i32 r] w (fun v w' => ∃ x : Bool, v = .bool x ∧ Ext w w') never :=
  of_calls (Any.strings_ContainsRune_ascii Tryz.lays151 s r w h0 h1) fun _ _ ⟨he, hw⟩ => ⟨_, he, _, rfl, by rw [hw]; exact Upd.refl _ _⟩
theorem class_c (r : Int) (h0 : 0 ≤ r) {w : World} : CallsX E.P 158 #[.int .i32 r] w (ClassR r w) never := by
  have leaf : ∀ (k : Int) {w2 : World}, Ext w w2 → ((k != 3) = !smallB r) → ((k != 2) = !digitB r) → ((k != 5) = !(r == 95)) → ClassR r w (.int .i64 k) w2 := fun k _ hE a1 a2 a3 => ⟨k, rfl, hE, a1, a2, a3⟩
  have tail : (decide (r ≥ 48) && decide (r ≤ 57)) = false → (decide (r ≥ 97) && decide (r ≤ 122)) = false →
      ((r == 95) = true → ClassR r w (.int .i64 5) w) ∧ ((r == 95) = false → ((r == 32) = true → ClassR r w (.int .i64 1) w) ∧ ((r == 32) = false → ((r == 9) = true → ClassR r w (.int .i64 1) w) ∧ ((r == 9) = false → ((r == 10) = true → ClassR r w (.int .i64 1) w) ∧ ((r == 10) = false → ((r == 13) = true → ClassR r w (.int .i64 1) w) ∧ ((r == 13) = false →
        (decide (r < 128) = true → ∃ (R1 : Value → World → Prop) (X' : ContX), CallsX E.P 161 (#[.string (ByteArray.mk #[40, 41, 123, 125, 44, 58, 64, 43, 45, 42, 47, 37, 61, 60, 33]), .int .i32 r]) w R1 X' ∧ (∀ v w2, R1 v w2 → ∃ x, v = .bool x ∧ ∃ S, Upd w w2 S ∧ Away [] S ∧ (x = true → ClassR r w (.int .i64 6) w2) ∧ (x = false → ClassR r w (.int .i64 0) w2)) ∧ ∀ ch w2, X' ch w2 → never ch w2) ∧
        (decide (r < 128) = false → ClassR r w (.int .i64 0) w)))))) := fun hd hs => by
    have es : smallB r = false := hs
    have ed : digitB r = false := hd
    refine ⟨fun h => leaf 5 (Upd.refl _ _) (by rw [es]; rfl) (by rw [ed]; rfl) (by rw [h]; rfl), fun h => ?_⟩
    have lf : ∀ (k : Int) {w2 : World}, Ext w w2 → k ≠ 3 → k ≠ 2 → k ≠ 5 → ClassR r w (.int .i64 k) w2 := fun k _ hE a1 a2 a3 => leaf k hE (by rw [es]; simpa using a1) (by rw [ed]; simpa using a2) (by rw [h]; simpa using a3)
    refine ⟨fun _ => lf 1 (Upd.refl _ _) (by decide) (by decide) (by decide), fun _ => ⟨fun _ => lf 1 (Upd.refl _ _) (by decide) (by decide) (by decide), fun _ => ⟨fun _ => lf 1 (Upd.refl _ _) (by decide) (by decide) (by decide), fun _ => ⟨fun _ => lf 1 (Upd.refl _ _) (by decide) (by decide) (by decide), fun _ => ⟨fun h8 => ?_, fun _ => lf 0 (Upd.refl _ _) (by decide) (by decide) (by decide)⟩⟩⟩⟩⟩
    refine ⟨_, _, contains_c _ r h0 (by simpa using h8), ?_, never_any⟩
    rintro v w2 ⟨x, rfl, hE⟩
    exact ⟨x, rfl, no, hE, Away.no _, fun _ => lf 6 hE (by decide) (by decide) (by decide), fun _ => lf 0 hE (by decide) (by decide) (by decide)⟩
  have low : ∀ (k : Int), (decide (r ≥ 48) && decide (r ≤ 57)) = false → (decide (r ≥ 97) && decide (r ≤ 122)) = false → r ≤ 90 → k ≠ 3 → k ≠ 2 → k ≠ 5 → ClassR r w (.int .i64 k) w := fun k hd hs hr a1 a2 a3 => by
    have es : smallB r = false := hs
    have ed : digitB r = false := hd
    refine leaf k (Upd.refl _ _) (by rw [es]; simpa using a1) (by rw [ed]; simpa using a2) ?_
    have : (r == 95) = false := by simp; omega
    rw [this]; simpa using a3
  refine vc158 ?_
  refine ⟨fun a1 => ⟨fun a2 => ?_, fun a2 => ?_⟩, fun a1 => ?_⟩
  · simp only [decide_eq_true_eq] at a1 a2
    refine leaf 2 (Upd.refl _ _) ?_ ?_ ?_
    · have : smallB r = false := by simp [smallB]; omega
      rw [this]; rfl
    · have : digitB r = true := by simp [digitB]; omega
      rw [this]; rfl
    · have : (r == 95) = false := by simp; omega
      rw [this]; rfl
  all_goals
    have hd : (decide (r ≥ 48) && decide (r ≤ 57)) = false := by first | simp only [a1, a2, Bool.and_false, Bool.false_and] | simp only [a1, Bool.false_and]
    refine ⟨fun b1 => ⟨fun b2 => ?_, fun b2 => ?_⟩, fun b1 => ?_⟩
    · refine leaf 3 (Upd.refl _ _) ?_ (by rw [show digitB r = false from hd]; rfl) ?_
      · have : smallB r = true := by simp only [smallB, b1, b2, Bool.and_self]
        rw [this]; rfl
      · have : (r == 95) = false := by simp at b1 b2 ⊢; omega
        rw [this]; rfl
    all_goals
      have hs : (decide (r ≥ 97) && decide (r ≤ 122)) = false := by first | simp only [b1, b2, Bool.and_false, Bool.false_and] | simp only [b1, Bool.false_and]
      refine ⟨fun c1 => ⟨fun c2 => low 4 hd hs (by simpa using c2) (by decide) (by decide) (by decide), fun c2 => tail hd hs⟩, fun c1 => tail hd hs⟩
theorem run_get_iter {P : Program} {w : World} {r : Nat} {a : ByteArray} {c : Nat} (h : w.heap[r]? = some (.stringIter a c)) : (getObj r).run P w = .ok (.stringIter a c) w := by
  simp [getObj, Sem.run, h]
theorem run_set_iter {P : Program} {w : World} {r : Nat} {a : ByteArray} {c : Nat} (o : Obj) (h : w.heap[r]? = some (.stringIter a c)) : (setObj r o).run P w = .ok () { w with heap := w.heap.setIfInBounds r o } := by
  have := lt_of_get h
  simp [setObj, Sem.run, h]
theorem lexName_c (a : ByteArray) {w : World} : CallsX E.P 156 #[.string a] w (IsV (.bool (isNameB a)) w) never := by
  refine vc156 ?_
  have hu : E.P.underlying 9 = some .string := by kernel_rfl
  refine ⟨fun v w' => v = .pointer (some ⟨w.heap.size, 0, none⟩) ∧ w' = { w with heap := w.heap.push (.stringIter a 0) }, ?_, ?_⟩
  · refine ⟨_, _, ?_, rfl, rfl⟩
    simp only [Instr.range, Sem.run_bind, run_underlying hu, Result.andThen_ok, Sem.run_pure, run_newObj_alloc]
    rfl
  rintro v w2 ⟨rfl, rfl⟩
  have hE2 : Ext w { w with heap := w.heap.push (.stringIter a 0) } := (Upd.refl w no).push _
  refine ⟨_, rfl, no, hE2, Away.no _, ?_⟩
  refine ⟨fun n w2 => ∃ pos : Nat, w2.heap[w.heap.size]? = some (.stringIter a pos) ∧ n = a.size - pos ∧ (pos = 0 ∨ okName a = nameL ((bytesL a).drop pos)) ∧ Ext w w2, a.size, ⟨0, by simp, rfl, .inl rfl, hE2⟩, ?_⟩
  rintro n _ w3 ⟨pos, hit, rfl, hok, hE3⟩
  have fin : ∀ {w4 : World}, a.size ≤ pos → Ext w w4 → (decide ((a.size : Int) ≥ 1) = true → (decide ((a.size : Int) ≤ 12) = true → ∃ (R1 : Value → World → Prop) (X' : ContX), CallsX E.P 159 (#[.string a]) w4 R1 X' ∧ (∀ v w2, R1 v w2 → ∃ x, v = .bool x ∧ ∃ S, Upd w4 w2 S ∧ Away [] S ∧ IsV (.bool (isNameB a)) w (.bool !x) w2) ∧ ∀ ch w2, X' ch w2 → never ch w2) ∧ (decide ((a.size : Int) ≤ 12) = false → IsV (.bool (isNameB a)) w (.bool false) w4)) ∧ (decide ((a.size : Int) ≥ 1) = false → IsV (.bool (isNameB a)) w (.bool false) w4) := fun hp hE4 => by
    have ho := okName_end hp hok
    rw [isName_eq, ho]
    refine ⟨fun h1 => ⟨fun h2 => ?_, fun h2 => ⟨by simp only [h1, h2, Bool.false_and, Bool.and_false], hE4⟩⟩, fun h1 => ⟨by simp only [h1, Bool.false_and], hE4⟩⟩
    exact callB (isWord_c a) fun w5 hE5 => ⟨by simp only [h1, h2, Bool.true_and], hE4.trans hE5⟩
  have hlt3 := lt_of_get hit
  by_cases hp : pos < a.size
  · obtain ⟨d1, d2, d3, d4, d5⟩ := decode_class a pos
    refine ⟨fun v w' => v = .tuple #[.bool true, .int .i64 pos, .int .i32 ((Utf8.decode a pos).1 : Int)] ∧ w' = { w3 with heap := w3.heap.setIfInBounds w.heap.size (.stringIter a (pos + (Utf8.decode a pos).2)) }, ⟨_, _, ?_, rfl, rfl⟩, ?_⟩
    · simp only [Instr.next, Sem.run_bind, run_get_iter hit, Result.andThen_ok, hp, if_true, run_set_iter _ hit, Sem.run_pure, goInt]
    rintro v w4 ⟨rfl, rfl⟩
    have hU4 : Upd w3 { w3 with heap := w3.heap.setIfInBounds w.heap.size (.stringIter a (pos + (Utf8.decode a pos).2)) } (fun x => x = w.heap.size) :=
      ⟨rfl, rfl, rfl, by simp, fun k hk hS => by simp [Array.getElem?_setIfInBounds_ne (fun e => hS e.symm)]⟩
    have hE4 := hE3.step hU4 (fun b hb => by omega)
    refine ⟨_, hU4, Away.nil _, .inr ⟨pos, _, rfl, fun _ => ?_, fun h => nomatch h⟩⟩
    generalize hw4 : ({ w3 with heap := w3.heap.setIfInBounds w.heap.size (.stringIter a (pos + (Utf8.decode a pos).2)) } : World) = w4 at hU4 hE4
    have hit4 : w4.heap[w.heap.size]? = some (.stringIter a (pos + (Utf8.decode a pos).2)) := by rw [← hw4]; simp [hlt3]
    refine ⟨_, _, class_c _ (by omega), ?_, never_any⟩
    rintro v w5 ⟨k, rfl, hE5, k3, k2, k5⟩
    rw [d1] at k3; rw [d2] at k2; rw [d3] at k5
    have hE05 := hE4.trans hE5
    have bad : smallB (byteAt a pos) = false → (pos = 0 ∨ (digitB (byteAt a pos) = false ∧ (byteAt a pos == 95) = false)) → IsV (.bool (isNameB a)) w (.bool false) w5 := fun h1 h2 => ⟨by rw [isName_eq, okName_bad hp hok h1 h2]; simp, hE05⟩
    have good : (smallB (byteAt a pos) = true ∨ (pos ≠ 0 ∧ (digitB (byteAt a pos) = true ∨ (byteAt a pos == 95) = true))) → ∃ n2 : Nat, (∃ pos : Nat, w5.heap[w.heap.size]? = some (.stringIter a pos) ∧ n2 = a.size - pos ∧ (pos = 0 ∨ okName a = nameL ((bytesL a).drop pos)) ∧ Ext w w5) ∧ n2 < a.size - pos := fun hg => by
      have h1 : (Utf8.decode a pos).2 = 1 := d5 (hg.elim .inl fun h => .inr h.2)
      rw [h1] at hit4
      refine ⟨a.size - (pos + 1), ⟨pos + 1, by rw [hE5.keep _ (lt_of_get hit4) (fun h => h)]; exact hit4, rfl, .inr (okName_step hp hok hg), hE05⟩, by omega⟩
    refine ⟨k, rfl, no, hE5, Away.no _, fun e3 => ?_, fun e3 => good (.inl (by rw [k3] at e3; simpa using e3))⟩
    have f3 : smallB (byteAt a pos) = false := by rw [k3] at e3; simpa using e3
    refine ⟨fun e0 => bad f3 (.inl (by simpa using e0)), fun e0 => ⟨fun e2 => ⟨fun e5 => bad f3 (.inr ⟨by rw [k2] at e2; simpa using e2, by rw [k5] at e5; simpa using e5⟩), fun e5 => good (.inr ⟨by simp at e0; omega, .inr (by rw [k5] at e5; simpa using e5)⟩)⟩, fun e2 => good (.inr ⟨by simp at e0; omega, .inl (by rw [k2] at e2; simpa using e2)⟩)⟩⟩
  · refine ⟨fun v w' => v = .tuple #[.bool false] ∧ w' = w3, ⟨_, _, ?_, rfl, rfl⟩, ?_⟩
    · simp only [Instr.next, Sem.run_bind, run_get_iter hit, Result.andThen_ok, hp, if_false, Sem.run_pure]
    rintro v w4 ⟨rfl, rfl⟩
    exact ⟨no, Upd.refl _ _, Away.no _, .inl ⟨rfl, (fun h => nomatch h), fun _ => fin (by omega) hE3⟩⟩
end
section
open Go Go.Vx Go.Proofs
set_option maxRecDepth 100000
variable {w : World} {R : Value → World → Prop} {X : ContX}
theorem vc75 {a : Nat} {a0 : Option Addr} {a0l a0c : Nat} {a1 : Int} {a2 : Option Addr} {a2l a2c : Nat} {a3 : Option Addr} {a3l a3c : Nat} {a4 : Bool} {b0 b1 : Int} {b2 : ByteArray} {b3 : Option Addr} {b3l b3c : Nat} {c d : Int} (ha : w.heap[a]? = some (.cells #[.slice a0 a0l a0c, .int .i64 a1, .slice a2 a2l a2c, .slice a3 a3l a3c, .bool a4] 93 (0, 0))) (h : 
 nB w fun id => dB (!a4) (fL w [a] fun w1 => id < w1.heap.size → hA w1 a #[.slice a0 a0l a0c, .int .i64 (w64 (a1 + 1)), .slice a2 a2l a2c, .slice a3 a3l a3c, .bool false] 93 → R (.int .i64 0) w1) (dB (decide (w64 (a1 + 1) > 4096)) (fL w [a] fun w11 => id < w11.heap.size → hA w11 a #[.slice a0 a0l a0c, .int .i64 (w64 (a1 + 1)), .slice a2 a2l a2c, .slice a3 a3l a3c, .bool false] 93 → R (.int .i64 0) w11) (fL w [a] fun w12 => id < w12.heap.size → cB 103 #[Av b0 b1 b2 b3 b3l b3c] w12 [a, id] X fun x w2 => dB (!x) (fL w2 [a] fun w13 => hA w13 a #[.slice a0 a0l a0c, .int .i64 (w64 (a1 + 1)), .slice a2 a2l a2c, .slice a3 a3l a3c, .bool false] 93 → R (.int .i64 0) w13) (dB (b0 == 1) (hA w2 a #[.slice a0 a0l a0c, .int .i64 (w64 (a1 + 1)), .slice a2 a2l a2c, .slice a3 a3l a3c, .bool a4] 93 → R (.int .i64 1) w2) (dB (b0 == 2) (hA w2 a #[.slice a0 a0l a0c, .int .i64 (w64 (a1 + 1)), .slice a2 a2l a2c, .slice a3 a3l a3c, .bool a4] 93 → R (.int .i64 2) w2) (dB (b0 == 3) (hA w2 a #[.slice a0 a0l a0c, .int .i64 (w64 (a1 + 1)), .slice a2 a2l a2c, .slice a3 a3l a3c, .bool a4] 93 → R (.int .i64 3) w2) (dB (b0 == 5) (dB (decide (b1 ≥ c)) (fL w2 [a] fun w14 => hA w14 a #[.slice a0 a0l a0c, .int .i64 (w64 (a1 + 1)), .slice a2 a2l a2c, .slice a3 a3l a3c, .bool false] 93 → R (.int .i64 3) w14) (hA w2 a #[.slice a0 a0l a0c, .int .i64 (w64 (a1 + 1)), .slice a2 a2l a2c, .slice a3 a3l a3c, .bool a4] 93 → R (.int .i64 3) w2)) (dB (b0 == 6) (hA w2 a #[.slice a0 a0l a0c, .int .i64 (w64 (a1 + 1)), .slice a2 a2l a2c, .slice a3 a3l a3c, .bool a4] 93 → cI 104 #[.pointer (some ⟨a, 0, none⟩), Av b0 b1 b2 b3 b3l b3c, .int .i64 c, .int .i64 d, .int .i64 1, .int .i64 1] w2 [id] X fun x1 w21 => ∃ a1 n, ∃ c1 x2, ∃ a2 n1, ∃ c2 a3, ∃ n2 c3 x3, hA w21 a #[.slice a1 n c1, .int .i64 x2, .slice a2 n1 c2, .slice a3 n2 c3, .bool x3] 93 ∧ 5 = 5 ∧ (hA w21 a #[.slice a1 n c1, .int .i64 x2, .slice a2 n1 c2, .slice a3 n2 c3, .bool x3] 93 → R (.int .i64 x1) w21)) (dB (b0 == 8) (hA w2 a #[.slice a0 a0l a0c, .int .i64 (w64 (a1 + 1)), .slice a2 a2l a2c, .slice a3 a3l a3c, .bool a4] 93 → cI 104 #[.pointer (some ⟨a, 0, none⟩), Av b0 b1 b2 b3 b3l b3c, .int .i64 c, .int .i64 d, .int .i64 1, .int .i64 1] w2 [id] X fun x4 w23 => ∃ a4 n3, ∃ c4 x5, ∃ a5 n4, ∃ c5 a6, ∃ n5 c6 x6, hA w23 a #[.slice a4 n3 c4, .int .i64 x5, .slice a5 n4 c5, .slice a6 n5 c6, .bool x6] 93 ∧ 5 = 5 ∧ (hA w23 a #[.slice a4 n3 c4, .int .i64 x5, .slice a5 n4 c5, .slice a6 n5 c6, .bool x6] 93 → R (.int .i64 x4) w23)) (dB (b0 == 9) (hA w2 a #[.slice a0 a0l a0c, .int .i64 (w64 (a1 + 1)), .slice a2 a2l a2c, .slice a3 a3l a3c, .bool a4] 93 → cI 104 #[.pointer (some ⟨a, 0, none⟩), Av b0 b1 b2 b3 b3l b3c, .int .i64 c, .int .i64 d, .int .i64 1, .int .i64 1] w2 [id] X fun x7 w25 => ∃ a7 n6, ∃ c7 x8, ∃ a8 n7, ∃ c8 a9, ∃ n8 c9 x9, hA w25 a #[.slice a7 n6 c7, .int .i64 x8, .slice a8 n7 c8, .slice a9 n8 c9, .bool x9] 93 ∧ 5 = 5 ∧ (hA w25 a #[.slice a7 n6 c7, .int .i64 x8, .slice a8 n7 c8, .slice a9 n8 c9, .bool x9] 93 → R (.int .i64 x7) w25)) (dB (b0 == 10) (hA w2 a #[.slice a0 a0l a0c, .int .i64 (w64 (a1 + 1)), .slice a2 a2l a2c, .slice a3 a3l a3c, .bool a4] 93 → cI 104 #[.pointer (some ⟨a, 0, none⟩), Av b0 b1 b2 b3 b3l b3c, .int .i64 c, .int .i64 d, .int .i64 1, .int .i64 1] w2 [id] X fun x10 w27 => ∃ a10 n9, ∃ c10 x11, ∃ a11 n10, ∃ c11 a12, ∃ n11 c12 x12, hA w27 a #[.slice a10 n9 c10, .int .i64 x11, .slice a11 n10 c11, .slice a12 n11 c12, .bool x12] 93 ∧ 5 = 5 ∧ (hA w27 a #[.slice a10 n9 c10, .int .i64 x11, .slice a11 n10 c11, .slice a12 n11 c12, .bool x12] 93 → R (.int .i64 x10) w27)) (dB (b0 == 11) (hA w2 a #[.slice a0 a0l a0c, .int .i64 (w64 (a1 + 1)), .slice a2 a2l a2c, .slice a3 a3l a3c, .bool a4] 93 → cI 104 #[.pointer (some ⟨a, 0, none⟩), Av b0 b1 b2 b3 b3l b3c, .int .i64 c, .int .i64 d, .int .i64 1, .int .i64 1] w2 [id] X fun x13 w29 => ∃ a13 n12, ∃ c13 x14, ∃ a14 n13, ∃ c14 a15, ∃ n14 c15 x15, hA w29 a #[.slice a13 n12 c13, .int .i64 x14, .slice a14 n13 c14, .slice a15 n14 c15, .bool x15] 93 ∧ 5 = 5 ∧ (hA w29 a #[.slice a13 n12 c13, .int .i64 x14, .slice a14 n13 c14, .slice a15 n14 c15, .bool x15] 93 → R (.int .i64 x13) w29)) (dB (b0 == 12) (hA w2 a #[.slice a0 a0l a0c, .int .i64 (w64 (a1 + 1)), .slice a2 a2l a2c, .slice a3 a3l a3c, .bool a4] 93 → cI 104 #[.pointer (some ⟨a, 0, none⟩), Av b0 b1 b2 b3 b3l b3c, .int .i64 c, .int .i64 d, .int .i64 1, .int .i64 1] w2 [id] X fun x16 w211 => ∃ a16 n15, ∃ c16 x17, ∃ a17 n16, ∃ c17 a18, ∃ n17 c18 x18, hA w211 a #[.slice a16 n15 c16, .int .i64 x17, .slice a17 n16 c17, .slice a18 n17 c18, .bool x18] 93 ∧ 5 = 5 ∧ (hA w211 a #[.slice a16 n15 c16, .int .i64 x17, .slice a17 n16 c17, .slice a18 n17 c18, .bool x18] 93 → R (.int .i64 x16) w211)) (dB (b0 == 7) (hA w2 a #[.slice a0 a0l a0c, .int .i64 (w64 (a1 + 1)), .slice a2 a2l a2c, .slice a3 a3l a3c, .bool a4] 93 → cI 104 #[.pointer (some ⟨a, 0, none⟩), Av b0 b1 b2 b3 b3l b3c, .int .i64 c, .int .i64 d, .int .i64 2, .int .i64 2] w2 [id] X fun x19 w213 => ∃ a19 n18, ∃ c19 x20, ∃ a20 n19, ∃ c20 a21, ∃ n20 c21 x21, hA w213 a #[.slice a19 n18 c19, .int .i64 x20, .slice a20 n19 c20, .slice a21 n20 c21, .bool x21] 93 ∧ 5 = 5 ∧ (hA w213 a #[.slice a19 n18 c19, .int .i64 x20, .slice a20 n19 c20, .slice a21 n20 c21, .bool x21] 93 → R (.int .i64 x19) w213)) (dB (b0 == 17) (hA w2 a #[.slice a0 a0l a0c, .int .i64 (w64 (a1 + 1)), .slice a2 a2l a2c, .slice a3 a3l a3c, .bool a4] 93 → cI 104 #[.pointer (some ⟨a, 0, none⟩), Av b0 b1 b2 b3 b3l b3c, .int .i64 c, .int .i64 d, .int .i64 2, .int .i64 2] w2 [id] X fun x22 w215 => ∃ a22 n21, ∃ c22 x23, ∃ a23 n22, ∃ c23 a24, ∃ n23 c24 x24, hA w215 a #[.slice a22 n21 c22, .int .i64 x23, .slice a23 n22 c23, .slice a24 n23 c24, .bool x24] 93 ∧ 5 = 5 ∧ (hA w215 a #[.slice a22 n21 c22, .int .i64 x23, .slice a23 n22 c23, .slice a24 n23 c24, .bool x24] 93 → R (.int .i64 x22) w215)) (dB (b0 == 18) (hA w2 a #[.slice a0 a0l a0c, .int .i64 (w64 (a1 + 1)), .slice a2 a2l a2c, .slice a3 a3l a3c, .bool a4] 93 → cI 104 #[.pointer (some ⟨a, 0, none⟩), Av b0 b1 b2 b3 b3l b3c, .int .i64 c, .int .i64 d, .int .i64 2, .int .i64 2] w2 [id] X fun x25 w217 => ∃ a25 n24, ∃ c25 x26, ∃ a26 n25, ∃ c26 a27, ∃ n26 c27 x27, hA w217 a #[.slice a25 n24 c25, .int .i64 x26, .slice a26 n25 c26, .slice a27 n26 c27, .bool x27] 93 ∧ 5 = 5 ∧ (hA w217 a #[.slice a25 n24 c25, .int .i64 x26, .slice a26 n25 c26, .slice a27 n26 c27, .bool x27] 93 → R (.int .i64 x25) w217)) (dB (b0 == 15) (hA w2 a #[.slice a0 a0l a0c, .int .i64 (w64 (a1 + 1)), .slice a2 a2l a2c, .slice a3 a3l a3c, .bool a4] 93 → cI 104 #[.pointer (some ⟨a, 0, none⟩), Av b0 b1 b2 b3 b3l b3c, .int .i64 c, .int .i64 d, .int .i64 1, .int .i64 2] w2 [id] X fun x28 w219 => ∃ a28 n27, ∃ c28 x29, ∃ a29 n28, ∃ c29 a30, ∃ n29 c30 x30, hA w219 a #[.slice a28 n27 c28, .int .i64 x29, .slice a29 n28 c29, .slice a30 n29 c30, .bool x30] 93 ∧ 5 = 5 ∧ (hA w219 a #[.slice a28 n27 c28, .int .i64 x29, .slice a29 n28 c29, .slice a30 n29 c30, .bool x30] 93 → R (.int .i64 x28) w219)) (dB (b0 == 16) (hA w2 a #[.slice a0 a0l a0c, .int .i64 (w64 (a1 + 1)), .slice a2 a2l a2c, .slice a3 a3l a3c, .bool a4] 93 → cI 104 #[.pointer (some ⟨a, 0, none⟩), Av b0 b1 b2 b3 b3l b3c, .int .i64 c, .int .i64 d, .int .i64 1, .int .i64 2] w2 [id] X fun x31 w221 => ∃ a31 n30, ∃ c31 x32, ∃ a32 n31, ∃ c32 a33, ∃ n32 c33 x33, hA w221 a #[.slice a31 n30 c31, .int .i64 x32, .slice a32 n31 c32, .slice a33 n32 c33, .bool x33] 93 ∧ 5 = 5 ∧ (hA w221 a #[.slice a31 n30 c31, .int .i64 x32, .slice a32 n31 c32, .slice a33 n32 c33, .bool x33] 93 → R (.int .i64 x31) w221)) (dB (b0 == 13) (iX 0 b3l b3 fun ad => lA w2 (Addr.add ad 0) fun x34 x35 x36 a34 n33 c34 => hA w2 a #[.slice a0 a0l a0c, .int .i64 (w64 (a1 + 1)), .slice a2 a2l a2c, .slice a3 a3l a3c, .bool a4] 93 → cI 75 #[.pointer (some ⟨a, 0, none⟩), Av x34 x35 x36 a34 n33 c34, .int .i64 c, .int .i64 d] w2 [id] X fun x37 w223 => ∃ a35 n34, ∃ c35 x38, ∃ a36 n35, ∃ c36 a37, ∃ n36 c37 x39, hA w223 a #[.slice a35 n34 c35, .int .i64 x38, .slice a36 n35 c36, .slice a37 n36 c37, .bool x39] 93 ∧ 5 = 5 ∧ iX 1 b3l b3 fun ad1 => lA w223 (Addr.add ad1 4) fun x40 x41 x42 a38 n37 c38 => hA w223 a #[.slice a35 n34 c35, .int .i64 x38, .slice a36 n35 c36, .slice a37 n36 c37, .bool x39] 93 → cU 105 #[.pointer (some ⟨a, 0, none⟩), Av x40 x41 x42 a38 n37 c38, .int .i64 c, .int .i64 d, .int .i64 x37] w223 [id] X fun v14 w224 => ∃ a39 n38, ∃ c39 x43, ∃ a40 n39, ∃ c40 a41, ∃ n40 c41 x44, hA w224 a #[.slice a39 n38 c39, .int .i64 x43, .slice a40 n39 c40, .slice a41 n40 c41, .bool x44] 93 ∧ 5 = 5 ∧ (hA w224 a #[.slice a39 n38 c39, .int .i64 x43, .slice a40 n39 c40, .slice a41 n40 c41, .bool x44] 93 → R (.int .i64 2) w224)) (dB (b0 == 14) (iX 0 b3l b3 fun ad2 => lA w2 (Addr.add ad2 0) fun x45 x46 x47 a42 n41 c42 => hA w2 a #[.slice a0 a0l a0c, .int .i64 (w64 (a1 + 1)), .slice a2 a2l a2c, .slice a3 a3l a3c, .bool a4] 93 → cI 75 #[.pointer (some ⟨a, 0, none⟩), Av x45 x46 x47 a42 n41 c42, .int .i64 c, .int .i64 d] w2 [id] X fun x48 w227 => ∃ a43 n42, ∃ c43 x49, ∃ a44 n43, ∃ c44 a45, ∃ n44 c45 x50, hA w227 a #[.slice a43 n42 c43, .int .i64 x49, .slice a44 n43 c44, .slice a45 n44 c45, .bool x50] 93 ∧ 5 = 5 ∧ iX 1 b3l b3 fun ad3 => lA w227 (Addr.add ad3 4) fun x51 x52 x53 a46 n45 c46 => hA w227 a #[.slice a43 n42 c43, .int .i64 x49, .slice a44 n43 c44, .slice a45 n44 c45, .bool x50] 93 → cU 105 #[.pointer (some ⟨a, 0, none⟩), Av x51 x52 x53 a46 n45 c46, .int .i64 c, .int .i64 d, .int .i64 x48] w227 [id] X fun v17 w228 => ∃ a47 n46, ∃ c47 x54, ∃ a48 n47, ∃ c48 a49, ∃ n48 c49 x55, hA w228 a #[.slice a47 n46 c47, .int .i64 x54, .slice a48 n47 c48, .slice a49 n48 c49, .bool x55] 93 ∧ 5 = 5 ∧ (hA w228 a #[.slice a47 n46 c47, .int .i64 x54, .slice a48 n47 c48, .slice a49 n48 c49, .bool x55] 93 → R (.int .i64 2) w228)) (dB (b0 == 19) (iX 0 b3l b3 fun ad4 => lA w2 (Addr.add ad4 0) fun x56 x57 x58 a50 n49 c50 => hA w2 a #[.slice a0 a0l a0c, .int .i64 (w64 (a1 + 1)), .slice a2 a2l a2c, .slice a3 a3l a3c, .bool a4] 93 → cU 105 #[.pointer (some ⟨a, 0, none⟩), Av x56 x57 x58 a50 n49 c50, .int .i64 c, .int .i64 d, .int .i64 2] w2 [id] X fun v19 w231 => ∃ a51 n50, ∃ c51 x59, ∃ a52 n51, ∃ c52 a53, ∃ n52 c53 x60, hA w231 a #[.slice a51 n50 c51, .int .i64 x59, .slice a52 n51 c52, .slice a53 n52 c53, .bool x60] 93 ∧ 5 = 5 ∧ iX 1 b3l b3 fun ad5 => lA w231 (Addr.add ad5 4) fun x61 x62 x63 a54 n53 c54 => hA w231 a #[.slice a51 n50 c51, .int .i64 x59, .slice a52 n51 c52, .slice a53 n52 c53, .bool x60] 93 → cI 75 #[.pointer (some ⟨a, 0, none⟩), Av x61 x62 x63 a54 n53 c54, .int .i64 c, .int .i64 d] w231 [id] X fun x64 w232 => ∃ a55 n54, ∃ c55 x65, ∃ a56 n55, ∃ c56 a57, ∃ n56 c57 x66, hA w232 a #[.slice a55 n54 c55, .int .i64 x65, .slice a56 n55 c56, .slice a57 n56 c57, .bool x66] 93 ∧ 5 = 5 ∧ iX 2 b3l b3 fun ad6 => lA w232 (Addr.add ad6 8) fun x67 x68 x69 a58 n57 c58 => hA w232 a #[.slice a55 n54 c55, .int .i64 x65, .slice a56 n55 c56, .slice a57 n56 c57, .bool x66] 93 → cU 105 #[.pointer (some ⟨a, 0, none⟩), Av x67 x68 x69 a58 n57 c58, .int .i64 c, .int .i64 d, .int .i64 x64] w232 [id] X fun v22 w233 => ∃ a59 n58, ∃ c59 x70, ∃ a60 n59, ∃ c60 a61, ∃ n60 c61 x71, hA w233 a #[.slice a59 n58 c59, .int .i64 x70, .slice a60 n59 c60, .slice a61 n60 c61, .bool x71] 93 ∧ 5 = 5 ∧ (hA w233 a #[.slice a59 n58 c59, .int .i64 x70, .slice a60 n59 c60, .slice a61 n60 c61, .bool x71] 93 → R (.int .i64 x64) w233)) (dB (b0 == 20) (fL w2 [] fun w15 => cI 95 #[.int .i64 b1] w15 [a, id] X fun x72 w237 => hA w237 a #[.slice a0 a0l a0c, .int .i64 (w64 (a1 + 1)), .slice a2 a2l a2c, .slice a3 a3l a3c, .bool a4] 93 → cI 104 #[.pointer (some ⟨a, 0, none⟩), Av b0 b1 b2 b3 b3l b3c, .int .i64 c, .int .i64 d, .int .i64 3, .int .i64 x72] w237 [id] X fun x73 w238 => ∃ a62 n61, ∃ c62 x74, ∃ a63 n62, ∃ c63 a64, ∃ n63 c64 x75, hA w238 a #[.slice a62 n61 c62, .int .i64 x74, .slice a63 n62 c63, .slice a64 n63 c64, .bool x75] 93 ∧ 5 = 5 ∧ (hA w238 a #[.slice a62 n61 c62, .int .i64 x74, .slice a63 n62 c63, .slice a64 n63 c64, .bool x75] 93 → R (.int .i64 x73) w238)) (dB (b0 == 21) (hA w2 a #[.slice a0 a0l a0c, .int .i64 (w64 (a1 + 1)), .slice a2 a2l a2c, .slice a3 a3l a3c, .bool a4] 93 → cI 106 #[.pointer (some ⟨a, 0, none⟩), Av b0 b1 b2 b3 b3l b3c, .int .i64 c, .int .i64 d] w2 [id] X fun x76 w241 => ∃ a65 n64, ∃ c65 x77, ∃ a66 n65, ∃ c66 a67, ∃ n66 c67 x78, hA w241 a #[.slice a65 n64 c65, .int .i64 x77, .slice a66 n65 c66, .slice a67 n66 c67, .bool x78] 93 ∧ 5 = 5 ∧ (hA w241 a #[.slice a65 n64 c65, .int .i64 x77, .slice a66 n65 c66, .slice a67 n66 c67, .bool x78] 93 → R (.int .i64 x76) w241)) (dB (b0 == 26) (hA w2 a #[.slice a0 a0l a0c, .int .i64 (w64 (a1 + 1)), .slice a2 a2l a2c, .slice a3 a3l a3c, .bool a4] 93 → cI 107 #[.pointer (some ⟨a, 0, none⟩), Av b0 b1 b2 b3 b3l b3c, .int .i64 c, .int .i64 d] w2 [id] X fun x79 w243 => ∃ a68 n67, ∃ c68 x80, ∃ a69 n68, ∃ c69 a70, ∃ n69 c70 x81, hA w243 a #[.slice a68 n67 c68, .int .i64 x80, .slice a69 n68 c69, .slice a70 n69 c70, .bool x81] 93 ∧ 5 = 5 ∧ (hA w243 a #[.slice a68 n67 c68, .int .i64 x80, .slice a69 n68 c69, .slice a70 n69 c70, .bool x81] 93 → R (.int .i64 x79) w243)) (fL w2 [a] fun w16 => hA w16 a #[.slice a0 a0l a0c, .int .i64 (w64 (a1 + 1)), .slice a2 a2l a2c, .slice a3 a3l a3c, .bool false] 93 → R (.int .i64 0) w16))))))))))))))))))))))))
 ) : CallsX E.P 75 #[.pointer (some ⟨a, 0, none⟩), Av b0 b1 b2 b3 b3l b3c, .int .i64 c, .int .i64 d] w R X :=
  calls_vc E_ok ⟨[], []⟩ (f := 75) Tryz.func75 rfl [(.pointer (some ⟨a, 0, none⟩), .ptr 0 0), (Av b0 b1 b2 b3 b3l b3c, .no), (.int .i64 c, .no), (.int .i64 d, .no)] [⟨a, 93, false, [⟨.slice a0 a0l a0c, .no, 0⟩, ⟨.int .i64 a1, .no, 0⟩, ⟨.slice a2 a2l a2c, .no, 0⟩, ⟨.slice a3 a3l a3c, .no, 0⟩, ⟨.bool a4, .no, 0⟩]⟩] (bls1 ha) nod1 (plain_of rfl) (shs_of ⟨rfl, trivial, trivial, trivial, trivial⟩) h (by kernel_rfl)
theorem vc104 {a : Nat} {a0 : Option Addr} {a0l a0c : Nat} {a1 : Int} {a2 : Option Addr} {a2l a2c : Nat} {a3 : Option Addr} {a3l a3c : Nat} {a4 : Bool} {b0 b1 : Int} {b2 : ByteArray} {b3 : Option Addr} {b3l b3c : Nat} {c d e f : Int} (ha : w.heap[a]? = some (.cells #[.slice a0 a0l a0c, .int .i64 a1, .slice a2 a2l a2c, .slice a3 a3l a3c, .bool a4] 93 (0, 0))) (h : 
 nB w fun id => fL w [] fun w1 => id < w1.heap.size → ∃ (I : Int → Option Addr → Nat → Nat → Int → Option Addr → Nat → Nat → Option Addr → Nat → Nat → Bool → World → Prop), ∃ (m : Int → Option Addr → Nat → Nat → Int → Option Addr → Nat → Nat → Option Addr → Nat → Nat → Bool → Nat), I 0 a0 a0l a0c a1 a2 a2l a2c a3 a3l a3c a4 w1 ∧ ∀ (jk : Nat → Value) (x : Int) (a1 : Option Addr) (n c1 : Nat) (x1 : Int) (a2 : Option Addr) (n1 c2 : Nat) (a3 : Option Addr) (n2 c3 : Nat) (x2 : Bool) (w2 : World), I x a1 n c1 x1 a2 n1 c2 a3 n2 c3 x2 w2 → dB (decide (x < (↑b3l : Int))) (iX x b3l b3 fun ad => lA w2 (Addr.add ad (Int.toNat x * 4)) fun x3 x4 x5 a4 n3 c4 => hA w2 a #[.slice a1 n c1, .int .i64 x1, .slice a2 n1 c2, .slice a3 n2 c3, .bool x2] 93 → cU 105 #[.pointer (some ⟨a, 0, none⟩), Av x3 x4 x5 a4 n3 c4, .int .i64 c, .int .i64 d, .int .i64 e] w2 [id] X fun v1 w21 => ∃ a5 n4, ∃ c5 x6, ∃ a6 n5, ∃ c6 a7, ∃ n6 c7 x7, hA w21 a #[.slice a5 n4 c5, .int .i64 x6, .slice a6 n5 c6, .slice a7 n6 c7, .bool x7] 93 ∧ 5 = 5 ∧ I (w64 (x + 1)) a5 n4 c5 x6 a6 n5 c6 a7 n6 c7 x7 w21 ∧ m (w64 (x + 1)) a5 n4 c5 x6 a6 n5 c6 a7 n6 c7 x7 < m x a1 n c1 x1 a2 n1 c2 a3 n2 c3 x2) (hA w2 a #[.slice a1 n c1, .int .i64 x1, .slice a2 n1 c2, .slice a3 n2 c3, .bool x2] 93 → R (.int .i64 f) w2)
 ) : CallsX E.P 104 #[.pointer (some ⟨a, 0, none⟩), Av b0 b1 b2 b3 b3l b3c, .int .i64 c, .int .i64 d, .int .i64 e, .int .i64 f] w R X :=
  calls_vc E_ok ⟨[(2, ⟨[(13, .int .i64)], [(0, 0, .slc), (0, 1, .int .i64), (0, 2, .slc), (0, 3, .slc), (0, 4, .bool)]⟩)], []⟩ (f := 104) Tryz.func104 rfl [(.pointer (some ⟨a, 0, none⟩), .ptr 0 0), (Av b0 b1 b2 b3 b3l b3c, .no), (.int .i64 c, .no), (.int .i64 d, .no), (.int .i64 e, .no), (.int .i64 f, .no)] [⟨a, 93, false, [⟨.slice a0 a0l a0c, .no, 0⟩, ⟨.int .i64 a1, .no, 0⟩, ⟨.slice a2 a2l a2c, .no, 0⟩, ⟨.slice a3 a3l a3c, .no, 0⟩, ⟨.bool a4, .no, 0⟩]⟩] (bls1 ha) nod1 (plain_of rfl) (shs_of ⟨rfl, trivial, trivial, trivial, trivial, trivial, trivial⟩) h (by kernel_rfl)
theorem vc105 {a : Nat} {a0 : Option Addr} {a0l a0c : Nat} {a1 : Int} {a2 : Option Addr} {a2l a2c : Nat} {a3 : Option Addr} {a3l a3c : Nat} {a4 : Bool} {b0 b1 : Int} {b2 : ByteArray} {b3 : Option Addr} {b3l b3c : Nat} {c d e : Int} (ha : w.heap[a]? = some (.cells #[.slice a0 a0l a0c, .int .i64 a1, .slice a2 a2l a2c, .slice a3 a3l a3c, .bool a4] 93 (0, 0))) (h : 
 nB w fun id => fL w [] fun w1 => id < w1.heap.size → hA w1 a #[.slice a0 a0l a0c, .int .i64 a1, .slice a2 a2l a2c, .slice a3 a3l a3c, .bool a4] 93 → cI 75 #[.pointer (some ⟨a, 0, none⟩), Av b0 b1 b2 b3 b3l b3c, .int .i64 c, .int .i64 d] w1 [id] X fun x w2 => ∃ a1 n, ∃ c1 x1, ∃ a2 n1, ∃ c2 a3, ∃ n2 c3 x2, hA w2 a #[.slice a1 n c1, .int .i64 x1, .slice a2 n1 c2, .slice a3 n2 c3, .bool x2] 93 ∧ 5 = 5 ∧ dB (x != e) (fL w2 [a] fun w11 => hA w11 a #[.slice a1 n c1, .int .i64 x1, .slice a2 n1 c2, .slice a3 n2 c3, .bool false] 93 → R (.tuple #[]) w11) (hA w2 a #[.slice a1 n c1, .int .i64 x1, .slice a2 n1 c2, .slice a3 n2 c3, .bool x2] 93 → R (.tuple #[]) w2)
 ) : CallsX E.P 105 #[.pointer (some ⟨a, 0, none⟩), Av b0 b1 b2 b3 b3l b3c, .int .i64 c, .int .i64 d, .int .i64 e] w R X :=
  calls_vc E_ok ⟨[], []⟩ (f := 105) Tryz.func105 rfl [(.pointer (some ⟨a, 0, none⟩), .ptr 0 0), (Av b0 b1 b2 b3 b3l b3c, .no), (.int .i64 c, .no), (.int .i64 d, .no), (.int .i64 e, .no)] [⟨a, 93, false, [⟨.slice a0 a0l a0c, .no, 0⟩, ⟨.int .i64 a1, .no, 0⟩, ⟨.slice a2 a2l a2c, .no, 0⟩, ⟨.slice a3 a3l a3c, .no, 0⟩, ⟨.bool a4, .no, 0⟩]⟩] (bls1 ha) nod1 (plain_of rfl) (shs_of ⟨rfl, trivial, trivial, trivial, trivial, trivial⟩) h (by kernel_rfl)
theorem vc106 {a : Nat} {a0 : Option Addr} {a0l a0c : Nat} {a1 : Int} {a2 : Option Addr} {a2l a2c : Nat} {a3 : Option Addr} {a3l a3c : Nat} {a4 : Bool} {b0 b1 : Int} {b2 : ByteArray} {b3 : Option Addr} {b3l b3c : Nat} {c d : Int} (ha : w.heap[a]? = some (.cells #[.slice a0 a0l a0c, .int .i64 a1, .slice a2 a2l a2c, .slice a3 a3l a3c, .bool a4] 93 (0, 0))) (h : 
 nB w fun id => dB (d == 4) (fL w [a] fun w1 => id < w1.heap.size → hA w1 a #[.slice a0 a0l a0c, .int .i64 a1, .slice a2 a2l a2c, .slice a3 a3l a3c, .bool false] 93 → R (.int .i64 0) w1) (iX 0 b3l b3 fun ad => fL w [] fun w11 => id < w11.heap.size → lA w11 (Addr.add ad 0) fun x x1 x2 a1_1 n c1 => hA w11 a #[.slice a0 a0l a0c, .int .i64 a1, .slice a2 a2l a2c, .slice a3 a3l a3c, .bool a4] 93 → cU 125 #[.pointer (some ⟨a, 0, none⟩), Av x x1 x2 a1_1 n c1, .int .i64 c, .int .i64 (w64 (d + 1))] w11 [id] X fun v1 w2 => ∃ a2 n1, ∃ c2 x3, ∃ a3 n2, ∃ c3 a4, ∃ n3 c4 x4, hA w2 a #[.slice a2 n1 c2, .int .i64 x3, .slice a3 n2 c3, .slice a4 n3 c4, .bool x4] 93 ∧ 5 = 5 ∧ ∃ (I : Option Addr → Nat → Nat → Int → Option Addr → Nat → Nat → Option Addr → Nat → Nat → Bool → World → Prop), (iX 1 b3l b3 fun ad1 => (fL w2 [] fun w12 => lA w12 (Addr.add ad1 4) fun x5 x6 x7 a5 n4 c5 => cI 122 #[.int .i64 b1] w12 [a, id] X fun x8 w21 => hA w21 a #[.slice a2 n1 c2, .int .i64 x3, .slice a3 n2 c3, .slice a4 n3 c4, .bool x4] 93 → cU 105 #[.pointer (some ⟨a, 0, none⟩), Av x5 x6 x7 a5 n4 c5, .int .i64 (w64 (c + 1)), .int .i64 (w64 (d + 1)), .int .i64 x8] w21 [id] X fun v4 w22 => ∃ a6 n5, ∃ c6 x9, ∃ a7 n6, ∃ c7 a8, ∃ n7 c8 x10, hA w22 a #[.slice a6 n5 c6, .int .i64 x9, .slice a7 n6 c7, .slice a8 n7 c8, .bool x10] 93 ∧ 5 = 5 ∧ I a6 n5 c6 x9 a7 n6 c7 a8 n7 c8 x10 w22) ∧ fL w2 [] fun w13 => cI 122 #[.int .i64 b1] w13 [a, id] X fun x11 w25 => lA w25 (Addr.add ad1 4) fun x12 x13 x14 a9 n8 c9 => hA w25 a #[.slice a2 n1 c2, .int .i64 x3, .slice a3 n2 c3, .slice a4 n3 c4, .bool x4] 93 → cU 105 #[.pointer (some ⟨a, 0, none⟩), Av x12 x13 x14 a9 n8 c9, .int .i64 (w64 (c + 1)), .int .i64 (w64 (d + 1)), .int .i64 x11] w25 [id] X fun v7 w26 => ∃ a10 n9, ∃ c10 x15, ∃ a11 n10, ∃ c11 a12, ∃ n11 c12 x16, hA w26 a #[.slice a10 n9 c10, .int .i64 x15, .slice a11 n10 c11, .slice a12 n11 c12, .bool x16] 93 ∧ 5 = 5 ∧ I a10 n9 c10 x15 a11 n10 c11 a12 n11 c12 x16 w26) ∧ ∀ (jk : Nat → Value) (a13 : Option Addr) (n12 c13 : Nat) (x17 : Int) (a14 : Option Addr) (n13 c14 : Nat) (a15 : Option Addr) (n14 c15 : Nat) (x18 : Bool) (w29 : World), I a13 n12 c13 x17 a14 n13 c14 a15 n14 c15 x18 w29 → cI 123 #[.int .i64 b1] w29 [a, id] X fun x19 w210 => hA w210 a #[.slice a13 n12 c13, .int .i64 x17, .slice a14 n13 c14, .slice a15 n14 c15, .bool x18] 93 → R (.int .i64 x19) w210)
 ) : CallsX E.P 106 #[.pointer (some ⟨a, 0, none⟩), Av b0 b1 b2 b3 b3l b3c, .int .i64 c, .int .i64 d] w R X :=
  calls_vc E_ok ⟨[], [(6, ⟨[], [(0, 0, .slc), (0, 1, .int .i64), (0, 2, .slc), (0, 3, .slc), (0, 4, .bool)]⟩)]⟩ (f := 106) Tryz.func106 rfl [(.pointer (some ⟨a, 0, none⟩), .ptr 0 0), (Av b0 b1 b2 b3 b3l b3c, .no), (.int .i64 c, .no), (.int .i64 d, .no)] [⟨a, 93, false, [⟨.slice a0 a0l a0c, .no, 0⟩, ⟨.int .i64 a1, .no, 0⟩, ⟨.slice a2 a2l a2c, .no, 0⟩, ⟨.slice a3 a3l a3c, .no, 0⟩, ⟨.bool a4, .no, 0⟩]⟩] (bls1 ha) nod1 (plain_of rfl) (shs_of ⟨rfl, trivial, trivial, trivial, trivial⟩) h (by kernel_rfl)
theorem vc107 {a : Nat} {a0 : Option Addr} {a0l a0c : Nat} {a1 : Int} {a2 : Option Addr} {a2l a2c : Nat} {a3 : Option Addr} {a3l a3c : Nat} {a4 : Bool} {b0 b1 : Int} {b2 : ByteArray} {b3 : Option Addr} {b3l b3c : Nat} {c d : Int} (ha : w.heap[a]? = some (.cells #[.slice a0 a0l a0c, .int .i64 a1, .slice a2 a2l a2c, .slice a3 a3l a3c, .bool a4] 93 (0, 0))) (h : 
 nB w fun id => dB (decide (b1 < 0)) (fL w [a] fun w1 => id < w1.heap.size → hA w1 a #[.slice a0 a0l a0c, .int .i64 a1, .slice a2 a2l a2c, .slice a3 a3l a3c, .bool false] 93 → R (.int .i64 0) w1) (dB (decide (b1 ≥ (↑a0l : Int))) (fL w [a] fun w11 => id < w11.heap.size → hA w11 a #[.slice a0 a0l a0c, .int .i64 a1, .slice a2 a2l a2c, .slice a3 a3l a3c, .bool false] 93 → R (.int .i64 0) w11) (iX b1 a0l a0 fun ad => fL w [] fun w12 => id < w12.heap.size → lI w12 (Addr.add ad (Int.toNat b1 * 1)) fun x => dB (decide (x > c)) (fL w12 [a] fun w13 => hA w13 a #[.slice a0 a0l a0c, .int .i64 a1, .slice a2 a2l a2c, .slice a3 a3l a3c, .bool false] 93 → R (.int .i64 0) w13) (iX 0 b3l b3 fun ad1 => lA w12 (Addr.add ad1 0) fun x1 x2 x3 a1_1 n c1 => hA w12 a #[.slice a0 a0l a0c, .int .i64 a1, .slice a2 a2l a2c, .slice a3 a3l a3c, .bool a4] 93 → cI 75 #[.pointer (some ⟨a, 0, none⟩), Av x1 x2 x3 a1_1 n c1, .int .i64 c, .int .i64 d] w12 [id] X fun x4 w2 => ∃ a2 n1, ∃ c2 x5, ∃ a3 n2, ∃ c3 a4, ∃ n3 c4 x6, hA w2 a #[.slice a2 n1 c2, .int .i64 x5, .slice a3 n2 c3, .slice a4 n3 c4, .bool x6] 93 ∧ 5 = 5 ∧ dB (!x6) (hA w2 a #[.slice a2 n1 c2, .int .i64 x5, .slice a3 n2 c3, .slice a4 n3 c4, .bool x6] 93 → R (.int .i64 0) w2) (∃ (I : Bool → World → Prop), (iX 0 b3l b3 fun ad2 => iX b1 n1 a2 fun ad3 => (fL w2 [] fun w14 => lA w14 (Addr.add ad2 0) fun x7 x8 x9 a5 n4 c5 => (cI 42 #[Av x7 x8 x9 a5 n4 c5, .int .i64 c] w14 [a, id] X fun x10 w21 => lI w21 (Addr.add ad3 (Int.toNat b1 * 1)) fun x11 => I (decide (x10 > x11)) w21) ∧ lI w14 (Addr.add ad3 (Int.toNat b1 * 1)) fun x12 => cI 42 #[Av x7 x8 x9 a5 n4 c5, .int .i64 c] w14 [a, id] X fun x13 w23 => I (decide (x13 > x12)) w23) ∧ fL w2 [] fun w15 => lI w15 (Addr.add ad3 (Int.toNat b1 * 1)) fun x14 => lA w15 (Addr.add ad2 0) fun x15 x16 x17 a6 n5 c6 => cI 42 #[Av x15 x16 x17 a6 n5 c6, .int .i64 c] w15 [a, id] X fun x18 w25 => I (decide (x18 > x14)) w25) ∧ ∀ (jk : Nat → Value) (x19 : Bool) (w27 : World), I x19 w27 → dB x19 (fL w27 [a] fun w16 => hA w16 a #[.slice a2 n1 c2, .int .i64 x5, .slice a3 n2 c3, .slice a4 n3 c4, .bool false] 93 → R (.int .i64 0) w16) (∃ (I1 : Bool → World → Prop), (iX b1 n2 a3 fun ad4 => fL w27 [] fun w17 => ∃ a7 n6 c7, CellsIn w17 (Addr.add ad4 (Int.toNat b1 * 1)) [.slice a7 n6 c7] ∧ dB (decide ((↑n6 : Int) > 0)) (iX b1 n2 a3 fun ad5 => fL w17 [] fun w18 => ∃ a8 n7 c8, CellsIn w18 (Addr.add ad5 (Int.toNat b1 * 1)) [.slice a8 n7 c8] ∧ iX 0 n7 a8 fun ad6 => lA w18 (Addr.add ad6 0) fun x20 x21 x22 a9 n8 c9 => iX 0 b3l b3 fun ad7 => lA w18 (Addr.add ad7 0) fun x23 x24 x25 a10 n9 c10 => cB 33 #[Av x20 x21 x22 a9 n8 c9, Av x23 x24 x25 a10 n9 c10] w18 [a, id] X fun x26 w28 => iX 0 b3l b3 fun ad8 => lA w28 (Addr.add ad8 0) fun x27 x28 x29 a11 n10 c11 => cB 126 #[Av x27 x28 x29 a11 n10 c11] w28 [a, id] X fun x30 w29 => dB (!x26) (fL w29 [a] fun w19 => hA w19 a #[.slice a2 n1 c2, .int .i64 x5, .slice a3 n2 c3, .slice a4 n3 c4, .bool false] 93 → R (.int .i64 0) w19) (dB x30 (iX b1 n3 a4 fun ad9 => fL w29 [] fun w110 => lI w110 (Addr.add ad9 (Int.toNat b1 * 1)) fun x31 => dB (x31 != c) (fL w110 [a] fun w111 => hA w111 a #[.slice a2 n1 c2, .int .i64 x5, .slice a3 n2 c3, .slice a4 n3 c4, .bool false] 93 → R (.int .i64 0) w111) (I1 x6 w110)) (fL w29 [] fun w112 => I1 x6 w112))) (I1 x6 w17)) ∧ ∀ (jk1 : Nat → Value) (x32 : Bool) (w212 : World), I1 x32 w212 → iX 0 b3l b3 fun ad10 => fL w212 [] fun w113 => lA w113 (Addr.add ad10 0) fun x33 x34 x35 a12 n11 c12 => nB w113 fun id1 => iX b1 n2 a3 fun ad11 => fL w113 [] fun w114 => id1 < w114.heap.size → hA w114 id1 #[.int .i64 x33, .int .i64 x34, .string x35, .slice a12 n11 c12] 24 → ∃ R7, RunsU E.P (Instr.storeAt 22 (.pointer (some (Addr.add ad11 (Int.toNat b1 * 1)))) (.slice (some ⟨id1, 0, none⟩) 1 1)) w114 R7 ∧ ∀ w213, R7 w213 → ∃ S6, Upd w114 w213 S6 ∧ Away [a, id, id1] S6 ∧ iX b1 n3 a4 fun ad12 => fL w213 [] fun w115 => hA w115 id1 #[.int .i64 x33, .int .i64 x34, .string x35, .slice a12 n11 c12] 24 → ∃ R8, RunsU E.P (Instr.storeAt 3 (.pointer (some (Addr.add ad12 (Int.toNat b1 * 1)))) (.int .i64 c)) w115 R8 ∧ ∀ w214, R8 w214 → ∃ S7, Upd w115 w214 S7 ∧ Away [a, id, id1] S7 ∧ (hA w214 a #[.slice a2 n1 c2, .int .i64 x5, .slice a3 n2 c3, .slice a4 n3 c4, .bool x32] 93 → hA w214 id1 #[.int .i64 x33, .int .i64 x34, .string x35, .slice a12 n11 c12] 24 → R (.int .i64 x4) w214))))))
 ) : CallsX E.P 107 #[.pointer (some ⟨a, 0, none⟩), Av b0 b1 b2 b3 b3l b3c, .int .i64 c, .int .i64 d] w R X :=
  calls_vc E_ok ⟨[], [(8, ⟨[(67, .bool)], []⟩), (16, ⟨[], [(0, 4, .bool)]⟩)]⟩ (f := 107) Tryz.func107 rfl [(.pointer (some ⟨a, 0, none⟩), .ptr 0 0), (Av b0 b1 b2 b3 b3l b3c, .no), (.int .i64 c, .no), (.int .i64 d, .no)] [⟨a, 93, false, [⟨.slice a0 a0l a0c, .no, 0⟩, ⟨.int .i64 a1, .no, 0⟩, ⟨.slice a2 a2l a2c, .no, 0⟩, ⟨.slice a3 a3l a3c, .no, 0⟩, ⟨.bool a4, .no, 0⟩]⟩] (bls1 ha) nod1 (plain_of rfl) (shs_of ⟨rfl, trivial, trivial, trivial, trivial⟩) h (by kernel_rfl)
theorem vc125 {a : Nat} {a0 : Option Addr} {a0l a0c : Nat} {a1 : Int} {a2 : Option Addr} {a2l a2c : Nat} {a3 : Option Addr} {a3l a3c : Nat} {a4 : Bool} {b0 b1 : Int} {b2 : ByteArray} {b3 : Option Addr} {b3l b3c : Nat} {c d : Int} (ha : w.heap[a]? = some (.cells #[.slice a0 a0l a0c, .int .i64 a1, .slice a2 a2l a2c, .slice a3 a3l a3c, .bool a4] 93 (0, 0))) (h : 
 nB w fun id => dB (decide (w64 (a1 + 1) > 4096)) (fL w [a] fun w1 => id < w1.heap.size → hA w1 a #[.slice a0 a0l a0c, .int .i64 (w64 (a1 + 1)), .slice a2 a2l a2c, .slice a3 a3l a3c, .bool false] 93 → R (.tuple #[]) w1) (dB (decide (b0 < 22)) (fL w [a] fun w11 => id < w11.heap.size → hA w11 a #[.slice a0 a0l a0c, .int .i64 (w64 (a1 + 1)), .slice a2 a2l a2c, .slice a3 a3l a3c, .bool false] 93 → R (.tuple #[]) w11) (dB (decide (b0 > 25)) (fL w [a] fun w12 => id < w12.heap.size → hA w12 a #[.slice a0 a0l a0c, .int .i64 (w64 (a1 + 1)), .slice a2 a2l a2c, .slice a3 a3l a3c, .bool false] 93 → R (.tuple #[]) w12) (fL w [a] fun w13 => id < w13.heap.size → cB 103 #[Av b0 b1 b2 b3 b3l b3c] w13 [a, id] X fun x w2 => dB (!x) (fL w2 [a] fun w14 => hA w14 a #[.slice a0 a0l a0c, .int .i64 (w64 (a1 + 1)), .slice a2 a2l a2c, .slice a3 a3l a3c, .bool false] 93 → R (.tuple #[]) w14) (∃ (I : Int → Option Addr → Nat → Nat → Int → Option Addr → Nat → Nat → Option Addr → Nat → Nat → Bool → World → Prop), ∃ (m : Int → Option Addr → Nat → Nat → Int → Option Addr → Nat → Nat → Option Addr → Nat → Nat → Bool → Nat), I 0 a0 a0l a0c (w64 (a1 + 1)) a2 a2l a2c a3 a3l a3c a4 w2 ∧ ∀ (jk : Nat → Value) (x1 : Int) (a1 : Option Addr) (n c1 : Nat) (x2 : Int) (a2 : Option Addr) (n1 c2 : Nat) (a3 : Option Addr) (n2 c3 : Nat) (x3 : Bool) (w21 : World), I x1 a1 n c1 x2 a2 n1 c2 a3 n2 c3 x3 w21 → dB (decide (x1 < (↑b3l : Int))) (dB x3 (iX x1 b3l b3 fun ad => lA w21 (Addr.add ad (Int.toNat x1 * 4)) fun x4 x5 x6 a4 n3 c4 => hA w21 a #[.slice a1 n c1, .int .i64 x2, .slice a2 n1 c2, .slice a3 n2 c3, .bool x3] 93 → cU 105 #[.pointer (some ⟨a, 0, none⟩), Av x4 x5 x6 a4 n3 c4, .int .i64 c, .int .i64 d, .int .i64 3] w21 [id] X fun v2 w22 => ∃ a5 n4, ∃ c5 x7, ∃ a6 n5, ∃ c6 a7, ∃ n6 c7 x8, hA w22 a #[.slice a5 n4 c5, .int .i64 x7, .slice a6 n5 c6, .slice a7 n6 c7, .bool x8] 93 ∧ 5 = 5 ∧ I (w64 (x1 + 1)) a5 n4 c5 x7 a6 n5 c6 a7 n6 c7 x8 w22 ∧ m (w64 (x1 + 1)) a5 n4 c5 x7 a6 n5 c6 a7 n6 c7 x8 < m x1 a1 n c1 x2 a2 n1 c2 a3 n2 c3 x3) (hA w21 a #[.slice a1 n c1, .int .i64 x2, .slice a2 n1 c2, .slice a3 n2 c3, .bool x3] 93 → R (.tuple #[]) w21)) (hA w21 a #[.slice a1 n c1, .int .i64 x2, .slice a2 n1 c2, .slice a3 n2 c3, .bool x3] 93 → R (.tuple #[]) w21)))))
 ) : CallsX E.P 125 #[.pointer (some ⟨a, 0, none⟩), Av b0 b1 b2 b3 b3l b3c, .int .i64 c, .int .i64 d] w R X :=
  calls_vc E_ok ⟨[(5, ⟨[(8, .int .i64)], [(0, 0, .slc), (0, 1, .int .i64), (0, 2, .slc), (0, 3, .slc), (0, 4, .bool)]⟩)], []⟩ (f := 125) Tryz.func125 rfl [(.pointer (some ⟨a, 0, none⟩), .ptr 0 0), (Av b0 b1 b2 b3 b3l b3c, .no), (.int .i64 c, .no), (.int .i64 d, .no)] [⟨a, 93, false, [⟨.slice a0 a0l a0c, .no, 0⟩, ⟨.int .i64 a1, .no, 0⟩, ⟨.slice a2 a2l a2c, .no, 0⟩, ⟨.slice a3 a3l a3c, .no, 0⟩, ⟨.bool a4, .no, 0⟩]⟩] (bls1 ha) nod1 (plain_of rfl) (shs_of ⟨rfl, trivial, trivial, trivial, trivial⟩) h (by kernel_rfl)
theorem vc47 {a0 a1 : Int} {a2 : ByteArray} {a3 : Option Addr} {a3l a3c : Nat} {a4 : Option Addr} {a4l a4c : Nat}  (h : 
 nB w fun id => dB (decide ((↑a4l : Int) > 256)) (fL w [] fun w1 => id < w1.heap.size → R (.int .i64 0) w1) (fL w [] fun w11 => id < w11.heap.size → ∃ (I : Int → World → Prop), ∃ (m : Int → Nat), I 0 w11 ∧ ∀ (jk : Nat → Value) (x : Int) (w2 : World), I x w2 → dB (decide (x < (↑a4l : Int))) (iX x a4l a4 fun ad => lI w2 (Addr.add ad (Int.toNat x * 1)) fun x1 => dB (decide (x1 < 0)) (R (.int .i64 0) w2) (iX x a4l a4 fun ad1 => lI w2 (Addr.add ad1 (Int.toNat x * 1)) fun x2 => dB (decide (x2 > 4)) (R (.int .i64 0) w2) (I (w64 (x + 1)) w2 ∧ m (w64 (x + 1)) < m x))) ((fL w2 [] fun w12 => ∃ R1, RunsTo E.P (Instr.makeSlice 91 (.int .i64 (↑a4l : Int)) (.int .i64 (↑a4l : Int))) w12 R1 ∧ ∀ v w21, R1 v w21 → ∃ a n c, v = .slice a n c ∧ ∃ S, Upd w12 w21 S ∧ Away [id] S ∧ ∃ R2, RunsTo E.P (Instr.makeSlice 25 (.int .i64 (↑a4l : Int)) (.int .i64 (↑a4l : Int))) w21 R2 ∧ ∀ v1 w22, R2 v1 w22 → ∃ a1_1 n1 c1, v1 = .slice a1_1 n1 c1 ∧ ∃ S1, Upd w21 w22 S1 ∧ Away [id] S1 ∧ nB w22 fun id1 => fL w22 [] fun w13 => id1 < w13.heap.size → hA w13 id1 #[.slice a4 a4l a4c, .int .i64 0, .slice a n c, .slice a1_1 n1 c1, .bool true] 93 → cI 75 #[.pointer (some ⟨id1, 0, none⟩), Av a0 a1 a2 a3 a3l a3c, .int .i64 0, .int .i64 0] w13 [id] X fun x3 w23 => ∃ a2 n2, ∃ c2 x4, ∃ a3 n3, ∃ c3 a4, ∃ n4 c4 x5, hA w23 id1 #[.slice a2 n2 c2, .int .i64 x4, .slice a3 n3 c3, .slice a4 n4 c4, .bool x5] 93 ∧ 5 = 5 ∧ dB (!x5) (R (.int .i64 0) w23) (R (.int .i64 x3) w23)) ∧ fL w2 [] fun w14 => ∃ R4, RunsTo E.P (Instr.makeSlice 25 (.int .i64 (↑a4l : Int)) (.int .i64 (↑a4l : Int))) w14 R4 ∧ ∀ v3 w25, R4 v3 w25 → ∃ a5 n5 c5, v3 = .slice a5 n5 c5 ∧ ∃ S3, Upd w14 w25 S3 ∧ Away [id] S3 ∧ ∃ R5, RunsTo E.P (Instr.makeSlice 91 (.int .i64 (↑a4l : Int)) (.int .i64 (↑a4l : Int))) w25 R5 ∧ ∀ v4 w26, R5 v4 w26 → ∃ a6 n6 c6, v4 = .slice a6 n6 c6 ∧ ∃ S4, Upd w25 w26 S4 ∧ Away [id] S4 ∧ nB w26 fun id2 => fL w26 [] fun w15 => id2 < w15.heap.size → hA w15 id2 #[.slice a4 a4l a4c, .int .i64 0, .slice a6 n6 c6, .slice a5 n5 c5, .bool true] 93 → cI 75 #[.pointer (some ⟨id2, 0, none⟩), Av a0 a1 a2 a3 a3l a3c, .int .i64 0, .int .i64 0] w15 [id] X fun x6 w27 => ∃ a7 n7, ∃ c7 x7, ∃ a8 n8, ∃ c8 a9, ∃ n9 c9 x8, hA w27 id2 #[.slice a7 n7 c7, .int .i64 x7, .slice a8 n8 c8, .slice a9 n9 c9, .bool x8] 93 ∧ 5 = 5 ∧ dB (!x8) (R (.int .i64 0) w27) (R (.int .i64 x6) w27)))
 ) : CallsX E.P 47 #[Ap a0 a1 a2 a3 a3l a3c a4 a4l a4c] w R X :=
  calls_vc E_ok ⟨[(4, ⟨[(3, .int .i64)], []⟩)], []⟩ (f := 47) Tryz.func47 rfl [(Ap a0 a1 a2 a3 a3l a3c a4 a4l a4c, .no)] [] (bls0) nod0 (plain_of rfl) (shs_of ⟨trivial, trivial⟩) h (by kernel_rfl)
end
section
open Go Go.Vx Go.Proofs
variable {b g h : Nat} {zs : List Int} {C : Option Addr} {cc : Nat}
def KC (b g h : Nat) (zs : List Int) (C : Option Addr) (cc : Nat) (kf : Int → Int → WS → Nd → Int × WS) (n : Nd) : Prop :=
  ∀ {w : World} {A : Option Addr} {l c : Nat} (a q : Int) (st : WS), Wst w b g h zs C cc st → NdsR w (Fw b g h) n.kids A l c →
    CallsX E.P 75 #[.pointer (some ⟨b, 0, none⟩), ndA n A l c, .int .i64 a, .int .i64 q] w (WR b g h zs C cc w (.int .i64 (kf a q st n).1) (kf a q st n).2) never
theorem must_c {kf : Int → Int → WS → Nd → Int × WS} {n : Nd} (hk : KC b g h zs C cc kf n) {w : World} {A : Option Addr} {l c : Nat} (a q k : Int) (st : WS) (hw : Wst w b g h zs C cc st) (hr : NdsR w (Fw b g h) n.kids A l c) :
    CallsX E.P 105 #[.pointer (some ⟨b, 0, none⟩), ndA n A l c, .int .i64 a, .int .i64 q, .int .i64 k] w (WR b g h zs C cc w (.tuple #[]) (mustW (kf a q st n) k)) never := by
  obtain ⟨hb, hg, hh⟩ := hw.lt
  refine vc105 hw.1 ?_
  intro id hid w1 hE hi _
  have hs := hE.size
  refine callW (hk a q st (hw.ext hE) (hr.ext hE)) (away_s3 hb hg hh (by simp; omega)) fun w2 hw2 hU2 => ⟨fun hx w3 hU3 h3 => ?_, fun hx _ => ?_⟩
  · simp only [mustW, hx, if_true]
    exact ⟨rfl, Wst.put (st := (kf a q st n).2) hw2.2 hU3 h3 rfl rfl, ((ext_s3 hE).t3 hU2).t3 (upd_s3 hU3)⟩
  · simp only [mustW, hx, Bool.false_eq_true, if_false]
    exact ⟨rfl, hw2, (ext_s3 hE).t3 hU2⟩
theorem all_c {kf : Int → Int → WS → Nd → Int × WS} {n : Nd} (hk : ∀ j (_ : j < n.kids.length), KC b g h zs C cc kf n.kids[j]) {w : World} {A : Option Addr} {l c : Nat} (a q k r : Int) (st : WS) (hw : Wst w b g h zs C cc st) (hr : NdsR w (Fw b g h) n.kids A l c) :
    CallsX E.P 104 #[.pointer (some ⟨b, 0, none⟩), ndA n A l c, .int .i64 a, .int .i64 q, .int .i64 k, .int .i64 r] w (WR b g h zs C cc w (.int .i64 r) (allW (kf a q) k st n.kids)) never := by
  obtain ⟨hb, hg, hh⟩ := hw.lt
  have hl := hr.len
  have hlt := hr.lt
  refine vc104 hw.1 ?_
  intro id hid w1 hE hi
  refine ⟨fun x a1 n1 c1 x1 a2 n2 c2 a3 n3 c3 x2 w2 => ∃ (j : Nat) (s : WS), x = j ∧ j ≤ n.kids.length ∧ #[Value.slice a1 n1 c1, .int .i64 x1, .slice a2 n2 c2, .slice a3 n3 c3, .bool x2] = bcells zs C cc g h s ∧ allW (kf a q) k s (n.kids.drop j) = allW (kf a q) k st n.kids ∧
    MemW w2 b g h zs C cc s.ks s.ts ∧ Upd w w2 (S3 b g h), fun x _ _ _ _ _ _ _ _ _ _ _ => ((l : Int) - x).toNat, ⟨0, st, rfl, Nat.zero_le _, rfl, by simp, (hw.ext hE).2, ext_s3 hE⟩, ?_⟩
  rintro _ _ a1 n1 c1 x1 a2 n2 c2 a3 n3 c3 x2 w2 ⟨j, s, rfl, hj, hbc, hall, hw2, hU2⟩
  have hs2 := hU2.size
  rw [hbc]
  refine ⟨fun hlt2 => ?_, fun hge hh2 => ?_⟩
  · have hjl : j < n.kids.length := by simp at hlt2; omega
    refine hr.idx hjl fun ad ha => (hr.s3 hU2).cell ha hjl fun A1 l1 c4 q1 hh2 => ?_
    rw [drop_cons hjl, allW] at hall
    refine callU (must_c (hk j hjl) a q k s ⟨hh2, hw2⟩ q1) (away_s3 hb hg hh (by simp; omega)) fun w3 hw3 hU3 => ?_
    rw [w64_succ (by omega)]
    refine ⟨⟨j + 1, _, rfl, hjl, rfl, hall, hw3.2, hU2.t3 hU3⟩, mea_succ (by omega)⟩
  · have hje : j = n.kids.length := by simp at hge; omega
    subst hje
    rw [List.drop_length, allW] at hall
    rw [← hall]
    exact ⟨rfl, ⟨hh2, hw2⟩, hU2⟩
theorem set_c {kf : Int → Int → WS → Nd → Int × WS} {n : Nd} (hk : ∀ j (_ : j < n.kids.length), KC b g h zs C cc kf n.kids[j]) {w : World} {A : Option Addr} {l c : Nat} (a q : Int) (st : WS) (hw : Wst w b g h zs C cc st) (hr : NdsR w (Fw b g h) n.kids A l c) :
    CallsX E.P 125 #[.pointer (some ⟨b, 0, none⟩), ndA n A l c, .int .i64 a, .int .i64 q] w (WR b g h zs C cc w (.tuple #[]) (setW (kf a q) st n)) never := by
  obtain ⟨hb, hg, hh⟩ := hw.lt
  have hf : ∀ {w1 : World}, Upd w w1 (S3 b g h) → CallsX E.P 103 #[ndA n A l c] w1 (IsV (.bool (form n)) w1) never := fun hE => form_c n (hr.s3 hE)
  obtain ⟨k, v, s, kids⟩ := n
  have hfe : form (.mk k v s kids) = formB k v s kids.length := rfl
  rw [hfe] at hf
  dsimp only [ndA, Nd.k, Nd.n, Nd.s, Nd.kids] at *
  obtain rfl := hr.len
  have hlt := hr.lt
  refine vc125 hw.1 ?_
  intro id hid
  rw [setW]
  have bad0 : ∀ {w1 w2 : World}, MemW w1 b g h zs C cc st.ks st.ts → Upd w w1 (S3 b g h) → Upd w1 w2 (setOf [b]) → w2.heap[b]? = some (.cells (bcells zs C cc g h st.inc.bad) 93 (0, 0)) → WR b g h zs C cc w (.tuple #[]) st.inc.bad (.tuple #[]) w2 :=
    fun h1 h2 h3 h4 => ⟨rfl, Wst.put (st := st) h1 h3 h4 rfl rfl, h2.t3 (upd_s3 h3)⟩
  refine ⟨fun h1 w1 hU _ hh1 => ?_, fun h1 => ⟨fun h2 w1 hU _ hh1 => ?_, fun h2 => ⟨fun h3 w1 hU _ hh1 => ?_, fun h3 w1 hU hi => ?_⟩⟩⟩
  · simp only [h1, if_true]; exact bad0 hw.2 (ext_s3 (Upd.refl _ _)) hU hh1
  · simp only [h1, h2, Bool.false_eq_true, if_false, if_true]; exact bad0 hw.2 (ext_s3 (Upd.refl _ _)) hU hh1
  · simp only [h1, h2, h3, Bool.false_eq_true, if_false, if_true]; exact bad0 hw.2 (ext_s3 (Upd.refl _ _)) hU hh1
  have hM1 : MemW w1 b g h zs C cc st.ks st.ts := hw.2.upd hU upd_b
  refine callB (hf (upd_s3 hU)) fun w2 hE2 => ⟨fun h4 w3 hU3 hh3 => ?_, fun h4 => ?_⟩
  · simp only [h1, h2, h3, h4, Bool.false_eq_true, if_false, if_true]
    exact bad0 (hM1.upd hE2 (fun _ h => h.elim)) ((upd_s3 hU).t3 (ext_s3 hE2)) hU3 hh3
  rw [if_neg (by rw [h1]; exact Bool.false_ne_true), if_neg (by rw [h2]; exact Bool.false_ne_true), if_neg (by rw [h3]; exact Bool.false_ne_true), if_neg (by rw [h4]; exact Bool.false_ne_true)]
  have hU02 : Upd w w2 (S3 b g h) := (upd_s3 hU).t3 (ext_s3 hE2)
  refine ⟨fun x a1 n1 c1 x1 a2 n2 c2 a3 n3 c3 x2 w3 => ∃ (j : Nat) (s : WS), x = j ∧ j ≤ kids.length ∧ (a1 = C ∧ n1 = zs.length ∧ c1 = cc ∧ x1 = s.parts ∧ a2 = some ⟨g, 0, none⟩ ∧ n2 = zs.length ∧ c2 = zs.length ∧ a3 = some ⟨h, 0, none⟩ ∧ n3 = zs.length ∧ c3 = zs.length ∧ x2 = s.ok) ∧ setL (kf a q) s (kids.drop j) = setL (kf a q) st.inc kids ∧
    MemW w3 b g h zs C cc s.ks s.ts ∧ Upd w w3 (S3 b g h), fun x _ _ _ _ _ _ _ _ _ _ _ => ((kids.length : Int) - x).toNat, ⟨0, st.inc, rfl, Nat.zero_le _, ⟨rfl, rfl, rfl, rfl, rfl, rfl, rfl, rfl, rfl, rfl, rfl⟩, by simp, hM1.upd hE2 (fun _ h => h.elim), hU02⟩, ?_⟩
  rintro _ _ _ _ _ _ _ _ _ _ _ _ _ w3 ⟨j, s, rfl, hj, ⟨rfl, rfl, rfl, rfl, rfl, rfl, rfl, rfl, rfl, rfl, rfl⟩, hall, hw3, hU3⟩
  have hs3 := hU3.size
  refine ⟨fun hlt2 => ⟨fun hok => ?_, fun hok hh3 => ?_⟩, fun hge hh3 => ?_⟩
  · have hjl : j < kids.length := by simp at hlt2; omega
    refine hr.idx hjl fun ad ha => (hr.s3 hU3).cell ha hjl fun A1 l1 c4 q1 hh3 => ?_
    rw [drop_cons hjl, setL, hok, if_pos rfl] at hall
    refine callU (must_c (hk j hjl) a q 3 s ⟨hh3, hw3⟩ q1) (away_s3 hb hg hh (by simp; omega)) fun w4 hw4 hU4 => ?_
    rw [w64_succ (by omega)]
    exact ⟨⟨j + 1, _, rfl, hjl, ⟨rfl, rfl, rfl, rfl, rfl, rfl, rfl, rfl, rfl, rfl, rfl⟩, hall, hw4.2, hU3.t3 hU4⟩, mea_succ hjl⟩
  · have hjl : j < kids.length := by simp at hlt2; omega
    rw [drop_cons hjl, setL, hok, if_neg Bool.false_ne_true] at hall
    rw [← hall]
    exact ⟨rfl, ⟨hh3, hw3⟩, hU3⟩
  · have hje : j = kids.length := by simp at hge; omega
    subst hje
    rw [List.drop_length, setL] at hall
    rw [← hall]
    exact ⟨rfl, ⟨hh3, hw3⟩, hU3⟩
def SC (b g h : Nat) (zs : List Int) (C : Option Addr) (cc : Nat) (kf : Int → Int → WS → Nd → Int × WS) (n : Nd) : Prop :=
  ∀ {w : World} {A : Option Addr} {l c : Nat} (a q : Int) (st : WS), Wst w b g h zs C cc st → NdsR w (Fw b g h) n.kids A l c →
    CallsX E.P 125 #[.pointer (some ⟨b, 0, none⟩), ndA n A l c, .int .i64 a, .int .i64 q] w (WR b g h zs C cc w (.tuple #[]) (setW (kf a q) st n)) never
theorem quant_c {kf : Int → Int → WS → Nd → Int × WS} {k v : Int} {s : ByteArray} {kids : List Nd} (h2 : 2 ≤ kids.length) (hs0 : SC b g h zs C cc kf (kids.getD 0 nd0)) (hk1 : KC b g h zs C cc kf (kids.getD 1 nd0))
    {w : World} {A : Option Addr} {l c : Nat} (a q : Int) (st : WS) (hw : Wst w b g h zs C cc st) (hr : NdsR w (Fw b g h) kids A l c) :
    CallsX E.P 106 #[.pointer (some ⟨b, 0, none⟩), ndA (.mk k v s kids) A l c, .int .i64 a, .int .i64 q] w (WR b g h zs C cc w (.int .i64 (quantW kf st v (kids.getD 0 nd0) (kids.getD 1 nd0) a q).1) (quantW kf st v (kids.getD 0 nd0) (kids.getD 1 nd0) a q).2) never := by
  obtain ⟨hb, hg, hh⟩ := hw.lt
  dsimp only [ndA, Nd.k, Nd.n, Nd.s, Nd.kids]
  refine vc106 hw.1 ?_
  intro id hid
  unfold quantW
  refine ⟨fun h1 w1 hU _ hh1 => ?_, fun h1 => ?_⟩
  · rw [if_pos h1]
    exact ⟨rfl, Wst.put (st := st) hw.2 hU hh1 rfl rfl, upd_s3 hU⟩
  rw [if_neg (by rw [h1]; exact Bool.false_ne_true)]
  refine hr.idxL 0 rfl (by omega) fun ad ha w1 hE1 hi1 => (hr.ext hE1).cellL ha 0 rfl (by omega) (d := nd0) fun A0 l0 c0 q0 hh1 => ?_
  refine callU (hs0 a (w64 (q + 1)) st ⟨hh1, (hw.ext hE1).2⟩ q0) (away_s3 hb hg hh (by simp; omega)) fun w2 hw2 hU2 => ?_
  generalize setW (kf a (w64 (q + 1))) st (kids.getD 0 nd0) = s1 at hw2 ⊢
  have hU02 : Upd w w2 (S3 b g h) := (ext_s3 hE1).t3 hU2
  have hs2 := hU02.size
  have fin : ∀ {w3 w4 : World} {A1 : Option Addr} {l1 c1 : Nat}, Ext w2 w3 → w3.heap[b]? = some (.cells (bcells zs C cc g h s1) 93 (0, 0)) → NdsR w3 (Fw b g h) (kids.getD 1 nd0).kids A1 l1 c1 →
      CallsX E.P 105 #[.pointer (some ⟨b, 0, none⟩), ndA (kids.getD 1 nd0) A1 l1 c1, .int .i64 (w64 (a + 1)), .int .i64 (w64 (q + 1)), .int .i64 (bodyI v)] w3 (WR b g h zs C cc w3 (.tuple #[]) (mustW (kf (w64 (a + 1)) (w64 (q + 1)) s1 (kids.getD 1 nd0)) (bodyI v))) never :=
    fun hE hh3 q1 => must_c hk1 _ _ _ s1 ⟨hh3, (hw2.ext hE).2⟩ q1
  generalize mustW (kf (w64 (a + 1)) (w64 (q + 1)) s1 (kids.getD 1 nd0)) (bodyI v) = s2 at fin ⊢
  refine ⟨fun a1 n1 c1 x1 a2 n2 c2 a3 n3 c3 x2 w3 => (a1 = C ∧ n1 = zs.length ∧ c1 = cc ∧ x1 = s2.parts ∧ a2 = some ⟨g, 0, none⟩ ∧ n2 = zs.length ∧ c2 = zs.length ∧ a3 = some ⟨h, 0, none⟩ ∧ n3 = zs.length ∧ c3 = zs.length ∧ x2 = s2.ok) ∧
    MemW w3 b g h zs C cc s2.ks s2.ts ∧ Upd w w3 (S3 b g h), hr.idxL 1 rfl (by omega) fun ad1 ha1 => ⟨fun w3 hE3 => ?_, fun w3 hE3 => ?_⟩, ?_⟩
  · refine ((hr.s3 hU02).ext hE3).cellL ha1 1 rfl (by omega) (d := nd0) fun A1 l1 c1 q1 => ?_
    refine callI (body_c v) fun w4 hE4 hh4 => ?_
    refine callU (fin (w4 := w4) (hE3.trans hE4) hh4 (q1.ext hE4)) (away_s3 hb hg hh (by simp; omega)) fun w5 hw5 hU5 => ⟨⟨rfl, rfl, rfl, rfl, rfl, rfl, rfl, rfl, rfl, rfl, rfl⟩, hw5.2, (hU02.t3 (ext_s3 (hE3.trans hE4))).t3 hU5⟩
  · refine callI (body_c v) fun w4 hE4 => ?_
    refine ((hr.s3 hU02).ext (hE3.trans hE4)).cellL ha1 1 rfl (by omega) (d := nd0) fun A1 l1 c1 q1 hh4 => ?_
    refine callU (fin (w4 := w4) (hE3.trans hE4) hh4 q1) (away_s3 hb hg hh (by simp; omega)) fun w5 hw5 hU5 => ⟨⟨rfl, rfl, rfl, rfl, rfl, rfl, rfl, rfl, rfl, rfl, rfl⟩, hw5.2, (hU02.t3 (ext_s3 (hE3.trans hE4))).t3 hU5⟩
  · rintro _ _ _ _ _ _ _ _ _ _ _ _ w3 ⟨⟨rfl, rfl, rfl, rfl, rfl, rfl, rfl, rfl, rfl, rfl, rfl⟩, hM3, hU3⟩
    refine callI (whole_c v) fun w4 hE4 hh4 => ⟨rfl, ⟨hh4, hM3.upd hE4 (fun _ h => h.elim)⟩, hU3.t3 (ext_s3 hE4)⟩
end
section
open Go Go.Vx Go.Proofs
theorem sl91 : SlT E.P 91 22 1 24 := SlT.of (by kernel_rfl) (by omega) (by omega)
variable {b g h : Nat} {zs : List Int} {C : Option Addr} {cc : Nat}
theorem getD_get {α : Type} {l : List α} {j : Nat} {d : α} (hj : j < l.length) : l.getD j d = l[j] := by rw [List.getD_eq_getElem?_getD, List.getElem?_eq_getElem hj]; rfl
theorem cell_c {kf : Int → Int → WS → Nd → Int × WS} {k v : Int} {s : ByteArray} {kids : List Nd} (h2 : 1 ≤ kids.length) (hk0 : KC b g h zs C cc kf (kids.getD 0 nd0))
    {w : World} {A : Option Addr} {l c : Nat} (a q : Int) (st : WS) (hw : Wst w b g h zs C cc st) (hr : NdsR w (Fw b g h) kids A l c) :
    CallsX E.P 107 #[.pointer (some ⟨b, 0, none⟩), ndA (.mk k v s kids) A l c, .int .i64 a, .int .i64 q] w (WR b g h zs C cc w (.int .i64 (cellW zs (kf a q) st v (kids.getD 0 nd0) a).1) (cellW zs (kf a q) st v (kids.getD 0 nd0) a).2) never := by
  obtain ⟨hb, hg, hh⟩ := hw.lt
  dsimp only [ndA, Nd.k, Nd.n, Nd.s, Nd.kids]
  refine vc107 hw.1 ?_
  intro id hid
  unfold cellW
  have bad0 : ∀ {w1 w2 : World} {st1 : WS} {t1 : Int}, MemW w1 b g h zs C cc st1.ks st1.ts → Upd w w1 (S3 b g h) → Upd w1 w2 (setOf [b]) → w2.heap[b]? = some (.cells (bcells zs C cc g h st1.bad) 93 (0, 0)) → WR b g h zs C cc w (.int .i64 0) st1.bad (.int .i64 0) w2 :=
    fun {w1 w2 st1 t1} h1 h2 h3 h4 => ⟨rfl, Wst.put (st := st1) h1 h3 h4 rfl rfl, h2.t3 (upd_s3 h3)⟩
  refine ⟨fun h1 w1 hU _ hh1 => ?_, fun h1 => ⟨fun h3 w1 hU _ hh1 => ?_, fun h3 => ?_⟩⟩
  · rw [if_pos h1]; exact bad0 (t1 := 0) hw.2 (ext_s3 (Upd.refl _ _)) hU hh1
  · rw [if_neg (by rw [h1]; exact Bool.false_ne_true), if_pos h3]; exact bad0 (t1 := 0) hw.2 (ext_s3 (Upd.refl _ _)) hU hh1
  rw [if_neg (by rw [h1]; exact Bool.false_ne_true), if_neg (by rw [h3]; exact Bool.false_ne_true)]
  obtain ⟨j, rfl⟩ : ∃ j : Nat, v = (j : Int) := ⟨v.toNat, by simp at h1; omega⟩
  have hj : j < zs.length := by simp at h3; omega
  have hjt : ((j : Int)).toNat = j := by omega
  have hz : ∀ {w1 : World}, Upd w w1 (S3 b g h) → IntsR w1 (Fw b g h) zs C zs.length cc := fun hU => RowIn.upd hw.2.hc hU (fun _ h => h)
  rw [hjt, getD_get hj]
  refine (hz (ext_s3 (Upd.refl w _))).idx hj fun ad ha w1 hE1 hi1 => (hz (ext_s3 hE1)).cell ha hj ⟨fun h4 w2 hU2 hh2 => ?_, fun h4 => ?_⟩
  · rw [if_pos h4]; exact bad0 (t1 := 0) (hw.2.upd hE1 (fun _ h => h.elim)) (ext_s3 hE1) hU2 hh2
  rw [if_neg (by rw [h4]; exact Bool.false_ne_true)]
  refine hr.idxL 0 rfl (by omega) fun ad1 ha1 => (hr.ext hE1).cellL ha1 0 rfl (by omega) (d := nd0) fun A0 l0 c0 q0 hh1 => ?_
  refine callW (hk0 a q st ⟨hh1, (hw.ext hE1).2⟩ q0) (away_s3 hb hg hh (by simp; omega)) fun w2 hw2 hU2 => ?_
  have hU02 : Upd w w2 (S3 b g h) := (ext_s3 hE1).t3 hU2
  have hs2 := hU02.size
  have hM2 := hw2.2
  generalize hx0 : kids.getD 0 nd0 = x0 at hw2 hM2 ⊢
  generalize kf a q st x0 = r at hw2 hM2 ⊢
  unfold cellTwo
  rw [hjt]
  refine ⟨fun h5 hh2 => ?_, fun h5 => ?_⟩
  · rw [if_pos h5]; exact ⟨rfl, hw2, hU02⟩
  rw [if_neg (by rw [h5]; exact Bool.false_ne_true)]
  have hok : r.2.ok = true := by simpa using h5
  have kz : ∀ {w3 : World} {ad2 : Addr}, Ext w2 w3 → A = some ad2 → ∀ {K : Int → Int → ByteArray → Option Addr → Nat → Nat → Prop}, (∀ A1 l1 c1, NdsR w3 (Fw b g h) x0.kids A1 l1 c1 → K x0.k x0.n x0.s A1 l1 c1) →
      ∃ x2 x3, ∃ x4 a, ∃ n c, CellsIn w3 (ad2.add 0) [.int .i64 x2, .int .i64 x3, .string x4, .slice a n c] ∧ K x2 x3 x4 a n c := fun hE ha2 K hk => by
    have := ((hr.s3 hU02).ext hE).cellL ha2 0 (off := 0) rfl (by omega) (d := nd0) (K := K) (by rw [hx0]; exact hk)
    exact this
  have ki : ∀ {K : Addr → Prop}, (∀ ad, A = some ad → K ad) → ((0 : Int) ≤ 0 ∧ (0 : Int) < (l : Int)) ∧ ∃ ad, A = some ad ∧ K ad := fun hk => hr.idxL 0 rfl (by omega) hk
  have zi : ∀ {K : Addr → Prop}, (∀ ad, C = some ad → K ad) → ((0 : Int) ≤ (j : Int) ∧ (j : Int) < (zs.length : Int)) ∧ ∃ ad, C = some ad ∧ K ad := fun hk => hw.2.hc.idx hj hk
  have zc : ∀ {w3 : World} {ad3 : Addr}, Ext w2 w3 → C = some ad3 → ∀ {K : Int → Prop}, K zs[j] → ∃ x, CellsIn w3 (ad3.add (Int.toNat (j : Int) * 1)) [.int .i64 x] ∧ K x := fun hE ha3 K hk => (hz (hU02.t3 (ext_s3 hE))).cell ha3 hj hk
  refine ⟨fun y w3 => y = decide (hangs a x0 > zs[j]) ∧ Ext w2 w3, ki fun ad2 ha2 => zi fun ad3 ha3 => ⟨fun w3 hE3 => kz hE3 ha2 fun A1 l1 c1 q1 => ⟨?_, zc hE3 ha3 ?_⟩, fun w3 hE3 => zc hE3 ha3 (kz hE3 ha2 fun A1 l1 c1 q1 => ?_)⟩, ?_⟩
  · exact callI (Hangs_c _ x0 (Nat.le_refl _) a q1) fun w4 hE4 => zc (hE3.trans hE4) ha3 ⟨rfl, hE3.trans hE4⟩
  · exact callI (Hangs_c _ x0 (Nat.le_refl _) a q1) fun w4 hE4 => ⟨rfl, hE3.trans hE4⟩
  · exact callI (Hangs_c _ x0 (Nat.le_refl _) a q1) fun w4 hE4 => ⟨rfl, hE3.trans hE4⟩
  rintro _ y w3 ⟨rfl, hE3⟩
  refine ⟨fun h6 w4 hU4 hh4 => ?_, fun h6 => ?_⟩
  · rw [if_pos (by simpa using h6)]
    exact bad0 (t1 := 0) (hM2.upd hE3 (fun _ h => h.elim)) (hU02.t3 (ext_s3 hE3)) hU4 hh4
  rw [if_neg (by intro h; rw [h] at h6; cases h6)]
  generalize hR : cellThr r (j : Int) a x0 (r.2.ks.getD j none) = RES
  have hb2 : ∀ {w4 w5 : World}, Ext w2 w4 → Upd w4 w5 (setOf [b]) → w5.heap[b]? = some (.cells (bcells zs C cc g h r.2.bad) 93 (0, 0)) → RES = (0, r.2.bad) → WR b g h zs C cc w (.int .i64 RES.1) RES.2 (.int .i64 0) w5 := fun hE hU hh4 he => by
    rw [he]; exact bad0 (t1 := 0) (hM2.upd hE (fun _ h => h.elim)) (hU02.t3 (ext_s3 hE)) hU hh4
  refine ⟨fun y w4 => y = r.2.ok ∧ RES = cellOut r (j : Int) a x0 ∧ Ext w2 w4, ⟨by omega, _, rfl, fun w4 hE4 => ?_⟩, ?_⟩
  · have hE24 := hE3.trans hE4
    obtain ⟨v, hcell, he⟩ := (hM2.upd hE24 (fun _ h => h.elim)).ent hj
    cases ho : r.2.ks.getD j none with
    | none =>
      rw [ho] at he hR
      have he : v = .slice none 0 0 := he
      subst he
      exact ⟨none, 0, 0, hcell, fun h => by simp at h, fun _ => ⟨rfl, hR.symm, hE24⟩⟩
    | some x =>
      rw [ho] at he hR
      obtain ⟨A', rfl, hA'⟩ := he
      refine ⟨A', 1, 1, hcell, fun _ => ⟨by omega, _, rfl, fun w5 hE5 => ?_⟩, fun h => by simp at h⟩
      have hE25 := hE24.trans hE5
      obtain ⟨v2, hcell2, he2⟩ := (hM2.upd hE25 (fun _ h => h.elim)).ent hj
      rw [ho] at he2
      obtain ⟨A2, rfl, hA2⟩ := he2
      refine ⟨A2, 1, 1, hcell2, hA2.idxL 0 rfl (by simp) fun ad11 ha11 => hA2.cellL ha11 0 rfl (by simp) (d := x) fun B1 m1 d1 p1 => ki fun ad12 ha12 => kz hE25 ha12 fun A1 l1 c1 q1 => ?_⟩
      refine callB (same_c _ x x0 (Nat.le_refl _) p1 q1) fun w6 hE6 => ki fun ad13 ha13 => kz (hE25.trans hE6) ha13 fun A3 l3 c3 q3 => ?_
      refine callB (Rounds_c _ x0 (Nat.le_refl _) q3) fun w7 hE7 => ⟨fun h7 w8 hU8 hh8 => ?_, fun h7 => ⟨fun h8 => ⟨by omega, _, rfl, fun w8 hE8 => ?_⟩, fun h8 w8 hE8 => ?_⟩⟩
      · exact hb2 ((hE25.trans hE6).trans hE7) hU8 hh8 (by rw [← hR, cellThr]; simp only [h7, if_true])
      · have hE28 := ((hE25.trans hE6).trans hE7).trans hE8
        refine ⟨_, (hM2.upd hE28 (fun _ h => h.elim)).at' hj, fun h9 w9 hU9 hh9 => ?_, fun h9 => ⟨rfl, ?_, hE28⟩⟩
        · exact hb2 hE28 hU9 hh9 (by rw [← hR, cellThr, hjt]; simp only [h7, h8, h9, Bool.false_eq_true, if_false, if_true])
        · rw [← hR, cellThr, hjt]; simp only [h7, h8, h9, Bool.false_eq_true, if_false, if_true]
      · exact ⟨rfl, by rw [← hR, cellThr]; simp only [h7, h8, Bool.false_eq_true, if_false], ((hE25.trans hE6).trans hE7).trans hE8⟩
  rintro _ y w4 ⟨rfl, hres, hE4⟩
  rw [hres]
  refine ki fun ad15 ha15 w5 hE5 => kz (hE4.trans hE5) ha15 fun A1 l1 c1 q1 id1 hid1 => ⟨by omega, _, rfl, fun w6 hE6 hi6 hcell => ?_⟩
  have hE26 := (hE4.trans hE5).trans hE6
  have hs5 := (hE4.trans hE5).size
  have hs6 := hE6.size
  have hM6 := hM2.upd hE26 (fun _ h => h.elim)
  have hn : Int.toNat (j : Int) * 1 = j := by omega
  rw [add_plain, Nat.mul_one, Nat.zero_add]
  have hbox : NdsR w6 (Fw b g h) [x0] (some ⟨id1, 0, none⟩) 1 1 := (nds_one (q1.ext hE6) hcell (fun h => nomatch h)).mono fun x hx => by
    rcases hx with rfl | hx
    · intro hS; rcases hS with e | e | e <;> omega
    · exact hx
  refine ⟨_, hM6.setK sl91 hj hbox, ?_⟩
  rintro w7 ⟨hM7, hU7, hs7⟩
  refine ⟨_, hU7, away_of fun i hi hS => ?_, by omega, _, rfl, fun w8 hE8 hcell8 => ?_⟩
  · simp only [List.mem_cons, List.not_mem_nil, or_false] at hi
    have := hM2.bg
    rcases hi with rfl | rfl | rfl <;> omega
  rw [add_plain, Nat.zero_add]
  have hs8 := hE8.size
  refine ⟨_, (hM7.upd hE8 (fun _ h => h.elim)).setT sl25 hj a, ?_⟩
  rintro w9 ⟨hM9, hU9, hs9⟩
  refine ⟨_, hU9, away_of fun i hi hS => ?_, fun hh9 _ => ?_⟩
  · simp only [List.mem_cons, List.not_mem_nil, or_false] at hi
    have := hM2.bh
    rcases hi with rfl | rfl | rfl <;> omega
  have hU29 : Upd w2 w9 (S3 b g h) := (((ext_s3 hE26).trans' hU7 (fun x hx => .inr (.inl hx))).t3 (ext_s3 hE8)).trans' hU9 (fun x hx => .inr (.inr hx))
  unfold cellOut
  rw [hjt]
  exact ⟨rfl, ⟨hh9, hM9⟩, hU02.t3 hU29⟩
end
section
open Go Go.Vx Go.Proofs
variable {b g h : Nat} {zs : List Int} {C : Option Addr} {cc : Nat}
theorem mustK_c {w : World} {st : WS} {t : Bool} (hw : Lst w b g h zs C cc st) :
    CallsX E.P 109 #[.pointer (some ⟨b, 0, none⟩), .bool t] w (LU b g h zs C cc w (if t then some st else none)) (LX b g h w (if t then some st else none)) := by
  refine vc109 hw.1 ⟨fun ht => ⟨by simp at ht; simp [ht], rfl, Upd.refl _ _⟩, fun ht hh => ⟨st, by simp at ht; simp [ht], rfl, ⟨hh, hw.2⟩, Upd.refl _ _⟩⟩
theorem callM {α : Type} {w0 w : World} {ids : List Nat} {st : WS} {t : Bool} {rc : Option α} (hw : Lst w b g h zs C cc st) (h0 : Upd w0 w (S3 b g h)) (haw : Away ids (S3 b g h)) (hn : t = false → rc = none)
    {K : Option Addr → Nat → Nat → Option Nat → Option Nat → Int → World → Prop}
    (k : ∀ w2, t = true → LMem w2 b g h zs C cc st.ks st.ts → Upd w w2 (S3 b g h) → K C zs.length cc (some g) (some h) st.parts w2) :
    ∃ (R : Value → World → Prop) (X' : ContX), CallsX E.P 109 #[.pointer (some ⟨b, 0, none⟩), .bool t] w R X' ∧ (∀ v w2, R v w2 → ∃ y : Value, v = y ∧ ∃ S, Upd w w2 S ∧ Away ids S ∧ ∃ a1 n c1 r1 r2, ∃ x, w2.heap[b]? = some (Obj.cells #[.slice a1 n c1, .map r1, .map r2, .int .i64 x] 103) ∧ 4 = 4 ∧ K a1 n c1 r1 r2 x w2) ∧ ∀ ch w2, X' ch w2 → LX b g h w0 rc ch w2 := by
  refine callLU (mustK_c hw) h0 haw (fun e => hn ?_) (fun s2 w2 he hw2 hU2 => ?_)
  · cases t with
    | false => rfl
    | true => cases e
  · cases t with
    | false => cases he
    | true => cases he; exact k w2 rfl hw2.2 hU2
def KL (b g h : Nat) (zs : List Int) (C : Option Addr) (cc : Nat) (kf : Int → Int → WS → Nd → Option (Int × WS)) (n : Nd) : Prop :=
  ∀ {w : World} {A : Option Addr} {l c : Nat} (a q : Int) (st : WS), Lst w b g h zs C cc st → NdsR w (Fw b g h) n.kids A l c →
    CallsX E.P 79 #[.pointer (some ⟨b, 0, none⟩), ndA n A l c, .int .i64 a, .int .i64 q] w (LR b g h zs C cc w (kf a q st n)) (LX b g h w (kf a q st n))
theorem ofK_c {kf : Int → Int → WS → Nd → Option (Int × WS)} {n : Nd} (hk : KL b g h zs C cc kf n) {w : World} {A : Option Addr} {l c : Nat} (a q x : Int) (st : WS) (hw : Lst w b g h zs C cc st) (hr : NdsR w (Fw b g h) n.kids A l c) :
    CallsX E.P 137 #[.pointer (some ⟨b, 0, none⟩), ndA n A l c, .int .i64 x, .int .i64 a, .int .i64 q] w (LU b g h zs C cc w (ofL (kf a q st n) x)) (LX b g h w (ofL (kf a q st n) x)) := by
  obtain ⟨hb, hg, hh⟩ := hw.lt
  refine vc137 hw.1 ?_
  intro id hid w1 hE1 hi hh1
  refine callL (hk a q st ⟨hh1, hw.2.ext hE1⟩ (hr.ext hE1)) (ext_s3 hE1) (away_s3 hb hg hh (by simp; omega)) (fun e => by rw [e]; rfl) fun y s1 w2 he hw2 hU2 hh2 => ?_
  have hs2 := hU2.size
  have hs1 := hE1.size
  refine callM (t := y == x) ⟨hh2, hw2.2⟩ ((ext_s3 hE1).t3 hU2) (away_s3 hb hg hh (by simp; omega)) (fun e => by rw [he]; simp only [ofL, e, Bool.false_eq_true, if_false]) fun w3 ht hM3 hU3 hh3 => ?_
  exact ⟨s1, by rw [he]; simp only [ofL, ht, if_true], rfl, ⟨hh3, hM3⟩, ((ext_s3 hE1).t3 hU2).t3 hU3⟩
theorem test_c (t : Nat) (ht : t = 127 ∨ t = 128 ∨ t = 129 ∨ t = 131 ∨ t = 134) (v a : Int) {w : World} : CallsX E.P t #[.int .i64 v] w (IsV (.bool (testB t v a)) w) never := by
  have r := Upd.refl w no
  rcases ht with rfl | rfl | rfl | rfl | rfl
  · exact vc127 ⟨rfl, r⟩
  · refine vc128 ⟨fun h => ⟨by simp only [testB, h, Bool.true_or], r⟩, fun h => ⟨by simp only [testB, h, Bool.false_or], r⟩⟩
  · exact vc129 ⟨rfl, r⟩
  · exact vc131 ⟨rfl, r⟩
  · refine vc134 ⟨fun h => ⟨by simp only [testB, h, Bool.true_and], r⟩, fun h => ⟨by simp only [testB, h, Bool.false_and], r⟩⟩
theorem around_c {w : World} {ab : Nat} (v a : Int) (hh : w.heap[ab]? = some (.cells #[.int .i64 a] 3 (0, 0))) : CallsX E.P 130 #[.int .i64 v, .pointer (some ⟨ab, 0, none⟩)] w (IsV (.bool (testB 130 v a)) w) never := by
  have r := Upd.refl w no
  refine vc130 hh ⟨fun h _ => ⟨by simp only [testB, h, Bool.true_and], r⟩, fun h _ => ⟨by simp only [testB, h, Bool.false_and], r⟩⟩
theorem alikeK_c {kf : Int → Int → WS → Nd → Option (Int × WS)} {k v : Int} {s : ByteArray} {kids : List Nd} (h2 : 2 ≤ kids.length) (hk0 : KL b g h zs C cc kf (kids.getD 0 nd0)) (hk1 : KL b g h zs C cc kf (kids.getD 1 nd0))
    {w : World} {A : Option Addr} {l c : Nat} (a q : Int) (st : WS) (hw : Lst w b g h zs C cc st) (hr : NdsR w (Fw b g h) kids A l c) :
    CallsX E.P 132 #[.pointer (some ⟨b, 0, none⟩), ndA (.mk k v s kids) A l c, .int .i64 a, .int .i64 q] w (LR b g h zs C cc w (alikeL (kf a q) st v kids)) (LX b g h w (alikeL (kf a q) st v kids)) := by
  obtain ⟨hb, hg, hh⟩ := hw.lt
  dsimp only [ndA, Nd.k, Nd.n, Nd.s, Nd.kids]
  refine vc132 hw.1 ?_
  intro id hid w1 hE1 hi hh1
  refine callM (t := v == 0) ⟨hh1, hw.2.ext hE1⟩ (ext_s3 hE1) (away_s3 hb hg hh (by simp; omega)) (fun e => by simp only [alikeL, e, Bool.false_eq_true, if_false]) fun w2 ht hM2 hU2 => ?_
  have hU02 := (ext_s3 hE1).t3 hU2
  have hs2 := hU02.size
  refine hr.idxL 1 rfl (by omega) fun ad ha => hr.idxL 0 rfl (by omega) fun ad1 ha1 => ?_
  have hv : alikeL (kf a q) st v kids = (kf a q st (kids.getD 0 nd0)).bind fun p => (ofL (kf a q p.2 (kids.getD 1 nd0)) p.1).map fun s2 => (2, s2) := by rw [alikeL, if_pos ht]
  have last : ∀ {w3 w4 : World} {A1 : Option Addr} {l1 c1 : Nat} {y : Int} {s1 : WS}, kf a q st (kids.getD 0 nd0) = some (y, s1) → Lst w4 b g h zs C cc s1 → Upd w w3 (S3 b g h) → Upd w3 w4 (S3 b g h) → NdsR w4 (Fw b g h) (kids.getD 1 nd0).kids A1 l1 c1 → w4.heap[b]? = some (.cells (lcells zs C cc g h s1) 103 (0, 0)) →
      ∃ (R : Value → World → Prop) (X' : ContX), CallsX E.P 137 #[.pointer (some ⟨b, 0, none⟩), ndA (kids.getD 1 nd0) A1 l1 c1, .int .i64 y, .int .i64 a, .int .i64 q] w4 R X' ∧ (∀ u w2, R u w2 → ∃ y : Value, u = y ∧ ∃ S, Upd w4 w2 S ∧ Away [id] S ∧ ∃ a1 n c1 r1 r2, ∃ x, w2.heap[b]? = some (Obj.cells #[.slice a1 n c1, .map r1, .map r2, .int .i64 x] 103) ∧ 4 = 4 ∧
        (w2.heap[b]? = some (Obj.cells #[.slice a1 n c1, .map r1, .map r2, .int .i64 x] 103) → LR b g h zs C cc w (alikeL (kf a q) st v kids) (.int .i64 2) w2)) ∧ ∀ ch w2, X' ch w2 → LX b g h w (alikeL (kf a q) st v kids) ch w2 := fun he hw4 h03 h34 q1 hh4 => by
    refine callLU (ofK_c hk1 a q _ _ hw4 q1) (h03.t3 h34) (away_s3 hb hg hh (by simp; omega)) (fun e => by rw [hv, he]; simp only [Option.bind_some, e, Option.map_none]) fun s2 w5 he5 hw5 hU5 hh5 => ?_
    exact ⟨(2, s2), by rw [hv, he]; simp only [Option.bind_some, he5, Option.map_some], rfl, ⟨hh5, hw5.2⟩, (h03.t3 h34).t3 hU5⟩
  have first : ∀ {w3 : World} {A1 : Option Addr} {l1 c1 : Nat}, Ext w2 w3 → NdsR w3 (Fw b g h) (kids.getD 0 nd0).kids A1 l1 c1 → w3.heap[b]? = some (.cells (lcells zs C cc g h st) 103 (0, 0)) →
      CallsX E.P 79 #[.pointer (some ⟨b, 0, none⟩), ndA (kids.getD 0 nd0) A1 l1 c1, .int .i64 a, .int .i64 q] w3 (LR b g h zs C cc w3 (kf a q st (kids.getD 0 nd0))) (LX b g h w3 (kf a q st (kids.getD 0 nd0))) := fun hE q0 hh3 => hk0 a q st ⟨hh3, hM2.ext hE⟩ q0
  have hnone : kf a q st (kids.getD 0 nd0) = none → alikeL (kf a q) st v kids = none := fun e => by rw [hv, e]; rfl
  have aw := away_s3 (b := b) (g := g) (h := h) (ids := [id]) hb hg hh (by simp; omega)
  refine ⟨fun w3 hE3 => ((hr.s3 hU02).ext hE3).cellL ha 1 rfl (by omega) (d := nd0) fun A1 l1 c1 q1 => ((hr.s3 hU02).ext hE3).cellL ha1 0 rfl (by omega) (d := nd0) fun A0 l0 c0 q0 hh3 => ?_, fun w3 hE3 => ((hr.s3 hU02).ext hE3).cellL ha1 0 rfl (by omega) (d := nd0) fun A0 l0 c0 q0 => ⟨((hr.s3 hU02).ext hE3).cellL ha 1 rfl (by omega) (d := nd0) fun A1 l1 c1 q1 hh3 => ?_, fun hh3 => ?_⟩⟩
  · exact callL (first hE3 q0 hh3) (hU02.t3 (ext_s3 hE3)) aw hnone fun y s1 w4 he hw4 hU4 hh4 => last he ⟨hh4, hw4.2⟩ (hU02.t3 (ext_s3 hE3)) hU4 (q1.s3 hU4) hh4
  · exact callL (first hE3 q0 hh3) (hU02.t3 (ext_s3 hE3)) aw hnone fun y s1 w4 he hw4 hU4 hh4 => last he ⟨hh4, hw4.2⟩ (hU02.t3 (ext_s3 hE3)) hU4 (q1.s3 hU4) hh4
  · exact callL (first hE3 q0 hh3) (hU02.t3 (ext_s3 hE3)) aw hnone fun y s1 w4 he hw4 hU4 => (((hr.s3 hU02).ext hE3).s3 hU4).cellL ha 1 rfl (by omega) (d := nd0) fun A1 l1 c1 q1 hh4 => last he ⟨hh4, hw4.2⟩ (hU02.t3 (ext_s3 hE3)) hU4 q1 hh4
theorem choiceK_c {kf : Int → Int → WS → Nd → Option (Int × WS)} {k v : Int} {s : ByteArray} {kids : List Nd} (h3 : 3 ≤ kids.length) (hk0 : KL b g h zs C cc kf (kids.getD 0 nd0)) (hk1 : KL b g h zs C cc kf (kids.getD 1 nd0)) (hk2 : KL b g h zs C cc kf (kids.getD 2 nd0))
    {w : World} {A : Option Addr} {l c : Nat} (a q : Int) (st : WS) (hw : Lst w b g h zs C cc st) (hr : NdsR w (Fw b g h) kids A l c) :
    CallsX E.P 133 #[.pointer (some ⟨b, 0, none⟩), ndA (.mk k v s kids) A l c, .int .i64 a, .int .i64 q] w (LR b g h zs C cc w (choiceL (kf a q) st v kids)) (LX b g h w (choiceL (kf a q) st v kids)) := by
  obtain ⟨hb, hg, hh⟩ := hw.lt
  dsimp only [ndA, Nd.k, Nd.n, Nd.s, Nd.kids]
  refine vc133 hw.1 ?_
  intro id hid w1 hE1 hi hh1
  refine callM (t := v == 0) ⟨hh1, hw.2.ext hE1⟩ (ext_s3 hE1) (away_s3 hb hg hh (by simp; omega)) (fun e => by simp only [choiceL, e, Bool.false_eq_true, if_false]) fun w2 ht hM2 hU2 => ?_
  have hU02 := (ext_s3 hE1).t3 hU2
  have hs2 := hU02.size
  have hv : choiceL (kf a q) st v kids = (ofL (kf a q st (kids.getD 0 nd0)) 2).bind fun s1 => (kf a q s1 (kids.getD 1 nd0)).bind fun p => (ofL (kf a q p.2 (kids.getD 2 nd0)) p.1).map fun s3 => (p.1, s3) := by rw [choiceL, if_pos ht]
  refine hr.idxL 0 rfl (by omega) fun ad ha => (hr.s3 hU02).cellL ha 0 rfl (by omega) (d := nd0) fun A0 l0 c0 q0 hh2 => ?_
  refine callLU (ofK_c hk0 a q 2 st ⟨hh2, hM2⟩ q0) hU02 (away_s3 hb hg hh (by simp; omega)) (fun e => by rw [hv, e]; rfl) fun s1 w3 he3 hw3 hU3 => ?_
  have hU03 := hU02.t3 hU3
  refine hr.idxL 1 rfl (by omega) fun ad1 ha1 => (hr.s3 hU03).cellL ha1 1 rfl (by omega) (d := nd0) fun A1 l1 c1 q1 hh3 => ?_
  refine callL (hk1 a q s1 ⟨hh3, hw3.2⟩ q1) hU03 (away_s3 hb hg hh (by simp; omega)) (fun e => by rw [hv, he3]; simp only [Option.bind_some, e, Option.bind_none]) fun y s2 w4 he4 hw4 hU4 => ?_
  have hU04 := hU03.t3 hU4
  refine hr.idxL 2 rfl (by omega) fun ad2 ha2 => (hr.s3 hU04).cellL ha2 2 rfl (by omega) (d := nd0) fun A2 l2 c2 q2 hh4 => ?_
  refine callLU (ofK_c hk2 a q y s2 ⟨hh4, hw4.2⟩ q2) hU04 (away_s3 hb hg hh (by simp; omega)) (fun e => by rw [hv, he3]; simp only [Option.bind_some, he4, e, Option.map_none]) fun s3 w5 he5 hw5 hU5 hh5 => ?_
  exact ⟨(y, s3), by rw [hv, he3]; simp only [Option.bind_some, he4, he5, Option.map_some], rfl, ⟨hh5, hw5.2⟩, hU04.t3 hU5⟩
end
section
open Go Go.Vx Go.Proofs
variable {b g h : Nat} {zs : List Int} {C : Option Addr} {cc : Nat}
theorem loopK {α : Type} {kf : Int → Int → WS → Nd → Option (Int × WS)} {K a q : Int} {kids : List Nd} {A : Option Addr} {l c : Nat} (ids : List Nat) {w0 w : World} {s0 : WS} {rc : Option α} {v : Value} {R : Value → World → Prop}
    (hk : ∀ j (_ : j < kids.length), KL b g h zs C cc kf kids[j]) (hr : NdsR w0 (Fw b g h) kids A l c) (hl : l < 2 ^ 48) (hlt : b < w0.heap.size ∧ g < w0.heap.size ∧ h < w0.heap.size) (hids : ∀ i ∈ ids, w0.heap.size ≤ i)
    (h0 : Upd w0 w (S3 b g h)) (hM : LMem w b g h zs C cc s0.ks s0.ts) (hn : lookAll (kf a q) K s0 kids = none → rc = none)
    (fin : ∀ (s1 : WS) (w2 : World), lookAll (kf a q) K s0 kids = some s1 → LMem w2 b g h zs C cc s1.ks s1.ts → Upd w0 w2 (S3 b g h) → w2.heap[b]? = some (.cells (lcells zs C cc g h s1) 103 (0, 0)) → R v w2) :
    ∃ (I : Int → Option Addr → Nat → Nat → Option Nat → Option Nat → Int → World → Prop), ∃ (m : Int → Option Addr → Nat → Nat → Option Nat → Option Nat → Int → Nat), I 0 C zs.length cc (some g) (some h) s0.parts w ∧
      ∀ (_ : Nat → Value) (x : Int) (a1 : Option Addr) (n c1 : Nat) (r1 r2 : Option Nat) (p : Int) (w2 : World), I x a1 n c1 r1 r2 p w2 →
        (decide (x < (l : Int)) = true → (0 ≤ x ∧ x < (l : Int)) ∧ ∃ ad, A = some ad ∧ ∃ x4 x5, ∃ x6 a2, ∃ n2 c2, CellsIn w2 (Addr.add ad (Int.toNat x * 4)) [.int .i64 x4, .int .i64 x5, .string x6, .slice a2 n2 c2] ∧ ∀ id1, w2.heap.size ≤ id1 → ∀ w3, Upd w2 w3 (setOf []) → id1 < w3.heap.size →
          w3.heap[b]? = some (Obj.cells (#[.slice a1 n c1, Value.map r1, Value.map r2, .int .i64 p]) 103) → ∃ (R1 : Value → World → Prop), ∃ (X' : ContX), CallsX E.P 137 (#[.pointer (some (Addr.mk b 0 none)), .agg (#[.int .i64 x4, .int .i64 x5, .string x6, .slice a2 n2 c2]), .int .i64 K, .int .i64 a, .int .i64 q]) w3 R1 X' ∧
            (∀ (u : Value) (w4 : World), R1 u w4 → ∃ (u1 : Value), u = u1 ∧ ∃ S, Upd w3 w4 S ∧ Away (ids ++ [id1]) S ∧ ∃ a3 n3, ∃ c3 r3, ∃ r4 p2, w4.heap[b]? = some (Obj.cells (#[.slice a3 n3 c3, Value.map r3, Value.map r4, .int .i64 p2]) 103) ∧ 4 = 4 ∧ I (w64 (x + 1)) a3 n3 c3 r3 r4 p2 w4 ∧ m (w64 (x + 1)) a3 n3 c3 r3 r4 p2 < m x a1 n c1 r1 r2 p) ∧
            ∀ (ch : List PanicEntry) (w5 : World), X' ch w5 → LX b g h w0 rc ch w5) ∧
        (decide (x < (l : Int)) = false → w2.heap[b]? = some (Obj.cells (#[.slice a1 n c1, Value.map r1, Value.map r2, .int .i64 p]) 103) → R v w2) := by
  obtain ⟨hb, hg, hh⟩ := hlt
  obtain rfl := hr.len
  refine ⟨fun x a1 n c1 r1 r2 p w2 => ∃ (j : Nat) (s : WS), x = j ∧ j ≤ kids.length ∧ (C = a1 ∧ n = zs.length ∧ cc = c1 ∧ r1 = some g ∧ r2 = some h ∧ p = s.parts) ∧ LMem w2 b g h zs C cc s.ks s.ts ∧ Upd w0 w2 (S3 b g h) ∧ lookAll (kf a q) K s (kids.drop j) = lookAll (kf a q) K s0 kids,
    fun x _ _ _ _ _ _ => ((kids.length : Int) - x).toNat, ⟨0, s0, rfl, Nat.zero_le _, ⟨rfl, rfl, rfl, rfl, rfl, rfl⟩, hM, h0, rfl⟩, ?_⟩
  rintro _ x a1 n c1 r1 r2 p w2 ⟨j, s, rfl, hj, ⟨rfl, rfl, rfl, rfl, rfl, rfl⟩, hM2, hU2, hL⟩
  refine ⟨fun hlt => ?_, fun hlt hh2 => ?_⟩
  · have hlt : j < kids.length := by simpa using hlt
    refine hr.idx hlt fun ad ha => (hr.s3 hU2).cell ha hlt fun A1 l1 c1 q1 id1 hid1 w3 hE3 hi3 hh3 => ?_
    rw [drop_cons hlt, lookAll] at hL
    have hs2 := hU2.size
    refine callLU (ofK_c (hk j hlt) a q K s ⟨hh3, hM2.ext hE3⟩ (q1.ext hE3)) (hU2.t3 (ext_s3 hE3)) (away_s3 hb hg hh fun i hi => ?_) (fun e => hn (by rw [← hL, e]; rfl)) fun s1 w4 he hw4 hU4 => ⟨⟨j + 1, s1, w64_succ (by omega), hlt, ⟨rfl, rfl, rfl, rfl, rfl, rfl⟩, hw4.2, (hU2.t3 (ext_s3 hE3)).t3 hU4, by rw [← hL, he]; rfl⟩, ?_⟩
    · rcases List.mem_append.1 hi with hi | hi
      · exact hids i hi
      · simp only [List.mem_singleton] at hi; omega
    · have := w64_succ (j := j) (by omega)
      dsimp only
      rw [this]; exact mea_succ hlt
  · have hlt : ¬ j < kids.length := by simpa using hlt
    rw [List.drop_eq_nil_of_le (by omega), lookAll] at hL
    exact fin s w2 hL.symm hM2 hU2 hh2
def SLk (b g h : Nat) (zs : List Int) (C : Option Addr) (cc : Nat) (kf : Int → Int → WS → Nd → Option (Int × WS)) (n : Nd) : Prop :=
  ∀ {w : World} {A : Option Addr} {l c : Nat} (a q : Int) (st : WS), Lst w b g h zs C cc st → NdsR w (Fw b g h) n.kids A l c →
    CallsX E.P 149 #[.pointer (some ⟨b, 0, none⟩), ndA n A l c, .int .i64 a, .int .i64 q] w (LU b g h zs C cc w (setLk (kf a q) st n)) (LX b g h w (setLk (kf a q) st n))
theorem lst_put {b g h : Nat} {zs : List Int} {C : Option Addr} {cc : Nat} {w w' : World} {st st' : WS} (q : LMem w b g h zs C cc st.ks st.ts) (k : Upd w w' (setOf [b])) (hh : w'.heap[b]? = some (.cells (lcells zs C cc g h st') 103 (0, 0))) (h1 : st'.ks = st.ks) (h2 : st'.ts = st.ts) : Lst w' b g h zs C cc st' :=
  ⟨hh, by rw [h1, h2]; exact q.upd k upd_b⟩
theorem setK_c {kf : Int → Int → WS → Nd → Option (Int × WS)} {n : Nd} (hk : ∀ j (_ : j < n.kids.length), KL b g h zs C cc kf n.kids[j]) : SLk b g h zs C cc kf n := by
  intro w A l c a q st hw hr
  obtain ⟨hb, hg, hh⟩ := hw.lt
  obtain ⟨k, v, s, kids⟩ := n
  have hl := hr.lt
  have hlen := hr.len
  dsimp only [ndA, Nd.k, Nd.n, Nd.s, Nd.kids] at *
  have hz : ∀ x : Int, ((l : Int) == x) = ((kids.length : Int) == x) := fun x => by rw [hlen]
  refine vc149 hw.1 ?_
  intro id hid
  have aw : ∀ {S : List Nat}, (∀ i ∈ S, w.heap.size ≤ i) → Away S (S3 b g h) := fun hS => away_s3 hb hg hh hS
  have hi1 : ∀ i ∈ [id], w.heap.size ≤ i := by simp; omega
  refine ⟨fun a1 n1 c1 r1 r2 x w2 => (C = a1 ∧ n1 = zs.length ∧ cc = c1 ∧ r1 = some g ∧ r2 = some h ∧ x = st.inc.parts) ∧ (decide (w64 (st.parts + 1) ≤ 4096) && v == 0) = true ∧ LMem w2 b g h zs C cc st.ks st.ts ∧ Upd w w2 (S3 b g h), ⟨fun hp w1 hU1 _ hh1 => ?_, fun hp w1 hU1 _ hh1 => ?_⟩, ?_⟩
  · refine callM (st := st.inc) (t := v == 0) (lst_put (st := st) hw.2 hU1 hh1 rfl rfl) (upd_s3 hU1) (aw hi1) (fun e => by simp only [setLk, hp, e, Bool.and_false, Bool.not_false, if_true]) fun w2 ht hM2 hU2 => ?_
    exact ⟨⟨rfl, rfl, rfl, rfl, rfl, rfl⟩, by simp only [hp, ht, Bool.and_self], hM2, (upd_s3 hU1).t3 hU2⟩
  · exact callM (st := st.inc) (t := false) (lst_put (st := st) hw.2 hU1 hh1 rfl rfl) (upd_s3 hU1) (aw hi1) (fun e => by simp only [setLk, hp, Bool.false_and, Bool.not_false, if_true]) fun w2 ht _ _ => by cases ht
  rintro _ _ _ _ _ _ _ w2 ⟨⟨rfl, rfl, rfl, rfl, rfl, rfl⟩, hc, hM2, hU2⟩
  have hs2 := hU2.size
  generalize hres : setLk (kf a q) st (.mk k v s kids) = res
  rw [setLk, hc] at hres
  simp only [Bool.not_true, Bool.false_eq_true, if_false] at hres
  refine ⟨fun a1 n1 c1 r1 r2 x w3 => (C = a1 ∧ n1 = zs.length ∧ cc = c1 ∧ r1 = some g ∧ r2 = some h ∧ x = st.inc.parts) ∧ (if strEq s (ByteArray.mk #[]) then lookAll (kf a q) 3 st.inc kids else none) = res ∧ LMem w3 b g h zs C cc st.ks st.ts ∧ Upd w w3 (S3 b g h), ⟨fun e23 => ?_, fun e23 => ?_⟩, ?_⟩
  · simp only [e23, if_true] at hres
    refine callB (lexName_c s) fun w3 hE3 => ⟨fun hx hh3 => ?_, fun hx hh3 => ?_⟩
    · refine callM (st := st.inc) (t := (l : Int) == 0) ⟨hh3, hM2.ext hE3⟩ (hU2.t3 (ext_s3 hE3)) (aw hi1) (fun e => by rw [← hres, hx, ← hz, e]; rfl) fun w4 ht hM4 hU4 hh4 => ?_
      exact ⟨st.inc, by rw [← hres, hx, ← hz, ht]; rfl, rfl, ⟨hh4, hM4⟩, (hU2.t3 (ext_s3 hE3)).t3 hU4⟩
    · exact callM (st := st.inc) (t := false) ⟨hh3, hM2.ext hE3⟩ (hU2.t3 (ext_s3 hE3)) (aw hi1) (fun e => by rw [← hres, hx]; rfl) fun w4 ht _ _ => by cases ht
  · simp only [e23, Bool.false_eq_true, if_false] at hres
    refine ⟨fun e22 hh2 => ?_, fun e22 => ⟨fun e24 hh2 => ?_, fun e24 => ⟨fun e25 => ?_, fun e25 hh2 => ?_⟩⟩⟩
    · simp only [e22, if_true] at hres
      refine callM (st := st.inc) (t := (l : Int) == 0) ⟨hh2, hM2⟩ hU2 (aw hi1) (fun e => by rw [← hres, ← hz, e]; rfl) fun w4 ht hM4 hU4 => ?_
      exact ⟨⟨rfl, rfl, rfl, rfl, rfl, rfl⟩, by rw [← hres, ← hz, ht]; simp only [Bool.true_and], hM4, hU2.t3 hU4⟩
    · simp only [e22, e24, Bool.false_eq_true, if_false, if_true] at hres
      refine callM (st := st.inc) (t := (l : Int) == 1) ⟨hh2, hM2⟩ hU2 (aw hi1) (fun e => by rw [← hres, ← hz, e]; rfl) fun w4 ht hM4 hU4 => ?_
      exact ⟨⟨rfl, rfl, rfl, rfl, rfl, rfl⟩, by rw [← hres, ← hz, ht]; simp only [Bool.true_and], hM4, hU2.t3 hU4⟩
    · simp only [e22, e24, e25, Bool.false_eq_true, if_false, Bool.true_and] at hres
      exact ⟨⟨rfl, rfl, rfl, rfl, rfl, rfl⟩, hres, hM2, hU2⟩
    · simp only [e22, e24, e25, Bool.false_eq_true, if_false, Bool.false_and] at hres
      exact callM (st := st.inc) (t := false) ⟨hh2, hM2⟩ hU2 (aw hi1) (fun e => hres.symm) fun w4 ht _ _ => by cases ht
  rintro _ _ _ _ _ _ _ w3 ⟨⟨rfl, rfl, rfl, rfl, rfl, rfl⟩, hc2, hM3, hU3⟩ hh3
  refine callM (st := st.inc) (t := strEq s (ByteArray.mk #[])) ⟨hh3, hM3⟩ hU3 (aw hi1) (fun e => by rw [← hc2, e]; rfl) fun w4 ht hM4 hU4 => ?_
  rw [ht, if_pos rfl] at hc2
  exact loopK (s0 := st.inc) [id] hk hr hl ⟨hb, hg, hh⟩ hi1 (hU3.t3 hU4) hM4 (fun e => by rw [← hc2, e]) fun s1 w5 he hM5 hU5 hh5 => ⟨s1, by rw [← hc2, he], rfl, ⟨hh5, hM5⟩, hU5⟩
end
section
open Go Go.Vx Go.Proofs
variable {b g h : Nat} {zs : List Int} {C : Option Addr} {cc : Nat}
theorem quantK_c {kf : Int → Int → WS → Nd → Option (Int × WS)} {k v : Int} {s : ByteArray} {kids : List Nd} (h2 : 2 ≤ kids.length) (hs0 : SLk b g h zs C cc kf (kids.getD 0 nd0)) (hk1 : KL b g h zs C cc kf (kids.getD 1 nd0))
    {w : World} {A : Option Addr} {l c : Nat} (a q : Int) (st : WS) (hw : Lst w b g h zs C cc st) (hr : NdsR w (Fw b g h) kids A l c) :
    CallsX E.P 135 #[.pointer (some ⟨b, 0, none⟩), ndA (.mk k v s kids) A l c, .int .i64 a, .int .i64 q] w (LR b g h zs C cc w (quantL kf st v (kids.getD 0 nd0) (kids.getD 1 nd0) a q)) (LX b g h w (quantL kf st v (kids.getD 0 nd0) (kids.getD 1 nd0) a q)) := by
  obtain ⟨hb, hg, hh⟩ := hw.lt
  dsimp only [ndA, Nd.k, Nd.n, Nd.s, Nd.kids]
  refine vc135 hw.1 ?_
  intro id hid
  have aw : Away [id] (S3 b g h) := away_s3 hb hg hh (by simp; omega)
  generalize hres : quantL kf st v (kids.getD 0 nd0) (kids.getD 1 nd0) a q = res
  rw [quantL] at hres
  refine ⟨fun a1 n1 c1 r1 r2 x w2 => (C = a1 ∧ n1 = zs.length ∧ cc = c1 ∧ r1 = some g ∧ r2 = some h ∧ x = st.parts) ∧ (decide (v ≥ 1) && decide (v ≤ 6) && decide (q < 4)) = true ∧ LMem w2 b g h zs C cc st.ks st.ts ∧ Upd w w2 (S3 b g h), ⟨fun h1 => ⟨fun h6 w1 hE1 _ hh1 => ?_, fun h6 w1 hE1 _ hh1 => ?_⟩, fun h1 w1 hE1 _ hh1 => ?_⟩, ?_⟩
  · refine callM (st := st) (t := decide (q < 4)) ⟨hh1, hw.2.ext hE1⟩ (ext_s3 hE1) aw (fun e => by rw [← hres, h1, h6, e]; rfl) fun w2 ht hM2 hU2 => ?_
    exact ⟨⟨rfl, rfl, rfl, rfl, rfl, rfl⟩, by rw [h1, h6, ht]; rfl, hM2, (ext_s3 hE1).t3 hU2⟩
  · exact callM (st := st) (t := false) ⟨hh1, hw.2.ext hE1⟩ (ext_s3 hE1) aw (fun e => by rw [← hres, h1, h6]; rfl) fun w2 ht _ _ => by cases ht
  · exact callM (st := st) (t := false) ⟨hh1, hw.2.ext hE1⟩ (ext_s3 hE1) aw (fun e => by rw [← hres, h1]; rfl) fun w2 ht _ _ => by cases ht
  rintro _ _ _ _ _ _ _ w2 ⟨⟨rfl, rfl, rfl, rfl, rfl, rfl⟩, hc, hM2, hU2⟩
  have hs2 := hU2.size
  rw [hc, if_pos rfl] at hres
  refine hr.idxL 0 rfl (by omega) fun ad ha => (hr.s3 hU2).cellL ha 0 rfl (by omega) (d := nd0) fun A0 l0 c0 q0 hh2 => ?_
  refine callLU (hs0 a (w64 (q + 1)) st ⟨hh2, hM2⟩ q0) hU2 aw (fun e => by rw [← hres, e]; rfl) fun s1 w3 he3 hw3 hU3 => ?_
  have hU03 := hU2.t3 hU3
  rw [he3, Option.bind_some] at hres
  have last : ∀ {w4 : World} {A1 : Option Addr} {l1 c1 : Nat} (bd gv : Int), w4 = w3 → NdsR w4 (Fw b g h) (kids.getD 1 nd0).kids A1 l1 c1 → w4.heap[b]? = some (.cells (lcells zs C cc g h s1) 103 (0, 0)) → (if decide (v ≤ 3) then 2 else 1) = bd → (if decide (v ≤ 2) then 2 else 1) = gv →
      ∃ (R : Value → World → Prop) (X' : ContX), CallsX E.P 137 #[.pointer (some ⟨b, 0, none⟩), ndA (kids.getD 1 nd0) A1 l1 c1, .int .i64 bd, .int .i64 (w64 (a + 1)), .int .i64 (w64 (q + 1))] w4 R X' ∧ (∀ u w2, R u w2 → ∃ y : Value, u = y ∧ ∃ S, Upd w4 w2 S ∧ Away [id] S ∧ ∃ a1 n c1 r1 r2, ∃ x, w2.heap[b]? = some (Obj.cells #[.slice a1 n c1, .map r1, .map r2, .int .i64 x] 103) ∧ 4 = 4 ∧
        (w2.heap[b]? = some (Obj.cells #[.slice a1 n c1, .map r1, .map r2, .int .i64 x] 103) → LR b g h zs C cc w res (.int .i64 gv) w2)) ∧ ∀ ch w2, X' ch w2 → LX b g h w res ch w2 := by
    rintro w4 A1 l1 c1 bd gv rfl q1 hh4 rfl rfl
    refine callLU (ofK_c hk1 (w64 (a + 1)) (w64 (q + 1)) _ s1 ⟨hh4, hw3.2⟩ q1) hU03 aw (fun e => by rw [← hres, e]; rfl) fun s2 w5 he5 hw5 hU5 hh5 => ?_
    exact ⟨(_, s2), by rw [← hres, he5]; rfl, rfl, ⟨hh5, hw5.2⟩, hU03.t3 hU5⟩
  refine ⟨fun e3 => ⟨fun x w4 => w4 = w3 ∧ x = (if decide (v ≤ 2) then 2 else 1), ⟨fun e2 => ⟨rfl, by rw [e2]; rfl⟩, fun e2 => ⟨rfl, by rw [e2]; rfl⟩⟩, ?_⟩, fun e3 => ⟨fun x w4 => w4 = w3 ∧ x = (if decide (v ≤ 2) then 2 else 1), ⟨fun e2 => ⟨rfl, by rw [e2]; rfl⟩, fun e2 => ⟨rfl, by rw [e2]; rfl⟩⟩, ?_⟩⟩
  · rintro _ x w4 ⟨rfl, rfl⟩
    refine hr.idxL 1 rfl (by omega) fun ad1 ha1 => (hr.s3 hU03).cellL ha1 1 rfl (by omega) (d := nd0) fun A1 l1 c1 q1 hh4 => ?_
    exact last 2 _ rfl q1 hh4 (by rw [e3]; rfl) rfl
  · rintro _ x w4 ⟨rfl, rfl⟩
    refine hr.idxL 1 rfl (by omega) fun ad1 ha1 => (hr.s3 hU03).cellL ha1 1 rfl (by omega) (d := nd0) fun A1 l1 c1 q1 hh4 => ?_
    exact last 1 _ rfl q1 hh4 (by rw [e3]; rfl) rfl
end
end Go.Vx.Tryz
