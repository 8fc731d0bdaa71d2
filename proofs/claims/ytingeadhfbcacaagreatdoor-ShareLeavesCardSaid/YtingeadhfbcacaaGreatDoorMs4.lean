/- Texts of the walk, gathered. -/
import Derived.Test.YtingeadhfbcacaaGreatDoorMs3
import Derived.Test.YtingeadhfbcacaaGreatDoorMs1
import Derived.Test.YtingeadhfbcacaaGreatDoorMs2
import Derived.Shelf.Strings.Runes
set_option linter.unusedSimpArgs false
set_option linter.unusedVariables false
namespace Go.Vx.Tryz
open Go Go.Vx Go.Proofs
variable {b : Nat}
theorem wfL_at {k : Int} : ∀ {l : List Ex} {i : Nat}, wfL k i l = true → ∀ j (hj : j < l.length), wfE l[j] (k == 21 && ((i + j : Nat) : Int) == 0) = true
  | [], _, _, _, hj => by simp at hj
  | x :: l, i, h, j, hj => by
    rw [wfL, Bool.and_eq_true] at h
    cases j with
    | zero => exact h.1
    | succ j =>
      have := wfL_at h.2 j (by simp at hj; omega)
      rw [show i + 1 + j = i + (j + 1) by omega] at this
      exact this
theorem wf_parts {e : Ex} {set : Bool} (h : wfE e set = true) : isSetF e.k = set ∧ ¬ (kidsN e.k e.n < -1) ∧ (kidsN e.k e.n ≥ 0 → (e.kids.length : Int) = kidsN e.k e.n) ∧ ∀ j, j < e.kids.length → wfE (e.kid j) (e.k == 21 && (j : Int) == 0) = true := by
  obtain ⟨k, n, s, l, t⟩ := e
  rw [wfE] at h
  simp only [Bool.and_eq_true, Bool.not_eq_true', decide_eq_false_iff_not, Bool.or_eq_true, beq_iff_eq] at h
  obtain ⟨⟨⟨⟨_, h2⟩, h3⟩, h4⟩, h5⟩ := h
  refine ⟨h4, h2, fun hk => ?_, fun j hj => ?_⟩
  · rcases h3 with h3 | h3
    · exact absurd hk (by have h3 : ¬ (kidsN k n ≥ 0) := by simpa using h3
                          exact h3)
    · exact h3
  · rw [kid_eq hj]
    have := wfL_at h5 j hj
    rw [Nat.zero_add] at this
    exact this
theorem kind_step {kf : CS → Ex → Int × CS} {e : Ex} (hb : BKc kf) (hk : ∀ i, i < e.kids.length → (e.k == 21 && (i : Int) == 0) = false → KCk b kf (e.kid i)) (hkk : e.k = 21 → ∀ i, i < (e.kid 0).kids.length → KCk b kf ((e.kid 0).kid i)) (hwf : wfE e false = true)
    {w : World} {A : Option Addr} {c : Nat} {B : Option Addr} {l cc : Nat} {st : CS} (hw : CkW w b A c st) (hr : ExsR w (NB b) e.kids B l cc) (hs : st.bound.length + e.size ≤ 2 ^ 30) :
    CallsX E.P 50 #[.pointer (some ⟨b, 0, none⟩), exA e B l cc] w (CkI b w (bodyC kf st e)) never := by
  obtain ⟨hset, hkn, hkl, _⟩ := wf_parts hwf
  refine vc61 hw.hh ?_
  intro id hid
  have hlt := hw.blt
  have aw : Away [id] (OB b) := away_ob hlt (by simp; omega)
  have cnt : ∀ {k m : Int}, (e.k == k) = true → kidsN k e.n = m → 0 ≤ m → (e.kids.length : Int) = m := fun h h2 h3 => by
    rw [eq_of_beq h, h2] at hkl
    exact hkl h3
  have kk : ∀ {k : Int}, (e.k == k) = true → k ≠ 21 → ∀ i, i < e.kids.length → KCk b kf (e.kid i) := fun h hne i hi => hk i hi (by
    have h1 : (e.k == 21) = false := by rw [eq_of_beq h]; simpa using hne
    rw [h1]; rfl)
  have keep : ∀ {wa wb : World} {kk : List Ex} {D : Option Addr} {m d : Nat}, ExsR wa (NB b) kk D m d → Upd wa wb (OB b) → ExsR wb (NB b) kk D m d := fun q k => q.upd' k fun x hx _ hS => by have hx : x < b := hx; have hS : x = b := hS; omega
  have sz : ∀ {s : CS} {i : Nat}, s.bound = st.bound → i < e.kids.length → s.bound.length + (e.kid i).size ≤ 2 ^ 30 := fun h hi => by have := kid_sz hi; rw [h]; omega
  unfold bodyC
  refine ⟨fun c1 w1 hE1 hi1 hh1 => ?_, fun c1 => ?_⟩
  · rw [if_pos c1]
    exact ⟨rfl, A, c, hw.ext hE1, ext_ob hE1⟩
  rw [if_neg (nfc c1)]
  refine ⟨fun c2 w1 hE1 hi1 hh1 => ?_, fun c2 => ?_⟩
  · rw [if_pos c2]
    exact ⟨rfl, A, c, hw.ext hE1, ext_ob hE1⟩
  rw [if_neg (nfc c2)]
  refine ⟨fun c3 w1 hE1 hi1 hh1 => ?_, fun c3 => ?_⟩
  · rw [if_pos c3]
    exact ⟨rfl, A, c, hw.ext hE1, ext_ob hE1⟩
  rw [if_neg (nfc c3)]
  refine ⟨fun c4 w1 hE1 hi1 hh1 => ?_, fun c4 => ?_⟩
  · rw [if_pos c4]
    exact callCI (nameC_c e (hw.ext hE1)) aw fun A2 c2 w2 hw2 hU2 hh2 => ⟨rfl, A2, c2, hw2, (ext_ob hE1).tb hU2⟩
  rw [if_neg (nfc c4)]
  refine ⟨fun c6 => ?_, fun c6 => ?_⟩
  · rw [if_pos c6]
    have hl := cnt c6 (m := 1) rfl (by decide)
    refine hr.idx (j := 0) (by omega) fun ad ha w1 hE1 hi1 => kid_cell (hr.ext hE1) (j := 0) (by omega) ha fun A1 l1 c1 q1 hh1 => ?_
    exact callCU (cmust_c (kk c6 (by decide) 0 (by omega)) 1 (hw.ext hE1) q1 (sz rfl (by omega))) aw fun A2 c2 w2 hw2 hU2 hh2 => ⟨rfl, A2, c2, hw2, (ext_ob hE1).tb hU2⟩
  rw [if_neg (nfc c6)]
  refine ⟨fun c7 => ?_, fun c7 => ?_⟩
  · rw [if_pos c7]
    have hl := cnt c7 (m := 1) rfl (by decide)
    refine hr.idx (j := 0) (by omega) fun ad ha w1 hE1 hi1 => kid_cell (hr.ext hE1) (j := 0) (by omega) ha fun A1 l1 c1 q1 hh1 => ?_
    exact callCU (cmust_c (kk c7 (by decide) 0 (by omega)) 2 (hw.ext hE1) q1 (sz rfl (by omega))) aw fun A2 c2 w2 hw2 hU2 hh2 => ⟨rfl, A2, c2, hw2, (ext_ob hE1).tb hU2⟩
  rw [if_neg (nfc c7)]
  refine ⟨fun c8 w1 hE1 hi1 hh1 => ?_, fun c8 => ?_⟩
  · rw [if_pos (by rw [c8]; rfl)]
    have hl := cnt c8 (m := 2) rfl (by decide)
    exact callCI (bin_c hb (by omega) (kk c8 (by decide)) 1 1 (hw.ext hE1) (hr.ext hE1) hs) aw fun A2 c2 w2 hw2 hU2 hh2 => ⟨rfl, A2, c2, hw2, (ext_ob hE1).tb hU2⟩
  refine ⟨fun c9 w1 hE1 hi1 hh1 => ?_, fun c9 => ?_⟩
  · rw [if_pos (by rw [c8, c9]; rfl)]
    have hl := cnt c9 (m := 2) rfl (by decide)
    exact callCI (bin_c hb (by omega) (kk c9 (by decide)) 1 1 (hw.ext hE1) (hr.ext hE1) hs) aw fun A2 c2 w2 hw2 hU2 hh2 => ⟨rfl, A2, c2, hw2, (ext_ob hE1).tb hU2⟩
  refine ⟨fun c10 w1 hE1 hi1 hh1 => ?_, fun c10 => ?_⟩
  · rw [if_pos (by rw [c8, c9, c10]; rfl)]
    have hl := cnt c10 (m := 2) rfl (by decide)
    exact callCI (bin_c hb (by omega) (kk c10 (by decide)) 1 1 (hw.ext hE1) (hr.ext hE1) hs) aw fun A2 c2 w2 hw2 hU2 hh2 => ⟨rfl, A2, c2, hw2, (ext_ob hE1).tb hU2⟩
  refine ⟨fun c11 w1 hE1 hi1 hh1 => ?_, fun c11 => ?_⟩
  · rw [if_pos (by rw [c8, c9, c10, c11]; rfl)]
    have hl := cnt c11 (m := 2) rfl (by decide)
    exact callCI (bin_c hb (by omega) (kk c11 (by decide)) 1 1 (hw.ext hE1) (hr.ext hE1) hs) aw fun A2 c2 w2 hw2 hU2 hh2 => ⟨rfl, A2, c2, hw2, (ext_ob hE1).tb hU2⟩
  refine ⟨fun c12 w1 hE1 hi1 hh1 => ?_, fun c12 => ?_⟩
  · rw [if_pos (by rw [c8, c9, c10, c11, c12]; rfl)]
    have hl := cnt c12 (m := 2) rfl (by decide)
    exact callCI (bin_c hb (by omega) (kk c12 (by decide)) 1 1 (hw.ext hE1) (hr.ext hE1) hs) aw fun A2 c2 w2 hw2 hU2 hh2 => ⟨rfl, A2, c2, hw2, (ext_ob hE1).tb hU2⟩
  rw [iff0 (show (e.k == 8 || e.k == 9 || e.k == 10 || e.k == 11 || e.k == 12) = false by rw [c8, c9, c10, c11, c12]; rfl)]
  refine ⟨fun c15 w1 hE1 hi1 hh1 => ?_, fun c15 => ?_⟩
  · rw [if_pos (by rw [c15]; rfl)]
    have hl := cnt c15 (m := 2) rfl (by decide)
    exact callCI (bin_c hb (by omega) (kk c15 (by decide)) 1 2 (hw.ext hE1) (hr.ext hE1) hs) aw fun A2 c2 w2 hw2 hU2 hh2 => ⟨rfl, A2, c2, hw2, (ext_ob hE1).tb hU2⟩
  refine ⟨fun c16 w1 hE1 hi1 hh1 => ?_, fun c16 => ?_⟩
  · rw [if_pos (by rw [c15, c16]; rfl)]
    have hl := cnt c16 (m := 2) rfl (by decide)
    exact callCI (bin_c hb (by omega) (kk c16 (by decide)) 1 2 (hw.ext hE1) (hr.ext hE1) hs) aw fun A2 c2 w2 hw2 hU2 hh2 => ⟨rfl, A2, c2, hw2, (ext_ob hE1).tb hU2⟩
  rw [iff0 (show (e.k == 15 || e.k == 16) = false by rw [c15, c16]; rfl)]
  refine ⟨fun c17 w1 hE1 hi1 hh1 => ?_, fun c17 => ?_⟩
  · rw [if_pos (by rw [c17]; rfl)]
    have hl := cnt c17 (m := 2) rfl (by decide)
    exact callCI (bin_c hb (by omega) (kk c17 (by decide)) 2 2 (hw.ext hE1) (hr.ext hE1) hs) aw fun A2 c2 w2 hw2 hU2 hh2 => ⟨rfl, A2, c2, hw2, (ext_ob hE1).tb hU2⟩
  refine ⟨fun c18 w1 hE1 hi1 hh1 => ?_, fun c18 => ?_⟩
  · rw [if_pos (by rw [c17, c18]; rfl)]
    have hl := cnt c18 (m := 2) rfl (by decide)
    exact callCI (bin_c hb (by omega) (kk c18 (by decide)) 2 2 (hw.ext hE1) (hr.ext hE1) hs) aw fun A2 c2 w2 hw2 hU2 hh2 => ⟨rfl, A2, c2, hw2, (ext_ob hE1).tb hU2⟩
  rw [iff0 (show (e.k == 17 || e.k == 18) = false by rw [c17, c18]; rfl)]
  refine ⟨fun c13 => ?_, fun c13 => ?_⟩
  · rw [if_pos (by rw [c13]; rfl)]
    have hl := cnt c13 (m := 2) rfl (by decide)
    refine hr.idx (j := 0) (by omega) fun ad ha w1 hE1 hi1 => kid_cell (hr.ext hE1) (j := 0) (by omega) ha fun A1 l1 c1 q1 hh1 => ?_
    refine callCI (kk c13 (by decide) 0 (by omega) (hw.ext hE1) q1 (sz rfl (by omega))) aw fun A2 c2 w2 hw2 hU2 => ?_
    have hr2 := keep hr ((ext_ob hE1).tb hU2)
    refine hr2.idx (j := 1) (by omega) fun ad1 ha1 => kid_cell hr2 (j := 1) (by omega) ha1 fun A3 l3 c3 q3 hh2 => ?_
    exact callCU (cmust_c (kk c13 (by decide) 1 (by omega)) _ hw2 q3 (sz (hb _ _) (by omega))) aw fun A4 c4 w4 hw4 hU4 hh4 => ⟨rfl, A4, c4, hw4, ((ext_ob hE1).tb hU2).tb hU4⟩
  refine ⟨fun c14 => ?_, fun c14 => ?_⟩
  · rw [if_pos (by rw [c13, c14]; rfl)]
    have hl := cnt c14 (m := 2) rfl (by decide)
    refine hr.idx (j := 0) (by omega) fun ad ha w1 hE1 hi1 => kid_cell (hr.ext hE1) (j := 0) (by omega) ha fun A1 l1 c1 q1 hh1 => ?_
    refine callCI (kk c14 (by decide) 0 (by omega) (hw.ext hE1) q1 (sz rfl (by omega))) aw fun A2 c2 w2 hw2 hU2 => ?_
    have hr2 := keep hr ((ext_ob hE1).tb hU2)
    refine hr2.idx (j := 1) (by omega) fun ad1 ha1 => kid_cell hr2 (j := 1) (by omega) ha1 fun A3 l3 c3 q3 hh2 => ?_
    exact callCU (cmust_c (kk c14 (by decide) 1 (by omega)) _ hw2 q3 (sz (hb _ _) (by omega))) aw fun A4 c4 w4 hw4 hU4 hh4 => ⟨rfl, A4, c4, hw4, ((ext_ob hE1).tb hU2).tb hU4⟩
  rw [iff0 (show (e.k == 13 || e.k == 14) = false by rw [c13, c14]; rfl)]
  refine ⟨fun c19 => ?_, fun c19 => ?_⟩
  · rw [if_pos c19]
    have hl := cnt c19 (m := 3) rfl (by decide)
    unfold ifC
    dsimp only
    refine hr.idx (j := 0) (by omega) fun ad ha w1 hE1 hi1 => kid_cell (hr.ext hE1) (j := 0) (by omega) ha fun A1 l1 c1 q1 hh1 => ?_
    refine callCU (cmust_c (kk c19 (by decide) 0 (by omega)) 2 (hw.ext hE1) q1 (sz rfl (by omega))) aw fun A2 c2 w2 hw2 hU2 => ⟨fun d1 hh2 => ?_, fun d1 => ?_⟩
    · rw [if_pos d1]
      exact ⟨rfl, A2, c2, hw2, (ext_ob hE1).tb hU2⟩
    rw [if_neg (nfc d1)]
    have hr2 := keep hr ((ext_ob hE1).tb hU2)
    have b2 := mustC_b hb st (e.kid 0) 2
    refine hr2.idx (j := 1) (by omega) fun ad1 ha1 => kid_cell hr2 (j := 1) (by omega) ha1 fun A3 l3 c3 q3 hh2 => ?_
    refine callCI (kk c19 (by decide) 1 (by omega) hw2 q3 (sz b2 (by omega))) aw fun A4 c4 w4 hw4 hU4 => ?_
    have hr4 := keep hr2 hU4
    refine hr4.idx (j := 2) (by omega) fun ad2 ha2 => kid_cell hr4 (j := 2) (by omega) ha2 fun A5 l5 c5 q5 hh4 => ?_
    exact callCU (cmust_c (kk c19 (by decide) 2 (by omega)) _ hw4 q5 (sz ((hb _ _).trans b2) (by omega))) aw fun A6 c6 w6 hw6 hU6 hh6 => ⟨rfl, A6, c6, hw6, (((ext_ob hE1).tb hU2).tb hU4).tb hU6⟩
  rw [if_neg (nfc c19)]
  refine ⟨fun c20 w1 hE1 hi1 => ?_, fun c20 w1 hE1 hi1 hh1 => ?_⟩
  · rw [if_pos c20]
    have hE1' : Ext w w1 := hE1
    have hr1 := hr.ext hE1'
    obtain rfl := hr.len
    have hsm := hr.lt
    refine ⟨fun x a2 n1 c1 x5 x6 w2 => ∃ (j : Nat) (s : CS), x = j ∧ j ≤ e.kids.length ∧ allC kf 3 s (e.kids.drop j) = allC kf 3 st e.kids ∧ s.bound = st.bound ∧ (n1 = s.bound.length ∧ x5 = s.e ∧ x6 = s.at_) ∧ CkW w2 b a2 c1 s ∧ Upd w1 w2 (OB b), fun x _ _ _ _ _ => ((e.kids.length : Int) - x).toNat,
      ⟨0, st, rfl, Nat.zero_le _, rfl, rfl, ⟨rfl, rfl, rfl⟩, hw.ext hE1', Upd.refl _ _⟩, ?_⟩
    rintro _ x A2 n1 c2 x5 x6 w2 ⟨j, s, rfl, hj, hg, hbs, ⟨rfl, rfl, rfl⟩, hw2, hU2⟩
    refine ⟨fun hx => ?_, fun hx => ?_⟩
    · have hjl : j < e.kids.length := by simpa using hx
      rw [drop_cons hjl, allC] at hg
      have q2 := keep hr1 hU2
      refine q2.idx hjl fun ad1 ha1 => kid_cell q2 hjl ha1 fun A3 l3 c3 q3 hh2 => ?_
      refine callCU (cmust_c (kk c20 (by decide) j hjl) 3 hw2 q3 (sz hbs hjl)) aw fun A4 c4 w4 hw4 hU4 => ?_
      refine ⟨⟨j + 1, _, w64_succ (by omega), hjl, by rw [kid_eq hjl]; exact hg, by rw [mustC_b hb, hbs], ⟨rfl, rfl, rfl⟩, hw4, hU2.tb hU4⟩, ?_⟩
      dsimp only
      rw [w64_succ (by omega)]; exact mea_succ hjl
    · have hjl : ¬ j < e.kids.length := by simpa using hx
      rw [List.drop_eq_nil_of_le (by omega), allC] at hg
      rw [← hg]
      exact callI (gives_c _) fun w3 hE3 hh3 => ⟨rfl, A2, c2, hw2.ext hE3, ((ext_ob hE1').tb hU2).tb (ext_ob hE3)⟩
  rw [if_neg (nfc c20)]
  have c21 : e.k = 21 := by
    refine Classical.byContradiction fun hne => hkn ?_
    have h21 : (e.k == 21) = false := by simpa using hne
    have hq : ∀ k : Int, 22 ≤ k → k ≤ 25 → (e.k == k) = false := fun k h1 h2 => by
      cases h : e.k == k with
      | false => rfl
      | true =>
        rw [eq_of_beq h] at hset
        simp only [isSetF, Bool.and_eq_false_iff, decide_eq_false_iff_not] at hset
        omega
    unfold kidsN
    rw [c1, c2, c3, c4, hq 22 (by decide) (by decide), hq 23 (by decide) (by decide), c6, c7, hq 24 (by decide) (by decide), c8, c9, c10, c11, c12, c13, c14, c15, c16, c17, c18, h21, c19, hq 25 (by decide) (by decide), c20]
    exact (by decide : (-2 : Int) < -1)
  have hl := cnt (k := 21) (m := 2) (by rw [c21]; rfl) rfl (by decide)
  refine callCI (quantC_c hb (by omega) (hkk c21) (hk 1 (by omega) (by rw [c21]; rfl)) (hw.ext hE1) (hr.ext hE1) hs) aw fun A2 c2 w2 hw2 hU2 hh2 => ⟨rfl, A2, c2, hw2, (ext_ob hE1).tb hU2⟩
theorem kind_c' : ∀ (f : Nat) (e : Ex), e.size ≤ f → wfE e false = true → KCk b (kindC f) e := by
  intro f
  induction f with
  | zero => intro e hn; cases e with | mk k v s l t => simp only [Ex.size] at hn; omega
  | succ f ih =>
    intro e hn hwf w A c B l cc st hw hr hs
    obtain ⟨_, _, _, hkid⟩ := wf_parts hwf
    rw [kindC]
    refine kind_step (kind_b f) (fun i hi h0 => ih _ ?_ ?_) (fun h21 i hi => ?_) hwf hw hr hs
    · have := kid_sz hi; omega
    · have := hkid i hi; rw [h0] at this; exact this
    · have h0 : 0 < e.kids.length := by
        rcases Nat.eq_zero_or_pos e.kids.length with h | h
        · have hk : e.kid 0 = ex0 := by rw [Ex.kid, List.eq_nil_of_length_eq_zero h]; rfl
          rw [hk] at hi
          exact absurd hi (Nat.not_lt_zero _)
        · exact h
      have hq := hkid 0 h0
      rw [h21] at hq
      have hq : wfE (e.kid 0) true = true := hq
      obtain ⟨p1, _, _, p4⟩ := wf_parts hq
      have hp := p4 i hi
      have hne : ((e.kid 0).k == 21) = false := by
        cases h : (e.kid 0).k == 21 with
        | false => rfl
        | true => rw [eq_of_beq h] at p1; exact absurd p1 (by decide)
      rw [hne] at hp
      have hsz : ((e.kid 0).kid i).size ≤ f := by
        have := kid_sz h0
        have := kid_sz hi
        omega
      exact @ih _ hsz hp
theorem check_c (e : Ex) {w : World} {F : Nat → Prop} {B : Option Addr} {l cc : Nat} (hr : ExsR w F e.kids B l cc) (hF : ∀ x, F x → x < w.heap.size) (hs : e.size ≤ 2 ^ 30) :
    CallsX E.P 30 #[exA e B l cc] w (IsV (.tuple #[.int .i64 (checkF e).1, .int .i64 (checkF e).2.1, .int .i64 (checkF e).2.2]) w) never := by
  refine vc40 ?_
  intro id hid w1 hE1 hi1
  have hE1' : Ext w w1 := hE1
  have t1 := hE1'.size
  refine callB (rightE_c e (hr.ext hE1') fun x hx => by have := hF x hx; omega) fun w2 hE2 => ⟨fun h1 => ?_, fun h1 id2 hid2 w3 hE3 hi3 hh3 => ?_⟩
  · unfold checkF
    rw [if_pos h1]
    exact ⟨rfl, hE1'.trans hE2⟩
  · have hright : rightE e = true := by simpa using h1
    have hE3' : Ext w2 w3 := hE3
    have t2 := hE2.size
    have t3 := hE3'.size
    have hE03 : Ext w w3 := (hE1'.trans hE2).trans hE3'
    have hw3 : CkW w3 id2 none 0 ⟨[], 0, 0⟩ := ⟨hh3, ⟨rfl, Nat.le_refl _, by decide, by simp, fun h => absurd rfl h⟩⟩
    have hr3 : ExsR w3 (NB id2) e.kids B l cc := (hr.ext hE03).mono fun x hx => by have := hF x hx; show x < id2; omega
    refine callCI (kind_c' e.size e (Nat.le_refl _) (right_wf hright) hw3 hr3 (by simpa using hs)) (away_of fun i hi hS => by simp only [List.mem_cons, List.not_mem_nil, or_false] at hi; have hS : i = id2 := hS; omega) fun A2 c2 w4 hw4 hU4 => ?_
    have hE4 : Ext w w4 := Upd.step hE03 hU4 fun x hx => by have hx : x = id2 := hx; omega
    unfold checkF
    rw [if_neg (nfc h1)]
    dsimp only
    refine ⟨fun h2 w5 hE5 => ?_, fun h2 => ?_⟩
    · rw [if_pos h2]
      exact ⟨rfl, hE4.trans hE5⟩
    · rw [if_neg (nfc h2)]
      exact ⟨rfl, hE4⟩
end Go.Vx.Tryz
namespace Go.Vx.Tryz
open Go Go.Vx Go.Proofs
def NwR (w : World) (n : Nd) : Value → World → Prop := fun v w' => ∃ A l c, v = ndA n A l c ∧ NdsR w' (Rng w.heap.size w'.heap.size) n.kids A l c ∧ Ext w w'
theorem callNw {f : Nat} {args : Array Value} {w : World} {X : ContX} {ids : List Nat} {n : Nd} (h : CallsX E.P f args w (NwR w n) never) {K : Int → Int → ByteArray → Option Addr → Nat → Nat → World → Prop}
    (k : ∀ A l c w2, NdsR w2 (Rng w.heap.size w2.heap.size) n.kids A l c → Ext w w2 → K n.k n.n n.s A l c w2) :
    ∃ (R : Value → World → Prop) (X' : ContX), CallsX E.P f args w R X' ∧ (∀ v w2, R v w2 → ∃ x4 x5, ∃ x6 a2, ∃ n2 c2, v = .agg #[.int .i64 x4, .int .i64 x5, .string x6, .slice a2 n2 c2] ∧ ∃ S, Upd w w2 S ∧ Away ids S ∧ K x4 x5 x6 a2 n2 c2 w2) ∧ ∀ ch w2, X' ch w2 → X ch w2 :=
  ⟨_, _, h, fun _ w2 ⟨A, l, c, hv, hN, hE⟩ => ⟨_, _, _, _, _, _, hv, no, hE, Away.no _, k A l c w2 hN hE⟩, never_any⟩
theorem strs_keep {w w' : World} {G : Nat → Prop} {l : List ByteArray} {A : Option Addr} {n c : Nat} (h : StrsR w G l A n c) (k : Ext w w') : StrsR w' G l A n c := RowIn.upd' h k fun _ _ _ h => h
theorem strs_len {w : World} {G : Nat → Prop} {l : List ByteArray} {A : Option Addr} {n c : Nat} (h : StrsR w G l A n c) : n = l.length := by simpa using RowIn.len h
theorem ex_pos : ∀ (e : Ex), 1 ≤ e.size
  | .mk _ _ _ _ _ => by rw [Ex.size]; omega
theorem ex_len : ∀ (l : List Ex), l.length ≤ Ex.sizes l
  | [] => Nat.zero_le _
  | x :: l => by
    have := ex_len l
    have := ex_pos x
    rw [Ex.sizes, List.length_cons]; omega
theorem kids_le (e : Ex) : e.kids.length ≤ e.size := by
  cases e with | mk k n s l t => have := ex_len l; simp only [Ex.size, Ex.kids]; omega
theorem node_c : ∀ (f : Nat) (e : Ex), e.size ≤ f → ∀ (bd : List ByteArray) {w : World} {F G : Nat → Prop} {B : Option Addr} {l cc : Nat} {D : Option Addr} {m d : Nat}, ExsR w F e.kids B l cc → StrsR w G bd D m d → bd.length + e.size ≤ 2 ^ 30 →
    CallsX E.P 31 #[exA e B l cc, .slice D m d] w (NwR w (nodeF e bd)) never := by
  intro f
  induction f with
  | zero => intro e hn; cases e with | mk k v s l t => simp only [Ex.size] at hn; omega
  | succ f ih =>
    intro e hn bd w F G B l cc D m d hr hbd hs
    obtain rfl := strs_len hbd
    obtain rfl := hr.len
    have hsm := hr.lt
    have hkl := kids_le e
    refine vc41 ?_
    intro id hid id1 hid1 id2 hid2
    have fin : ∀ {w1 w2 : World} {i : Nat}, Ext w w1 → w.heap.size ≤ i → Upd w1 w2 (setOf [i]) → Ext w w2 := fun h1 h2 h3 => Upd.step h1 h3 fun x hx => by simp only [setOf, no, or_false] at hx; omega
    refine ⟨fun _ _ _ _ _ _ x6 x7 x8 w1 => (e.k == 4) = false ∧ (x6 = e.k ∧ x7 = e.n ∧ x8 = (if e.k == 23 then e.s else ByteArray.mk #[])) ∧ Ext w w1 ∧ id < w1.heap.size ∧ id1 < w1.heap.size ∧ id2 < w1.heap.size, ⟨fun c4 w1 hE1 i0 i1 i2 => ?_, fun c4 => ⟨fun c23 w1 hE1 i0 i1 i2 => ⟨c4, ⟨rfl, rfl, by rw [c23]; rfl⟩, hE1, i0, i1, i2⟩, fun c23 w1 hE1 i0 i1 i2 => ⟨c4, ⟨rfl, rfl, by rw [c23]; rfl⟩, hE1, i0, i1, i2⟩⟩⟩, ?_⟩
    · have hE1' : Ext w w1 := hE1
      refine ⟨fun x x1 w2 => ∃ j : Nat, x = j ∧ j ≤ bd.length ∧ lastIn e.s j x1 (bd.drop j) = lastIn e.s 0 e.n bd ∧ Ext w w2 ∧ w1.heap.size ≤ w2.heap.size, fun x _ => ((bd.length : Int) - x).toNat, ⟨0, rfl, Nat.zero_le _, rfl, hE1', Nat.le_refl _⟩, ?_⟩
      rintro _ x x1 w2 ⟨j, rfl, hj, hg, hE2, hs2⟩
      have hbd2 := strs_keep hbd hE2
      have hlt := RowIn.lt hbd
      refine ⟨fun hlt2 => ?_, fun hlt2 w3 hU3 => ?_⟩
      · have hjl : j < bd.length := by simpa using hlt2
        rw [drop_cons hjl, lastIn] at hg
        obtain ⟨ad, r, e1, hr, _, hc⟩ := RowIn.get hbd2 (j : Int) (by omega) (by omega)
        have hnn : Int.toNat (j : Int) = j := by omega
        rw [hnn, List.getElem?_map, List.getElem?_eq_getElem hjl] at hr
        cases hr
        refine ⟨⟨by omega, by omega⟩, ad, e1, fun w3 hE3 => ⟨_, CellsIn.ext hc hE3 (fun h => h), fun hx w4 hU4 => ?_, fun hx => ?_⟩⟩
        · rw [if_pos hx] at hg
          have hE3' : Ext w2 w3 := hE3
          have t3 := hE3'.size
          have t4 := hU4.size
          refine ⟨⟨j + 1, w64_succ (by omega), hjl, hg, fin (hE2.trans hE3') hid2 hU4, by omega⟩, ?_⟩
          dsimp only
          rw [w64_succ (by omega)]; exact mea_succ hjl
        · rw [if_neg (nfc hx)] at hg
          have hE3' : Ext w2 w3 := hE3
          have t3 := hE3'.size
          refine ⟨⟨j + 1, w64_succ (by omega), hjl, hg, hE2.trans hE3', by omega⟩, ?_⟩
          dsimp only
          rw [w64_succ (by omega)]; exact mea_succ hjl
      · have hjl : ¬ j < bd.length := by simpa using hlt2
        rw [List.drop_eq_nil_of_le (by omega), lastIn] at hg
        have hN : nodeF e bd = .mk 5 x1 (ByteArray.mk #[]) [] := by
          rw [hg]
          cases e with | mk k n s l t => have c4 : (k == 4) = true := c4; rw [nodeF, if_pos c4]; rfl
        rw [hN]
        exact ⟨none, 0, 0, rfl, nds_nil.plain, fin hE2 hid1 hU3⟩
    rintro _ _ _ _ _ _ _ x6 x7 x8 w1 ⟨c4, ⟨rfl, rfl, rfl⟩, hE1, i0, i1, i2⟩
    have hN : nodeF e bd = .mk e.k e.n (if e.k == 23 then e.s else ByteArray.mk #[]) (nodesF e.k e.s 0 e.kids bd) := by
      cases e with | mk k n s l t => have c4 : (k == 4) = false := c4; rw [nodeF, if_neg (nfc c4)]; rfl
    rw [hN]
    have t1 := hE1.size
    have hr1 := hr.ext hE1
    have hbd1 := strs_keep hbd hE1
    refine ⟨fun x a1 n1 c1 w2 => ∃ (j : Nat) (sd : List Nd), x = j ∧ j ≤ e.kids.length ∧ sd ++ nodesF e.k e.s j (e.kids.drop j) bd = nodesF e.k e.s 0 e.kids bd ∧ NdsB w2 false w1.heap.size w2.heap.size no no sd a1 n1 c1 ∧ Ext w w2 ∧ w1.heap.size ≤ w2.heap.size ∧ sd.length = j,
      fun x _ _ _ => ((e.kids.length : Int) - x).toNat, ⟨0, [], rfl, Nat.zero_le _, rfl, RowB.nil (fun _ h => h.elim) (Nat.le_refl _), hE1, Nat.le_refl _, rfl⟩, ?_⟩
    rintro _ x a1 n1 c1 w2 ⟨j, sd, rfl, hj, hg, hB, hE2, t2, hsd⟩
    obtain rfl := hB.len
    refine ⟨fun hlt2 => ?_, fun hlt2 w3 hU3 => ?_⟩
    · have hjl : j < e.kids.length := by simpa using hlt2
      rw [drop_cons hjl, nodesF] at hg
      generalize hin : (if e.k == 21 && (j : Int) == 1 then bd ++ [e.s] else bd) = inn at hg
      have hbd2 := strs_keep hbd hE2
      have hkz : e.kids[j].size < e.size := by have := kid_sz hjl; rw [kid_eq hjl] at this; exact this
      have hil : inn.length ≤ bd.length + 1 := by rw [← hin]; split <;> simp
      refine ⟨fun a4 n4 c4 w4 => StrsR w4 (fun _ => True) inn a4 n4 c4 ∧ Ext w2 w4, ⟨fun c21 => ⟨fun cj => ?_, fun cj => ⟨?_, Upd.refl _ _⟩⟩, fun c21 => ⟨?_, Upd.refl _ _⟩⟩, ?_⟩
      · refine pushVC (names_nil hbd2 (by omega)) (away_of fun _ _ h => h) fun A5 c5 w5 hB5 hU5 => ?_
        have hE5 : Ext w2 w5 := Upd.mono hU5 fun _ h => h
        have t5 := hE5.size
        intro id3 hid3 w6 hE6 i3 hh6
        refine pushVC (names_push hB5 hE6 hh6 (by omega)) (away_of fun i hi hS => ?_) fun A7 c7 w7 hB7 hU7 hh7 => ?_
        · have := hB5.blk hS; simp only [List.mem_cons, List.not_mem_nil, or_false] at hi; omega
        · refine ⟨?_, Upd.step (hE5.trans hE6) hU7 fun x hx => (hB5.blk hx).1⟩
          rw [← hin, if_pos (by rw [c21, cj]; rfl)]
          exact strs_done hB7 (by omega) fun _ _ => trivial
      · rw [← hin, if_neg (by rw [cj]; simp)]
        exact RowIn.mono hbd2 fun _ _ => trivial
      · rw [← hin, if_neg (by rw [c21]; simp)]
        exact RowIn.mono hbd2 fun _ _ => trivial
      rintro _ a4 n4 c4' w4 ⟨hS4, hE4⟩
      have t4 := hE4.size
      refine (hr.ext (hE2.trans hE4)).idx hjl fun ad ha => (hr.ext (hE2.trans hE4)).cell ha hjl fun A1 l1 c1' q1 => ?_
      refine callNw (ih e.kids[j] (by omega) inn q1 hS4 (by omega)) fun A5 l5 c5 w5 hN5 hE5 id4 hid4 id5 hid5 w6 hE6 i4 i5 hh6 => ?_
      have t5 := hE5.size
      refine pushVC (RowB.push (x := nodeF e.kids[j] inn) (cs := ndV (nodeF e.kids[j] inn) A5 l5 c5) (Fk := Rng w4.heap.size w5.heap.size) sl22 ((hB.ext hE4).ext hE5) hN5.node (fun x hx => .inr ⟨by have := hx.1; omega, hx.2, fun h => h⟩) hE6 (fun _ h => h.elim) hh6 (by omega)) (away_of fun i hi hS => ?_) ?_
      · have := hB.blk hS; simp only [List.mem_cons, List.not_mem_nil, or_false] at hi; omega
      intro A7 c7 w7 ⟨hB7, _⟩ hU7 w8 hU8 hh8
      have t6 := Upd.size hE6
      have t7 := hU7.size
      have t8 := hU8.size
      have hE7 : Ext w w7 := Upd.step (((hE2.trans hE4).trans hE5).trans hE6) hU7 fun x hx => by have := (hB.blk hx).1; omega
      have hE8 : Ext w w8 := fin hE7 hid2 hU8
      refine ⟨⟨j + 1, sd ++ [nodeF e.kids[j] inn], w64_succ (by omega), hjl, ?_, ?_, hE8, by omega, by simp [hsd]⟩, ?_⟩
      · rw [← hg, List.append_assoc]; rfl
      · exact (hB7.upd hU8 fun x hx => ⟨fun h => h, .inr (by simp only [setOf, no, or_false] at hx; omega)⟩).re t8 (Nat.le_refl _) (fun x hx => .inl hx)
      · dsimp only
        rw [w64_succ (by omega)]; exact mea_succ hjl
    · have hjl : ¬ j < e.kids.length := by simpa using hlt2
      rw [List.drop_eq_nil_of_le (by omega), nodesF, List.append_nil] at hg
      have t3 := hU3.size
      rw [← hg]
      refine ⟨a1, _, c1, rfl, ?_, fin hE2 hid1 hU3⟩
      have hB3 := hB.upd hU3 fun x hx => ⟨fun h => h, .inr (by simp only [setOf, no, or_false] at hx; omega)⟩
      exact (nds_of (RowB.done hB3 (by omega) (.inr ⟨rfl, rfl⟩))).mono fun x hx => by
        rcases hx with h | h
        · exact h.2.elim
        · exact ⟨by omega, by omega⟩
theorem of_c (e : Ex) {w : World} {F : Nat → Prop} {B : Option Addr} {l cc : Nat} (hr : ExsR w F e.kids B l cc) (hF : ∀ x, F x → x < w.heap.size) (hs : e.size ≤ 2 ^ 30) :
    CallsX E.P 16 #[exA e B l cc] w (fun v w' => ∃ A l c, v = .tuple #[plA (ofF e).1 A l c none 0 0, .int .i64 (ofF e).2] ∧ NdsR w' (Rng w.heap.size w'.heap.size) (ofF e).1.root.kids A l c ∧ (ofF e).1.cells = [] ∧ Ext w w') never := by
  refine vc17 ?_
  intro id hid id1 hid1 w1 hE1 i0 i1
  have hE1' : Ext w w1 := hE1
  have t1 := hE1'.size
  refine ⟨_, _, check_c e (hr.ext hE1') (fun x hx => by have := hF x hx; omega) hs, ?_, never_any⟩
  rintro v w2 ⟨rfl, hE2⟩
  have t2 := hE2.size
  have fin : ∀ {w3 w4 : World}, Ext w w3 → Upd w3 w4 (setOf [id1]) → Ext w w4 := fun h1 h3 => Upd.step h1 h3 fun x hx => by simp only [setOf, no, or_false] at hx; omega
  refine ⟨_, _, _, rfl, no, hE2, Away.no _, fun h w3 hU3 => ?_, fun h => ?_⟩
  · unfold ofF
    rw [if_pos h]
    exact ⟨none, 0, 0, rfl, nds_nil.plain, rfl, fin (hE1'.trans hE2) hU3⟩
  · unfold ofF
    rw [if_neg (nfc h)]
    have hE02 := hE1'.trans hE2
    refine callNw (node_c e.size e (Nat.le_refl _) [] (G := no) (hr.ext hE02) ⟨rfl, Nat.le_refl _, by decide, by simp, fun h => absurd rfl h⟩ (by simpa using hs)) fun A l c w3 hN hE3 w4 hU4 => ?_
    have t3 := hE3.size
    have t4 := hU4.size
    refine ⟨A, l, c, rfl, ?_, rfl, fin (hE02.trans hE3) hU4⟩
    exact (hN.upd' hU4 fun x hx _ hS => by simp only [setOf, no, or_false] at hS; have := hx.1; omega).mono fun x hx => ⟨by have := hx.1; omega, by have := hx.2; omega⟩
end Go.Vx.Tryz
namespace Go.Vx.Tryz
open Go Go.Vx Go.Proofs
set_option maxRecDepth 100000
variable {w : World} {R : Value → World → Prop} {X : ContX}
theorem vcD3 {a0 a1 : Int} {a2 : ByteArray} {a3 : Option Addr} {a3l a3c : Nat} {a4 : Option Addr} {a4l a4c : Nat}  (h : 
 nB w fun id => fL w [] fun w1 => id < w1.heap.size → cB 5 #[Ap a0 a1 a2 a3 a3l a3c a4 a4l a4c] w1 [id] X fun x w2 => dB x (R (.bool true) w2) (cI 6 #[Av a0 a1 a2 a3 a3l a3c] w2 [id] X fun x1 w21 => dB (decide (x1 > 800)) (R (.bool true) w21) (cB 7 #[] w21 [id] X fun x2 w22 => cQ 8 #[Ap a0 a1 a2 a3 a3l a3c a4 a4l a4c] w22 [id] X fun x3 x4 x5 a n c a1 n1 c1 x6 w23 => nB w23 fun id1 => dB (!x2) (dB x2 (dB (x6 == 140) (fL w23 [] fun w11 => id1 < w11.heap.size → R (.bool ((↑n1 : Int) == 0)) w11) (fL w23 [] fun w12 => id1 < w12.heap.size → R (.bool false) w12)) (fL w23 [] fun w13 => id1 < w13.heap.size → R (.bool false) w13)) (dB (x6 != 0) (dB x2 (dB (x6 == 140) (fL w23 [] fun w14 => id1 < w14.heap.size → R (.bool ((↑n1 : Int) == 0)) w14) (fL w23 [] fun w15 => id1 < w15.heap.size → R (.bool false) w15)) (fL w23 [] fun w16 => id1 < w16.heap.size → R (.bool false) w16)) (dB (decide ((↑n1 : Int) < (↑a4l : Int))) (fL w23 [] fun w17 => id1 < w17.heap.size → R (.bool false) w17) (dB (decide ((↑n1 : Int) > 256)) (fL w23 [] fun w18 => id1 < w18.heap.size → R (.bool false) w18) (dB ((↑n1 : Int) == 256) (fL w23 [] fun w19 => id1 < w19.heap.size → R (.bool true) w19) (fL w23 [] fun w110 => id1 < w110.heap.size → ∃ R5 X'4, CallsX E.P 9 #[Av x3 x4 x5 a n c, .int .i64 0] w110 R5 X'4 ∧ (∀ v4 w24, R5 v4 w24 → ∃ a2 n2, ∃ c2 a3, ∃ n3 c3, v4 = .tuple #[.slice a2 n2 c2, .slice a3 n3 c3] ∧ ∃ S4, Upd w110 w24 S4 ∧ Away [id, id1] S4 ∧ ∃ (I : Int → World → Prop), ∃ (m : Int → Nat), I 0 w24 ∧ ∀ (jk : Nat → Value) (x7 : Int) (w25 : World), I x7 w25 → dB (decide (x7 < (↑n2 : Int))) (∃ (I1 : Int → World → Prop), ∃ (m1 : Int → Nat), I1 0 w25 ∧ ∀ (jk1 : Nat → Value) (x8 : Int) (w26 : World), I1 x8 w26 → dB (decide (x8 < x7)) (iX x7 n2 a2 fun ad => fL w26 [] fun w111 => lA w111 (Addr.add ad (Int.toNat x7 * 4)) fun x9 x10 x11 a4 n4 c4 => iX x8 n2 a2 fun ad1 => lA w111 (Addr.add ad1 (Int.toNat x8 * 4)) fun x12 x13 x14 a5 n5 c5 => cB 10 #[Av x9 x10 x11 a4 n4 c4, Av x12 x13 x14 a5 n5 c5] w111 [id, id1] X fun x15 w27 => dB x15 (iX x7 n3 a3 fun ad2 => fL w27 [] fun w112 => ∃ x16 x17, CellsIn w112 (Addr.add ad2 (Int.toNat x7 * 2)) [.int .i64 x16, .int .i64 x17] ∧ iX x8 n3 a3 fun ad3 => ∃ x18 x19, CellsIn w112 (Addr.add ad3 (Int.toNat x8 * 2)) [.int .i64 x18, .int .i64 x19] ∧ ∃ x20, Sem.run E.P (binSem BinOp.eql 38 (Operand.tmp 90) (Operand.tmp 94) (.agg #[.int .i64 x16, .int .i64 x17]) (.agg #[.int .i64 x18, .int .i64 x19])) w112 = Result.ok (.bool x20) w112 ∧ dB x20 (R (.bool false) w112) (I1 (w64 (x8 + 1)) w112 ∧ m1 (w64 (x8 + 1)) < m1 x8)) (fL w27 [] fun w113 => I1 (w64 (x8 + 1)) w113 ∧ m1 (w64 (x8 + 1)) < m1 x8)) (I (w64 (x7 + 1)) w26 ∧ m (w64 (x7 + 1)) < m x7)) (R (.bool true) w25)) ∧ PX X'4 X)))))))
 ) : CallsX E.P 3 #[Ap a0 a1 a2 a3 a3l a3c a4 a4l a4c] w R X :=
  calls_vc E_ok ⟨[(13, ⟨[(8, .int .i64)], []⟩), (16, ⟨[(9, .int .i64)], []⟩)], []⟩ (f := 3) Tryz.func3 rfl [(Ap a0 a1 a2 a3 a3l a3c a4 a4l a4c, .no)] [] (bls0) nod0 (plain_of rfl) (shs_of ⟨trivial, trivial⟩) h (by kernel_rfl)
theorem vcD7   (h : 
 ∃ R1 X', CallsX E.P 15 #[.string (ByteArray.mk #[115, 105, 122, 101, 40, 64, 49, 41, 32, 43, 32, 115, 105, 122, 101, 40, 64, 49, 41, 32, 42, 32, 115, 105, 122, 101, 40, 64, 50, 41])] w R1 X' ∧ (∀ v w2, R1 v w2 → ∃ x x1, ∃ x2 a, ∃ n c, ∃ x3 x4 x5, v = .tuple #[Ae x x1 x2 a n c x3, .int .i64 x4, .int .i64 x5] ∧ ∃ S, Upd w w2 S ∧ Away [] S ∧ nB w2 fun id => fL w2 [] fun w1 => id < w1.heap.size → cQ 16 #[Ae x x1 x2 a n c x3] w1 [id] X fun x6 x7 x8 a1 n1 c1 a2 n2 c2 x9 w21 => nB w21 fun id1 => fL w21 [] fun w11 => id1 < w11.heap.size → cQ 8 #[Ap x6 x7 x8 a1 n1 c1 a2 n2 c2] w11 [id, id1] X fun x10 x11 x12 a3 n3 c3 a4 n4 c4 x13 w22 => nB w22 fun id2 => fL w22 [] fun w12 => id2 < w12.heap.size → ∃ R4 X'3, CallsX E.P 15 #[.string (ByteArray.mk #[97, 108, 108, 32, 118, 32, 105, 110, 32, 118, 101, 114, 116, 105, 99, 101, 115, 58, 32, 99, 111, 110, 110, 101, 99, 116, 101, 100, 40, 118, 44, 32, 64, 49, 41])] w12 R4 X'3 ∧ (∀ v3 w23, R4 v3 w23 → ∃ x14 x15, ∃ x16 a5, ∃ n5 c5, ∃ x17 x18 x19, v3 = .tuple #[Ae x14 x15 x16 a5 n5 c5 x17, .int .i64 x18, .int .i64 x19] ∧ ∃ S3, Upd w12 w23 S3 ∧ Away [id, id1, id2] S3 ∧ nB w23 fun id3 => fL w23 [] fun w13 => id3 < w13.heap.size → cQ 16 #[Ae x14 x15 x16 a5 n5 c5 x17] w13 [id, id1, id2, id3] X fun x20 x21 x22 a6 n6 c6 a7 n7 c7 x23 w24 => nB w24 fun id4 => fL w24 [] fun w14 => id4 < w14.heap.size → cQ 11 #[Ap x20 x21 x22 a6 n6 c6 a7 n7 c7] w14 [id, id1, id2, id3, id4] X fun x24 x25 x26 a8 n8 c8 a9 n9 c9 x27 w25 => nB w25 fun id5 => dB (x4 == 0) (dB (x9 == 0) (dB (x13 == 0) (dB ((↑n4 : Int) == 1) (dB (x18 == 0) (dB (x23 == 0) (dB (x27 == 0) (dB ((↑n8 : Int) == 2) (iX 1 n8 a8 fun ad => fL w25 [] fun w15 => id5 < w15.heap.size → lI w15 (Addr.add (Addr.add ad 4) 0) fun x28 => R (.bool (x28 == 13)) w15) (fL w25 [] fun w16 => id5 < w16.heap.size → R (.bool false) w16)) (fL w25 [] fun w17 => id5 < w17.heap.size → R (.bool false) w17)) (fL w25 [] fun w18 => id5 < w18.heap.size → R (.bool false) w18)) (fL w25 [] fun w19 => id5 < w19.heap.size → R (.bool false) w19)) (fL w25 [] fun w110 => id5 < w110.heap.size → R (.bool false) w110)) (fL w25 [] fun w111 => id5 < w111.heap.size → R (.bool false) w111)) (fL w25 [] fun w112 => id5 < w112.heap.size → R (.bool false) w112)) (fL w25 [] fun w113 => id5 < w113.heap.size → R (.bool false) w113)) ∧ PX X'3 X) ∧ PX X' X
 ) : CallsX E.P 7 #[] w R X :=
  calls_vc E_ok ⟨[], []⟩ (f := 7) Tryz.func7 rfl [] [] (bls0) nod0 (plain_of rfl) (shs_of trivial) h (by kernel_rfl)
theorem vcD8 {a0 a1 : Int} {a2 : ByteArray} {a3 : Option Addr} {a3l a3c : Nat} {a4 : Option Addr} {a4l a4c : Nat}  (h : 
 nB w fun id => nB w fun id1 => fL w [] fun w1 => id < w1.heap.size → id1 < w1.heap.size → cB 17 #[Ap a0 a1 a2 a3 a3l a3c a4 a4l a4c] w1 [id, id1] X fun x w2 => dB (!x) (fL w2 [id1] fun w11 => R (.tuple #[Ap 0 0 (ByteArray.mk #[]) none 0 0 none 0 0, .int .i64 140]) w11) (∃ R2, RunsTo E.P (Instr.makeMap 49 none) w2 R2 ∧ ∀ v1 w21, R2 v1 w21 → ∃ r, v1 = Value.map r ∧ ∃ S1, Upd w2 w21 S1 ∧ Away [id, id1] S1 ∧ ∃ R3, RunsTo E.P (Instr.makeMap 49 none) w21 R3 ∧ ∀ v2 w22, R3 v2 w22 → ∃ r1, v2 = Value.map r1 ∧ ∃ S2, Upd w21 w22 S2 ∧ Away [id, id1] S2 ∧ cS 18 #[.slice a4 a4l a4c] w22 [id, id1] X fun a n c w23 => nB w23 fun id2 => fL w23 [] fun w12 => id2 < w12.heap.size → hA w12 id2 #[Value.map r, Value.map r1, .slice a n c] 52 → cU 19 #[.pointer (some ⟨id2, 0, none⟩), Av a0 a1 a2 a3 a3l a3c, .int .i64 0] w12 [id, id1] X fun v5 w24 => ∃ r2 r3, ∃ a1_1 n1 c1, hA w24 id2 #[Value.map r2, Value.map r3, .slice a1_1 n1 c1] 52 ∧ 3 = 3 ∧ (hA w24 id2 #[Value.map r2, Value.map r3, .slice a1_1 n1 c1] 52 → cA 20 #[.pointer (some ⟨id2, 0, none⟩), Av a0 a1 a2 a3 a3l a3c, .int .i64 0] w24 [id, id1] X fun x1 x2 x3 a2 n2 c2 w25 => ∃ r4 r5, ∃ a3 n3 c3, hA w25 id2 #[Value.map r4, Value.map r5, .slice a3 n3 c3] 52 ∧ 3 = 3 ∧ nB w25 fun id3 => fL w25 [] fun w13 => id3 < w13.heap.size → cS 21 #[.slice a3 n3 c3] w13 [id, id1, id2, id3] X fun a4 n4 c4 w26 => fL w26 [id1] fun w14 => R (.tuple #[Ap x1 x2 x3 a2 n2 c2 a4 n4 c4, .int .i64 0]) w14))
 ) : CallsX E.P 8 #[Ap a0 a1 a2 a3 a3l a3c a4 a4l a4c] w R X :=
  calls_vc E_ok ⟨[], []⟩ (f := 8) Tryz.func8 rfl [(Ap a0 a1 a2 a3 a3l a3c a4 a4l a4c, .no)] [] (bls0) nod0 (plain_of rfl) (shs_of ⟨trivial, trivial⟩) h (by kernel_rfl)
theorem vcD11 {a0 a1 : Int} {a2 : ByteArray} {a3 : Option Addr} {a3l a3c : Nat} {a4 : Option Addr} {a4l a4c : Nat}  (h : 
 nB w fun id => nB w fun id1 => fL w [] fun w1 => id < w1.heap.size → id1 < w1.heap.size → cB 17 #[Ap a0 a1 a2 a3 a3l a3c a4 a4l a4c] w1 [id, id1] X fun x w2 => dB (!x) (fL w2 [id1] fun w11 => R (.tuple #[Ap 0 0 (ByteArray.mk #[]) none 0 0 none 0 0, .int .i64 140]) w11) (fL w2 [] fun w12 => cA 24 #[Av a0 a1 a2 a3 a3l a3c, .int .i64 0] w12 [id, id1] X fun x1 x2 x3 a n c w21 => cS 18 #[.slice a4 a4l a4c] w21 [id, id1] X fun a1 n1 c1 w22 => cS 21 #[.slice a1 n1 c1] w22 [id, id1] X fun a2 n2 c2 w23 => fL w23 [id1] fun w13 => R (.tuple #[Ap x1 x2 x3 a n c a2 n2 c2, .int .i64 0]) w13)
 ) : CallsX E.P 11 #[Ap a0 a1 a2 a3 a3l a3c a4 a4l a4c] w R X :=
  calls_vc E_ok ⟨[], []⟩ (f := 11) Tryz.func11 rfl [(Ap a0 a1 a2 a3 a3l a3c a4 a4l a4c, .no)] [] (bls0) nod0 (plain_of rfl) (shs_of ⟨trivial, trivial⟩) h (by kernel_rfl)
theorem vcD19 {a : Nat} {a0 a1 : Option Nat} {a2 : Option Addr} {a2l a2c : Nat} {b0 b1 : Int} {b2 : ByteArray} {b3 : Option Addr} {b3l b3c : Nat} {c : Int} (ha : w.heap[a]? = some (.cells #[.map a0, .map a1, .slice a2 a2l a2c] 52 (0, 0))) (h : 
 nB w fun id => dB (b0 == 26) (fL w [] fun w1 => id < w1.heap.size → hA w1 a #[Value.map a0, Value.map a1, .slice a2 a2l a2c] 52 → R (.tuple #[]) w1) (∃ (I : World → Prop), dB (b0 == 20) (fL w [] fun w11 => id < w11.heap.size → ∃ R1 X', CallsX E.P 33 #[Av b0 b1 b2 b3 b3l b3c, .int .i64 c] w11 R1 X' ∧ (∀ v w2, R1 v w2 → ∃ x x1, ∃ x2 x3, v = .agg #[.int .i64 x, .int .i64 x1, .int .i64 x2, .string x3] ∧ ∃ S, Upd w11 w2 S ∧ Away [a, id] S ∧ (∃ x4, Sem.run E.P (Instr.lookup 49 (Value.map a0) (.agg #[.int .i64 x, .int .i64 x1, .int .i64 x2, .string x3]) false) w2 = Result.ok (.int .i64 x4) w2 ∧ ∃ R2, RunsTo E.P (Instr.mapEntry 49 (Value.map a0) (.agg #[.int .i64 x, .int .i64 x1, .int .i64 x2, .string x3])) w2 R2 ∧ ∀ v1 w21, R2 v1 w21 → ∃ (u : Value), ∃ k, v1 = .tuple #[u, .int .i64 k] ∧ ∃ S1, Upd w2 w21 S1 ∧ Away [a, id] S1 ∧ ∃ R3, RunsU E.P (Instr.entryStore 49 (Value.map a0) (.int .i64 k) (.int .i64 (w64 (x4 + 1)))) w21 R3 ∧ ∀ w22, R3 w22 → ∃ S2, Upd w21 w22 S2 ∧ Away [a, id] S2 ∧ I w22) ∧ ∃ R4, RunsTo E.P (Instr.mapEntry 49 (Value.map a0) (.agg #[.int .i64 x, .int .i64 x1, .int .i64 x2, .string x3])) w2 R4 ∧ ∀ v2 w23, R4 v2 w23 → ∃ (u1 : Value), ∃ k1, v2 = .tuple #[u1, .int .i64 k1] ∧ ∃ S3, Upd w2 w23 S3 ∧ Away [a, id] S3 ∧ ∃ x5, Sem.run E.P (Instr.lookup 49 (Value.map a0) (.agg #[.int .i64 x, .int .i64 x1, .int .i64 x2, .string x3]) false) w23 = Result.ok (.int .i64 x5) w23 ∧ ∃ R5, RunsU E.P (Instr.entryStore 49 (Value.map a0) (.int .i64 k1) (.int .i64 (w64 (x5 + 1)))) w23 R5 ∧ ∀ w24, R5 w24 → ∃ S4, Upd w23 w24 S4 ∧ Away [a, id] S4 ∧ I w24) ∧ PX X' X) (fL w [] fun w12 => id < w12.heap.size → I w12) ∧ ∀ (jk : Nat → Value) (w26 : World), I w26 → ∃ (I1 : Int → Option Nat → Option Nat → Option Addr → Nat → Nat → World → Prop), ∃ (m : Int → Option Nat → Option Nat → Option Addr → Nat → Nat → Nat), I1 0 a0 a1 a2 a2l a2c w26 ∧ ∀ (jk1 : Nat → Value) (x6 : Int) (r r1 : Option Nat) (a1 : Option Addr) (n c1 : Nat) (w27 : World), I1 x6 r r1 a1 n c1 w27 → dB (decide (x6 < (↑b3l : Int))) (iX x6 b3l b3 fun ad => lA w27 (Addr.add ad (Int.toNat x6 * 4)) fun x7 x8 x9 a2 n1 c2 => nB w27 fun id1 => fL w27 [] fun w13 => id1 < w13.heap.size → ∃ R6 X'1, CallsX E.P 34 #[Av b0 b1 b2 b3 b3l b3c, .int .i64 x6, .int .i64 c] w13 R6 X'1 ∧ (∀ v3 w28, R6 v3 w28 → ∃ x10, v3 = .int .i64 x10 ∧ Upd w13 w28 no ∧ (hA w28 a #[Value.map r, Value.map r1, .slice a1 n c1] 52 → cU 19 #[.pointer (some ⟨a, 0, none⟩), Av x7 x8 x9 a2 n1 c2, .int .i64 x10] w28 [id, id1] X fun v5 w29 => ∃ r2 r3, ∃ a3 n2 c3, hA w29 a #[Value.map r2, Value.map r3, .slice a3 n2 c3] 52 ∧ 3 = 3 ∧ I1 (w64 (x6 + 1)) r2 r3 a3 n2 c3 w29 ∧ m (w64 (x6 + 1)) r2 r3 a3 n2 c3 < m x6 r r1 a1 n c1)) ∧ PX X'1 X) (hA w27 a #[Value.map r, Value.map r1, .slice a1 n c1] 52 → R (.tuple #[]) w27))
 ) : CallsX E.P 19 #[.pointer (some ⟨a, 0, none⟩), Av b0 b1 b2 b3 b3l b3c, .int .i64 c] w R X :=
  calls_vc E_ok ⟨[(5, ⟨[(28, .int .i64)], [(0, 0, .map), (0, 1, .map), (0, 2, .slc)]⟩), (100007, ⟨[], []⟩)], [(4, ⟨[], []⟩)]⟩ (f := 19) Tryz.func19 rfl [(.pointer (some ⟨a, 0, none⟩), .ptr 0 0), (Av b0 b1 b2 b3 b3l b3c, .no), (.int .i64 c, .no)] [⟨a, 52, false, [⟨.map a0, .no, 0⟩, ⟨.map a1, .no, 0⟩, ⟨.slice a2 a2l a2c, .no, 0⟩]⟩] (bls1 ha) nod1 (plain_of rfl) (shs_of ⟨rfl, trivial, trivial, trivial⟩) h (by kernel_rfl)
theorem vcD20 {bs : Nat} {b0 b1 : Int} {b2 : ByteArray} {b3 : Option Addr} {b3l b3c : Nat} {c : Int}  (h : 
 nB w fun id => nB w fun id1 => nB w fun id2 => nB w fun id3 => dB (b0 == 26) (fL w [] fun w1 => id < w1.heap.size → id1 < w1.heap.size → id2 < w1.heap.size → id3 < w1.heap.size → cA 35 #[Av b0 b1 b2 b3 b3l b3c] w1 [id, id1, id2, id3] X fun x x1 x2 a n c1 w2 => fL w2 [id3] fun w11 => R (Av x x1 x2 a n c1) w11) (dB (b0 == 20) (fL w [] fun w12 => id < w12.heap.size → id1 < w12.heap.size → id2 < w12.heap.size → id3 < w12.heap.size → ∃ R2 X'1, CallsX E.P 33 #[Av b0 b1 b2 b3 b3l b3c, .int .i64 c] w12 R2 X'1 ∧ (∀ v1 w22, R2 v1 w22 → ∃ x3 x4, ∃ x5 x6, v1 = .agg #[.int .i64 x3, .int .i64 x4, .int .i64 x5, .string x6] ∧ ∃ S1, Upd w12 w22 S1 ∧ Away [id, id1, id2, id3] S1 ∧ ∃ R3 X'2, CallsX E.P 36 #[.pointer (some ⟨bs, 0, none⟩), .agg #[.int .i64 x3, .int .i64 x4, .int .i64 x5, .string x6]] w22 R3 X'2 ∧ (∀ v2 w23, R3 v2 w23 → ∃ x7 x8, v2 = .tuple #[.int .i64 x7, .bool x8] ∧ ∃ S2, Upd w22 w23 S2 ∧ Away [id, id1, id2, id3] S2 ∧ dB x8 (cA 35 #[Av b0 b1 b2 b3 b3l b3c] w23 [id, id1, id2, id3] X fun x9 x10 x11 a1 n1 c2 w24 => nB w24 fun id4 => fL w24 [id3] fun w13 => id4 < w13.heap.size → hA w13 id4 #[.int .i64 x9, .int .i64 x10, .string x11, .slice a1 n1 c2] 24 → R (.agg #[.int .i64 26, .int .i64 x7, .string (ByteArray.mk #[]), .slice (some ⟨id4, 0, none⟩) 1 1]) w13) (hA w23 id #[.pointer (some ⟨bs, 0, none⟩)] 48 → hA w23 id1 #[.int .i64 b0, .int .i64 b1, .string b2, .slice b3 b3l b3c] 24 → hA w23 id2 #[.int .i64 c] 3 → cA 37 #[Av b0 b1 b2 b3 b3l b3c, Value.func (Fn.func 38) #[] #[.pointer (some ⟨id, 0, none⟩), .pointer (some ⟨id1, 0, none⟩), .pointer (some ⟨id2, 0, none⟩)]] w23 [id3] X fun x12 x13 x14 a2 n2 c3 w26 => ∃ a3, hA w26 id #[.pointer a3] 48 ∧ 1 = 1 ∧ ∃ x15 x16, ∃ x17 a4, ∃ n3 c4, hA w26 id1 #[.int .i64 x15, .int .i64 x16, .string x17, .slice a4 n3 c4] 24 ∧ 4 = 4 ∧ ∃ x18, hA w26 id2 #[.int .i64 x18] 3 ∧ 1 = 1 ∧ fL w26 [id3] fun w14 => R (Av x12 x13 x14 a2 n2 c3) w14)) ∧ PX X'2 X) ∧ PX X'1 X) (fL w [] fun w15 => id < w15.heap.size → id1 < w15.heap.size → id2 < w15.heap.size → id3 < w15.heap.size → hA w15 id #[.pointer (some ⟨bs, 0, none⟩)] 48 → hA w15 id1 #[.int .i64 b0, .int .i64 b1, .string b2, .slice b3 b3l b3c] 24 → hA w15 id2 #[.int .i64 c] 3 → cA 37 #[Av b0 b1 b2 b3 b3l b3c, Value.func (Fn.func 38) #[] #[.pointer (some ⟨id, 0, none⟩), .pointer (some ⟨id1, 0, none⟩), .pointer (some ⟨id2, 0, none⟩)]] w15 [id3] X fun x19 x20 x21 a5 n4 c5 w210 => ∃ a6, hA w210 id #[.pointer a6] 48 ∧ 1 = 1 ∧ ∃ x22 x23, ∃ x24 a7, ∃ n5 c6, hA w210 id1 #[.int .i64 x22, .int .i64 x23, .string x24, .slice a7 n5 c6] 24 ∧ 4 = 4 ∧ ∃ x25, hA w210 id2 #[.int .i64 x25] 3 ∧ 1 = 1 ∧ fL w210 [id3] fun w16 => R (Av x19 x20 x21 a5 n4 c5) w16))
 ) : CallsX E.P 20 #[.pointer (some ⟨bs, 0, none⟩), Av b0 b1 b2 b3 b3l b3c, .int .i64 c] w R X :=
  calls_vc E_ok ⟨[], []⟩ (f := 20) Tryz.func20 rfl [(.pointer (some ⟨bs, 0, none⟩), .no), (Av b0 b1 b2 b3 b3l b3c, .no), (.int .i64 c, .no)] [] (bls0) nod0 (plain_of rfl) (shs_of ⟨trivial, trivial, trivial, trivial⟩) h (by kernel_rfl)
theorem vcD24 {a0 a1 : Int} {a2 : ByteArray} {a3 : Option Addr} {a3l a3c : Nat} {b : Int}  (h : 
 nB w fun id => nB w fun id1 => nB w fun id2 => dB (a0 == 26) (fL w [] fun w1 => id < w1.heap.size → id1 < w1.heap.size → id2 < w1.heap.size → cA 35 #[Av a0 a1 a2 a3 a3l a3c] w1 [id, id1, id2] X fun x x1 x2 a n c w2 => fL w2 [id2] fun w11 => R (Av x x1 x2 a n c) w11) (fL w [] fun w12 => id < w12.heap.size → id1 < w12.heap.size → id2 < w12.heap.size → hA w12 id #[.int .i64 a0, .int .i64 a1, .string a2, .slice a3 a3l a3c] 24 → hA w12 id1 #[.int .i64 b] 3 → cA 37 #[Av a0 a1 a2 a3 a3l a3c, Value.func (Fn.func 39) #[] #[.pointer (some ⟨id, 0, none⟩), .pointer (some ⟨id1, 0, none⟩)]] w12 [id2] X fun x3 x4 x5 a1 n1 c1 w22 => ∃ x6 x7, ∃ x8 a2, ∃ n2 c2, hA w22 id #[.int .i64 x6, .int .i64 x7, .string x8, .slice a2 n2 c2] 24 ∧ 4 = 4 ∧ ∃ x9, hA w22 id1 #[.int .i64 x9] 3 ∧ 1 = 1 ∧ nB w22 fun id3 => dB (x6 == 20) (dB (x7 == 1) (dB (decide (x9 > 0)) (iX 0 n1 a1 fun ad => fL w22 [] fun w13 => id3 < w13.heap.size → lA w13 (Addr.add ad 0) fun x10 x11 x12 a3 n3 c3 => iX 1 n1 a1 fun ad1 => lA w13 (Addr.add ad1 4) fun x13 x14 x15 a4 n4 c4 => ∃ R3 X'2, CallsX E.P 40 #[Av x10 x11 x12 a3 n3 c3] w13 R3 X'2 ∧ (∀ v2 w23, R3 v2 w23 → ∃ x16 x17, ∃ x18 a5, ∃ n5 c5, v2 = Av x16 x17 x18 a5 n5 c5 ∧ Upd w13 w23 no ∧ cA 40 #[Av x13 x14 x15 a4 n4 c4] w23 [id, id1, id2, id3] X fun x19 x20 x21 a6 n6 c6 w24 => nB w24 fun id4 => fL w24 [id2] fun w14 => id4 < w14.heap.size → hA w14 id4 #[.int .i64 x16, .int .i64 x17, .string x18, .slice a5 n5 c5, .int .i64 x19, .int .i64 x20, .string x21, .slice a6 n6 c6] 24 → R (.agg #[.int .i64 13, .int .i64 0, .string (ByteArray.mk #[]), .slice (some ⟨id4, 0, none⟩) 2 2]) w14) ∧ PX X'2 X) (fL w22 [id2] fun w15 => id3 < w15.heap.size → R (Av x3 x4 x5 a1 n1 c1) w15)) (fL w22 [id2] fun w16 => id3 < w16.heap.size → R (Av x3 x4 x5 a1 n1 c1) w16)) (fL w22 [id2] fun w17 => id3 < w17.heap.size → R (Av x3 x4 x5 a1 n1 c1) w17))
 ) : CallsX E.P 24 #[Av a0 a1 a2 a3 a3l a3c, .int .i64 b] w R X :=
  calls_vc E_ok ⟨[(100005, ⟨[], []⟩)], []⟩ (f := 24) Tryz.func24 rfl [(Av a0 a1 a2 a3 a3l a3c, .no), (.int .i64 b, .no)] [] (bls0) nod0 (plain_of rfl) (shs_of ⟨trivial, trivial, trivial⟩) h (by kernel_rfl)
theorem vcD33 {a0 a1 : Int} {a2 : ByteArray} {a3 : Option Addr} {a3l a3c : Nat} {b : Int}  (h : 
 nB w fun id => nB w fun id1 => fL w [] fun w1 => id < w1.heap.size → id1 < w1.heap.size → ∃ (I : ByteArray → Int → World → Prop), ∃ (m : ByteArray → Int → Nat), I (ByteArray.mk #[]) 0 w1 ∧ ∀ (jk : Nat → Value) (x : ByteArray) (x1 : Int) (w2 : World), I x x1 w2 → dB (decide (x1 < (↑a3l : Int))) (iX x1 a3l a3 fun ad => lA w2 (Addr.add ad (Int.toNat x1 * 4)) fun x2 x3 x4 a n c => nB w2 fun id2 => fL w2 [] fun w11 => id2 < w11.heap.size → cT 55 #[Av x2 x3 x4 a n c] w11 [id, id1, id2] X fun x5 w21 => ∃ x6, Sem.run E.P (binSem BinOp.add 9 (Operand.tmp 16) (Operand.tmp 18) (.string x) (.string x5)) w21 = Result.ok (.string x6) w21 ∧ I x6 (w64 (x1 + 1)) w21 ∧ m x6 (w64 (x1 + 1)) < m x x1) (cI 56 #[Av a0 a1 a2 a3 a3l a3c, .int .i64 b] w2 [id, id1] X fun x7 w23 => cB 57 #[Av a0 a1 a2 a3 a3l a3c] w23 [id, id1] X fun x8 w24 => dB (!x8) (fL w24 [id1] fun w12 => R (.agg #[.int .i64 a1, .int .i64 x7, .int .i64 0, .string x]) w12) (fL w24 [id1] fun w13 => R (.agg #[.int .i64 a1, .int .i64 x7, .int .i64 b, .string x]) w13))
 ) : CallsX E.P 33 #[Av a0 a1 a2 a3 a3l a3c, .int .i64 b] w R X :=
  calls_vc E_ok ⟨[(3, ⟨[(5, .str), (12, .int .i64)], []⟩)], []⟩ (f := 33) Tryz.func33 rfl [(Av a0 a1 a2 a3 a3l a3c, .no), (.int .i64 b, .no)] [] (bls0) nod0 (plain_of rfl) (shs_of ⟨trivial, trivial, trivial⟩) h (by kernel_rfl)
theorem vcD34 {a0 a1 : Int} {a2 : ByteArray} {a3 : Option Addr} {a3l a3c : Nat} {b c : Int}  (h : 
 nB w fun id => dB (a0 == 21) (dB (b == 1) (fL w [] fun w1 => id < w1.heap.size → R (.int .i64 (w64 (c + 1))) w1) (fL w [] fun w11 => id < w11.heap.size → R (.int .i64 c) w11)) (fL w [] fun w12 => id < w12.heap.size → R (.int .i64 c) w12)
 ) : CallsX E.P 34 #[Av a0 a1 a2 a3 a3l a3c, .int .i64 b, .int .i64 c] w R X :=
  calls_vc E_ok ⟨[], []⟩ (f := 34) Tryz.func34 rfl [(Av a0 a1 a2 a3 a3l a3c, .no), (.int .i64 b, .no), (.int .i64 c, .no)] [] (bls0) nod0 (plain_of rfl) (shs_of ⟨trivial, trivial, trivial, trivial⟩) h (by kernel_rfl)
theorem vcD35 {a0 a1 : Int} {a2 : ByteArray} {a3 : Option Addr} {a3l a3c : Nat}  (h : 
 nB w fun id => nB w fun id1 => fL w [] fun w1 => id < w1.heap.size → id1 < w1.heap.size → cA 37 #[Av a0 a1 a2 a3 a3l a3c, Value.func (Fn.func 58) #[] #[]] w1 [id, id1] X fun x x1 x2 a n c w2 => fL w2 [id1] fun w11 => R (Av x x1 x2 a n c) w11
 ) : CallsX E.P 35 #[Av a0 a1 a2 a3 a3l a3c] w R X :=
  calls_vc E_ok ⟨[], []⟩ (f := 35) Tryz.func35 rfl [(Av a0 a1 a2 a3 a3l a3c, .no)] [] (bls0) nod0 (plain_of rfl) (shs_of ⟨trivial, trivial⟩) h (by kernel_rfl)
theorem vcD36 {a : Nat} {a0 a1 : Option Nat} {a2 : Option Addr} {a2l a2c : Nat} {b0 b1 b2 : Int} {b3 : ByteArray} (ha : w.heap[a]? = some (.cells #[.map a0, .map a1, .slice a2 a2l a2c] 52 (0, 0))) (h : 
 nB w fun id => fL w [] fun w1 => id < w1.heap.size → ∃ x x1, Sem.run E.P (Instr.lookup 49 (Value.map a1) (.agg #[.int .i64 b0, .int .i64 b1, .int .i64 b2, .string b3]) true) w1 = Result.ok (.tuple #[.int .i64 x, .bool x1]) w1 ∧ dB (!x1) (fL w1 [] fun w11 => ∃ x2, Sem.run E.P (Instr.lookup 49 (Value.map a0) (.agg #[.int .i64 b0, .int .i64 b1, .int .i64 b2, .string b3]) false) w11 = Result.ok (.int .i64 x2) w11 ∧ dB (decide (x2 > 1)) (dB (decide ((↑a2l : Int) < 256)) (fL w11 [] fun w12 => ∃ R1, RunsU E.P (Instr.mapUpdate 49 (Value.map a1) (.agg #[.int .i64 b0, .int .i64 b1, .int .i64 b2, .string b3]) (.int .i64 (↑a2l : Int))) w12 R1 ∧ ∀ w2, R1 w2 → ∃ S, Upd w12 w2 S ∧ Away [a, id] S ∧ nB w2 fun id1 => fL w2 [] fun w13 => id1 < w13.heap.size → hA w13 id1 #[.int .i64 b1] 3 → ∃ R2, RunsTo E.P (Builtin.append_ #[25, 25] 25 #[.slice a2 a2l a2c, .slice (some ⟨id1, 0, none⟩) 1 1]) w13 R2 ∧ ∀ v w21, R2 v w21 → ∃ a1_1 n c, v = .slice a1_1 n c ∧ ∃ S1, Upd w13 w21 S1 ∧ Away [a, id, id1] S1 ∧ fL w21 [a] fun w14 => hA w14 a #[Value.map a0, Value.map a1, .slice a1_1 n c] 52 → hA w14 id1 #[.int .i64 b1] 3 → R (.tuple #[.int .i64 (↑a2l : Int), .bool true]) w14) (hA w11 a #[Value.map a0, Value.map a1, .slice a2 a2l a2c] 52 → R (.tuple #[.int .i64 x, .bool x1]) w11)) (hA w11 a #[Value.map a0, Value.map a1, .slice a2 a2l a2c] 52 → R (.tuple #[.int .i64 x, .bool x1]) w11)) (fL w1 [] fun w15 => hA w15 a #[Value.map a0, Value.map a1, .slice a2 a2l a2c] 52 → R (.tuple #[.int .i64 x, .bool x1]) w15)
 ) : CallsX E.P 36 #[.pointer (some ⟨a, 0, none⟩), .agg #[.int .i64 b0, .int .i64 b1, .int .i64 b2, .string b3]] w R X :=
  calls_vc E_ok ⟨[], []⟩ (f := 36) Tryz.func36 rfl [(.pointer (some ⟨a, 0, none⟩), .ptr 0 0), (.agg #[.int .i64 b0, .int .i64 b1, .int .i64 b2, .string b3], .no)] [⟨a, 52, false, [⟨.map a0, .no, 0⟩, ⟨.map a1, .no, 0⟩, ⟨.slice a2 a2l a2c, .no, 0⟩]⟩] (bls1 ha) nod1 (plain_of rfl) (shs_of ⟨rfl, trivial, trivial⟩) h (by kernel_rfl)
theorem vcD37_58 {a0 a1 : Int} {a2 : ByteArray} {a3 : Option Addr} {a3l a3c : Nat}   (h : 
 nB w fun id => nB w fun id1 => nB w fun id2 => fL w [] fun w1 => id < w1.heap.size → id1 < w1.heap.size → id2 < w1.heap.size → ∃ (I : Int → Option Addr → Nat → Nat → World → Prop), ∃ (m : Int → Option Addr → Nat → Nat → Nat), I 0 none 0 0 w1 ∧ ∀ (jk : Nat → Value) (x : Int) (a : Option Addr) (n c : Nat) (w2 : World), I x a n c w2 → dB (decide (x < (↑a3l : Int))) (iX x a3l a3 fun ad => lA w2 (Addr.add ad (Int.toNat x * 4)) fun x1 x2 x3 a1 n1 c1 => nB w2 fun id3 => fL w2 [] fun w11 => id3 < w11.heap.size → cA 58 #[.int .i64 x, Av x1 x2 x3 a1 n1 c1] w11 [id, id1, id2, id3] X fun x4 x5 x6 a2 n2 c2 w21 => nB w21 fun id4 => fL w21 [] fun w12 => id4 < w12.heap.size → hA w12 id4 #[.int .i64 x4, .int .i64 x5, .string x6, .slice a2 n2 c2] 24 → ∃ R2, RunsTo E.P (Builtin.append_ #[22, 22] 22 #[.slice a n c, .slice (some ⟨id4, 0, none⟩) 1 1]) w12 R2 ∧ ∀ v1 w22, R2 v1 w22 → ∃ a3 n3 c3, v1 = .slice a3 n3 c3 ∧ ∃ S1, Upd w12 w22 S1 ∧ Away [id, id1, id2, id3, id4] S1 ∧ fL w22 [id2] fun w13 => hA w13 id4 #[.int .i64 x4, .int .i64 x5, .string x6, .slice a2 n2 c2] 24 → I (w64 (x + 1)) a3 n3 c3 w13 ∧ m (w64 (x + 1)) a3 n3 c3 < m x a n c) (cS 59 #[.slice a n c] w2 [id, id1, id2] X fun a4 n4 c4 w24 => fL w24 [id1, id2] fun w14 => R (Av a0 a1 a2 a4 n4 c4) w14)
 ) : CallsX E.P 37 #[Av a0 a1 a2 a3 a3l a3c, .func (.func 58) #[] #[]] w R X :=
  calls_vc E_ok ⟨[(3, ⟨[(18, .int .i64)], [(2, 3, .slc)]⟩)], []⟩ (f := 37) Tryz.func37 rfl [(Av a0 a1 a2 a3 a3l a3c, .no), (.func (.func 58) #[] #[], .no)] [] (bls0) nod0 (plain_of rfl) (shs_of ⟨trivial, trivial, trivial⟩) h (by kernel_rfl)
theorem vcD37_39 {a0 a1 : Int} {a2 : ByteArray} {a3 : Option Addr} {a3l a3c bn ba : Nat}  (h : 
 nB w fun id => nB w fun id1 => nB w fun id2 => fL w [] fun w1 => id < w1.heap.size → id1 < w1.heap.size → id2 < w1.heap.size → ∃ (I : Int → Option Addr → Nat → Nat → World → Prop), ∃ (m : Int → Option Addr → Nat → Nat → Nat), I 0 none 0 0 w1 ∧ ∀ (jk : Nat → Value) (x : Int) (a : Option Addr) (n c : Nat) (w2 : World), I x a n c w2 → dB (decide (x < (↑a3l : Int))) (iX x a3l a3 fun ad => lA w2 (Addr.add ad (Int.toNat x * 4)) fun x1 x2 x3 a1 n1 c1 => nB w2 fun id3 => fL w2 [] fun w11 => id3 < w11.heap.size → cA 39 #[.int .i64 x, Av x1 x2 x3 a1 n1 c1, .pointer (some ⟨bn, 0, none⟩), .pointer (some ⟨ba, 0, none⟩)] w11 [id, id1, id2, id3] X fun x4 x5 x6 a2 n2 c2 w21 => nB w21 fun id4 => fL w21 [] fun w12 => id4 < w12.heap.size → hA w12 id4 #[.int .i64 x4, .int .i64 x5, .string x6, .slice a2 n2 c2] 24 → ∃ R2, RunsTo E.P (Builtin.append_ #[22, 22] 22 #[.slice a n c, .slice (some ⟨id4, 0, none⟩) 1 1]) w12 R2 ∧ ∀ v1 w22, R2 v1 w22 → ∃ a3 n3 c3, v1 = .slice a3 n3 c3 ∧ ∃ S1, Upd w12 w22 S1 ∧ Away [id, id1, id2, id3, id4] S1 ∧ fL w22 [id2] fun w13 => hA w13 id4 #[.int .i64 x4, .int .i64 x5, .string x6, .slice a2 n2 c2] 24 → I (w64 (x + 1)) a3 n3 c3 w13 ∧ m (w64 (x + 1)) a3 n3 c3 < m x a n c) (cS 59 #[.slice a n c] w2 [id, id1, id2] X fun a4 n4 c4 w24 => fL w24 [id1, id2] fun w14 => R (Av a0 a1 a2 a4 n4 c4) w14)
 ) : CallsX E.P 37 #[Av a0 a1 a2 a3 a3l a3c, .func (.func 39) #[] #[.pointer (some ⟨bn, 0, none⟩), .pointer (some ⟨ba, 0, none⟩)]] w R X :=
  calls_vc E_ok ⟨[(3, ⟨[(18, .int .i64)], [(2, 3, .slc)]⟩)], []⟩ (f := 37) Tryz.func37 rfl [(Av a0 a1 a2 a3 a3l a3c, .no), (.func (.func 39) #[] #[.pointer (some ⟨bn, 0, none⟩), .pointer (some ⟨ba, 0, none⟩)], .no)] [] (bls0) nod0 (plain_of rfl) (shs_of ⟨trivial, trivial, trivial⟩) h (by kernel_rfl)
theorem vcD37_38 {a0 a1 : Int} {a2 : ByteArray} {a3 : Option Addr} {a3l a3c bs bn ba : Nat}  (h : 
 nB w fun id => nB w fun id1 => nB w fun id2 => fL w [] fun w1 => id < w1.heap.size → id1 < w1.heap.size → id2 < w1.heap.size → ∃ (I : Int → Option Addr → Nat → Nat → World → Prop), ∃ (m : Int → Option Addr → Nat → Nat → Nat), I 0 none 0 0 w1 ∧ ∀ (jk : Nat → Value) (x : Int) (a : Option Addr) (n c : Nat) (w2 : World), I x a n c w2 → dB (decide (x < (↑a3l : Int))) (iX x a3l a3 fun ad => lA w2 (Addr.add ad (Int.toNat x * 4)) fun x1 x2 x3 a1 n1 c1 => nB w2 fun id3 => fL w2 [] fun w11 => id3 < w11.heap.size → cA 38 #[.int .i64 x, Av x1 x2 x3 a1 n1 c1, .pointer (some ⟨bs, 0, none⟩), .pointer (some ⟨bn, 0, none⟩), .pointer (some ⟨ba, 0, none⟩)] w11 [id, id1, id2, id3] X fun x4 x5 x6 a2 n2 c2 w21 => nB w21 fun id4 => fL w21 [] fun w12 => id4 < w12.heap.size → hA w12 id4 #[.int .i64 x4, .int .i64 x5, .string x6, .slice a2 n2 c2] 24 → ∃ R2, RunsTo E.P (Builtin.append_ #[22, 22] 22 #[.slice a n c, .slice (some ⟨id4, 0, none⟩) 1 1]) w12 R2 ∧ ∀ v1 w22, R2 v1 w22 → ∃ a3 n3 c3, v1 = .slice a3 n3 c3 ∧ ∃ S1, Upd w12 w22 S1 ∧ Away [id, id1, id2, id3, id4] S1 ∧ fL w22 [id2] fun w13 => hA w13 id4 #[.int .i64 x4, .int .i64 x5, .string x6, .slice a2 n2 c2] 24 → I (w64 (x + 1)) a3 n3 c3 w13 ∧ m (w64 (x + 1)) a3 n3 c3 < m x a n c) (cS 59 #[.slice a n c] w2 [id, id1, id2] X fun a4 n4 c4 w24 => fL w24 [id1, id2] fun w14 => R (Av a0 a1 a2 a4 n4 c4) w14)
 ) : CallsX E.P 37 #[Av a0 a1 a2 a3 a3l a3c, .func (.func 38) #[] #[.pointer (some ⟨bs, 0, none⟩), .pointer (some ⟨bn, 0, none⟩), .pointer (some ⟨ba, 0, none⟩)]] w R X :=
  calls_vc E_ok ⟨[(3, ⟨[(18, .int .i64)], [(2, 3, .slc)]⟩)], []⟩ (f := 37) Tryz.func37 rfl [(Av a0 a1 a2 a3 a3l a3c, .no), (.func (.func 38) #[] #[.pointer (some ⟨bs, 0, none⟩), .pointer (some ⟨bn, 0, none⟩), .pointer (some ⟨ba, 0, none⟩)], .no)] [] (bls0) nod0 (plain_of rfl) (shs_of ⟨trivial, trivial, trivial⟩) h (by kernel_rfl)
theorem vcD38 {a b0 b1 : Int} {b2 : ByteArray} {b3 : Option Addr} {b3l b3c c : Nat} {c0 : Option Addr} {d : Nat} {d0 d1 : Int} {d2 : ByteArray} {d3 : Option Addr} {d3l d3c e : Nat} {e0 : Int} (hc : w.heap[c]? = some (.cells #[.pointer c0] 48 (0, 0))) (hd : w.heap[d]? = some (.cells #[.int .i64 d0, .int .i64 d1, .string d2, .slice d3 d3l d3c] 24 (0, 0))) (he : w.heap[e]? = some (.cells #[.int .i64 e0] 3 (0, 0))) (h : 
 nB w fun id => nB w fun id1 => fL w [] fun w1 => id < w1.heap.size → id1 < w1.heap.size → ∃ R1 X', CallsX E.P 34 #[Av d0 d1 d2 d3 d3l d3c, .int .i64 a, .int .i64 e0] w1 R1 X' ∧ (∀ v w2, R1 v w2 → ∃ x, v = .int .i64 x ∧ Upd w1 w2 no ∧ cA 20 #[.pointer c0, Av b0 b1 b2 b3 b3l b3c, .int .i64 x] w2 [c, d, e, id, id1] X fun x1 x2 x3 a1 n c1 w21 => fL w21 [id1] fun w11 => hA w11 c #[.pointer c0] 48 → hA w11 d #[.int .i64 d0, .int .i64 d1, .string d2, .slice d3 d3l d3c] 24 → hA w11 e #[.int .i64 e0] 3 → R (Av x1 x2 x3 a1 n c1) w11) ∧ PX X' X
 ) : CallsX E.P 38 #[.int .i64 a, Av b0 b1 b2 b3 b3l b3c, .pointer (some ⟨c, 0, none⟩), .pointer (some ⟨d, 0, none⟩), .pointer (some ⟨e, 0, none⟩)] w R X :=
  calls_vc E_ok ⟨[(100001, ⟨[], []⟩)], []⟩ (f := 38) Tryz.func38 rfl [(.int .i64 a, .no), (Av b0 b1 b2 b3 b3l b3c, .no), (.pointer (some ⟨c, 0, none⟩), .ptr 0 0), (.pointer (some ⟨d, 0, none⟩), .ptr 1 0), (.pointer (some ⟨e, 0, none⟩), .ptr 2 0)] [⟨c, 48, false, [⟨.pointer c0, .no, 0⟩]⟩, ⟨d, 24, false, [⟨.int .i64 d0, .no, 0⟩, ⟨.int .i64 d1, .no, 0⟩, ⟨.string d2, .no, 0⟩, ⟨.slice d3 d3l d3c, .no, 0⟩]⟩, ⟨e, 3, false, [⟨.int .i64 e0, .no, 0⟩]⟩] (bls3 hc hd he) (nod_ty (bls3 hc hd he) rfl) (plain_of rfl) (shs_of ⟨trivial, trivial, rfl, rfl, rfl, trivial⟩) h (by kernel_rfl)
theorem vcD39 {a b0 b1 : Int} {b2 : ByteArray} {b3 : Option Addr} {b3l b3c c : Nat} {c0 c1 : Int} {c2 : ByteArray} {c3 : Option Addr} {c3l c3c d : Nat} {d0 : Int} (hc : w.heap[c]? = some (.cells #[.int .i64 c0, .int .i64 c1, .string c2, .slice c3 c3l c3c] 24 (0, 0))) (hd : w.heap[d]? = some (.cells #[.int .i64 d0] 3 (0, 0))) (h : 
 nB w fun id => nB w fun id1 => fL w [] fun w1 => id < w1.heap.size → id1 < w1.heap.size → ∃ R1 X', CallsX E.P 34 #[Av c0 c1 c2 c3 c3l c3c, .int .i64 a, .int .i64 d0] w1 R1 X' ∧ (∀ v w2, R1 v w2 → ∃ x, v = .int .i64 x ∧ Upd w1 w2 no ∧ cA 24 #[Av b0 b1 b2 b3 b3l b3c, .int .i64 x] w2 [c, d, id, id1] X fun x1 x2 x3 a1 n c1_1 w21 => fL w21 [id1] fun w11 => hA w11 c #[.int .i64 c0, .int .i64 c1, .string c2, .slice c3 c3l c3c] 24 → hA w11 d #[.int .i64 d0] 3 → R (Av x1 x2 x3 a1 n c1_1) w11) ∧ PX X' X
 ) : CallsX E.P 39 #[.int .i64 a, Av b0 b1 b2 b3 b3l b3c, .pointer (some ⟨c, 0, none⟩), .pointer (some ⟨d, 0, none⟩)] w R X :=
  calls_vc E_ok ⟨[(100001, ⟨[], []⟩)], []⟩ (f := 39) Tryz.func39 rfl [(.int .i64 a, .no), (Av b0 b1 b2 b3 b3l b3c, .no), (.pointer (some ⟨c, 0, none⟩), .ptr 0 0), (.pointer (some ⟨d, 0, none⟩), .ptr 1 0)] [⟨c, 24, false, [⟨.int .i64 c0, .no, 0⟩, ⟨.int .i64 c1, .no, 0⟩, ⟨.string c2, .no, 0⟩, ⟨.slice c3 c3l c3c, .no, 0⟩]⟩, ⟨d, 3, false, [⟨.int .i64 d0, .no, 0⟩]⟩] (bls2 hc hd) (nod_ty (bls2 hc hd) rfl) (plain_of rfl) (shs_of ⟨trivial, trivial, rfl, rfl, trivial⟩) h (by kernel_rfl)
theorem vcD40 {a0 a1 : Int} {a2 : ByteArray} {a3 : Option Addr} {a3l a3c : Nat}  (h : 
 nB w fun id => nB w fun id1 => nB w fun id2 => fL w [] fun w1 => id < w1.heap.size → id1 < w1.heap.size → id2 < w1.heap.size → hA w1 id2 #[.int .i64 a0, .int .i64 a1, .string a2, .slice a3 a3l a3c] 24 → R (.agg #[.int .i64 20, .int .i64 10, .string (ByteArray.mk #[]), .slice (some ⟨id2, 0, none⟩) 1 1]) w1
 ) : CallsX E.P 40 #[Av a0 a1 a2 a3 a3l a3c] w R X :=
  calls_vc E_ok ⟨[], []⟩ (f := 40) Tryz.func40 rfl [(Av a0 a1 a2 a3 a3l a3c, .no)] [] (bls0) nod0 (plain_of rfl) (shs_of ⟨trivial, trivial⟩) h (by kernel_rfl)
theorem vcD55 {a0 a1 : Int} {a2 : ByteArray} {a3 : Option Addr} {a3l a3c : Nat}  (h : 
 nB w fun id => ∃ (I : ByteArray → World → Prop), (fL w [] fun w1 => id < w1.heap.size → cT 82 #[.int .i64 a0] w1 [id] X fun x w2 => (∃ x1, Sem.run E.P (binSem BinOp.add 9 (Operand.tmp 8) (Operand.const (.string (ByteArray.mk #[46]))) (.string x) (.string (ByteArray.mk #[46]))) w2 = Result.ok (.string x1) w2 ∧ cT 82 #[.int .i64 a1] w2 [id] X fun x2 w21 => ∃ x3, Sem.run E.P (binSem BinOp.add 9 (Operand.tmp 9) (Operand.tmp 12) (.string x1) (.string x2)) w21 = Result.ok (.string x3) w21 ∧ ∃ x4, Sem.run E.P (binSem BinOp.add 9 (Operand.tmp 13) (Operand.const (.string (ByteArray.mk #[46]))) (.string x3) (.string (ByteArray.mk #[46]))) w21 = Result.ok (.string x4) w21 ∧ ∃ x5, Sem.run E.P (binSem BinOp.add 9 (Operand.tmp 14) (Operand.tmp 16) (.string x4) (.string a2)) w21 = Result.ok (.string x5) w21 ∧ ∃ x6, Sem.run E.P (binSem BinOp.add 9 (Operand.tmp 17) (Operand.const (.string (ByteArray.mk #[40]))) (.string x5) (.string (ByteArray.mk #[40]))) w21 = Result.ok (.string x6) w21 ∧ I x6 w21) ∧ cT 82 #[.int .i64 a1] w2 [id] X fun x7 w23 => ∃ x8, Sem.run E.P (binSem BinOp.add 9 (Operand.tmp 8) (Operand.const (.string (ByteArray.mk #[46]))) (.string x) (.string (ByteArray.mk #[46]))) w23 = Result.ok (.string x8) w23 ∧ ∃ x9, Sem.run E.P (binSem BinOp.add 9 (Operand.tmp 9) (Operand.tmp 12) (.string x8) (.string x7)) w23 = Result.ok (.string x9) w23 ∧ ∃ x10, Sem.run E.P (binSem BinOp.add 9 (Operand.tmp 13) (Operand.const (.string (ByteArray.mk #[46]))) (.string x9) (.string (ByteArray.mk #[46]))) w23 = Result.ok (.string x10) w23 ∧ ∃ x11, Sem.run E.P (binSem BinOp.add 9 (Operand.tmp 14) (Operand.tmp 16) (.string x10) (.string a2)) w23 = Result.ok (.string x11) w23 ∧ ∃ x12, Sem.run E.P (binSem BinOp.add 9 (Operand.tmp 17) (Operand.const (.string (ByteArray.mk #[40]))) (.string x11) (.string (ByteArray.mk #[40]))) w23 = Result.ok (.string x12) w23 ∧ I x12 w23) ∧ ∀ (jk : Nat → Value) (x13 : ByteArray) (w26 : World), I x13 w26 → ∃ (I1 : ByteArray → Int → World → Prop), ∃ (m : ByteArray → Int → Nat), I1 x13 0 w26 ∧ ∀ (jk1 : Nat → Value) (x14 : ByteArray) (x15 : Int) (w27 : World), I1 x14 x15 w27 → dB (decide (x15 < (↑a3l : Int))) (iX x15 a3l a3 fun ad => lA w27 (Addr.add ad (Int.toNat x15 * 4)) fun x16 x17 x18 a n c => nB w27 fun id1 => fL w27 [] fun w11 => id1 < w11.heap.size → cT 55 #[Av x16 x17 x18 a n c] w11 [id, id1] X fun x19 w28 => ∃ x20, Sem.run E.P (binSem BinOp.add 9 (Operand.tmp 26) (Operand.tmp 28) (.string x14) (.string x19)) w28 = Result.ok (.string x20) w28 ∧ I1 x20 (w64 (x15 + 1)) w28 ∧ m x20 (w64 (x15 + 1)) < m x14 x15) (∃ x21, Sem.run E.P (binSem BinOp.add 9 (Operand.tmp 31) (Operand.const (.string (ByteArray.mk #[41]))) (.string x14) (.string (ByteArray.mk #[41]))) w27 = Result.ok (.string x21) w27 ∧ R (.string x21) w27)
 ) : CallsX E.P 55 #[Av a0 a1 a2 a3 a3l a3c] w R X :=
  calls_vc E_ok ⟨[(3, ⟨[(3, .str), (22, .int .i64)], []⟩)], [(2, ⟨[(3, .str)], []⟩)]⟩ (f := 55) Tryz.func55 rfl [(Av a0 a1 a2 a3 a3l a3c, .no)] [] (bls0) nod0 (plain_of rfl) (shs_of ⟨trivial, trivial⟩) h (by kernel_rfl)
theorem vcD56 {a0 a1 : Int} {a2 : ByteArray} {a3 : Option Addr} {a3l a3c : Nat} {b : Int}  (h : 
 nB w fun id => ∃ (I : Int → World → Prop), dB (a0 == 5) (dB (decide (a1 < b)) (fL w [] fun w1 => id < w1.heap.size → I (w64 (a1 + 1)) w1) (fL w [] fun w11 => id < w11.heap.size → I 0 w11)) (fL w [] fun w12 => id < w12.heap.size → I 0 w12) ∧ ∀ (jk : Nat → Value) (x : Int) (w2 : World), I x w2 → ∃ (I1 : Int → Int → World → Prop), ∃ (m : Int → Int → Nat), I1 x 0 w2 ∧ ∀ (jk1 : Nat → Value) (x1 x2 : Int) (w21 : World), I1 x1 x2 w21 → dB (decide (x2 < (↑a3l : Int))) (iX x2 a3l a3 fun ad => lA w21 (Addr.add ad (Int.toNat x2 * 4)) fun x3 x4 x5 a n c => nB w21 fun id1 => fL w21 [] fun w13 => id1 < w13.heap.size → cI 56 #[Av x3 x4 x5 a n c, .int .i64 b] w13 [id, id1] X fun x6 w22 => I1 (if x6 > x1 then x6 else x1) (w64 (x2 + 1)) w22 ∧ m (if x6 > x1 then x6 else x1) (w64 (x2 + 1)) < m x1 x2) (R (.int .i64 x1) w21)
 ) : CallsX E.P 56 #[Av a0 a1 a2 a3 a3l a3c, .int .i64 b] w R X :=
  calls_vc E_ok ⟨[(5, ⟨[(5, .int .i64), (23, .int .i64)], []⟩)], [(4, ⟨[(5, .int .i64)], []⟩)]⟩ (f := 56) Tryz.func56 rfl [(Av a0 a1 a2 a3 a3l a3c, .no), (.int .i64 b, .no)] [] (bls0) nod0 (plain_of rfl) (shs_of ⟨trivial, trivial, trivial⟩) h (by kernel_rfl)
theorem vcD57 {a0 a1 : Int} {a2 : ByteArray} {a3 : Option Addr} {a3l a3c : Nat}  (h : 
 nB w fun id => dB (a0 == 21) (fL w [] fun w1 => id < w1.heap.size → R (.bool true) w1) (fL w [] fun w11 => id < w11.heap.size → cB 83 #[.slice a3 a3l a3c, Value.func (Fn.func 57) #[] #[]] w11 [id] X fun x w2 => R (.bool x) w2)
 ) : CallsX E.P 57 #[Av a0 a1 a2 a3 a3l a3c] w R X :=
  calls_vc E_ok ⟨[], []⟩ (f := 57) Tryz.func57 rfl [(Av a0 a1 a2 a3 a3l a3c, .no)] [] (bls0) nod0 (plain_of rfl) (shs_of ⟨trivial, trivial⟩) h (by kernel_rfl)
theorem vcD58 {a b0 b1 : Int} {b2 : ByteArray} {b3 : Option Addr} {b3l b3c : Nat}  (h : 
 nB w fun id => nB w fun id1 => fL w [] fun w1 => id < w1.heap.size → id1 < w1.heap.size → cA 35 #[Av b0 b1 b2 b3 b3l b3c] w1 [id, id1] X fun x x1 x2 a1 n c w2 => fL w2 [id1] fun w11 => R (Av x x1 x2 a1 n c) w11
 ) : CallsX E.P 58 #[.int .i64 a, Av b0 b1 b2 b3 b3l b3c] w R X :=
  calls_vc E_ok ⟨[], []⟩ (f := 58) Tryz.func58 rfl [(.int .i64 a, .no), (Av b0 b1 b2 b3 b3l b3c, .no)] [] (bls0) nod0 (plain_of rfl) (shs_of ⟨trivial, trivial, trivial⟩) h (by kernel_rfl)
theorem vcD83_57 {a : Option Addr} {al ac : Nat}   (h : 
 cI 107 #[.slice a al ac, Value.func (Fn.func 57) #[] #[]] w [] X fun x w2 => R (.bool (decide (x ≥ 0))) w2
 ) : CallsX E.P 83 #[.slice a al ac, .func (.func 57) #[] #[]] w R X :=
  calls_vc E_ok ⟨[], []⟩ (f := 83) Tryz.func83 rfl [(.slice a al ac, .no), (.func (.func 57) #[] #[], .no)] [] (bls0) nod0 (plain_of rfl) (shs_of ⟨trivial, trivial, trivial⟩) h (by kernel_rfl)
theorem vcD107_57 {a : Option Addr} {al ac : Nat}   (h : 
 ∃ (I : Int → World → Prop), ∃ (m : Int → Nat), I 0 w ∧ ∀ (jk : Nat → Value) (x : Int) (w2 : World), I x w2 → dB (decide (x < (↑al : Int))) (iX x al a fun ad => lA w2 (Addr.add ad (Int.toNat x * 4)) fun x1 x2 x3 a1 n c => cB 57 #[Av x1 x2 x3 a1 n c] w2 [] X fun x4 w21 => dB x4 (R (.int .i64 x) w21) (I (w64 (x + 1)) w21 ∧ m (w64 (x + 1)) < m x)) (R (.int .i64 (-1)) w2)
 ) : CallsX E.P 107 #[.slice a al ac, .func (.func 57) #[] #[]] w R X :=
  calls_vc E_ok ⟨[(2, ⟨[(8, .int .i64)], []⟩)], []⟩ (f := 107) Tryz.func107 rfl [(.slice a al ac, .no), (.func (.func 57) #[] #[], .no)] [] (bls0) nod0 (plain_of rfl) (shs_of ⟨trivial, trivial, trivial⟩) h (by kernel_rfl)
end Go.Vx.Tryz
namespace Go.Vx
section
def innerI (k i a : Int) : Int := if k == 21 then (if i == 1 then w64 (a + 1) else a) else a
mutual
def repsN : Int → Nd → Nd
  | a, .mk k v s l =>
    if k == 26 then .mk k v s l
    else if k == 20 && v == 1 && decide (a > 0) then .mk 13 0 (ByteArray.mk #[]) [.mk 20 10 (ByteArray.mk #[]) [(repsL k a 0 l).getD 0 nd0], .mk 20 10 (ByteArray.mk #[]) [(repsL k a 0 l).getD 1 nd0]]
    else .mk k v s (repsL k a 0 l)
def repsL : Int → Int → Int → List Nd → List Nd
  | _, _, _, [] => []
  | k, a, i, x :: l => repsN (innerI k i a) x :: repsL k a (w64 (i + 1)) l
end
end
end Go.Vx
namespace Go.Vx.Tryz
open Go Go.Vx Go.Proofs
abbrev NdO (w0 : World) (r : Nd) : Value → World → Prop := fun v w' => ∃ A l c, v = ndA r A l c ∧ NdsG w' true (Rng w0.heap.size w'.heap.size) r.kids A l c ∧ Ext w0 w'
theorem fl {w0 w w1 : World} {id : Nat} (h : Ext w0 w) (k : Upd w w1 (setOf [id])) (hid : w0.heap.size ≤ id) : Ext w0 w1 :=
  Upd.step h k fun b hb => by simp only [setOf, no, or_false] at hb; omega
theorem ndO_fl {w0 w w1 : World} {r : Nd} {A : Option Addr} {l c : Nat} {id : Nat} (h : NdsG w true (Rng w0.heap.size w.heap.size) r.kids A l c) (hE : Ext w0 w) {wb : World} (hb : Ext wb w0) (k : Upd w w1 (setOf [id])) (hid : wb.heap.size ≤ id) (hid2 : id < w0.heap.size) : NdO wb r (ndA r A l c) w1 := by
  have s1 := hb.size
  have s2 := k.size
  refine ⟨A, l, c, rfl, (h.upd k fun b q hS => ?_).mono fun b q => ⟨by have := q.1; omega, by have := q.2; omega⟩, fl (hb.trans hE) k hid⟩
  have := q.1
  simp only [setOf, no, or_false] at hS; omega
theorem made58_c (n : Nd) (hN : n.size < 2 ^ 30) {w : World} {F : Nat → Prop} {A : Option Addr} {l c : Nat} (hr : NdsR w F n.kids A l c)
    (hk : ∀ j (_ : j < n.kids.length) (i : Int) {w' : World} {A' : Option Addr} {l' c' : Nat}, NdsR w' F n.kids[j].kids A' l' c' → CallsX E.P 58 #[.int .i64 i, ndA n.kids[j] A' l' c'] w' (NdO w' n.kids[j]) never) :
    CallsX E.P 37 #[ndA n A l c, .func (.func 58) #[] #[]] w (NdO w n) never := by
  obtain ⟨k, n0, s, kids⟩ := n
  dsimp only [ndA, Nd.k, Nd.n, Nd.s, Nd.kids] at *
  obtain rfl := hr.len
  refine vcD37_58 ?_
  intro id hid id1 hid1 id2 hid2 w1 hE h1 h2 h3
  have hs := hE.size
  have hkl : kids.length < 2 ^ 30 := by have := Nd.len_sizes kids; simp only [Nd.size] at hN; omega
  refine loopB (s0 := ([] : List Nd)) (fun s A n c w2 => NdsB w2 true w1.heap.size w2.heap.size no no s A n c ∧ Ext w w2 ∧ w1.heap.size ≤ w2.heap.size) hr.len hr.lt (fun _ s r => s ++ r) ⟨RowB.nil (fun _ h => h.elim) (Nat.le_refl _), hE, Nat.le_refl _⟩
    (fun I m s j A n c w2 hj hg ⟨hB, hE2, hs12⟩ k => ?_) (fun s A n c w2 hg ⟨hB, hE2, hs12⟩ => ?_)
  · refine hr.idx hj fun ad ha => (hr.ext hE2).cell ha hj fun A1 l1 c1 q1 id3 hid3 w3 hE3 _ => ?_
    refine callN (hk j hj (j : Int) (q1.ext hE3)) fun A2 l2 c2 w4 hE4 q2 id4 hid4 w5 hE5 _ hcell => ?_
    have hl := hB.len
    have hsl : s.length < kids.length := by have := congrArg List.length hg; simp at this; omega
    have hlo := hB.los
    have hs3 := Upd.size hE3
    have hs4 := hE4.size
    have hs5 := Upd.size hE5
    refine pushVC (RowB.push (x := kids[j]) (cs := ndV kids[j] A2 l2 c2) (Fk := Rng w3.heap.size w4.heap.size) sl22 (hB.ext (Ext.trans hE3 hE4)) q2.node (fun b hb => .inr ⟨by have := hb.1; omega, hb.2, fun h => h⟩) hE5 (fun _ h => h.elim) hcell (by rw [hl]; omega))
      (away_rng (fun b hb => ⟨(hB.blk hb).1, (hB.blk hb).2.1⟩) (by simp only [outL, and_true]; omega)) ?_
    intro A' c' w6 ⟨hB6, _⟩ hU6 w7 hU7 _
    have hE6 := Upd.step (hE2.trans ((Ext.trans hE3 hE4).trans hE5)) hU6 (fun b hb => by have := hB.blk hb; omega)
    have hs6 := hU6.size
    have hs7 := hU7.size
    refine k (s ++ [kids[j]]) A' _ c' w7 (by rw [← hg]; simp) ⟨?_, Upd.step hE6 hU7 (fun b hb => by simp only [setOf, no, or_false] at hb; omega), by omega⟩
    exact (hB6.upd hU7 fun b hb => ⟨fun h => h, .inr (by simp only [setOf, no, or_false] at hb; omega)⟩).re hU7.size (Nat.le_refl _) (fun b hb => hb.elim)
  · have hl := hB.len
    have hlo := hB.los
    simp only [List.append_nil, List.nil_append] at hg
    subst hg
    refine call_clip (clip68_c hB.cap) fun w3 hU3 => ?_
    have hs3 := hU3.size
    refine ⟨A, n, n, rfl, ?_, Upd.step hE2 hU3 (fun b hb => by simp only [setOf, no, or_false] at hb; omega)⟩
    have hB3 := (hB.upd hU3 fun b hb => ⟨fun h => h, .inr (by simp only [setOf, no, or_false] at hb; omega)⟩).done (c' := n) (by omega) (.inl rfl)
    exact NdsG.mono (nds_of hB3) fun b hb => by
      rcases hb with ⟨h, _⟩ | ⟨h1, h2, _⟩
      · cases h
      · exact ⟨by omega, by omega⟩
theorem shcloned_c (N : Nat) (hN : N < 2 ^ 30) : ∀ (n : Nd), n.size ≤ N → ∀ {w : World} {F : Nat → Prop} {A : Option Addr} {l c : Nat}, NdsR w F n.kids A l c → CallsX E.P 35 #[ndA n A l c] w (NdO w n) never := by
  induction N with
  | zero => intro n hn; cases n; simp [Nd.size] at hn
  | succ N ih =>
    intro n hn w F A l c hr
    refine vcD35 fun id hid id1 hid1 w1 hE1 hi hi1 => ?_
    have hE1 : Ext w w1 := hE1
    refine callN (made58_c n (by omega) (hr.ext hE1) fun j hj i w' A' l' c' q => ?_) fun A2 l2 c2 w2 hE2 q2 w3 hU3 => ndO_fl q2 hE2 hE1 hU3 hid1 hi1
    refine vcD58 fun id2 hid2 id3 hid3 w2 hE2 hi2 hi3 => ?_
    have hE2 : Ext w' w2 := hE2
    exact callN (ih (by omega) _ (by have := kid_lt hj; omega) (q.ext hE2)) fun A3 l3 c3 w3 hE3 q3 w4 hU4 => ndO_fl q3 hE3 hE2 hU4 hid3 hi3
end Go.Vx.Tryz
namespace Go.Vx
open Go
section
def InI (x : Int) : Prop := -9223372036854775808 ≤ x ∧ x ≤ 9223372036854775807
theorem w64_in (x : Int) : InI (w64 x) := by
  simp only [InI, w64, IntKind.wrap, IntKind.bits, IntKind.signed, Bool.true_and]
  split <;> rename_i hc <;> simp at hc <;> omega
def inB (x : Int) : Bool := decide (-9223372036854775808 ≤ x) && decide (x ≤ 9223372036854775807)
theorem inB_iff {x : Int} : inB x = true ↔ InI x := by simp [inB, InI]
end
section
open Go
def numN (n : Int) : Nd := .mk 1 n (ByteArray.mk #[]) []
def truN (b : Bool) : Nd := .mk 2 (if b = true then 1 else 0) (ByteArray.mk #[]) []
mutual
def forms : Nd → Bool
  | .mk k v s l => formB k v s l.length && formsL l
def formsL : List Nd → Bool
  | [] => true
  | x :: l => forms x && formsL l
end
theorem formsL_iff : ∀ {l : List Nd}, formsL l = true ↔ ∀ x ∈ l, forms x = true
  | [] => by simp [formsL]
  | x :: l => by rw [formsL, Bool.and_eq_true, formsL_iff (l := l)]; simp
theorem forms_kid {n : Nd} (h : forms n = true) {j : Nat} (hj : j < n.kids.length) : forms (n.kid j) = true := by
  obtain ⟨k, v, s, l⟩ := n
  rw [forms, Bool.and_eq_true] at h
  have hj : j < l.length := hj
  have : Nd.kid (.mk k v s l) j = l[j] := by show l.getD j nd0 = _; rw [List.getD_eq_getElem?_getD, List.getElem?_eq_getElem hj]; rfl
  rw [this]
  exact formsL_iff.1 h.2 _ (List.getElem_mem hj)
theorem form_of {n : Nd} (h : forms n = true) : formB n.k n.n n.s n.kids.length = true := by
  obtain ⟨k, v, s, l⟩ := n
  rw [forms, Bool.and_eq_true] at h
  exact h.1
theorem strE : strEq (ByteArray.mk #[]) (ByteArray.mk #[]) = true := strEq_rfl _
theorem forms_num (v : Int) : forms (numN v) = true := by
  unfold numN
  rw [forms, formsL]
  simp [formB, strE]
theorem forms_tru (b : Bool) : forms (truN b) = true := by
  unfold truN
  rw [forms, formsL]
  cases b <;> simp [formB, strE]
theorem form_one {k v : Int} {s : ByteArray} {l : Int} (h : formB k v s l = true) (hk : k = 6 ∨ k = 7 ∨ k = 26) : l = 1 := by
  rcases hk with rfl | rfl | rfl <;> simp [formB] at h <;> omega
theorem form_two {k v : Int} {s : ByteArray} {l : Int} (h : formB k v s l = true) (hk : k = 8 ∨ k = 9 ∨ k = 10 ∨ k = 11 ∨ k = 12 ∨ k = 13 ∨ k = 14 ∨ k = 15 ∨ k = 16 ∨ k = 17 ∨ k = 18 ∨ k = 21) : l = 2 := by
  rcases hk with rfl | rfl | rfl | rfl | rfl | rfl | rfl | rfl | rfl | rfl | rfl | rfl <;> simp [formB] at h <;> omega
theorem form_three {v : Int} {s : ByteArray} {l : Int} (h : formB 19 v s l = true) : l = 3 := by
  simp [formB] at h; omega
mutual
def inR : Nd → Bool
  | .mk _ v _ l => inB v && inRL l
def inRL : List Nd → Bool
  | [] => true
  | x :: l => inR x && inRL l
end
theorem inRL_iff : ∀ {l : List Nd}, inRL l = true ↔ ∀ x ∈ l, inR x = true
  | [] => by simp [inRL]
  | x :: l => by rw [inRL, Bool.and_eq_true, inRL_iff (l := l)]; simp
theorem inR_n {n : Nd} (h : inR n = true) : InI n.n := by
  obtain ⟨k, v, s, l⟩ := n
  rw [inR, Bool.and_eq_true] at h
  exact inB_iff.1 h.1
theorem inR_kid {n : Nd} (h : inR n = true) {j : Nat} (hj : j < n.kids.length) : inR (n.kid j) = true := by
  obtain ⟨k, v, s, l⟩ := n
  rw [inR, Bool.and_eq_true] at h
  have hj : j < l.length := hj
  have : Nd.kid (.mk k v s l) j = l[j] := by show l.getD j nd0 = _; rw [List.getD_eq_getElem?_getD, List.getElem?_eq_getElem hj]; rfl
  rw [this]
  exact inRL_iff.1 h.2 _ (List.getElem_mem hj)
theorem inR_num {v : Int} (h : InI v) : inR (numN v) = true := by
  unfold numN
  rw [inR, inRL, inB_iff.2 h]; rfl
theorem inR_tru (b : Bool) : inR (truN b) = true := by
  unfold truN
  rw [inR, inRL]
  cases b <;> simp [inB]
inductive Becomes (n : Nd) : Nd → Prop
  | self : Becomes n n
  | kid (j : Nat) : j < n.kids.length → Becomes n (n.kid j)
  | kid2 : 0 < n.kids.length → 0 < (n.kid 0).kids.length → Becomes n ((n.kid 0).kid 0)
  | num (v : Int) : InI v → Becomes n (numN v)
  | tru (b : Bool) : Becomes n (truN b)
theorem Becomes.forms {n m : Nd} (h : Becomes n m) (hf : forms n = true) : forms m = true := by
  cases h with
  | self => exact hf
  | kid j hj => exact forms_kid hf hj
  | kid2 h0 h1 => exact forms_kid (forms_kid hf h0) h1
  | num v hv => exact forms_num v
  | tru b => exact forms_tru b
theorem Becomes.inR {n m : Nd} (h : Becomes n m) (hf : inR n = true) : inR m = true := by
  cases h with
  | self => exact hf
  | kid j hj => exact inR_kid hf hj
  | kid2 h0 h1 => exact inR_kid (inR_kid hf h0) h1
  | num v hv => exact inR_num hv
  | tru b => exact inR_tru b
theorem kid_sz2 {n : Nd} {j : Nat} (hj : j < n.kids.length) : (n.kid j).size < n.size := by
  have := kid_lt hj
  have e : n.kid j = n.kids[j] := by show n.kids.getD j nd0 = _; rw [List.getD_eq_getElem?_getD, List.getElem?_eq_getElem hj]; rfl
  rw [e]; exact this
theorem num_size (v : Int) : (numN v).size = 1 := by simp [numN, Nd.size, Nd.sizes]
theorem tru_size (b : Bool) : (truN b).size = 1 := by simp [truN, Nd.size, Nd.sizes]
theorem size_pos (n : Nd) : 1 ≤ n.size := by cases n; simp only [Nd.size]; omega
theorem Becomes.size {n m : Nd} (h : Becomes n m) : m.size ≤ n.size := by
  have := size_pos n
  cases h with
  | self => exact Nat.le_refl _
  | kid j hj => have := kid_sz2 hj; omega
  | kid2 h0 h1 => have := kid_sz2 h0; have := kid_sz2 h1; omega
  | num v hv => rw [num_size]; omega
  | tru b => rw [tru_size]; omega
end
section
theorem nds_two {w : World} {o : Bool} {F G : Nat → Prop} {x y : Nd} {A B : Option Addr} {l c m d id : Nat} (h : NdsG w o F x.kids A l c) (h2 : NdsG w o G y.kids B m d) (hcell : w.heap[id]? = some (.cells (ndV x A l c ++ ndV y B m d).toArray 24 (0, 0)))
    (hid : o = true → ¬ F id ∧ ¬ G id ∧ ∀ b, F b → ¬ G b) : NdsG w o (fun z => z = id ∨ F z ∨ G z) [x, y] (some ⟨id, 0, none⟩) 2 2 := by
  have hc := cells_new hcell
  refine ⟨[ndV x A l c, ndV y B m d], fun i => if i = 0 then F else G, ⟨rfl, Nat.le_refl _, by omega, fun r hr => ?_, fun _ => ⟨_, rfl, .inl rfl, fun i r hi => ?_⟩⟩, rfl, fun i z hz => ?_, fun i b _ hb => ?_, fun ho => ⟨⟨rfl, .inr ⟨id, _, rfl, hcell, by simp [ndV]⟩⟩, fun i b _ hb he => ?_, fun i j b hij hj hb => ?_⟩⟩
  · simp only [List.mem_cons, List.not_mem_nil, or_false] at hr
    rcases hr with rfl | rfl <;> rfl
  · refine ⟨fun j u hj => ?_⟩
    have hlen : r.length = 4 := by
      have := List.mem_of_getElem? hi
      simp only [List.mem_cons, List.not_mem_nil, or_false] at this
      rcases this with rfl | rfl <;> rfl
    have hj4 : j < 4 := by rw [← hlen]; exact (List.getElem?_eq_some_iff.1 hj).1
    rw [Addr.add_add]
    refine hc.out (i * 4 + j) u ?_
    match i, hi with
    | 0, hi =>
      simp only [List.getElem?_cons_zero, Option.some.injEq] at hi
      subst hi
      rw [List.getElem?_append_left (by simp [ndV]; omega)]
      simpa using hj
    | 1, hi =>
      simp only [List.getElem?_cons_succ, List.getElem?_cons_zero, Option.some.injEq] at hi
      subst hi
      rw [List.getElem?_append_right (by simp [ndV])]
      simpa [ndV] using hj
    | i + 2, hi => simp at hi
  · match i, hz with
    | 0, hz =>
      simp only [List.getElem?_cons_zero, Option.some.injEq] at hz
      subst hz; exact h.node
    | 1, hz =>
      simp only [List.getElem?_cons_succ, List.getElem?_cons_zero, Option.some.injEq] at hz
      subst hz; exact h2.node
    | i + 2, hz => simp at hz
  · by_cases h0 : i = 0
    · simp only [h0, if_true] at hb; exact .inr (.inl hb)
    · simp only [h0, if_false] at hb; exact .inr (.inr hb)
  · obtain ⟨g1, g2, _⟩ := hid ho
    have he : id = b := he
    subst he
    by_cases h0 : i = 0
    · simp only [h0, if_true] at hb; exact g1 hb
    · simp only [h0, if_false] at hb; exact g2 hb
  · obtain ⟨_, _, g3⟩ := hid ho
    simp only [List.length_cons, List.length_nil] at hj
    have hi0 : i = 0 := by omega
    have hj1 : ¬ j = 0 := by omega
    simp only [hi0, hj1, if_true, if_false] at hb ⊢
    exact g3 b hb
theorem NdsG.get2 {w : World} {F : Nat → Prop} {kids : List Nd} {A : Option Addr} {l c : Nat} (h : NdsG w true F kids A l c) {ad : Addr} (ha : A = some ad) (hl : 2 ≤ kids.length) :
    ∃ Fx Fy A1 l1 c1 A2 l2 c2, CellsIn w (ad.add 0) (ndV (kids.getD 0 nd0) A1 l1 c1) ∧ CellsIn w (ad.add 4) (ndV (kids.getD 1 nd0) A2 l2 c2) ∧ NdsG w true Fx (kids.getD 0 nd0).kids A1 l1 c1 ∧ NdsG w true Fy (kids.getD 1 nd0).kids A2 l2 c2 ∧
      (∀ b, Fx b → F b) ∧ (∀ b, Fy b → F b) ∧ ∀ b, Fx b → ¬ Fy b := by
  have hlen := h.len
  obtain ⟨rows, Fs, h1, h2, h3, h4, h5⟩ := h
  obtain ⟨_, _, h7⟩ := h5 rfl
  have at_ : ∀ j (hj : j < kids.length), ∃ A1 l1 c1, CellsIn w (ad.add (j * 4)) (ndV (kids.getD j nd0) A1 l1 c1) ∧ NdsG w true (Fs j) (kids.getD j nd0).kids A1 l1 c1 := fun j hj => by
    obtain ⟨ad', r, e, hr, _, hc⟩ := h1.get (j : Int) (by omega) (by omega)
    rw [ha] at e; cases e
    have hn : Int.toNat (j : Int) = j := by omega
    rw [hn] at hr hc
    have hk := h3 j kids[j] (List.getElem?_eq_getElem hj)
    rw [List.getD_eq_getElem?_getD, hr, Option.getD_some] at hk
    have e2 : kids.getD j nd0 = kids[j] := by rw [List.getD_eq_getElem?_getD, List.getElem?_eq_getElem hj]; rfl
    rw [e2]
    obtain ⟨A1, l1, c1, rfl, hk2⟩ := hk.kids
    exact ⟨A1, l1, c1, hc, hk2⟩
  obtain ⟨A1, l1, c1, c0, k0⟩ := at_ 0 (by omega)
  obtain ⟨A2, l2, c2, c4, k1⟩ := at_ 1 (by omega)
  exact ⟨Fs 0, Fs 1, A1, l1, c1, A2, l2, c2, c0, c4, k0, k1, fun b hb => h4 0 b (by omega) hb, fun b hb => h4 1 b (by omega) hb, fun b => h7 0 1 b (by omega) (by omega)⟩
end
end Go.Vx
namespace Go.Vx.Tryz
open Go Go.Vx Go.Proofs
theorem inner_c (n : Nd) (i a : Int) {w : World} {A : Option Addr} {l c : Nat} : CallsX E.P 34 #[ndA n A l c, .int .i64 i, .int .i64 a] w (IsV (.int .i64 (innerI n.k i a)) w) never := by
  refine vcD34 fun id hid => ⟨fun h => ⟨fun h2 w1 hE _ => ⟨by rw [innerI, h, h2]; rfl, hE⟩, fun h2 w1 hE _ => ⟨by rw [innerI, h, h2]; rfl, hE⟩⟩, fun h w1 hE _ => ⟨by rw [innerI, h]; rfl, hE⟩⟩
theorem rep_c (n : Nd) {w : World} {A : Option Addr} {l c : Nat} : CallsX E.P 40 #[ndA n A l c] w (fun v w' => ∃ id, v = ndA (.mk 20 10 (ByteArray.mk #[]) [n]) (some ⟨id, 0, none⟩) 1 1 ∧ w.heap.size ≤ id ∧ id < w'.heap.size ∧ w'.heap[id]? = some (.cells (ndV n A l c).toArray 24 (0, 0)) ∧ Ext w w') never :=
  vcD40 fun id hid id1 hid1 id2 hid2 w1 hE h1 h2 h3 hc => ⟨id2, rfl, hid2, h3, hc, hE⟩
end Go.Vx.Tryz
namespace Go.Vx
section
def mapI (g : Int → Nd → Nd) : Int → List Nd → List Nd
  | _, [] => []
  | i, x :: l => g i x :: mapI g (w64 (i + 1)) l
theorem mapI_len (g : Int → Nd → Nd) : ∀ (i : Int) (l : List Nd), (mapI g i l).length = l.length
  | _, [] => rfl
  | i, x :: l => by rw [mapI, List.length_cons, mapI_len g _ l]; rfl
theorem repsL_map (k a : Int) : ∀ (i : Int) (l : List Nd), repsL k a i l = mapI (fun i x => repsN (innerI k i a) x) i l
  | _, [] => rfl
  | i, x :: l => by rw [repsL, mapI, repsL_map k a _ l]
end
end Go.Vx
namespace Go.Vx.Tryz
open Go Go.Vx Go.Proofs
theorem made39_c (g : Int → Nd → Nd) (bn ba : Nat) (n : Nd) (hN : n.size < 2 ^ 30) {w : World} {F : Nat → Prop} {A : Option Addr} {l c : Nat} (hr : NdsR w F n.kids A l c)
    (hk : ∀ j (_ : j < n.kids.length) {w' : World} {A' : Option Addr} {l' c' : Nat}, Ext w w' → NdsR w' F n.kids[j].kids A' l' c' → CallsX E.P 39 #[.int .i64 (j : Int), ndA n.kids[j] A' l' c', .pointer (some ⟨bn, 0, none⟩), .pointer (some ⟨ba, 0, none⟩)] w' (NdO w' (g (j : Int) n.kids[j])) never) :
    CallsX E.P 37 #[ndA n A l c, .func (.func 39) #[] #[.pointer (some ⟨bn, 0, none⟩), .pointer (some ⟨ba, 0, none⟩)]] w (NdO w (.mk n.k n.n n.s (mapI g 0 n.kids))) never := by
  obtain ⟨k, n0, s, kids⟩ := n
  dsimp only [ndA, Nd.k, Nd.n, Nd.s, Nd.kids] at *
  obtain rfl := hr.len
  refine vcD37_39 ?_
  intro id hid id1 hid1 id2 hid2 w1 hE h1 h2 h3
  have hs := hE.size
  have hkl : kids.length < 2 ^ 30 := by have := Nd.len_sizes kids; simp only [Nd.size] at hN; omega
  refine loopB (s0 := ([] : List Nd)) (fun s A n c w2 => NdsB w2 true w1.heap.size w2.heap.size no no s A n c ∧ Ext w w2 ∧ w1.heap.size ≤ w2.heap.size) hr.len hr.lt (fun j s r => s ++ mapI g (j : Int) r) ⟨RowB.nil (fun _ h => h.elim) (Nat.le_refl _), hE, Nat.le_refl _⟩
    (fun I m s j A n c w2 hj hg ⟨hB, hE2, hs12⟩ k => ?_) (fun s A n c w2 hg ⟨hB, hE2, hs12⟩ => ?_)
  · refine hr.idx hj fun ad ha => (hr.ext hE2).cell ha hj fun A1 l1 c1 q1 id3 hid3 w3 hE3 _ => ?_
    refine callN (hk j hj (hE2.trans hE3) (q1.ext hE3)) fun A2 l2 c2 w4 hE4 q2 id4 hid4 w5 hE5 _ hcell => ?_
    have hl := hB.len
    have hsl : s.length < kids.length := by have := congrArg List.length hg; simp [mapI_len, mapI] at this; omega
    have hlo := hB.los
    have hs3 := Upd.size hE3
    have hs4 := hE4.size
    have hs5 := Upd.size hE5
    refine pushVC (RowB.push (x := g (j : Int) kids[j]) (cs := ndV (g (j : Int) kids[j]) A2 l2 c2) (Fk := Rng w3.heap.size w4.heap.size) sl22 (hB.ext (Ext.trans hE3 hE4)) q2.node (fun b hb => .inr ⟨by have := hb.1; omega, hb.2, fun h => h⟩) hE5 (fun _ h => h.elim) hcell (by rw [hl]; omega))
      (away_rng (fun b hb => ⟨(hB.blk hb).1, (hB.blk hb).2.1⟩) (by simp only [outL, and_true]; omega)) ?_
    intro A' c' w6 ⟨hB6, _⟩ hU6 w7 hU7 _
    have hE6 := Upd.step (hE2.trans ((Ext.trans hE3 hE4).trans hE5)) hU6 (fun b hb => by have := hB.blk hb; omega)
    have hs6 := hU6.size
    have hs7 := hU7.size
    refine k (s ++ [g (j : Int) kids[j]]) A' _ c' w7 (by rw [← hg, mapI, w64_succ (j := j) (by omega)]; simp) ⟨?_, Upd.step hE6 hU7 (fun b hb => by simp only [setOf, no, or_false] at hb; omega), by omega⟩
    exact (hB6.upd hU7 fun b hb => ⟨fun h => h, .inr (by simp only [setOf, no, or_false] at hb; omega)⟩).re hU7.size (Nat.le_refl _) (fun b hb => hb.elim)
  · have hl := hB.len
    have hlo := hB.los
    simp only [mapI, List.append_nil, List.nil_append] at hg
    subst hg
    refine call_clip (clip68_c hB.cap) fun w3 hU3 => ?_
    have hs3 := hU3.size
    refine ⟨A, n, n, rfl, ?_, Upd.step hE2 hU3 (fun b hb => by simp only [setOf, no, or_false] at hb; omega)⟩
    have hB3 := (hB.upd hU3 fun b hb => ⟨fun h => h, .inr (by simp only [setOf, no, or_false] at hb; omega)⟩).done (c' := n) (by have h1 := hl; rw [mapI_len] at h1; omega) (.inl rfl)
    exact NdsG.mono (nds_of hB3) fun b hb => by
      rcases hb with ⟨h, _⟩ | ⟨h1, h2, _⟩
      · cases h
      · exact ⟨by omega, by omega⟩
end Go.Vx.Tryz
namespace Go.Vx
section
theorem form_callF {v : Int} {s : ByteArray} {l : Int} (h : formB 20 v s l = true) (hv : v = 1) : l = 2 := by
  subst hv; simp [formB] at h; omega
end
end Go.Vx
namespace Go.Vx.Tryz
open Go Go.Vx Go.Proofs
theorem reps_c (N : Nat) (hN : N < 2 ^ 30) : ∀ (n : Nd), n.size ≤ N → forms n = true → ∀ (a : Int) {w : World} {F : Nat → Prop} {A : Option Addr} {l c : Nat}, NdsR w F n.kids A l c → CallsX E.P 24 #[ndA n A l c, .int .i64 a] w (NdO w (repsN a n)) never := by
  induction N with
  | zero => intro n hn; cases n; simp [Nd.size] at hn
  | succ N ih =>
    intro n hn hfm a w F A l c hr
    refine vcD24 fun id hid id1 hid1 id2 hid2 => ⟨fun h26 w1 hE1 hi0 hi1 hi2 => ?_, fun h26 w1 hE1 hi0 hi1 hi2 hc0 hc1 => ?_⟩
    · have hE1 : Ext w w1 := hE1
      have e : repsN a n = n := by obtain ⟨k, v, s, kids⟩ := n; rw [repsN, if_pos (show (k == 26) = true from h26)]
      rw [e]
      exact callN (shcloned_c (N + 1) (by omega) n hn (hr.ext hE1)) fun A2 l2 c2 w2 hE2 q2 w3 hU3 => ndO_fl q2 hE2 hE1 hU3 hid2 hi2
    have hE1 : Ext w w1 := hE1
    have s1 := hE1.size
    have hid12 : id ≠ id1 := fun e => by
      subst e
      unfold hA at hc0 hc1
      rw [hc0] at hc1
      simp only [Option.some.injEq, Obj.cells.injEq] at hc1
      exact absurd hc1.2.1 (by decide)
    have hkid : ∀ j (hj : j < n.kids.length) {w' : World} {A' : Option Addr} {l' c' : Nat}, Ext w1 w' → NdsR w' F n.kids[j].kids A' l' c' →
        CallsX E.P 39 #[.int .i64 (j : Int), ndA n.kids[j] A' l' c', .pointer (some ⟨id, 0, none⟩), .pointer (some ⟨id1, 0, none⟩)] w' (NdO w' (repsN (innerI n.k (j : Int) a) n.kids[j])) never := fun j hj w' A' l' c' hEw q => by
      have g0 : w'.heap[id]? = some (.cells #[.int .i64 n.k, .int .i64 n.n, .string n.s, .slice A l c] 24 (0, 0)) := by rw [hEw.keep id hi0 (fun h => h)]; exact hc0
      have g1 : w'.heap[id1]? = some (.cells #[.int .i64 a] 3 (0, 0)) := by rw [hEw.keep id1 hi1 (fun h => h)]; exact hc1
      refine vcD39 g0 g1 fun id3 hid3 id4 hid4 w2 hE2 hi3 hi4 => ⟨_, _, inner_c n (j : Int) a, ?_, never_any⟩
      have hE2 : Ext w' w2 := hE2
      rintro v w3 ⟨rfl, hE3⟩
      refine ⟨_, rfl, hE3, ?_⟩
      have hf := formsL_iff.1 (by obtain ⟨k, v, s, kids⟩ := n; rw [forms, Bool.and_eq_true] at hfm; exact hfm.2) n.kids[j] (List.getElem_mem hj)
      have hE23 : Ext w' w3 := hE2.trans hE3
      have s3 := hE3.size
      exact callN (ih (by omega) _ (by have := kid_lt hj; omega) hf _ (q.ext hE23)) fun A3 l3 c3 w4 hE4 q3 w5 hU5 _ _ => ndO_fl q3 hE4 hE23 hU5 hid4 (by omega)
    have hm := made39_c (fun i x => repsN (innerI n.k i a) x) id id1 n (by omega) (hr.ext hE1) hkid
    refine callN hm fun A2 l2 c2 w2 hE2 q2 => ?_
    have s2 := hE2.size
    refine ⟨n.k, n.n, n.s, A, l, c, by unfold hA; rw [hE2.keep id hi0 (fun h => h)]; exact hc0, rfl, a, by unfold hA; rw [hE2.keep id1 hi1 (fun h => h)]; exact hc1, rfl, fun id3 hid3 => ?_⟩
    have hE12 := hE1.trans hE2
    have self : ∀ {w3 : World}, repsN a n = .mk n.k n.n n.s (mapI (fun i x => repsN (innerI n.k i a) x) 0 n.kids) → Upd w2 w3 (setOf [id2]) → NdO w (repsN a n) (ndA (.mk n.k n.n n.s (mapI (fun i x => repsN (innerI n.k i a) x) 0 n.kids)) A2 l2 c2) w3 := fun e hU => by
      rw [e]; exact ndO_fl q2 hE2 hE1 hU hid2 hi2
    have ev : repsN a n = if (n.k == 20 && n.n == 1 && decide (a > 0)) = true then .mk 13 0 (ByteArray.mk #[]) [.mk 20 10 (ByteArray.mk #[]) [(mapI (fun i x => repsN (innerI n.k i a) x) 0 n.kids).getD 0 nd0], .mk 20 10 (ByteArray.mk #[]) [(mapI (fun i x => repsN (innerI n.k i a) x) 0 n.kids).getD 1 nd0]]
        else .mk n.k n.n n.s (mapI (fun i x => repsN (innerI n.k i a) x) 0 n.kids) := by
      obtain ⟨k, v, s, kids⟩ := n
      rw [repsN, if_neg (by rw [show (k == 26) = false from h26]; exact Bool.false_ne_true), repsL_map]; rfl
    have nt : ∀ {b : Bool}, b = false → ¬ b = true := fun h => by rw [h]; exact Bool.false_ne_true
    refine ⟨fun h20 => ⟨fun h1 => ⟨fun ha => ?_, fun ha w3 hU _ => self (by rw [ev, if_neg (nt (by rw [h20, h1, ha]; rfl))]) hU⟩, fun h1 w3 hU _ => self (by rw [ev, if_neg (nt (by rw [h20, h1]; rfl))]) hU⟩, fun h20 w3 hU _ => self (by rw [ev, if_neg (nt (by rw [h20]; rfl))]) hU⟩
    rw [ev, if_pos (by rw [h20, h1, ha]; rfl)]
    have hl : n.kids.length = 2 := by
      have hf := form_of hfm
      rw [show n.k = 20 from by simpa using h20] at hf
      have := form_callF hf (by simpa using h1); omega
    generalize hks : mapI (fun i x => repsN (innerI n.k i a) x) 0 n.kids = ks at q2
    have hkl : ks.length = 2 := by rw [← hks, mapI_len, hl]
    dsimp only [Nd.kids] at q2
    refine q2.idx (j := 0) (by omega) fun ad had w3 hE3 hi3 => ?_
    have hE3 : Ext w2 w3 := hE3
    obtain ⟨Fx, Fy, A3, l3, c3, A4, l4, c4, k0, k4, qx, qy, fx, fy, fxy⟩ := (q2.ext hE3).get2 had (by omega)
    have s3 := hE3.size
    refine ⟨_, _, _, _, _, _, k0, ?_⟩
    refine q2.idx (j := 1) (by omega) fun ad1 had1 => ?_
    rw [had] at had1; cases had1
    refine ⟨_, _, _, _, _, _, k4, ⟨_, _, rep_c (ks.getD 0 nd0), ?_, never_any⟩⟩
    rintro v w4 ⟨ia, rfl, ia1, ia2, iah, hE4⟩
    refine ⟨_, _, _, _, _, _, rfl, hE4, ⟨_, _, rep_c (ks.getD 1 nd0), ?_, never_any⟩⟩
    rintro v w5 ⟨ib, rfl, ib1, ib2, ibh, hE5⟩
    refine ⟨_, _, _, _, _, _, rfl, no, hE5, Away.no _, fun id4 hid4 w6 hU6 hi4 hc4 => ?_⟩
    have s4 := hE4.size
    have s5 := hE5.size
    have s6 := hU6.size
    have hE05 := ((hE12.trans hE3).trans hE4).trans hE5
    have hx6 : NdsG w6 true Fx (ks.getD 0 nd0).kids A3 l3 c3 := ((qx.ext hE4).ext hE5).upd hU6 fun b hb hS => by have := (fx b hb).1; simp only [setOf, no, or_false] at hS; omega
    have hy6 : NdsG w6 true Fy (ks.getD 1 nd0).kids A4 l4 c4 := ((qy.ext hE4).ext hE5).upd hU6 fun b hb hS => by have := (fy b hb).1; simp only [setOf, no, or_false] at hS; omega
    have iah6 : w6.heap[ia]? = some (.cells (ndV (ks.getD 0 nd0) A3 l3 c3).toArray 24 (0, 0)) := by
      rw [hU6.keep ia (by omega) (fun hS => by simp only [setOf, no, or_false] at hS; omega), hE5.keep ia ia2 (fun h => h)]; exact iah
    have ibh6 : w6.heap[ib]? = some (.cells (ndV (ks.getD 1 nd0) A4 l4 c4).toArray 24 (0, 0)) := by
      rw [hU6.keep ib ib2 (fun hS => by simp only [setOf, no, or_false] at hS; omega)]; exact ibh
    have fx1 : ∀ b, Fx b → w1.heap.size ≤ b ∧ b < w2.heap.size := fun b hb => fx b hb
    have fy1 : ∀ b, Fy b → w1.heap.size ≤ b ∧ b < w2.heap.size := fun b hb => fy b hb
    have nx := nds_one (x := ks.getD 0 nd0) hx6 iah6 fun _ hb => by have := fx1 _ hb; omega
    have ny := nds_one (x := ks.getD 1 nd0) hy6 ibh6 fun _ hb => by have := fy1 _ hb; omega
    have n2 := nds_two (x := .mk 20 10 (ByteArray.mk #[]) [ks.getD 0 nd0]) (y := .mk 20 10 (ByteArray.mk #[]) [ks.getD 1 nd0]) nx ny hc4 fun _ => ⟨fun h => by
        rcases h with h | h
        · omega
        · have := fx1 _ h; omega, fun h => by
        rcases h with h | h
        · omega
        · have := fy1 _ h; omega, fun b h h2 => by
        rcases h with h | h <;> rcases h2 with h2 | h2
        · omega
        · have := fy1 _ h2; omega
        · have := fx1 _ h; omega
        · exact fxy b h h2⟩
    refine ⟨_, _, _, rfl, n2.mono fun b hb => ?_, fl hE05 hU6 hid2⟩
    rcases hb with h | h | h
    · exact ⟨by omega, by omega⟩
    · rcases h with h | h
      · exact ⟨by omega, by omega⟩
      · have := fx1 _ h; exact ⟨by omega, by omega⟩
    · rcases h with h | h
      · exact ⟨by omega, by omega⟩
      · have := fy1 _ h; exact ⟨by omega, by omega⟩
end Go.Vx.Tryz
namespace Go.Vx.Tryz
open Go Go.Vx Go.Proofs
set_option maxRecDepth 100000
variable {w : World} {R : Value → World → Prop} {X : ContX}
theorem vc132 {a : Nat} {a0 : Option Addr} {a0l a0c : Nat} {a1 a2 : Option Nat} {a3 b0 b1 : Int} {b2 : ByteArray} {b3 : Option Addr} {b3l b3c : Nat} {c d : Int} (ha : w.heap[a]? = some (.cells #[.slice a0 a0l a0c, .map a1, .map a2, .int .i64 a3] 103 (0, 0))) (h : 
 nB w fun id => fL w [] fun w1 => id < w1.heap.size → hA w1 a #[.slice a0 a0l a0c, Value.map a1, Value.map a2, .int .i64 a3] 103 → cU 78 #[.pointer (some ⟨a, 0, none⟩), .bool (b1 == 0)] w1 [id] X fun v1 w2 => ∃ a1 n, ∃ c1 r, ∃ r1 x, hA w2 a #[.slice a1 n c1, Value.map r, Value.map r1, .int .i64 x] 103 ∧ 4 = 4 ∧ iX 1 b3l b3 fun ad => iX 0 b3l b3 fun ad1 => (fL w2 [] fun w11 => lA w11 (Addr.add ad 4) fun x1 x2 x3 a2 n1 c2 => lA w11 (Addr.add ad1 0) fun x4 x5 x6 a3 n2 c3 => hA w11 a #[.slice a1 n c1, Value.map r, Value.map r1, .int .i64 x] 103 → cI 54 #[.pointer (some ⟨a, 0, none⟩), Av x4 x5 x6 a3 n2 c3, .int .i64 c, .int .i64 d] w11 [id] X fun x7 w21 => ∃ a4 n3, ∃ c4 r2, ∃ r3 x8, hA w21 a #[.slice a4 n3 c4, Value.map r2, Value.map r3, .int .i64 x8] 103 ∧ 4 = 4 ∧ (hA w21 a #[.slice a4 n3 c4, Value.map r2, Value.map r3, .int .i64 x8] 103 → cU 105 #[.pointer (some ⟨a, 0, none⟩), Av x1 x2 x3 a2 n1 c2, .int .i64 x7, .int .i64 c, .int .i64 d] w21 [id] X fun v4 w22 => ∃ a5 n4, ∃ c5 r4, ∃ r5 x9, hA w22 a #[.slice a5 n4 c5, Value.map r4, Value.map r5, .int .i64 x9] 103 ∧ 4 = 4 ∧ (hA w22 a #[.slice a5 n4 c5, Value.map r4, Value.map r5, .int .i64 x9] 103 → R (.int .i64 2) w22))) ∧ fL w2 [] fun w12 => lA w12 (Addr.add ad1 0) fun x10 x11 x12 a6 n5 c6 => (lA w12 (Addr.add ad 4) fun x13 x14 x15 a7 n6 c7 => hA w12 a #[.slice a1 n c1, Value.map r, Value.map r1, .int .i64 x] 103 → cI 54 #[.pointer (some ⟨a, 0, none⟩), Av x10 x11 x12 a6 n5 c6, .int .i64 c, .int .i64 d] w12 [id] X fun x16 w25 => ∃ a8 n7, ∃ c8 r6, ∃ r7 x17, hA w25 a #[.slice a8 n7 c8, Value.map r6, Value.map r7, .int .i64 x17] 103 ∧ 4 = 4 ∧ (hA w25 a #[.slice a8 n7 c8, Value.map r6, Value.map r7, .int .i64 x17] 103 → cU 105 #[.pointer (some ⟨a, 0, none⟩), Av x13 x14 x15 a7 n6 c7, .int .i64 x16, .int .i64 c, .int .i64 d] w25 [id] X fun v7 w26 => ∃ a9 n8, ∃ c9 r8, ∃ r9 x18, hA w26 a #[.slice a9 n8 c9, Value.map r8, Value.map r9, .int .i64 x18] 103 ∧ 4 = 4 ∧ (hA w26 a #[.slice a9 n8 c9, Value.map r8, Value.map r9, .int .i64 x18] 103 → R (.int .i64 2) w26))) ∧ (hA w12 a #[.slice a1 n c1, Value.map r, Value.map r1, .int .i64 x] 103 → cI 54 #[.pointer (some ⟨a, 0, none⟩), Av x10 x11 x12 a6 n5 c6, .int .i64 c, .int .i64 d] w12 [id] X fun x19 w29 => ∃ a10 n9, ∃ c10 r10, ∃ r11 x20, hA w29 a #[.slice a10 n9 c10, Value.map r10, Value.map r11, .int .i64 x20] 103 ∧ 4 = 4 ∧ lA w29 (Addr.add ad 4) fun x21 x22 x23 a11 n10 c11 => hA w29 a #[.slice a10 n9 c10, Value.map r10, Value.map r11, .int .i64 x20] 103 → cU 105 #[.pointer (some ⟨a, 0, none⟩), Av x21 x22 x23 a11 n10 c11, .int .i64 x19, .int .i64 c, .int .i64 d] w29 [id] X fun v10 w210 => ∃ a12 n11, ∃ c12 r12, ∃ r13 x24, hA w210 a #[.slice a12 n11 c12, Value.map r12, Value.map r13, .int .i64 x24] 103 ∧ 4 = 4 ∧ (hA w210 a #[.slice a12 n11 c12, Value.map r12, Value.map r13, .int .i64 x24] 103 → R (.int .i64 2) w210))
 ) : CallsX E.P 100 #[.pointer (some ⟨a, 0, none⟩), Av b0 b1 b2 b3 b3l b3c, .int .i64 c, .int .i64 d] w R X :=
  calls_vc E_ok ⟨[], []⟩ (f := 100) Tryz.func100 rfl [(.pointer (some ⟨a, 0, none⟩), .ptr 0 0), (Av b0 b1 b2 b3 b3l b3c, .no), (.int .i64 c, .no), (.int .i64 d, .no)] [⟨a, 103, false, [⟨.slice a0 a0l a0c, .no, 0⟩, ⟨.map a1, .no, 0⟩, ⟨.map a2, .no, 0⟩, ⟨.int .i64 a3, .no, 0⟩]⟩] (bls1 ha) nod1 (plain_of rfl) (shs_of ⟨rfl, trivial, trivial, trivial, trivial⟩) h (by kernel_rfl)
theorem vc133 {a : Nat} {a0 : Option Addr} {a0l a0c : Nat} {a1 a2 : Option Nat} {a3 b0 b1 : Int} {b2 : ByteArray} {b3 : Option Addr} {b3l b3c : Nat} {c d : Int} (ha : w.heap[a]? = some (.cells #[.slice a0 a0l a0c, .map a1, .map a2, .int .i64 a3] 103 (0, 0))) (h : 
 nB w fun id => fL w [] fun w1 => id < w1.heap.size → hA w1 a #[.slice a0 a0l a0c, Value.map a1, Value.map a2, .int .i64 a3] 103 → cU 78 #[.pointer (some ⟨a, 0, none⟩), .bool (b1 == 0)] w1 [id] X fun v1 w2 => ∃ a1 n, ∃ c1 r, ∃ r1 x, hA w2 a #[.slice a1 n c1, Value.map r, Value.map r1, .int .i64 x] 103 ∧ 4 = 4 ∧ iX 0 b3l b3 fun ad => lA w2 (Addr.add ad 0) fun x1 x2 x3 a2 n1 c2 => hA w2 a #[.slice a1 n c1, Value.map r, Value.map r1, .int .i64 x] 103 → cU 105 #[.pointer (some ⟨a, 0, none⟩), Av x1 x2 x3 a2 n1 c2, .int .i64 2, .int .i64 c, .int .i64 d] w2 [id] X fun v3 w21 => ∃ a3 n2, ∃ c3 r2, ∃ r3 x4, hA w21 a #[.slice a3 n2 c3, Value.map r2, Value.map r3, .int .i64 x4] 103 ∧ 4 = 4 ∧ iX 1 b3l b3 fun ad1 => lA w21 (Addr.add ad1 4) fun x5 x6 x7 a4 n3 c4 => hA w21 a #[.slice a3 n2 c3, Value.map r2, Value.map r3, .int .i64 x4] 103 → cI 54 #[.pointer (some ⟨a, 0, none⟩), Av x5 x6 x7 a4 n3 c4, .int .i64 c, .int .i64 d] w21 [id] X fun x8 w22 => ∃ a5 n4, ∃ c5 r4, ∃ r5 x9, hA w22 a #[.slice a5 n4 c5, Value.map r4, Value.map r5, .int .i64 x9] 103 ∧ 4 = 4 ∧ iX 2 b3l b3 fun ad2 => lA w22 (Addr.add ad2 8) fun x10 x11 x12 a6 n5 c6 => hA w22 a #[.slice a5 n4 c5, Value.map r4, Value.map r5, .int .i64 x9] 103 → cU 105 #[.pointer (some ⟨a, 0, none⟩), Av x10 x11 x12 a6 n5 c6, .int .i64 x8, .int .i64 c, .int .i64 d] w22 [id] X fun v6 w23 => ∃ a7 n6, ∃ c7 r6, ∃ r7 x13, hA w23 a #[.slice a7 n6 c7, Value.map r6, Value.map r7, .int .i64 x13] 103 ∧ 4 = 4 ∧ (hA w23 a #[.slice a7 n6 c7, Value.map r6, Value.map r7, .int .i64 x13] 103 → R (.int .i64 x8) w23)
 ) : CallsX E.P 101 #[.pointer (some ⟨a, 0, none⟩), Av b0 b1 b2 b3 b3l b3c, .int .i64 c, .int .i64 d] w R X :=
  calls_vc E_ok ⟨[], []⟩ (f := 101) Tryz.func101 rfl [(.pointer (some ⟨a, 0, none⟩), .ptr 0 0), (Av b0 b1 b2 b3 b3l b3c, .no), (.int .i64 c, .no), (.int .i64 d, .no)] [⟨a, 103, false, [⟨.slice a0 a0l a0c, .no, 0⟩, ⟨.map a1, .no, 0⟩, ⟨.map a2, .no, 0⟩, ⟨.int .i64 a3, .no, 0⟩]⟩] (bls1 ha) nod1 (plain_of rfl) (shs_of ⟨rfl, trivial, trivial, trivial, trivial⟩) h (by kernel_rfl)
theorem vc135 {a : Nat} {a0 : Option Addr} {a0l a0c : Nat} {a1 a2 : Option Nat} {a3 b0 b1 : Int} {b2 : ByteArray} {b3 : Option Addr} {b3l b3c : Nat} {c d : Int} (ha : w.heap[a]? = some (.cells #[.slice a0 a0l a0c, .map a1, .map a2, .int .i64 a3] 103 (0, 0))) (h : 
 nB w fun id => ∃ (I : Option Addr → Nat → Nat → Option Nat → Option Nat → Int → World → Prop), dB (decide (b1 ≥ 1)) (dB (decide (b1 ≤ 6)) (fL w [] fun w1 => id < w1.heap.size → hA w1 a #[.slice a0 a0l a0c, Value.map a1, Value.map a2, .int .i64 a3] 103 → cU 78 #[.pointer (some ⟨a, 0, none⟩), .bool (decide (d < 4))] w1 [id] X fun v1 w2 => ∃ a1 n, ∃ c1 r, ∃ r1 x, hA w2 a #[.slice a1 n c1, Value.map r, Value.map r1, .int .i64 x] 103 ∧ 4 = 4 ∧ I a1 n c1 r r1 x w2) (fL w [] fun w11 => id < w11.heap.size → hA w11 a #[.slice a0 a0l a0c, Value.map a1, Value.map a2, .int .i64 a3] 103 → cU 78 #[.pointer (some ⟨a, 0, none⟩), .bool false] w11 [id] X fun v3 w22 => ∃ a2 n1, ∃ c2 r2, ∃ r3 x1, hA w22 a #[.slice a2 n1 c2, Value.map r2, Value.map r3, .int .i64 x1] 103 ∧ 4 = 4 ∧ I a2 n1 c2 r2 r3 x1 w22)) (fL w [] fun w12 => id < w12.heap.size → hA w12 a #[.slice a0 a0l a0c, Value.map a1, Value.map a2, .int .i64 a3] 103 → cU 78 #[.pointer (some ⟨a, 0, none⟩), .bool false] w12 [id] X fun v5 w24 => ∃ a3 n2, ∃ c3 r4, ∃ r5 x2, hA w24 a #[.slice a3 n2 c3, Value.map r4, Value.map r5, .int .i64 x2] 103 ∧ 4 = 4 ∧ I a3 n2 c3 r4 r5 x2 w24) ∧ ∀ (jk : Nat → Value) (a4 : Option Addr) (n3 c4 : Nat) (r6 r7 : Option Nat) (x3 : Int) (w26 : World), I a4 n3 c4 r6 r7 x3 w26 → iX 0 b3l b3 fun ad => lA w26 (Addr.add ad 0) fun x4 x5 x6 a5 n4 c5 => hA w26 a #[.slice a4 n3 c4, Value.map r6, Value.map r7, .int .i64 x3] 103 → cU 119 #[.pointer (some ⟨a, 0, none⟩), Av x4 x5 x6 a5 n4 c5, .int .i64 c, .int .i64 (w64 (d + 1))] w26 [id] X fun v7 w27 => ∃ a6 n5, ∃ c6 r8, ∃ r9 x7, hA w27 a #[.slice a6 n5 c6, Value.map r8, Value.map r9, .int .i64 x7] 103 ∧ 4 = 4 ∧ dB (decide (b1 ≤ 3)) (∃ (I1 : Int → World → Prop), dB (decide (b1 ≤ 2)) (I1 2 w27) (I1 1 w27) ∧ ∀ (jk1 : Nat → Value) (x8 : Int) (w28 : World), I1 x8 w28 → iX 1 b3l b3 fun ad1 => lA w28 (Addr.add ad1 4) fun x9 x10 x11 a7 n6 c7 => hA w28 a #[.slice a6 n5 c6, Value.map r8, Value.map r9, .int .i64 x7] 103 → cU 105 #[.pointer (some ⟨a, 0, none⟩), Av x9 x10 x11 a7 n6 c7, .int .i64 2, .int .i64 (w64 (c + 1)), .int .i64 (w64 (d + 1))] w28 [id] X fun v9 w29 => ∃ a8 n7, ∃ c8 r10, ∃ r11 x12, hA w29 a #[.slice a8 n7 c8, Value.map r10, Value.map r11, .int .i64 x12] 103 ∧ 4 = 4 ∧ (hA w29 a #[.slice a8 n7 c8, Value.map r10, Value.map r11, .int .i64 x12] 103 → R (.int .i64 x8) w29)) (∃ (I2 : Int → World → Prop), dB (decide (b1 ≤ 2)) (I2 2 w27) (I2 1 w27) ∧ ∀ (jk2 : Nat → Value) (x13 : Int) (w211 : World), I2 x13 w211 → iX 1 b3l b3 fun ad2 => lA w211 (Addr.add ad2 4) fun x14 x15 x16 a9 n8 c9 => hA w211 a #[.slice a6 n5 c6, Value.map r8, Value.map r9, .int .i64 x7] 103 → cU 105 #[.pointer (some ⟨a, 0, none⟩), Av x14 x15 x16 a9 n8 c9, .int .i64 1, .int .i64 (w64 (c + 1)), .int .i64 (w64 (d + 1))] w211 [id] X fun v11 w212 => ∃ a10 n9, ∃ c10 r12, ∃ r13 x17, hA w212 a #[.slice a10 n9 c10, Value.map r12, Value.map r13, .int .i64 x17] 103 ∧ 4 = 4 ∧ (hA w212 a #[.slice a10 n9 c10, Value.map r12, Value.map r13, .int .i64 x17] 103 → R (.int .i64 x13) w212))
 ) : CallsX E.P 103 #[.pointer (some ⟨a, 0, none⟩), Av b0 b1 b2 b3 b3l b3c, .int .i64 c, .int .i64 d] w R X :=
  calls_vc E_ok ⟨[], [(2, ⟨[], [(0, 0, .slc), (0, 1, .map), (0, 2, .map), (0, 3, .int .i64)]⟩), (8, ⟨[(10, .int .i64)], []⟩)]⟩ (f := 103) Tryz.func103 rfl [(.pointer (some ⟨a, 0, none⟩), .ptr 0 0), (Av b0 b1 b2 b3 b3l b3c, .no), (.int .i64 c, .no), (.int .i64 d, .no)] [⟨a, 103, false, [⟨.slice a0 a0l a0c, .no, 0⟩, ⟨.map a1, .no, 0⟩, ⟨.map a2, .no, 0⟩, ⟨.int .i64 a3, .no, 0⟩]⟩] (bls1 ha) nod1 (plain_of rfl) (shs_of ⟨rfl, trivial, trivial, trivial, trivial⟩) h (by kernel_rfl)
theorem vc136 {a : Nat} {a0 : Option Addr} {a0l a0c : Nat} {a1 a2 : Option Nat} {a3 b0 b1 : Int} {b2 : ByteArray} {b3 : Option Addr} {b3l b3c : Nat} {c d : Int} (ha : w.heap[a]? = some (.cells #[.slice a0 a0l a0c, .map a1, .map a2, .int .i64 a3] 103 (0, 0))) (h : 
 nB w fun id => ∃ (I : Option Addr → Nat → Nat → Option Nat → Option Nat → Int → World → Prop), dB (decide (b1 ≥ 0)) (dB (decide (b1 < (↑a0l : Int))) (iX b1 a0l a0 fun ad => fL w [] fun w1 => id < w1.heap.size → lI w1 (Addr.add ad (Int.toNat b1 * 1)) fun x => hA w1 a #[.slice a0 a0l a0c, Value.map a1, Value.map a2, .int .i64 a3] 103 → cU 78 #[.pointer (some ⟨a, 0, none⟩), .bool (decide (x ≤ c))] w1 [id] X fun v1 w2 => ∃ a1 n, ∃ c1 r, ∃ r1 x1, hA w2 a #[.slice a1 n c1, Value.map r, Value.map r1, .int .i64 x1] 103 ∧ 4 = 4 ∧ I a1 n c1 r r1 x1 w2) (fL w [] fun w11 => id < w11.heap.size → hA w11 a #[.slice a0 a0l a0c, Value.map a1, Value.map a2, .int .i64 a3] 103 → cU 78 #[.pointer (some ⟨a, 0, none⟩), .bool false] w11 [id] X fun v3 w22 => ∃ a2 n1, ∃ c2 r2, ∃ r3 x2, hA w22 a #[.slice a2 n1 c2, Value.map r2, Value.map r3, .int .i64 x2] 103 ∧ 4 = 4 ∧ I a2 n1 c2 r2 r3 x2 w22)) (fL w [] fun w12 => id < w12.heap.size → hA w12 a #[.slice a0 a0l a0c, Value.map a1, Value.map a2, .int .i64 a3] 103 → cU 78 #[.pointer (some ⟨a, 0, none⟩), .bool false] w12 [id] X fun v5 w24 => ∃ a3 n2, ∃ c3 r4, ∃ r5 x3, hA w24 a #[.slice a3 n2 c3, Value.map r4, Value.map r5, .int .i64 x3] 103 ∧ 4 = 4 ∧ I a3 n2 c3 r4 r5 x3 w24) ∧ ∀ (jk : Nat → Value) (a4 : Option Addr) (n3 c4 : Nat) (r6 r7 : Option Nat) (x4 : Int) (w26 : World), I a4 n3 c4 r6 r7 x4 w26 → ∃ (I1 : Int → Option Addr → Nat → Nat → Option Nat → Option Nat → Int → World → Prop), (iX 0 b3l b3 fun ad1 => lA w26 (Addr.add ad1 0) fun x5 x6 x7 a5 n4 c5 => hA w26 a #[.slice a4 n3 c4, Value.map r6, Value.map r7, .int .i64 x4] 103 → cI 54 #[.pointer (some ⟨a, 0, none⟩), Av x5 x6 x7 a5 n4 c5, .int .i64 c, .int .i64 d] w26 [id] X fun x8 w27 => ∃ a6 n5, ∃ c6 r8, ∃ r9 x9, hA w27 a #[.slice a6 n5 c6, Value.map r8, Value.map r9, .int .i64 x9] 103 ∧ 4 = 4 ∧ I1 x8 a6 n5 c6 r8 r9 x9 w27) ∧ ∀ (jk1 : Nat → Value) (x10 : Int) (a7 : Option Addr) (n6 c7 : Nat) (r10 r11 : Option Nat) (x11 : Int) (w29 : World), I1 x10 a7 n6 c7 r10 r11 x11 w29 → (fL w29 [] fun w13 => ∃ x12 x13, ∃ x14 a8, ∃ n7 c8 x15, Sem.run E.P (Instr.lookup 100 (Value.map r10) (.int .i64 b1) true) w13 = Result.ok (.tuple #[Av x12 x13 x14 a8 n7 c8, .bool x15]) w13 ∧ nB w13 fun id1 => ∃ (I2 : Option Addr → Nat → Nat → Option Nat → Option Nat → Int → World → Prop), (iX 0 b3l b3 fun ad2 => fL w13 [] fun w14 => id1 < w14.heap.size → lA w14 (Addr.add ad2 0) fun x16 x17 x18 a9 n8 c9 => iX b1 n6 a7 fun ad3 => lI w14 (Addr.add ad3 (Int.toNat b1 * 1)) fun x19 => ∃ R5 X'4, CallsX E.P 120 #[Av x16 x17 x18 a9 n8 c9, .int .i64 c] w14 R5 X'4 ∧ (∀ v7 w210, R5 v7 w210 → ∃ x20, v7 = .int .i64 x20 ∧ Upd w14 w210 no ∧ dB (decide (x20 ≤ x19)) (dB (!x15) (hA w210 a #[.slice a7 n6 c7, Value.map r10, Value.map r11, .int .i64 x11] 103 → cU 78 #[.pointer (some ⟨a, 0, none⟩), .bool true] w210 [id, id1] X fun v9 w211 => ∃ a10 n9, ∃ c10 r12, ∃ r13 x21, hA w211 a #[.slice a10 n9 c10, Value.map r12, Value.map r13, .int .i64 x21] 103 ∧ 4 = 4 ∧ I2 a10 n9 c10 r12 r13 x21 w211) (iX 0 b3l b3 fun ad4 => lA w210 (Addr.add ad4 0) fun x22 x23 x24 a11 n10 c11 => ∃ R7 X'6, CallsX E.P 26 #[Av x12 x13 x14 a8 n7 c8, Av x22 x23 x24 a11 n10 c11] w210 R7 X'6 ∧ (∀ v10 w213, R7 v10 w213 → ∃ x25, v10 = .bool x25 ∧ Upd w210 w213 no ∧ dB x25 (∃ x26, Sem.run E.P (Instr.lookup 101 (Value.map r11) (.int .i64 b1) false) w213 = Result.ok (.int .i64 x26) w213 ∧ dB (x26 == c) (hA w213 a #[.slice a7 n6 c7, Value.map r10, Value.map r11, .int .i64 x11] 103 → cU 78 #[.pointer (some ⟨a, 0, none⟩), .bool true] w213 [id, id1] X fun v12 w214 => ∃ a12 n11, ∃ c12 r14, ∃ r15 x27, hA w214 a #[.slice a12 n11 c12, Value.map r14, Value.map r15, .int .i64 x27] 103 ∧ 4 = 4 ∧ I2 a12 n11 c12 r14 r15 x27 w214) (∃ R9 X'8, CallsX E.P 121 #[Av x12 x13 x14 a8 n7 c8] w213 R9 X'8 ∧ (∀ v13 w216, R9 v13 w216 → ∃ x28, v13 = .bool x28 ∧ Upd w213 w216 no ∧ (hA w216 a #[.slice a7 n6 c7, Value.map r10, Value.map r11, .int .i64 x11] 103 → cU 78 #[.pointer (some ⟨a, 0, none⟩), .bool !x28] w216 [id, id1] X fun v15 w217 => ∃ a13 n12, ∃ c13 r16, ∃ r17 x29, hA w217 a #[.slice a13 n12 c13, Value.map r16, Value.map r17, .int .i64 x29] 103 ∧ 4 = 4 ∧ I2 a13 n12 c13 r16 r17 x29 w217)) ∧ PX X'8 X)) (hA w213 a #[.slice a7 n6 c7, Value.map r10, Value.map r11, .int .i64 x11] 103 → cU 78 #[.pointer (some ⟨a, 0, none⟩), .bool false] w213 [id, id1] X fun v17 w220 => ∃ a14 n13, ∃ c14 r18, ∃ r19 x30, hA w220 a #[.slice a14 n13 c14, Value.map r18, Value.map r19, .int .i64 x30] 103 ∧ 4 = 4 ∧ I2 a14 n13 c14 r18 r19 x30 w220)) ∧ PX X'6 X)) (hA w210 a #[.slice a7 n6 c7, Value.map r10, Value.map r11, .int .i64 x11] 103 → cU 78 #[.pointer (some ⟨a, 0, none⟩), .bool false] w210 [id, id1] X fun v19 w223 => ∃ a15 n14, ∃ c15 r20, ∃ r21 x31, hA w223 a #[.slice a15 n14 c15, Value.map r20, Value.map r21, .int .i64 x31] 103 ∧ 4 = 4 ∧ I2 a15 n14 c15 r20 r21 x31 w223)) ∧ PX X'4 X) ∧ ∀ (jk2 : Nat → Value) (a16 : Option Addr) (n15 c16 : Nat) (r22 r23 : Option Nat) (x32 : Int) (w226 : World), I2 a16 n15 c16 r22 r23 x32 w226 → iX 0 b3l b3 fun ad5 => (fL w226 [] fun w15 => lA w15 (Addr.add ad5 0) fun x33 x34 x35 a17 n16 c17 => ∃ R13, RunsTo E.P (Instr.mapEntry 100 (Value.map r22) (.int .i64 b1)) w15 R13 ∧ ∀ v20 w227, R13 v20 w227 → ∃ (u : Value), ∃ k, v20 = .tuple #[u, .int .i64 k] ∧ ∃ S9, Upd w15 w227 S9 ∧ Away [a, id, id1] S9 ∧ ∃ R14, RunsU E.P (Instr.entryStore 100 (Value.map r22) (.int .i64 k) (Av x33 x34 x35 a17 n16 c17)) w227 R14 ∧ ∀ w228, R14 w228 → ∃ S10, Upd w227 w228 S10 ∧ Away [a, id, id1] S10 ∧ ∃ R15, RunsTo E.P (Instr.mapEntry 101 (Value.map r23) (.int .i64 b1)) w228 R15 ∧ ∀ v21 w229, R15 v21 w229 → ∃ (u1 : Value), ∃ k1, v21 = .tuple #[u1, .int .i64 k1] ∧ ∃ S11, Upd w228 w229 S11 ∧ Away [a, id, id1] S11 ∧ ∃ R16, RunsU E.P (Instr.entryStore 101 (Value.map r23) (.int .i64 k1) (.int .i64 c)) w229 R16 ∧ ∀ w230, R16 w230 → ∃ S12, Upd w229 w230 S12 ∧ Away [a, id, id1] S12 ∧ (hA w230 a #[.slice a16 n15 c16, Value.map r22, Value.map r23, .int .i64 x32] 103 → R (.int .i64 x10) w230)) ∧ fL w226 [] fun w16 => ∃ R17, RunsTo E.P (Instr.mapEntry 100 (Value.map r22) (.int .i64 b1)) w16 R17 ∧ ∀ v22 w231, R17 v22 w231 → ∃ (u2 : Value), ∃ k2, v22 = .tuple #[u2, .int .i64 k2] ∧ ∃ S13, Upd w16 w231 S13 ∧ Away [a, id, id1] S13 ∧ lA w231 (Addr.add ad5 0) fun x36 x37 x38 a18 n17 c18 => ∃ R18, RunsU E.P (Instr.entryStore 100 (Value.map r22) (.int .i64 k2) (Av x36 x37 x38 a18 n17 c18)) w231 R18 ∧ ∀ w232, R18 w232 → ∃ S14, Upd w231 w232 S14 ∧ Away [a, id, id1] S14 ∧ ∃ R19, RunsTo E.P (Instr.mapEntry 101 (Value.map r23) (.int .i64 b1)) w232 R19 ∧ ∀ v23 w233, R19 v23 w233 → ∃ (u3 : Value), ∃ k3, v23 = .tuple #[u3, .int .i64 k3] ∧ ∃ S15, Upd w232 w233 S15 ∧ Away [a, id, id1] S15 ∧ ∃ R20, RunsU E.P (Instr.entryStore 101 (Value.map r23) (.int .i64 k3) (.int .i64 c)) w233 R20 ∧ ∀ w234, R20 w234 → ∃ S16, Upd w233 w234 S16 ∧ Away [a, id, id1] S16 ∧ (hA w234 a #[.slice a16 n15 c16, Value.map r22, Value.map r23, .int .i64 x32] 103 → R (.int .i64 x10) w234)) ∧ nB w29 fun id2 => fL w29 [] fun w17 => id2 < w17.heap.size → ∃ x39 x40, ∃ x41 a19, ∃ n18 c19 x42, Sem.run E.P (Instr.lookup 100 (Value.map r10) (.int .i64 b1) true) w17 = Result.ok (.tuple #[Av x39 x40 x41 a19 n18 c19, .bool x42]) w17 ∧ ∃ (I3 : Option Addr → Nat → Nat → Option Nat → Option Nat → Int → World → Prop), (iX 0 b3l b3 fun ad6 => fL w17 [id2] fun w18 => lA w18 (Addr.add ad6 0) fun x43 x44 x45 a20 n19 c20 => iX b1 n6 a7 fun ad7 => lI w18 (Addr.add ad7 (Int.toNat b1 * 1)) fun x46 => ∃ R21 X'12, CallsX E.P 120 #[Av x43 x44 x45 a20 n19 c20, .int .i64 c] w18 R21 X'12 ∧ (∀ v24 w235, R21 v24 w235 → ∃ x47, v24 = .int .i64 x47 ∧ Upd w18 w235 no ∧ dB (decide (x47 ≤ x46)) (dB (!x42) (hA w235 a #[.slice a7 n6 c7, Value.map r10, Value.map r11, .int .i64 x11] 103 → cU 78 #[.pointer (some ⟨a, 0, none⟩), .bool true] w235 [id, id2] X fun v26 w236 => ∃ a21 n20, ∃ c21 r24, ∃ r25 x48, hA w236 a #[.slice a21 n20 c21, Value.map r24, Value.map r25, .int .i64 x48] 103 ∧ 4 = 4 ∧ I3 a21 n20 c21 r24 r25 x48 w236) (iX 0 b3l b3 fun ad8 => lA w235 (Addr.add ad8 0) fun x49 x50 x51 a22 n21 c22 => ∃ R23 X'14, CallsX E.P 26 #[Av x39 x40 x41 a19 n18 c19, Av x49 x50 x51 a22 n21 c22] w235 R23 X'14 ∧ (∀ v27 w238, R23 v27 w238 → ∃ x52, v27 = .bool x52 ∧ Upd w235 w238 no ∧ dB x52 (∃ x53, Sem.run E.P (Instr.lookup 101 (Value.map r11) (.int .i64 b1) false) w238 = Result.ok (.int .i64 x53) w238 ∧ dB (x53 == c) (hA w238 a #[.slice a7 n6 c7, Value.map r10, Value.map r11, .int .i64 x11] 103 → cU 78 #[.pointer (some ⟨a, 0, none⟩), .bool true] w238 [id, id2] X fun v29 w239 => ∃ a23 n22, ∃ c23 r26, ∃ r27 x54, hA w239 a #[.slice a23 n22 c23, Value.map r26, Value.map r27, .int .i64 x54] 103 ∧ 4 = 4 ∧ I3 a23 n22 c23 r26 r27 x54 w239) (∃ R25 X'16, CallsX E.P 121 #[Av x39 x40 x41 a19 n18 c19] w238 R25 X'16 ∧ (∀ v30 w241, R25 v30 w241 → ∃ x55, v30 = .bool x55 ∧ Upd w238 w241 no ∧ (hA w241 a #[.slice a7 n6 c7, Value.map r10, Value.map r11, .int .i64 x11] 103 → cU 78 #[.pointer (some ⟨a, 0, none⟩), .bool !x55] w241 [id, id2] X fun v32 w242 => ∃ a24 n23, ∃ c24 r28, ∃ r29 x56, hA w242 a #[.slice a24 n23 c24, Value.map r28, Value.map r29, .int .i64 x56] 103 ∧ 4 = 4 ∧ I3 a24 n23 c24 r28 r29 x56 w242)) ∧ PX X'16 X)) (hA w238 a #[.slice a7 n6 c7, Value.map r10, Value.map r11, .int .i64 x11] 103 → cU 78 #[.pointer (some ⟨a, 0, none⟩), .bool false] w238 [id, id2] X fun v34 w245 => ∃ a25 n24, ∃ c25 r30, ∃ r31 x57, hA w245 a #[.slice a25 n24 c25, Value.map r30, Value.map r31, .int .i64 x57] 103 ∧ 4 = 4 ∧ I3 a25 n24 c25 r30 r31 x57 w245)) ∧ PX X'14 X)) (hA w235 a #[.slice a7 n6 c7, Value.map r10, Value.map r11, .int .i64 x11] 103 → cU 78 #[.pointer (some ⟨a, 0, none⟩), .bool false] w235 [id, id2] X fun v36 w248 => ∃ a26 n25, ∃ c26 r32, ∃ r33 x58, hA w248 a #[.slice a26 n25 c26, Value.map r32, Value.map r33, .int .i64 x58] 103 ∧ 4 = 4 ∧ I3 a26 n25 c26 r32 r33 x58 w248)) ∧ PX X'12 X) ∧ ∀ (jk3 : Nat → Value) (a27 : Option Addr) (n26 c27 : Nat) (r34 r35 : Option Nat) (x59 : Int) (w251 : World), I3 a27 n26 c27 r34 r35 x59 w251 → iX 0 b3l b3 fun ad9 => (fL w251 [] fun w19 => lA w19 (Addr.add ad9 0) fun x60 x61 x62 a28 n27 c28 => ∃ R29, RunsTo E.P (Instr.mapEntry 100 (Value.map r34) (.int .i64 b1)) w19 R29 ∧ ∀ v37 w252, R29 v37 w252 → ∃ (u4 : Value), ∃ k4, v37 = .tuple #[u4, .int .i64 k4] ∧ ∃ S22, Upd w19 w252 S22 ∧ Away [a, id, id2] S22 ∧ ∃ R30, RunsU E.P (Instr.entryStore 100 (Value.map r34) (.int .i64 k4) (Av x60 x61 x62 a28 n27 c28)) w252 R30 ∧ ∀ w253, R30 w253 → ∃ S23, Upd w252 w253 S23 ∧ Away [a, id, id2] S23 ∧ ∃ R31, RunsTo E.P (Instr.mapEntry 101 (Value.map r35) (.int .i64 b1)) w253 R31 ∧ ∀ v38 w254, R31 v38 w254 → ∃ (u5 : Value), ∃ k5, v38 = .tuple #[u5, .int .i64 k5] ∧ ∃ S24, Upd w253 w254 S24 ∧ Away [a, id, id2] S24 ∧ ∃ R32, RunsU E.P (Instr.entryStore 101 (Value.map r35) (.int .i64 k5) (.int .i64 c)) w254 R32 ∧ ∀ w255, R32 w255 → ∃ S25, Upd w254 w255 S25 ∧ Away [a, id, id2] S25 ∧ (hA w255 a #[.slice a27 n26 c27, Value.map r34, Value.map r35, .int .i64 x59] 103 → R (.int .i64 x10) w255)) ∧ fL w251 [] fun w110 => ∃ R33, RunsTo E.P (Instr.mapEntry 100 (Value.map r34) (.int .i64 b1)) w110 R33 ∧ ∀ v39 w256, R33 v39 w256 → ∃ (u6 : Value), ∃ k6, v39 = .tuple #[u6, .int .i64 k6] ∧ ∃ S26, Upd w110 w256 S26 ∧ Away [a, id, id2] S26 ∧ lA w256 (Addr.add ad9 0) fun x63 x64 x65 a29 n28 c29 => ∃ R34, RunsU E.P (Instr.entryStore 100 (Value.map r34) (.int .i64 k6) (Av x63 x64 x65 a29 n28 c29)) w256 R34 ∧ ∀ w257, R34 w257 → ∃ S27, Upd w256 w257 S27 ∧ Away [a, id, id2] S27 ∧ ∃ R35, RunsTo E.P (Instr.mapEntry 101 (Value.map r35) (.int .i64 b1)) w257 R35 ∧ ∀ v40 w258, R35 v40 w258 → ∃ (u7 : Value), ∃ k7, v40 = .tuple #[u7, .int .i64 k7] ∧ ∃ S28, Upd w257 w258 S28 ∧ Away [a, id, id2] S28 ∧ ∃ R36, RunsU E.P (Instr.entryStore 101 (Value.map r35) (.int .i64 k7) (.int .i64 c)) w258 R36 ∧ ∀ w259, R36 w259 → ∃ S29, Upd w258 w259 S29 ∧ Away [a, id, id2] S29 ∧ (hA w259 a #[.slice a27 n26 c27, Value.map r34, Value.map r35, .int .i64 x59] 103 → R (.int .i64 x10) w259)
 ) : CallsX E.P 104 #[.pointer (some ⟨a, 0, none⟩), Av b0 b1 b2 b3 b3l b3c, .int .i64 c, .int .i64 d] w R X :=
  calls_vc E_ok ⟨[(100004, ⟨[], []⟩)], [(2, ⟨[], [(0, 0, .slc), (0, 1, .map), (0, 2, .map), (0, 3, .int .i64)]⟩), (3, ⟨[(9, .int .i64)], [(0, 0, .slc), (0, 1, .map), (0, 2, .map), (0, 3, .int .i64)]⟩), (5, ⟨[], [(0, 0, .slc), (0, 1, .map), (0, 2, .map), (0, 3, .int .i64)]⟩)]⟩ (f := 104) Tryz.func104 rfl [(.pointer (some ⟨a, 0, none⟩), .ptr 0 0), (Av b0 b1 b2 b3 b3l b3c, .no), (.int .i64 c, .no), (.int .i64 d, .no)] [⟨a, 103, false, [⟨.slice a0 a0l a0c, .no, 0⟩, ⟨.map a1, .no, 0⟩, ⟨.map a2, .no, 0⟩, ⟨.int .i64 a3, .no, 0⟩]⟩] (bls1 ha) nod1 (plain_of rfl) (shs_of ⟨rfl, trivial, trivial, trivial, trivial⟩) h (by kernel_rfl)
abbrev V111 (n : Nat) (a0 a1 a2 : Int) (b : Nat) (b0 : Option Addr) (b0l b0c : Nat) (b1 b2 : Option Nat) (b3 c0 c1 : Int) (c2 : ByteArray) (c3 : Option Addr) (c3l c3c : Nat) (d e : Int) (w : World) (R : Value → World → Prop) (X : ContX) : Prop :=
 nB w fun id => nB w fun id1 => ∃ (I : Option Addr → Nat → Nat → Option Nat → Option Nat → Int → World → Prop), dB ((↑c3l : Int) == a0) (dB (strEq c2 (ByteArray.mk #[])) (fL w [] fun w1 => id < w1.heap.size → id1 < w1.heap.size → ∃ R1 X', CallsX E.P n #[.int .i64 c1] w1 R1 X' ∧ (∀ v w2, R1 v w2 → ∃ x, v = .bool x ∧ ∃ S, Upd w1 w2 S ∧ Away [b, id, id1] S ∧ (hA w2 b #[.slice b0 b0l b0c, Value.map b1, Value.map b2, .int .i64 b3] 103 → cU 78 #[.pointer (some ⟨b, 0, none⟩), .bool x] w2 [id, id1] X fun v2 w21 => ∃ a n, ∃ c r, ∃ r1 x1, hA w21 b #[.slice a n c, Value.map r, Value.map r1, .int .i64 x1] 103 ∧ 4 = 4 ∧ I a n c r r1 x1 w21)) ∧ PX X' X) (fL w [] fun w11 => id < w11.heap.size → id1 < w11.heap.size → hA w11 b #[.slice b0 b0l b0c, Value.map b1, Value.map b2, .int .i64 b3] 103 → cU 78 #[.pointer (some ⟨b, 0, none⟩), .bool false] w11 [id, id1] X fun v4 w24 => ∃ a1 n1, ∃ c1 r2, ∃ r3 x2, hA w24 b #[.slice a1 n1 c1, Value.map r2, Value.map r3, .int .i64 x2] 103 ∧ 4 = 4 ∧ I a1 n1 c1 r2 r3 x2 w24)) (fL w [] fun w12 => id < w12.heap.size → id1 < w12.heap.size → hA w12 b #[.slice b0 b0l b0c, Value.map b1, Value.map b2, .int .i64 b3] 103 → cU 78 #[.pointer (some ⟨b, 0, none⟩), .bool false] w12 [id, id1] X fun v6 w26 => ∃ a2 n2, ∃ c2 r4, ∃ r5 x3, hA w26 b #[.slice a2 n2 c2, Value.map r4, Value.map r5, .int .i64 x3] 103 ∧ 4 = 4 ∧ I a2 n2 c2 r4 r5 x3 w26) ∧ ∀ (jk : Nat → Value) (a3 : Option Addr) (n3 c3_1 : Nat) (r6 r7 : Option Nat) (x4 : Int) (w28 : World), I a3 n3 c3_1 r6 r7 x4 w28 → ∃ (I1 : Int → Option Addr → Nat → Nat → Option Nat → Option Nat → Int → World → Prop), ∃ (m : Int → Option Addr → Nat → Nat → Option Nat → Option Nat → Int → Nat), I1 0 a3 n3 c3_1 r6 r7 x4 w28 ∧ ∀ (jk1 : Nat → Value) (x5 : Int) (a4 : Option Addr) (n4 c4 : Nat) (r8 r9 : Option Nat) (x6 : Int) (w29 : World), I1 x5 a4 n4 c4 r8 r9 x6 w29 → dB (decide (x5 < (↑c3l : Int))) (iX x5 c3l c3 fun ad => lA w29 (Addr.add ad (Int.toNat x5 * 4)) fun x7 x8 x9 a5 n5 c5 => nB w29 fun id2 => fL w29 [] fun w13 => id2 < w13.heap.size → hA w13 b #[.slice a4 n4 c4, Value.map r8, Value.map r9, .int .i64 x6] 103 → cU 105 #[.pointer (some ⟨b, 0, none⟩), Av x7 x8 x9 a5 n5 c5, .int .i64 a1, .int .i64 d, .int .i64 e] w13 [id, id1, id2] X fun v8 w210 => ∃ a6 n6, ∃ c6 r10, ∃ r11 x10, hA w210 b #[.slice a6 n6 c6, Value.map r10, Value.map r11, .int .i64 x10] 103 ∧ 4 = 4 ∧ I1 (w64 (x5 + 1)) a6 n6 c6 r10 r11 x10 w210 ∧ m (w64 (x5 + 1)) a6 n6 c6 r10 r11 x10 < m x5 a4 n4 c4 r8 r9 x6) (hA w29 b #[.slice a4 n4 c4, Value.map r8, Value.map r9, .int .i64 x6] 103 → R (.int .i64 a2) w29)
theorem vc111_127 {a0 a1 a2 : Int} {b : Nat} {b0 : Option Addr} {b0l b0c : Nat} {b1 b2 : Option Nat} {b3 c0 c1 : Int} {c2 : ByteArray} {c3 : Option Addr} {c3l c3c : Nat} {d e : Int} (hb : w.heap[b]? = some (.cells #[.slice b0 b0l b0c, .map b1, .map b2, .int .i64 b3] 103 (0, 0))) (h : V111 95 a0 a1 a2 b b0 b0l b0c b1 b2 b3 c0 c1 c2 c3 c3l c3c d e w R X) : CallsX E.P 80 #[.agg #[.int .i64 a0, .int .i64 a1, .int .i64 a2, .func (.func 95) #[] #[]], .pointer (some ⟨b, 0, none⟩), Av c0 c1 c2 c3 c3l c3c, .int .i64 d, .int .i64 e] w R X :=
  calls_vc E_ok ⟨[(3, ⟨[(36, .int .i64)], [(0, 0, .slc), (0, 1, .map), (0, 2, .map), (0, 3, .int .i64)]⟩)], [(2, ⟨[], [(0, 0, .slc), (0, 1, .map), (0, 2, .map), (0, 3, .int .i64)]⟩)]⟩ (f := 80) Tryz.func80 rfl [(.agg #[.int .i64 a0, .int .i64 a1, .int .i64 a2, .func (.func 95) #[] #[]], .no), (.pointer (some ⟨b, 0, none⟩), .ptr 0 0), (Av c0 c1 c2 c3 c3l c3c, .no), (.int .i64 d, .no), (.int .i64 e, .no)] [⟨b, 103, false, [⟨.slice b0 b0l b0c, .no, 0⟩, ⟨.map b1, .no, 0⟩, ⟨.map b2, .no, 0⟩, ⟨.int .i64 b3, .no, 0⟩]⟩] (bls1 hb) nod1 (plain_of rfl) (shs_of ⟨trivial, rfl, trivial, trivial, trivial, trivial⟩) h (by kernel_rfl)
theorem vc111_128 {a0 a1 a2 : Int} {b : Nat} {b0 : Option Addr} {b0l b0c : Nat} {b1 b2 : Option Nat} {b3 c0 c1 : Int} {c2 : ByteArray} {c3 : Option Addr} {c3l c3c : Nat} {d e : Int} (hb : w.heap[b]? = some (.cells #[.slice b0 b0l b0c, .map b1, .map b2, .int .i64 b3] 103 (0, 0))) (h : V111 96 a0 a1 a2 b b0 b0l b0c b1 b2 b3 c0 c1 c2 c3 c3l c3c d e w R X) : CallsX E.P 80 #[.agg #[.int .i64 a0, .int .i64 a1, .int .i64 a2, .func (.func 96) #[] #[]], .pointer (some ⟨b, 0, none⟩), Av c0 c1 c2 c3 c3l c3c, .int .i64 d, .int .i64 e] w R X :=
  calls_vc E_ok ⟨[(3, ⟨[(36, .int .i64)], [(0, 0, .slc), (0, 1, .map), (0, 2, .map), (0, 3, .int .i64)]⟩)], [(2, ⟨[], [(0, 0, .slc), (0, 1, .map), (0, 2, .map), (0, 3, .int .i64)]⟩)]⟩ (f := 80) Tryz.func80 rfl [(.agg #[.int .i64 a0, .int .i64 a1, .int .i64 a2, .func (.func 96) #[] #[]], .no), (.pointer (some ⟨b, 0, none⟩), .ptr 0 0), (Av c0 c1 c2 c3 c3l c3c, .no), (.int .i64 d, .no), (.int .i64 e, .no)] [⟨b, 103, false, [⟨.slice b0 b0l b0c, .no, 0⟩, ⟨.map b1, .no, 0⟩, ⟨.map b2, .no, 0⟩, ⟨.int .i64 b3, .no, 0⟩]⟩] (bls1 hb) nod1 (plain_of rfl) (shs_of ⟨trivial, rfl, trivial, trivial, trivial, trivial⟩) h (by kernel_rfl)
theorem vc111_129 {a0 a1 a2 : Int} {b : Nat} {b0 : Option Addr} {b0l b0c : Nat} {b1 b2 : Option Nat} {b3 c0 c1 : Int} {c2 : ByteArray} {c3 : Option Addr} {c3l c3c : Nat} {d e : Int} (hb : w.heap[b]? = some (.cells #[.slice b0 b0l b0c, .map b1, .map b2, .int .i64 b3] 103 (0, 0))) (h : V111 97 a0 a1 a2 b b0 b0l b0c b1 b2 b3 c0 c1 c2 c3 c3l c3c d e w R X) : CallsX E.P 80 #[.agg #[.int .i64 a0, .int .i64 a1, .int .i64 a2, .func (.func 97) #[] #[]], .pointer (some ⟨b, 0, none⟩), Av c0 c1 c2 c3 c3l c3c, .int .i64 d, .int .i64 e] w R X :=
  calls_vc E_ok ⟨[(3, ⟨[(36, .int .i64)], [(0, 0, .slc), (0, 1, .map), (0, 2, .map), (0, 3, .int .i64)]⟩)], [(2, ⟨[], [(0, 0, .slc), (0, 1, .map), (0, 2, .map), (0, 3, .int .i64)]⟩)]⟩ (f := 80) Tryz.func80 rfl [(.agg #[.int .i64 a0, .int .i64 a1, .int .i64 a2, .func (.func 97) #[] #[]], .no), (.pointer (some ⟨b, 0, none⟩), .ptr 0 0), (Av c0 c1 c2 c3 c3l c3c, .no), (.int .i64 d, .no), (.int .i64 e, .no)] [⟨b, 103, false, [⟨.slice b0 b0l b0c, .no, 0⟩, ⟨.map b1, .no, 0⟩, ⟨.map b2, .no, 0⟩, ⟨.int .i64 b3, .no, 0⟩]⟩] (bls1 hb) nod1 (plain_of rfl) (shs_of ⟨trivial, rfl, trivial, trivial, trivial, trivial⟩) h (by kernel_rfl)
theorem vc111_130 {a0 a1 a2 : Int} {ab b : Nat} {b0 : Option Addr} {b0l b0c : Nat} {b1 b2 : Option Nat} {b3 c0 c1 : Int} {c2 : ByteArray} {c3 : Option Addr} {c3l c3c : Nat} {d e : Int} (hb : w.heap[b]? = some (.cells #[.slice b0 b0l b0c, .map b1, .map b2, .int .i64 b3] 103 (0, 0))) (h : 
 nB w fun id => nB w fun id1 => ∃ (I : Option Addr → Nat → Nat → Option Nat → Option Nat → Int → World → Prop), dB ((↑c3l : Int) == a0) (dB (strEq c2 (ByteArray.mk #[])) (fL w [] fun w1 => id < w1.heap.size → id1 < w1.heap.size → cB 98 #[.int .i64 c1, .pointer (some ⟨ab, 0, none⟩)] w1 [b, id, id1] X fun x w2 => hA w2 b #[.slice b0 b0l b0c, Value.map b1, Value.map b2, .int .i64 b3] 103 → cU 78 #[.pointer (some ⟨b, 0, none⟩), .bool x] w2 [id, id1] X fun v2 w21 => ∃ a n, ∃ c r, ∃ r1 x1, hA w21 b #[.slice a n c, Value.map r, Value.map r1, .int .i64 x1] 103 ∧ 4 = 4 ∧ I a n c r r1 x1 w21) (fL w [] fun w11 => id < w11.heap.size → id1 < w11.heap.size → hA w11 b #[.slice b0 b0l b0c, Value.map b1, Value.map b2, .int .i64 b3] 103 → cU 78 #[.pointer (some ⟨b, 0, none⟩), .bool false] w11 [id, id1] X fun v4 w24 => ∃ a1 n1, ∃ c1 r2, ∃ r3 x2, hA w24 b #[.slice a1 n1 c1, Value.map r2, Value.map r3, .int .i64 x2] 103 ∧ 4 = 4 ∧ I a1 n1 c1 r2 r3 x2 w24)) (fL w [] fun w12 => id < w12.heap.size → id1 < w12.heap.size → hA w12 b #[.slice b0 b0l b0c, Value.map b1, Value.map b2, .int .i64 b3] 103 → cU 78 #[.pointer (some ⟨b, 0, none⟩), .bool false] w12 [id, id1] X fun v6 w26 => ∃ a2 n2, ∃ c2 r4, ∃ r5 x3, hA w26 b #[.slice a2 n2 c2, Value.map r4, Value.map r5, .int .i64 x3] 103 ∧ 4 = 4 ∧ I a2 n2 c2 r4 r5 x3 w26) ∧ ∀ (jk : Nat → Value) (a3 : Option Addr) (n3 c3_1 : Nat) (r6 r7 : Option Nat) (x4 : Int) (w28 : World), I a3 n3 c3_1 r6 r7 x4 w28 → ∃ (I1 : Int → Option Addr → Nat → Nat → Option Nat → Option Nat → Int → World → Prop), ∃ (m : Int → Option Addr → Nat → Nat → Option Nat → Option Nat → Int → Nat), I1 0 a3 n3 c3_1 r6 r7 x4 w28 ∧ ∀ (jk1 : Nat → Value) (x5 : Int) (a4 : Option Addr) (n4 c4 : Nat) (r8 r9 : Option Nat) (x6 : Int) (w29 : World), I1 x5 a4 n4 c4 r8 r9 x6 w29 → dB (decide (x5 < (↑c3l : Int))) (iX x5 c3l c3 fun ad => lA w29 (Addr.add ad (Int.toNat x5 * 4)) fun x7 x8 x9 a5 n5 c5 => nB w29 fun id2 => fL w29 [] fun w13 => id2 < w13.heap.size → hA w13 b #[.slice a4 n4 c4, Value.map r8, Value.map r9, .int .i64 x6] 103 → cU 105 #[.pointer (some ⟨b, 0, none⟩), Av x7 x8 x9 a5 n5 c5, .int .i64 a1, .int .i64 d, .int .i64 e] w13 [id, id1, id2] X fun v8 w210 => ∃ a6 n6, ∃ c6 r10, ∃ r11 x10, hA w210 b #[.slice a6 n6 c6, Value.map r10, Value.map r11, .int .i64 x10] 103 ∧ 4 = 4 ∧ I1 (w64 (x5 + 1)) a6 n6 c6 r10 r11 x10 w210 ∧ m (w64 (x5 + 1)) a6 n6 c6 r10 r11 x10 < m x5 a4 n4 c4 r8 r9 x6) (hA w29 b #[.slice a4 n4 c4, Value.map r8, Value.map r9, .int .i64 x6] 103 → R (.int .i64 a2) w29)
 ) : CallsX E.P 80 #[.agg #[.int .i64 a0, .int .i64 a1, .int .i64 a2, .func (.func 98) #[] #[.pointer (some ⟨ab, 0, none⟩)]], .pointer (some ⟨b, 0, none⟩), Av c0 c1 c2 c3 c3l c3c, .int .i64 d, .int .i64 e] w R X :=
  calls_vc E_ok ⟨[(3, ⟨[(36, .int .i64)], [(0, 0, .slc), (0, 1, .map), (0, 2, .map), (0, 3, .int .i64)]⟩)], [(2, ⟨[], [(0, 0, .slc), (0, 1, .map), (0, 2, .map), (0, 3, .int .i64)]⟩)]⟩ (f := 80) Tryz.func80 rfl [(.agg #[.int .i64 a0, .int .i64 a1, .int .i64 a2, .func (.func 98) #[] #[.pointer (some ⟨ab, 0, none⟩)]], .no), (.pointer (some ⟨b, 0, none⟩), .ptr 0 0), (Av c0 c1 c2 c3 c3l c3c, .no), (.int .i64 d, .no), (.int .i64 e, .no)] [⟨b, 103, false, [⟨.slice b0 b0l b0c, .no, 0⟩, ⟨.map b1, .no, 0⟩, ⟨.map b2, .no, 0⟩, ⟨.int .i64 b3, .no, 0⟩]⟩] (bls1 hb) nod1 (plain_of rfl) (shs_of ⟨trivial, rfl, trivial, trivial, trivial, trivial⟩) h (by kernel_rfl)
theorem vc111_131 {a0 a1 a2 : Int} {b : Nat} {b0 : Option Addr} {b0l b0c : Nat} {b1 b2 : Option Nat} {b3 c0 c1 : Int} {c2 : ByteArray} {c3 : Option Addr} {c3l c3c : Nat} {d e : Int} (hb : w.heap[b]? = some (.cells #[.slice b0 b0l b0c, .map b1, .map b2, .int .i64 b3] 103 (0, 0))) (h : V111 99 a0 a1 a2 b b0 b0l b0c b1 b2 b3 c0 c1 c2 c3 c3l c3c d e w R X) : CallsX E.P 80 #[.agg #[.int .i64 a0, .int .i64 a1, .int .i64 a2, .func (.func 99) #[] #[]], .pointer (some ⟨b, 0, none⟩), Av c0 c1 c2 c3 c3l c3c, .int .i64 d, .int .i64 e] w R X :=
  calls_vc E_ok ⟨[(3, ⟨[(36, .int .i64)], [(0, 0, .slc), (0, 1, .map), (0, 2, .map), (0, 3, .int .i64)]⟩)], [(2, ⟨[], [(0, 0, .slc), (0, 1, .map), (0, 2, .map), (0, 3, .int .i64)]⟩)]⟩ (f := 80) Tryz.func80 rfl [(.agg #[.int .i64 a0, .int .i64 a1, .int .i64 a2, .func (.func 99) #[] #[]], .no), (.pointer (some ⟨b, 0, none⟩), .ptr 0 0), (Av c0 c1 c2 c3 c3l c3c, .no), (.int .i64 d, .no), (.int .i64 e, .no)] [⟨b, 103, false, [⟨.slice b0 b0l b0c, .no, 0⟩, ⟨.map b1, .no, 0⟩, ⟨.map b2, .no, 0⟩, ⟨.int .i64 b3, .no, 0⟩]⟩] (bls1 hb) nod1 (plain_of rfl) (shs_of ⟨trivial, rfl, trivial, trivial, trivial, trivial⟩) h (by kernel_rfl)
theorem vc111_134 {a0 a1 a2 : Int} {b : Nat} {b0 : Option Addr} {b0l b0c : Nat} {b1 b2 : Option Nat} {b3 c0 c1 : Int} {c2 : ByteArray} {c3 : Option Addr} {c3l c3c : Nat} {d e : Int} (hb : w.heap[b]? = some (.cells #[.slice b0 b0l b0c, .map b1, .map b2, .int .i64 b3] 103 (0, 0))) (h : V111 102 a0 a1 a2 b b0 b0l b0c b1 b2 b3 c0 c1 c2 c3 c3l c3c d e w R X) : CallsX E.P 80 #[.agg #[.int .i64 a0, .int .i64 a1, .int .i64 a2, .func (.func 102) #[] #[]], .pointer (some ⟨b, 0, none⟩), Av c0 c1 c2 c3 c3l c3c, .int .i64 d, .int .i64 e] w R X :=
  calls_vc E_ok ⟨[(3, ⟨[(36, .int .i64)], [(0, 0, .slc), (0, 1, .map), (0, 2, .map), (0, 3, .int .i64)]⟩)], [(2, ⟨[], [(0, 0, .slc), (0, 1, .map), (0, 2, .map), (0, 3, .int .i64)]⟩)]⟩ (f := 80) Tryz.func80 rfl [(.agg #[.int .i64 a0, .int .i64 a1, .int .i64 a2, .func (.func 102) #[] #[]], .no), (.pointer (some ⟨b, 0, none⟩), .ptr 0 0), (Av c0 c1 c2 c3 c3l c3c, .no), (.int .i64 d, .no), (.int .i64 e, .no)] [⟨b, 103, false, [⟨.slice b0 b0l b0c, .no, 0⟩, ⟨.map b1, .no, 0⟩, ⟨.map b2, .no, 0⟩, ⟨.int .i64 b3, .no, 0⟩]⟩] (bls1 hb) nod1 (plain_of rfl) (shs_of ⟨trivial, rfl, trivial, trivial, trivial, trivial⟩) h (by kernel_rfl)
abbrev V112 (n : Nat) (a0 : Int) (b : Nat) (b0 : Option Addr) (b0l b0c : Nat) (b1 b2 : Option Nat) (b3 c0 c1 : Int) (c2 : ByteArray) (c3 : Option Addr) (c3l c3c : Nat) (d e : Int) (w : World) (R : Value → World → Prop) (X : ContX) : Prop :=
 nB w fun id => nB w fun id1 => ∃ (I : Option Addr → Nat → Nat → Option Nat → Option Nat → Int → World → Prop), dB ((↑c3l : Int) == a0) (fL w [] fun w1 => id < w1.heap.size → id1 < w1.heap.size → hA w1 b #[.slice b0 b0l b0c, Value.map b1, Value.map b2, .int .i64 b3] 103 → cU 78 #[.pointer (some ⟨b, 0, none⟩), .bool (strEq c2 (ByteArray.mk #[]))] w1 [id, id1] X fun v1 w2 => ∃ a n, ∃ c r, ∃ r1 x, hA w2 b #[.slice a n c, Value.map r, Value.map r1, .int .i64 x] 103 ∧ 4 = 4 ∧ I a n c r r1 x w2) (fL w [] fun w11 => id < w11.heap.size → id1 < w11.heap.size → hA w11 b #[.slice b0 b0l b0c, Value.map b1, Value.map b2, .int .i64 b3] 103 → cU 78 #[.pointer (some ⟨b, 0, none⟩), .bool false] w11 [id, id1] X fun v3 w22 => ∃ a1 n1, ∃ c1 r2, ∃ r3 x1, hA w22 b #[.slice a1 n1 c1, Value.map r2, Value.map r3, .int .i64 x1] 103 ∧ 4 = 4 ∧ I a1 n1 c1 r2 r3 x1 w22) ∧ ∀ (jk : Nat → Value) (a2 : Option Addr) (n2 c2_1 : Nat) (r4 r5 : Option Nat) (x2 : Int) (w24 : World), I a2 n2 c2_1 r4 r5 x2 w24 → hA w24 b #[.slice a2 n2 c2_1, Value.map r4, Value.map r5, .int .i64 x2] 103 → ∃ R3 X'2, CallsX E.P n #[.pointer (some ⟨b, 0, none⟩), Av c0 c1 c2 c3 c3l c3c, .int .i64 d, .int .i64 e] w24 R3 X'2 ∧ (∀ v4 w25, R3 v4 w25 → ∃ x3, v4 = .int .i64 x3 ∧ ∃ S2, Upd w24 w25 S2 ∧ Away [id, id1] S2 ∧ ∃ a3 n3, ∃ c3 r6, ∃ r7 x4, hA w25 b #[.slice a3 n3 c3, Value.map r6, Value.map r7, .int .i64 x4] 103 ∧ 4 = 4 ∧ (hA w25 b #[.slice a3 n3 c3, Value.map r6, Value.map r7, .int .i64 x4] 103 → R (.int .i64 x3) w25)) ∧ PX X'2 X
theorem vc112_132 {a0 : Int} {b : Nat} {b0 : Option Addr} {b0l b0c : Nat} {b1 b2 : Option Nat} {b3 c0 c1 : Int} {c2 : ByteArray} {c3 : Option Addr} {c3l c3c : Nat} {d e : Int} (hb : w.heap[b]? = some (.cells #[.slice b0 b0l b0c, .map b1, .map b2, .int .i64 b3] 103 (0, 0))) (h : V112 100 a0 b b0 b0l b0c b1 b2 b3 c0 c1 c2 c3 c3l c3c d e w R X) : CallsX E.P 81 #[.agg #[.int .i64 a0, .func (.func 100) #[] #[]], .pointer (some ⟨b, 0, none⟩), Av c0 c1 c2 c3 c3l c3c, .int .i64 d, .int .i64 e] w R X :=
  calls_vc E_ok ⟨[], [(2, ⟨[], [(0, 0, .slc), (0, 1, .map), (0, 2, .map), (0, 3, .int .i64)]⟩)]⟩ (f := 81) Tryz.func81 rfl [(.agg #[.int .i64 a0, .func (.func 100) #[] #[]], .no), (.pointer (some ⟨b, 0, none⟩), .ptr 0 0), (Av c0 c1 c2 c3 c3l c3c, .no), (.int .i64 d, .no), (.int .i64 e, .no)] [⟨b, 103, false, [⟨.slice b0 b0l b0c, .no, 0⟩, ⟨.map b1, .no, 0⟩, ⟨.map b2, .no, 0⟩, ⟨.int .i64 b3, .no, 0⟩]⟩] (bls1 hb) nod1 (plain_of rfl) (shs_of ⟨trivial, rfl, trivial, trivial, trivial, trivial⟩) h (by kernel_rfl)
theorem vc112_133 {a0 : Int} {b : Nat} {b0 : Option Addr} {b0l b0c : Nat} {b1 b2 : Option Nat} {b3 c0 c1 : Int} {c2 : ByteArray} {c3 : Option Addr} {c3l c3c : Nat} {d e : Int} (hb : w.heap[b]? = some (.cells #[.slice b0 b0l b0c, .map b1, .map b2, .int .i64 b3] 103 (0, 0))) (h : V112 101 a0 b b0 b0l b0c b1 b2 b3 c0 c1 c2 c3 c3l c3c d e w R X) : CallsX E.P 81 #[.agg #[.int .i64 a0, .func (.func 101) #[] #[]], .pointer (some ⟨b, 0, none⟩), Av c0 c1 c2 c3 c3l c3c, .int .i64 d, .int .i64 e] w R X :=
  calls_vc E_ok ⟨[], [(2, ⟨[], [(0, 0, .slc), (0, 1, .map), (0, 2, .map), (0, 3, .int .i64)]⟩)]⟩ (f := 81) Tryz.func81 rfl [(.agg #[.int .i64 a0, .func (.func 101) #[] #[]], .no), (.pointer (some ⟨b, 0, none⟩), .ptr 0 0), (Av c0 c1 c2 c3 c3l c3c, .no), (.int .i64 d, .no), (.int .i64 e, .no)] [⟨b, 103, false, [⟨.slice b0 b0l b0c, .no, 0⟩, ⟨.map b1, .no, 0⟩, ⟨.map b2, .no, 0⟩, ⟨.int .i64 b3, .no, 0⟩]⟩] (bls1 hb) nod1 (plain_of rfl) (shs_of ⟨trivial, rfl, trivial, trivial, trivial, trivial⟩) h (by kernel_rfl)
theorem vc112_135 {a0 : Int} {b : Nat} {b0 : Option Addr} {b0l b0c : Nat} {b1 b2 : Option Nat} {b3 c0 c1 : Int} {c2 : ByteArray} {c3 : Option Addr} {c3l c3c : Nat} {d e : Int} (hb : w.heap[b]? = some (.cells #[.slice b0 b0l b0c, .map b1, .map b2, .int .i64 b3] 103 (0, 0))) (h : V112 103 a0 b b0 b0l b0c b1 b2 b3 c0 c1 c2 c3 c3l c3c d e w R X) : CallsX E.P 81 #[.agg #[.int .i64 a0, .func (.func 103) #[] #[]], .pointer (some ⟨b, 0, none⟩), Av c0 c1 c2 c3 c3l c3c, .int .i64 d, .int .i64 e] w R X :=
  calls_vc E_ok ⟨[], [(2, ⟨[], [(0, 0, .slc), (0, 1, .map), (0, 2, .map), (0, 3, .int .i64)]⟩)]⟩ (f := 81) Tryz.func81 rfl [(.agg #[.int .i64 a0, .func (.func 103) #[] #[]], .no), (.pointer (some ⟨b, 0, none⟩), .ptr 0 0), (Av c0 c1 c2 c3 c3l c3c, .no), (.int .i64 d, .no), (.int .i64 e, .no)] [⟨b, 103, false, [⟨.slice b0 b0l b0c, .no, 0⟩, ⟨.map b1, .no, 0⟩, ⟨.map b2, .no, 0⟩, ⟨.int .i64 b3, .no, 0⟩]⟩] (bls1 hb) nod1 (plain_of rfl) (shs_of ⟨trivial, rfl, trivial, trivial, trivial, trivial⟩) h (by kernel_rfl)
theorem vc112_136 {a0 : Int} {b : Nat} {b0 : Option Addr} {b0l b0c : Nat} {b1 b2 : Option Nat} {b3 c0 c1 : Int} {c2 : ByteArray} {c3 : Option Addr} {c3l c3c : Nat} {d e : Int} (hb : w.heap[b]? = some (.cells #[.slice b0 b0l b0c, .map b1, .map b2, .int .i64 b3] 103 (0, 0))) (h : V112 104 a0 b b0 b0l b0c b1 b2 b3 c0 c1 c2 c3 c3l c3c d e w R X) : CallsX E.P 81 #[.agg #[.int .i64 a0, .func (.func 104) #[] #[]], .pointer (some ⟨b, 0, none⟩), Av c0 c1 c2 c3 c3l c3c, .int .i64 d, .int .i64 e] w R X :=
  calls_vc E_ok ⟨[], [(2, ⟨[], [(0, 0, .slc), (0, 1, .map), (0, 2, .map), (0, 3, .int .i64)]⟩)]⟩ (f := 81) Tryz.func81 rfl [(.agg #[.int .i64 a0, .func (.func 104) #[] #[]], .no), (.pointer (some ⟨b, 0, none⟩), .ptr 0 0), (Av c0 c1 c2 c3 c3l c3c, .no), (.int .i64 d, .no), (.int .i64 e, .no)] [⟨b, 103, false, [⟨.slice b0 b0l b0c, .no, 0⟩, ⟨.map b1, .no, 0⟩, ⟨.map b2, .no, 0⟩, ⟨.int .i64 b3, .no, 0⟩]⟩] (bls1 hb) nod1 (plain_of rfl) (shs_of ⟨trivial, rfl, trivial, trivial, trivial, trivial⟩) h (by kernel_rfl)
end Go.Vx.Tryz
namespace Go.Vx.Tryz
open Go Go.Vx Go.Proofs
set_option maxRecDepth 100000
variable {w : World} {R : Value → World → Prop} {X : ContX}
theorem vc127 {a : Int}  (h : 
 R (.bool true) w
 ) : CallsX E.P 95 #[.int .i64 a] w R X :=
  calls_vc E_ok ⟨[], []⟩ (f := 95) Tryz.func95 rfl [(.int .i64 a, .no)] [] (bls0) nod0 (plain_of rfl) (shs_of ⟨trivial, trivial⟩) h (by kernel_rfl)
theorem vc128 {a : Int}  (h : 
 dB (a == 0) (R (.bool true) w) (R (.bool (a == 1)) w)
 ) : CallsX E.P 96 #[.int .i64 a] w R X :=
  calls_vc E_ok ⟨[], []⟩ (f := 96) Tryz.func96 rfl [(.int .i64 a, .no)] [] (bls0) nod0 (plain_of rfl) (shs_of ⟨trivial, trivial⟩) h (by kernel_rfl)
theorem vc129 {a : Int}  (h : 
 R (.bool (decide (a ≥ 0))) w
 ) : CallsX E.P 97 #[.int .i64 a] w R X :=
  calls_vc E_ok ⟨[], []⟩ (f := 97) Tryz.func97 rfl [(.int .i64 a, .no)] [] (bls0) nod0 (plain_of rfl) (shs_of ⟨trivial, trivial⟩) h (by kernel_rfl)
theorem vc130 {a : Int} {b : Nat} {b0 : Int} (hb : w.heap[b]? = some (.cells #[.int .i64 b0] 3 (0, 0))) (h : 
 dB (decide (a ≥ 0)) (hA w b #[.int .i64 b0] 3 → R (.bool (decide (a < b0))) w) (hA w b #[.int .i64 b0] 3 → R (.bool false) w)
 ) : CallsX E.P 98 #[.int .i64 a, .pointer (some ⟨b, 0, none⟩)] w R X :=
  calls_vc E_ok ⟨[], []⟩ (f := 98) Tryz.func98 rfl [(.int .i64 a, .no), (.pointer (some ⟨b, 0, none⟩), .ptr 0 0)] [⟨b, 3, false, [⟨.int .i64 b0, .no, 0⟩]⟩] (bls1 hb) nod1 (plain_of rfl) (shs_of ⟨trivial, rfl, trivial⟩) h (by kernel_rfl)
theorem vc131 {a : Int}  (h : 
 R (.bool (a == 0)) w
 ) : CallsX E.P 99 #[.int .i64 a] w R X :=
  calls_vc E_ok ⟨[], []⟩ (f := 99) Tryz.func99 rfl [(.int .i64 a, .no)] [] (bls0) nod0 (plain_of rfl) (shs_of ⟨trivial, trivial⟩) h (by kernel_rfl)
theorem vc134 {a : Int}  (h : 
 dB (decide (a ≥ 4)) (R (.bool (decide (a ≤ 9))) w) (R (.bool false) w)
 ) : CallsX E.P 102 #[.int .i64 a] w R X :=
  calls_vc E_ok ⟨[], []⟩ (f := 102) Tryz.func102 rfl [(.int .i64 a, .no)] [] (bls0) nod0 (plain_of rfl) (shs_of ⟨trivial, trivial⟩) h (by kernel_rfl)
theorem vc79 {a : Nat} {a0 : Option Addr} {a0l a0c : Nat} {a1 a2 : Option Nat} {a3 b0 b1 : Int} {b2 : ByteArray} {b3 : Option Addr} {b3l b3c : Nat} {c d : Int} (ha : w.heap[a]? = some (.cells #[.slice a0 a0l a0c, .map a1, .map a2, .int .i64 a3] 103 (0, 0))) (h : 
 nB w fun id => fL w [a] fun w1 => id < w1.heap.size → hA w1 a #[.slice a0 a0l a0c, Value.map a1, Value.map a2, .int .i64 (w64 (a3 + 1))] 103 → cU 78 #[.pointer (some ⟨a, 0, none⟩), .bool (decide (w64 (a3 + 1) ≤ 4096))] w1 [id] X fun v1 w2 => ∃ a1 n, ∃ c1 r, ∃ r1 x, hA w2 a #[.slice a1 n c1, Value.map r, Value.map r1, .int .i64 x] 103 ∧ 4 = 4 ∧ cU 79 #[Av b0 b1 b2 b3 b3l b3c, .int .i64 c] w2 [a, id] X fun v3 w21 => ∃ is x1, ∃ x2 x3, ∃ (v4 : Value), Sem.run E.P (Instr.typeAssert v3 118 121 true) w21 = Result.ok (.tuple #[.agg #[.int .i64 x1, .int .i64 x2, .int .i64 x3, v4], .bool is]) w21 ∧ dB is (nB w21 fun id1 => Value.oneCell' v4 = true ∧ fL w21 [] fun w11 => id1 < w11.heap.size → hA w11 a #[.slice a1 n c1, Value.map r, Value.map r1, .int .i64 x] 103 → cI 80 #[.agg #[.int .i64 x1, .int .i64 x2, .int .i64 x3, v4], .pointer (some ⟨a, 0, none⟩), Av b0 b1 b2 b3 b3l b3c, .int .i64 c, .int .i64 d] w11 [id, id1] X fun x4 w22 => ∃ a2 n1, ∃ c2 r2, ∃ r3 x5, hA w22 a #[.slice a2 n1 c2, Value.map r2, Value.map r3, .int .i64 x5] 103 ∧ 4 = 4 ∧ (hA w22 a #[.slice a2 n1 c2, Value.map r2, Value.map r3, .int .i64 x5] 103 → R (.int .i64 x4) w22)) (∃ is1 x6, ∃ (v6 : Value), Sem.run E.P (Instr.typeAssert v3 118 124 true) w21 = Result.ok (.tuple #[.agg #[.int .i64 x6, v6], .bool is1]) w21 ∧ dB is1 (nB w21 fun id2 => Value.oneCell' v6 = true ∧ fL w21 [] fun w12 => id2 < w12.heap.size → hA w12 a #[.slice a1 n c1, Value.map r, Value.map r1, .int .i64 x] 103 → cI 81 #[.agg #[.int .i64 x6, v6], .pointer (some ⟨a, 0, none⟩), Av b0 b1 b2 b3 b3l b3c, .int .i64 c, .int .i64 d] w12 [id, id2] X fun x7 w24 => ∃ a3 n2, ∃ c3 r4, ∃ r5 x8, hA w24 a #[.slice a3 n2 c3, Value.map r4, Value.map r5, .int .i64 x8] 103 ∧ 4 = 4 ∧ (hA w24 a #[.slice a3 n2 c3, Value.map r4, Value.map r5, .int .i64 x8] 103 → R (.int .i64 x7) w24)) (X [PanicEntry.mk (Value.iface 98 (.agg #[])) false false] w21))
 ) : CallsX E.P 54 #[.pointer (some ⟨a, 0, none⟩), Av b0 b1 b2 b3 b3l b3c, .int .i64 c, .int .i64 d] w R X :=
  calls_vc E_ok ⟨[], []⟩ (f := 54) Tryz.func54 rfl [(.pointer (some ⟨a, 0, none⟩), .ptr 0 0), (Av b0 b1 b2 b3 b3l b3c, .no), (.int .i64 c, .no), (.int .i64 d, .no)] [⟨a, 103, false, [⟨.slice a0 a0l a0c, .no, 0⟩, ⟨.map a1, .no, 0⟩, ⟨.map a2, .no, 0⟩, ⟨.int .i64 a3, .no, 0⟩]⟩] (bls1 ha) nod1 (plain_of rfl) (shs_of ⟨rfl, trivial, trivial, trivial, trivial⟩) h (by kernel_rfl)
end Go.Vx.Tryz
namespace Go.Vx
open Go Go.MapKept
section
def bornOk (ps : List (Int × Value × Nat)) (clock : Nat) : Prop := (ps.map (·.2.2)).Nodup ∧ ∀ p ∈ ps, p.2.2 < clock
def MapG (w : World) (r : Nat) (f : Int → Option Value) : Prop :=
  ∃ (ps : List (Int × Value × Nat)) (clock : Nat), w.heap[r]? = some (.map (ps.map entOf).toArray clock) ∧ (∀ k i, (findP k ps i).map (·.2) = f k) ∧ bornOk ps clock
theorem MapG.toF {w : World} {r : Nat} {f : Int → Option Value} (h : MapG w r f) : MapF w r f := by
  obtain ⟨ps, c, h1, h2, _⟩ := h; exact ⟨ps, c, h1, h2⟩
theorem MapG.lt {w : World} {r : Nat} {f : Int → Option Value} (h : MapG w r f) : r < w.heap.size := h.toF.lt
theorem MapG.upd {w w' : World} {r : Nat} {f : Int → Option Value} {S : Nat → Prop} (h : MapG w r f) (k : Upd w w' S) (hs : ¬ S r) : MapG w' r f := by
  obtain ⟨ps, c, h1, h2, h3⟩ := h
  exact ⟨ps, c, by rw [k.keep r (lt_of_get h1) hs]; exact h1, h2, h3⟩
def MapE (w : World) (r : Nat) (f : Int → Option Value) (k : Int) (st : Nat) : Prop :=
  ∃ (ps : List (Int × Value × Nat)) (clock j : Nat) (v0 : Value) (p : Int × Value × Nat), w.heap[r]? = some (.map (ps.map entOf).toArray clock) ∧ bornOk ps clock ∧ ps[j]? = some p ∧ p.1 = k ∧ p.2.2 = st ∧
    findP k ps 0 = some (j, v0) ∧ ∀ k', k' ≠ k → ∀ i, (findP k' ps i).map (·.2) = f k'
theorem MapE.lt {w : World} {r : Nat} {f : Int → Option Value} {k : Int} {st : Nat} (h : MapE w r f k st) : r < w.heap.size := by
  obtain ⟨ps, c, j, v0, p, h1, _⟩ := h; exact lt_of_get h1
theorem MapE.upd {w w' : World} {r : Nat} {f : Int → Option Value} {k : Int} {st : Nat} {S : Nat → Prop} (h : MapE w r f k st) (u : Upd w w' S) (hs : ¬ S r) : MapE w' r f k st := by
  obtain ⟨ps, c, j, v0, p, h1, h2⟩ := h
  exact ⟨ps, c, j, v0, p, by rw [u.keep r (lt_of_get h1) hs]; exact h1, h2⟩
theorem modify_same {k : Int} : ∀ (ps : List (Int × Value × Nat)) (j : Nat) {p : Int × Value × Nat}, ps[j]? = some p → p.1 = k → ps.modify j (fun q => (k, q.2.1, q.2.2)) = ps
  | [], j, p, h, _ => by simp at h
  | q :: ps, 0, p, h, hk => by
    simp at h; subst h; subst hk; rfl
  | q :: ps, j + 1, p, h, hk => by
    simp only [List.modify_succ_cons]
    rw [modify_same ps j (by simpa using h) hk]
theorem map_modify_key {k : Int} : ∀ (ps : List (Int × Value × Nat)) (j : Nat), (ps.map entOf).modify j (fun e => { e with key := .int .i64 k }) = (ps.modify j fun p => (k, p.2.1, p.2.2)).map entOf
  | [], j => by simp
  | p :: ps, 0 => by simp [entOf]
  | p :: ps, j + 1 => by simp [map_modify_key ps j]
theorem map_modify_val {v : Value} : ∀ (ps : List (Int × Value × Nat)) (j : Nat), (ps.map entOf).modify j (fun e => { e with val := v }) = (ps.modify j fun p => (p.1, v, p.2.2)).map entOf
  | [], j => by simp
  | p :: ps, 0 => by simp [entOf]
  | p :: ps, j + 1 => by simp [map_modify_val ps j]
theorem modify_born {v : Value} : ∀ (ps : List (Int × Value × Nat)) (j : Nat), (ps.modify j fun p => (p.1, v, p.2.2)).map (·.2.2) = ps.map (·.2.2)
  | [], j => by simp
  | p :: ps, 0 => by simp
  | p :: ps, j + 1 => by simp [modify_born ps j]
theorem modify_val_key {k : Int} {v : Value} : ∀ (ps : List (Int × Value × Nat)) (j : Nat) {p : Int × Value × Nat}, ps[j]? = some p → p.1 = k → ps.modify j (fun q => (q.1, v, q.2.2)) = ps.modify j (fun q => (k, v, q.2.2))
  | [], j, p, h, _ => by simp at h
  | q :: ps, 0, p, h, hk => by
    simp at h; subst h; subst hk; rfl
  | q :: ps, j + 1, p, h, hk => by
    simp only [List.modify_succ_cons]
    rw [modify_val_key ps j (by simpa using h) hk]
theorem born_find {ps : List (Int × Value × Nat)} {j : Nat} {p : Int × Value × Nat} (hn : (ps.map (·.2.2)).Nodup) (hj : ps[j]? = some p) : (ps.map entOf).findIdx? (fun e => (e.born : Int) == (p.2.2 : Int)) = some j := by
  obtain ⟨hl, he⟩ := List.getElem?_eq_some_iff.1 hj
  rw [List.findIdx?_eq_some_iff_getElem]
  refine ⟨by simpa using hl, by simp [entOf, he], fun i hi => ?_⟩
  have hil : i < ps.length := by omega
  simp only [List.getElem_map, entOf, beq_iff_eq, Int.natCast_inj]
  intro h
  have := List.pairwise_iff_getElem.1 hn i j (by simpa using hil) (by simpa using hl) hi
  apply this
  simp [h, he]
theorem findP_last {k : Int} {v : Value} {c : Nat} : ∀ (ps : List (Int × Value × Nat)) (i : Nat), findP k ps i = none → findP k (ps ++ [(k, v, c)]) i = some (i + ps.length, v)
  | [], i, _ => by simp [findP]
  | p :: ps, i, h => by
    simp only [findP] at h
    split at h
    · cases h
    · rename_i hk
      have := findP_last (k := k) (v := v) (c := c) ps (i + 1) h
      simp only [List.cons_append, findP, hk, Bool.false_eq_true, if_false, this]
      simp; omega
section
variable {P : Program} {t kt et : Nat} {zv : Value} {w : World} {r : Nat} {f : Int → Option Value}
theorem MapG.entry (T : MapT P t kt et zv) (h : MapG w r f) (k : Int) :
    RunsTo P (Instr.mapEntry t (.map (some r)) (.int .i64 k)) w (fun v w' => ∃ (u : Value) (st : Nat), v = .tuple #[u, .int .i64 st] ∧ MapE w' r f k st ∧ Upd w w' (fun x => x = r) ∧ w'.heap.size = w.heap.size) := by
  obtain ⟨ps, c, h1, h2, h3⟩ := h
  have hlt := lt_of_get h1
  have up : ∀ o : Obj, Upd w { w with heap := w.heap.setIfInBounds r o } (fun x => x = r) := fun o => ⟨rfl, rfl, rfl, by simp, fun k hk hS => by simp [Array.getElem?_setIfInBounds_ne (fun e => hS e.symm)]⟩
  have hset : ∀ o : Obj, (setObj r o).run P w = .ok () { w with heap := w.heap.setIfInBounds r o } := fun o => run_setObj_map o h1
  cases hq : findP k ps 0 with
  | none =>
    refine ⟨_, { w with heap := w.heap.setIfInBounds r (.map ((ps.map entOf).toArray.push (entOf (k, zv, c))) (c + 1)) }, ?_, zv, c, rfl, ⟨ps ++ [(k, zv, c)], c + 1, ps.length, zv, (k, zv, c), ?_, ⟨?_, ?_⟩, by simp, rfl, rfl, ?_, fun k' hk' i => ?_⟩, up _, by simp⟩
    · simp only [Instr.mapEntry, Sem.run_bind, run_underlying T.ht, Result.andThen_ok, run_get_map h1, run_check T.hk, run_find T.hk, hq, T.hz]
      rw [show ({ key := .int .i64 k, val := zv, born := c } : MapEntry) = entOf (k, zv, c) from rfl, hset]
      rfl
    · simp [hlt]
    · rw [List.map_append, List.nodup_append]
      refine ⟨h3.1, by simp, fun a ha b hb => ?_⟩
      obtain ⟨p, hp, rfl⟩ := List.mem_map.1 ha
      simp at hb; subst hb
      have := h3.2 p hp
      omega
    · intro p hp
      rcases List.mem_append.1 hp with hp | hp
      · have := h3.2 p hp; omega
      · simp at hp; subst hp; simp
    · have := findP_last (k := k) (v := zv) (c := c) ps 0 hq
      simpa using this
    · have := findP_push k zv c k' ps 0 hq i
      rw [this, if_neg hk', h2]
  | some q =>
    obtain ⟨j, v0⟩ := q
    have hj : j < ps.length := findP_lt k ps 0 (by rw [Nat.zero_add]; exact hq)
    have hkk : k = ps[j].1 := findP_key k ps 0 (by simpa using hq) hj
    have hgj : ps[j]? = some ps[j] := List.getElem?_eq_getElem hj
    refine ⟨_, { w with heap := w.heap.setIfInBounds r (.map (ps.map entOf).toArray c) }, ?_, v0, ps[j].2.2, rfl, ⟨ps, c, j, v0, ps[j], by simp [hlt], h3, hgj, hkk.symm, rfl, hq, fun k' _ i => h2 k' i⟩, up _, by simp⟩
    simp only [Instr.mapEntry, Sem.run_bind, run_underlying T.ht, Result.andThen_ok, run_get_map h1, run_check T.hk, run_find T.hk, hq]
    have hge : (ps.map entOf).toArray[j]? = some (entOf ps[j]) := by
      rw [List.getElem?_toArray, List.getElem?_map, hgj]; rfl
    rw [hge]
    have hst : (Instr.keyThatStays (.int .i64 k) (.int .i64 k)).run P w = .ok (.int .i64 k) w := by
      have hsb : Instr.sameBits 10000 (.int .i64 k) (.int .i64 k) = true := by simp [Instr.sameBits]
      simp [Instr.keyThatStays, hsb]
    have hen : (((some (entOf ps[j])).map (fun e : MapEntry => e.key)).getD (.int .i64 k)) = .int .i64 k := by
      show Value.int .i64 ps[j].1 = _
      rw [← hkk]
    rw [hen, hst, Result.andThen_ok]
    have hmo : (ps.map entOf).toArray.modify j (fun e => { e with key := .int .i64 k }) = (ps.map entOf).toArray := by
      rw [List.modify_toArray, map_modify_key, modify_same ps j hgj hkk.symm]
    have hse := hset (.map (ps.map entOf).toArray c)
    have : (fun e : MapEntry => ({ key := .int .i64 k, val := e.val, born := e.born } : MapEntry)) = (fun e => { e with key := .int .i64 k }) := rfl
    rw [hmo, hse]
    rfl
theorem MapE.store {k : Int} {st : Nat} (h : MapE w r f k st) (v : Value) :
    RunsU P (Instr.entryStore t (.map (some r)) (.int .i64 st) v) w (fun w' => MapG w' r (fun k' => if k' = k then some v else f k') ∧ Upd w w' (fun x => x = r) ∧ w'.heap.size = w.heap.size) := by
  obtain ⟨ps, c, j, v0, p, h1, h3, hp, hk, hst, hq, h2⟩ := h
  have hlt := lt_of_get h1
  have hset : ∀ o : Obj, (setObj r o).run P w = .ok () { w with heap := w.heap.setIfInBounds r o } := fun o => run_setObj_map o h1
  refine ⟨{ w with heap := w.heap.setIfInBounds r (.map ((ps.modify j fun p => (p.1, v, p.2.2)).map entOf).toArray c) }, ?_, ⟨ps.modify j fun p => (p.1, v, p.2.2), c, by simp [hlt], fun k' i => ?_, ⟨by rw [modify_born]; exact h3.1, fun q hq2 => ?_⟩⟩,
    ⟨rfl, rfl, rfl, by simp, fun k hk hS => by simp [Array.getElem?_setIfInBounds_ne (fun e => hS e.symm)]⟩, by simp⟩
  · have hf : (ps.map entOf).toArray.findIdx? (fun e => (e.born : Int) == (st : Int)) = some j := by
      rw [← hst, List.findIdx?_toArray]; exact born_find h3.1 hp
    simp only [Instr.entryStore, Sem.run_bind, run_get_map h1, Result.andThen_ok, asInt, asIntOf, Sem.run_pure, hf]
    rw [List.modify_toArray, map_modify_val, hset]
  · rw [modify_val_key ps j hp hk, findP_set k v k' ps 0 j v0 (by rw [Nat.zero_add]; exact hq) i]
    by_cases hkk : k' = k
    · simp [hkk, hq]
    · simp [hkk, h2 k' hkk]
  · have : q.2.2 ∈ ps.map (·.2.2) := by rw [← modify_born (v := v) ps j]; exact List.mem_map_of_mem hq2
    obtain ⟨p', hp', e⟩ := List.mem_map.1 this
    rw [← e]; exact h3.2 p' hp'
end
end
section
open Go
def KidV (w : World) (F : Nat → Prop) : Option Nd → Option Value → Prop
  | none, v => v = none
  | some x, v => ∃ A l c, v = some (ndA x A l c) ∧ NdsR w F x.kids A l c
structure LMem (w : World) (b g h : Nat) (zs : List Int) (C : Option Addr) (cc : Nat) (ks : List (Option Nd)) (ts : List Int) : Prop where
  hc : IntsR w (Fw b g h) zs C zs.length cc
  hk : ∃ f, MapG w g f ∧ ∀ (i : Nat) (x : Option Nd), ks[i]? = some x → KidV w (Fw b g h) x (f i)
  ht : ∃ f, MapG w h f ∧ ∀ (i : Nat) (y : Nd), ks[i]? = some (some y) → f i = some (.int .i64 (ts.getD i 0))
  kl : ks.length = zs.length
  tl : ts.length = zs.length
  bg : b ≠ g
  bh : b ≠ h
  gh : g ≠ h
def lcells (zs : List Int) (C : Option Addr) (cc g h : Nat) (st : WS) : Array Value :=
  #[.slice C zs.length cc, .map (some g), .map (some h), .int .i64 st.parts]
def Lst (w : World) (b g h : Nat) (zs : List Int) (C : Option Addr) (cc : Nat) (st : WS) : Prop :=
  w.heap[b]? = some (.cells (lcells zs C cc g h st) 103 (0, 0)) ∧ LMem w b g h zs C cc st.ks st.ts
def unfitCh : List PanicEntry := [PanicEntry.mk (Value.iface 98 (.agg (#[]))) false false]
def LR (b g h : Nat) (zs : List Int) (C : Option Addr) (cc : Nat) (w : World) (r : Option (Int × WS)) : Value → World → Prop :=
  fun v w' => ∃ p, r = some p ∧ v = .int .i64 p.1 ∧ Lst w' b g h zs C cc p.2 ∧ Upd w w' (S3 b g h)
def LU (b g h : Nat) (zs : List Int) (C : Option Addr) (cc : Nat) (w : World) (r : Option WS) : Value → World → Prop :=
  fun v w' => ∃ p, r = some p ∧ v = .tuple #[] ∧ Lst w' b g h zs C cc p ∧ Upd w w' (S3 b g h)
def LX {α : Type} (b g h : Nat) (w : World) (r : Option α) : ContX := fun ch w' => r = none ∧ ch = unfitCh ∧ Upd w w' (S3 b g h)
section
variable {w w' : World} {b g h : Nat} {zs : List Int} {C : Option Addr} {cc : Nat} {ks : List (Option Nd)} {ts : List Int} {S : Nat → Prop} {st : WS}
theorem KidV.upd {x : Option Nd} {v : Option Value} {F : Nat → Prop} (q : KidV w F x v) (k : Upd w w' S) (hs : ∀ b, F b → b < w.heap.size → ¬ S b) : KidV w' F x v := by
  cases x with
  | none => exact q
  | some x => obtain ⟨A, l, c, e, hA⟩ := q; exact ⟨A, l, c, e, hA.upd' k hs⟩
theorem LMem.lt (m : LMem w b g h zs C cc ks ts) : g < w.heap.size ∧ h < w.heap.size := by
  obtain ⟨_, ⟨f, hf, _⟩, ⟨f2, hf2, _⟩, _⟩ := m
  exact ⟨hf.lt, hf2.lt⟩
theorem LMem.upd (m : LMem w b g h zs C cc ks ts) (k : Upd w w' S) (hs : ∀ x, S x → x = b ∨ w.heap.size ≤ x) : LMem w' b g h zs C cc ks ts := by
  have hF : ∀ x, Fw b g h x → x < w.heap.size → ¬ S x := fun x hx hlt hS => by
    rcases hs x hS with e | e
    · exact hx (.inl e)
    · omega
  obtain ⟨lg, lh⟩ := m.lt
  obtain ⟨h1, ⟨f, h2, h3⟩, ⟨f2, h4, h5⟩, h6, h7, h8, h9, h10⟩ := m
  refine ⟨RowIn.upd' h1 k hF, ⟨f, h2.upd k fun hS => ?_, fun i x hx => (h3 i x hx).upd k hF⟩, ⟨f2, h4.upd k fun hS => ?_, h5⟩, h6, h7, h8, h9, h10⟩
  · rcases hs g hS with e | e
    · exact h8 e.symm
    · omega
  · rcases hs h hS with e | e
    · exact h9 e.symm
    · omega
theorem Lst.lt (q : Lst w b g h zs C cc st) : b < w.heap.size ∧ g < w.heap.size ∧ h < w.heap.size := ⟨lt_of_get q.1, q.2.lt⟩
theorem LMem.ext (m : LMem w b g h zs C cc ks ts) (k : Ext w w') : LMem w' b g h zs C cc ks ts := m.upd k (fun _ h => h.elim)
theorem Lst.ext (q : Lst w b g h zs C cc st) (k : Ext w w') : Lst w' b g h zs C cc st :=
  ⟨by rw [k.keep b (lt_of_get q.1) (fun h => h)]; exact q.1, q.2.ext k⟩
end
section
variable {P : Program} {f : Nat} {args : Array Value} {w0 w : World} {ids : List Nat} {b g h : Nat} {zs : List Int} {C : Option Addr} {cc : Nat}
theorem callL {α : Type} {r : Option (Int × WS)} {rc : Option α} (hc : CallsX P f args w (LR b g h zs C cc w r) (LX b g h w r)) (h0 : Upd w0 w (S3 b g h)) (haw : Away ids (S3 b g h)) (hn : r = none → rc = none)
    {K : Int → Option Addr → Nat → Nat → Option Nat → Option Nat → Int → World → Prop}
    (k : ∀ x st w2, r = some (x, st) → Lst w2 b g h zs C cc st → Upd w w2 (S3 b g h) → K x C zs.length cc (some g) (some h) st.parts w2) :
    ∃ (R : Value → World → Prop) (X' : ContX), CallsX P f args w R X' ∧ (∀ v w2, R v w2 → ∃ y, v = .int .i64 y ∧ ∃ S, Upd w w2 S ∧ Away ids S ∧ ∃ a1 n c1 r1 r2, ∃ x, w2.heap[b]? = some (Obj.cells #[.slice a1 n c1, .map r1, .map r2, .int .i64 x] 103) ∧ 4 = 4 ∧ K y a1 n c1 r1 r2 x w2) ∧ ∀ ch w2, X' ch w2 → LX b g h w0 rc ch w2 :=
  ⟨_, _, hc, fun _ w2 ⟨p, hp, hv, hw, hU⟩ => ⟨p.1, hv, _, hU, haw, _, _, _, _, _, _, hw.1, rfl, k p.1 p.2 w2 hp hw hU⟩, fun _ _ ⟨e, hch, hU⟩ => ⟨hn e, hch, h0.t3 hU⟩⟩
theorem callLU {α : Type} {r : Option WS} {rc : Option α} (hc : CallsX P f args w (LU b g h zs C cc w r) (LX b g h w r)) (h0 : Upd w0 w (S3 b g h)) (haw : Away ids (S3 b g h)) (hn : r = none → rc = none)
    {K : Option Addr → Nat → Nat → Option Nat → Option Nat → Int → World → Prop}
    (k : ∀ st w2, r = some st → Lst w2 b g h zs C cc st → Upd w w2 (S3 b g h) → K C zs.length cc (some g) (some h) st.parts w2) :
    ∃ (R : Value → World → Prop) (X' : ContX), CallsX P f args w R X' ∧ (∀ v w2, R v w2 → ∃ y : Value, v = y ∧ ∃ S, Upd w w2 S ∧ Away ids S ∧ ∃ a1 n c1 r1 r2, ∃ x, w2.heap[b]? = some (Obj.cells #[.slice a1 n c1, .map r1, .map r2, .int .i64 x] 103) ∧ 4 = 4 ∧ K a1 n c1 r1 r2 x w2) ∧ ∀ ch w2, X' ch w2 → LX b g h w0 rc ch w2 :=
  ⟨_, _, hc, fun v w2 ⟨p, hp, hv, hw, hU⟩ => ⟨v, rfl, _, hU, haw, _, _, _, _, _, _, hw.1, rfl, k p w2 hp hw hU⟩, fun _ _ ⟨e, hch, hU⟩ => ⟨hn e, hch, h0.t3 hU⟩⟩
end
end
end Go.Vx
namespace Go.Vx.Tryz
open Go Go.Vx Go.Proofs
set_option maxRecDepth 100000
variable {w : World} {R : Value → World → Prop} {X : ContX}
theorem vc76 {a : Option Addr} {al ac : Nat}   (h : 
 cI 77 #[.slice a al ac, Value.func (Fn.func 52) #[] #[]] w [] X fun x w2 => R (.bool (decide (x ≥ 0))) w2
 ) : CallsX E.P 51 #[.slice a al ac, .func (.func 52) #[] #[]] w R X :=
  calls_vc E_ok ⟨[], []⟩ (f := 51) Tryz.func51 rfl [(.slice a al ac, .no), (.func (.func 52) #[] #[], .no)] [] (bls0) nod0 (plain_of rfl) (shs_of ⟨trivial, trivial, trivial⟩) h (by kernel_rfl)
theorem vc108 {a : Option Addr} {al ac : Nat}   (h : 
 ∃ (I : Int → World → Prop), ∃ (m : Int → Nat), I 0 w ∧ ∀ (jk : Nat → Value) (x : Int) (w2 : World), I x w2 → dB (decide (x < (↑al : Int))) (iX x al a fun ad => lI w2 (Addr.add ad (Int.toNat x * 1)) fun x1 => cB 52 #[.int .i64 x1] w2 [] X fun x2 w21 => dB x2 (R (.int .i64 x) w21) (I (w64 (x + 1)) w21 ∧ m (w64 (x + 1)) < m x)) (R (.int .i64 (-1)) w2)
 ) : CallsX E.P 77 #[.slice a al ac, .func (.func 52) #[] #[]] w R X :=
  calls_vc E_ok ⟨[(2, ⟨[(8, .int .i64)], []⟩)], []⟩ (f := 77) Tryz.func77 rfl [(.slice a al ac, .no), (.func (.func 52) #[] #[], .no)] [] (bls0) nod0 (plain_of rfl) (shs_of ⟨trivial, trivial, trivial⟩) h (by kernel_rfl)
theorem vc77 {a : Int}  (h : 
 dB (decide (a < 0)) (R (.bool true) w) (R (.bool (decide (a > 4))) w)
 ) : CallsX E.P 52 #[.int .i64 a] w R X :=
  calls_vc E_ok ⟨[], []⟩ (f := 52) Tryz.func52 rfl [(.int .i64 a, .no)] [] (bls0) nod0 (plain_of rfl) (shs_of ⟨trivial, trivial⟩) h (by kernel_rfl)
theorem vc109 {a : Nat} {a0 : Option Addr} {a0l a0c : Nat} {a1 a2 : Option Nat} {a3 : Int} {b : Bool} (ha : w.heap[a]? = some (.cells #[.slice a0 a0l a0c, .map a1, .map a2, .int .i64 a3] 103 (0, 0))) (h : 
 dB (!b) (X [PanicEntry.mk (Value.iface 98 (.agg #[])) false false] w) (hA w a #[.slice a0 a0l a0c, Value.map a1, Value.map a2, .int .i64 a3] 103 → R (.tuple #[]) w)
 ) : CallsX E.P 78 #[.pointer (some ⟨a, 0, none⟩), .bool b] w R X :=
  calls_vc E_ok ⟨[], []⟩ (f := 78) Tryz.func78 rfl [(.pointer (some ⟨a, 0, none⟩), .ptr 0 0), (.bool b, .no)] [⟨a, 103, false, [⟨.slice a0 a0l a0c, .no, 0⟩, ⟨.map a1, .no, 0⟩, ⟨.map a2, .no, 0⟩, ⟨.int .i64 a3, .no, 0⟩]⟩] (bls1 ha) nod1 (plain_of rfl) (shs_of ⟨rfl, trivial, trivial⟩) h (by kernel_rfl)
theorem vc110 {a0 a1 : Int} {a2 : ByteArray} {a3 : Option Addr} {a3l a3c : Nat} {b : Int}  (h : 
 nB w fun id => nB w fun id1 => dB (a0 == 1) (fL w [] fun w1 => id < w1.heap.size → id1 < w1.heap.size → hA w1 id1 #[.int .i64 b] 3 → R (Value.iface 121 (.agg #[.int .i64 0, .int .i64 0, .int .i64 1, Value.func (Fn.func 95) #[] #[]])) w1) (dB (a0 == 2) (fL w [] fun w11 => id < w11.heap.size → id1 < w11.heap.size → hA w11 id1 #[.int .i64 b] 3 → R (Value.iface 121 (.agg #[.int .i64 0, .int .i64 0, .int .i64 2, Value.func (Fn.func 96) #[] #[]])) w11) (dB (a0 == 3) (fL w [] fun w12 => id < w12.heap.size → id1 < w12.heap.size → hA w12 id1 #[.int .i64 b] 3 → R (Value.iface 121 (.agg #[.int .i64 0, .int .i64 0, .int .i64 3, Value.func (Fn.func 97) #[] #[]])) w12) (dB (a0 == 5) (fL w [] fun w13 => id < w13.heap.size → id1 < w13.heap.size → hA w13 id1 #[.int .i64 b] 3 → R (Value.iface 121 (.agg #[.int .i64 0, .int .i64 0, .int .i64 3, Value.func (Fn.func 98) #[] #[.pointer (some ⟨id1, 0, none⟩)]])) w13) (dB (a0 == 6) (fL w [] fun w14 => id < w14.heap.size → id1 < w14.heap.size → hA w14 id1 #[.int .i64 b] 3 → R (Value.iface 121 (.agg #[.int .i64 1, .int .i64 1, .int .i64 1, Value.func (Fn.func 99) #[] #[]])) w14) (dB (a0 == 7) (fL w [] fun w15 => id < w15.heap.size → id1 < w15.heap.size → hA w15 id1 #[.int .i64 b] 3 → R (Value.iface 121 (.agg #[.int .i64 1, .int .i64 2, .int .i64 2, Value.func (Fn.func 99) #[] #[]])) w15) (dB (a0 == 8) (fL w [] fun w16 => id < w16.heap.size → id1 < w16.heap.size → hA w16 id1 #[.int .i64 b] 3 → R (Value.iface 121 (.agg #[.int .i64 2, .int .i64 1, .int .i64 1, Value.func (Fn.func 99) #[] #[]])) w16) (dB (a0 == 9) (fL w [] fun w17 => id < w17.heap.size → id1 < w17.heap.size → hA w17 id1 #[.int .i64 b] 3 → R (Value.iface 121 (.agg #[.int .i64 2, .int .i64 1, .int .i64 1, Value.func (Fn.func 99) #[] #[]])) w17) (dB (a0 == 10) (fL w [] fun w18 => id < w18.heap.size → id1 < w18.heap.size → hA w18 id1 #[.int .i64 b] 3 → R (Value.iface 121 (.agg #[.int .i64 2, .int .i64 1, .int .i64 1, Value.func (Fn.func 99) #[] #[]])) w18) (dB (a0 == 11) (fL w [] fun w19 => id < w19.heap.size → id1 < w19.heap.size → hA w19 id1 #[.int .i64 b] 3 → R (Value.iface 121 (.agg #[.int .i64 2, .int .i64 1, .int .i64 1, Value.func (Fn.func 99) #[] #[]])) w19) (dB (a0 == 12) (fL w [] fun w110 => id < w110.heap.size → id1 < w110.heap.size → hA w110 id1 #[.int .i64 b] 3 → R (Value.iface 121 (.agg #[.int .i64 2, .int .i64 1, .int .i64 1, Value.func (Fn.func 99) #[] #[]])) w110) (dB (a0 == 15) (fL w [] fun w111 => id < w111.heap.size → id1 < w111.heap.size → hA w111 id1 #[.int .i64 b] 3 → R (Value.iface 121 (.agg #[.int .i64 2, .int .i64 1, .int .i64 2, Value.func (Fn.func 99) #[] #[]])) w111) (dB (a0 == 16) (fL w [] fun w112 => id < w112.heap.size → id1 < w112.heap.size → hA w112 id1 #[.int .i64 b] 3 → R (Value.iface 121 (.agg #[.int .i64 2, .int .i64 1, .int .i64 2, Value.func (Fn.func 99) #[] #[]])) w112) (dB (a0 == 17) (fL w [] fun w113 => id < w113.heap.size → id1 < w113.heap.size → hA w113 id1 #[.int .i64 b] 3 → R (Value.iface 121 (.agg #[.int .i64 2, .int .i64 2, .int .i64 2, Value.func (Fn.func 99) #[] #[]])) w113) (dB (a0 == 18) (fL w [] fun w114 => id < w114.heap.size → id1 < w114.heap.size → hA w114 id1 #[.int .i64 b] 3 → R (Value.iface 121 (.agg #[.int .i64 2, .int .i64 2, .int .i64 2, Value.func (Fn.func 99) #[] #[]])) w114) (dB (a0 == 13) (fL w [] fun w115 => id < w115.heap.size → id1 < w115.heap.size → hA w115 id1 #[.int .i64 b] 3 → R (Value.iface 124 (.agg #[.int .i64 2, Value.func (Fn.func 100) #[] #[]])) w115) (dB (a0 == 14) (fL w [] fun w116 => id < w116.heap.size → id1 < w116.heap.size → hA w116 id1 #[.int .i64 b] 3 → R (Value.iface 124 (.agg #[.int .i64 2, Value.func (Fn.func 100) #[] #[]])) w116) (dB (a0 == 19) (fL w [] fun w117 => id < w117.heap.size → id1 < w117.heap.size → hA w117 id1 #[.int .i64 b] 3 → R (Value.iface 124 (.agg #[.int .i64 3, Value.func (Fn.func 101) #[] #[]])) w117) (dB (a0 == 20) (dB (a1 == 1) (fL w [] fun w118 => id < w118.heap.size → id1 < w118.heap.size → hA w118 id1 #[.int .i64 b] 3 → R (Value.iface 121 (.agg #[.int .i64 2, .int .i64 3, .int .i64 2, Value.func (Fn.func 95) #[] #[]])) w118) (dB (a1 == 2) (fL w [] fun w119 => id < w119.heap.size → id1 < w119.heap.size → hA w119 id1 #[.int .i64 b] 3 → R (Value.iface 121 (.agg #[.int .i64 2, .int .i64 3, .int .i64 2, Value.func (Fn.func 95) #[] #[]])) w119) (dB (a1 == 3) (fL w [] fun w120 => id < w120.heap.size → id1 < w120.heap.size → hA w120 id1 #[.int .i64 b] 3 → R (Value.iface 121 (.agg #[.int .i64 2, .int .i64 3, .int .i64 1, Value.func (Fn.func 95) #[] #[]])) w120) (dB (a1 == 10) (fL w [] fun w121 => id < w121.heap.size → id1 < w121.heap.size → hA w121 id1 #[.int .i64 b] 3 → R (Value.iface 121 (.agg #[.int .i64 1, .int .i64 3, .int .i64 3, Value.func (Fn.func 95) #[] #[]])) w121) (fL w [] fun w122 => id < w122.heap.size → id1 < w122.heap.size → hA w122 id1 #[.int .i64 b] 3 → R (Value.iface 121 (.agg #[.int .i64 1, .int .i64 3, .int .i64 1, Value.func (Fn.func 102) #[] #[]])) w122))))) (dB (a0 == 21) (fL w [] fun w123 => id < w123.heap.size → id1 < w123.heap.size → hA w123 id1 #[.int .i64 b] 3 → R (Value.iface 124 (.agg #[.int .i64 2, Value.func (Fn.func 103) #[] #[]])) w123) (dB (a0 == 26) (fL w [] fun w124 => id < w124.heap.size → id1 < w124.heap.size → hA w124 id1 #[.int .i64 b] 3 → R (Value.iface 124 (.agg #[.int .i64 1, Value.func (Fn.func 104) #[] #[]])) w124) (fL w [] fun w125 => id < w125.heap.size → id1 < w125.heap.size → hA w125 id1 #[.int .i64 b] 3 → R Value.nilIface w125)))))))))))))))))))))
 ) : CallsX E.P 79 #[Av a0 a1 a2 a3 a3l a3c, .int .i64 b] w R X :=
  calls_vc E_ok ⟨[(400001, ⟨[], []⟩)], []⟩ (f := 79) Tryz.func79 rfl [(Av a0 a1 a2 a3 a3l a3c, .no), (.int .i64 b, .no)] [] (bls0) nod0 (plain_of rfl) (shs_of ⟨trivial, trivial, trivial⟩) h (by kernel_rfl)
theorem vc137 {a : Nat} {a0 : Option Addr} {a0l a0c : Nat} {a1 a2 : Option Nat} {a3 b0 b1 : Int} {b2 : ByteArray} {b3 : Option Addr} {b3l b3c : Nat} {c d e : Int} (ha : w.heap[a]? = some (.cells #[.slice a0 a0l a0c, .map a1, .map a2, .int .i64 a3] 103 (0, 0))) (h : 
 nB w fun id => fL w [] fun w1 => id < w1.heap.size → hA w1 a #[.slice a0 a0l a0c, Value.map a1, Value.map a2, .int .i64 a3] 103 → cI 54 #[.pointer (some ⟨a, 0, none⟩), Av b0 b1 b2 b3 b3l b3c, .int .i64 d, .int .i64 e] w1 [id] X fun x w2 => ∃ a1 n, ∃ c1 r, ∃ r1 x1, hA w2 a #[.slice a1 n c1, Value.map r, Value.map r1, .int .i64 x1] 103 ∧ 4 = 4 ∧ (hA w2 a #[.slice a1 n c1, Value.map r, Value.map r1, .int .i64 x1] 103 → cU 78 #[.pointer (some ⟨a, 0, none⟩), .bool (x == c)] w2 [id] X fun v2 w21 => ∃ a2 n1, ∃ c2 r2, ∃ r3 x2, hA w21 a #[.slice a2 n1 c2, Value.map r2, Value.map r3, .int .i64 x2] 103 ∧ 4 = 4 ∧ (hA w21 a #[.slice a2 n1 c2, Value.map r2, Value.map r3, .int .i64 x2] 103 → R (.tuple #[]) w21))
 ) : CallsX E.P 105 #[.pointer (some ⟨a, 0, none⟩), Av b0 b1 b2 b3 b3l b3c, .int .i64 c, .int .i64 d, .int .i64 e] w R X :=
  calls_vc E_ok ⟨[], []⟩ (f := 105) Tryz.func105 rfl [(.pointer (some ⟨a, 0, none⟩), .ptr 0 0), (Av b0 b1 b2 b3 b3l b3c, .no), (.int .i64 c, .no), (.int .i64 d, .no), (.int .i64 e, .no)] [⟨a, 103, false, [⟨.slice a0 a0l a0c, .no, 0⟩, ⟨.map a1, .no, 0⟩, ⟨.map a2, .no, 0⟩, ⟨.int .i64 a3, .no, 0⟩]⟩] (bls1 ha) nod1 (plain_of rfl) (shs_of ⟨rfl, trivial, trivial, trivial, trivial, trivial⟩) h (by kernel_rfl)
theorem vc149 {a : Nat} {a0 : Option Addr} {a0l a0c : Nat} {a1 a2 : Option Nat} {a3 b0 b1 : Int} {b2 : ByteArray} {b3 : Option Addr} {b3l b3c : Nat} {c d : Int} (ha : w.heap[a]? = some (.cells #[.slice a0 a0l a0c, .map a1, .map a2, .int .i64 a3] 103 (0, 0))) (h : 
 nB w fun id => ∃ (I : Option Addr → Nat → Nat → Option Nat → Option Nat → Int → World → Prop), dB (decide (w64 (a3 + 1) ≤ 4096)) (fL w [a] fun w1 => id < w1.heap.size → hA w1 a #[.slice a0 a0l a0c, Value.map a1, Value.map a2, .int .i64 (w64 (a3 + 1))] 103 → cU 78 #[.pointer (some ⟨a, 0, none⟩), .bool (b1 == 0)] w1 [id] X fun v1 w2 => ∃ a1 n, ∃ c1 r, ∃ r1 x, hA w2 a #[.slice a1 n c1, Value.map r, Value.map r1, .int .i64 x] 103 ∧ 4 = 4 ∧ I a1 n c1 r r1 x w2) (fL w [a] fun w11 => id < w11.heap.size → hA w11 a #[.slice a0 a0l a0c, Value.map a1, Value.map a2, .int .i64 (w64 (a3 + 1))] 103 → cU 78 #[.pointer (some ⟨a, 0, none⟩), .bool false] w11 [id] X fun v3 w22 => ∃ a2 n1, ∃ c2 r2, ∃ r3 x1, hA w22 a #[.slice a2 n1 c2, Value.map r2, Value.map r3, .int .i64 x1] 103 ∧ 4 = 4 ∧ I a2 n1 c2 r2 r3 x1 w22) ∧ ∀ (jk : Nat → Value) (a3 : Option Addr) (n2 c3 : Nat) (r4 r5 : Option Nat) (x2 : Int) (w24 : World), I a3 n2 c3 r4 r5 x2 w24 → ∃ (I1 : Option Addr → Nat → Nat → Option Nat → Option Nat → Int → World → Prop), dB (b0 == 23) (cB 127 #[.string b2] w24 [a, id] X fun x3 w25 => dB x3 (hA w25 a #[.slice a3 n2 c3, Value.map r4, Value.map r5, .int .i64 x2] 103 → cU 78 #[.pointer (some ⟨a, 0, none⟩), .bool ((↑b3l : Int) == 0)] w25 [id] X fun v6 w26 => ∃ a4 n3, ∃ c4 r6, ∃ r7 x4, hA w26 a #[.slice a4 n3 c4, Value.map r6, Value.map r7, .int .i64 x4] 103 ∧ 4 = 4 ∧ (hA w26 a #[.slice a4 n3 c4, Value.map r6, Value.map r7, .int .i64 x4] 103 → R (.tuple #[]) w26)) (hA w25 a #[.slice a3 n2 c3, Value.map r4, Value.map r5, .int .i64 x2] 103 → cU 78 #[.pointer (some ⟨a, 0, none⟩), .bool false] w25 [id] X fun v8 w28 => ∃ a5 n4, ∃ c5 r8, ∃ r9 x5, hA w28 a #[.slice a5 n4 c5, Value.map r8, Value.map r9, .int .i64 x5] 103 ∧ 4 = 4 ∧ (hA w28 a #[.slice a5 n4 c5, Value.map r8, Value.map r9, .int .i64 x5] 103 → R (.tuple #[]) w28))) (dB (b0 == 22) (hA w24 a #[.slice a3 n2 c3, Value.map r4, Value.map r5, .int .i64 x2] 103 → cU 78 #[.pointer (some ⟨a, 0, none⟩), .bool ((↑b3l : Int) == 0)] w24 [id] X fun v10 w211 => ∃ a6 n5, ∃ c6 r10, ∃ r11 x6, hA w211 a #[.slice a6 n5 c6, Value.map r10, Value.map r11, .int .i64 x6] 103 ∧ 4 = 4 ∧ I1 a6 n5 c6 r10 r11 x6 w211) (dB (b0 == 24) (hA w24 a #[.slice a3 n2 c3, Value.map r4, Value.map r5, .int .i64 x2] 103 → cU 78 #[.pointer (some ⟨a, 0, none⟩), .bool ((↑b3l : Int) == 1)] w24 [id] X fun v12 w213 => ∃ a7 n6, ∃ c7 r12, ∃ r13 x7, hA w213 a #[.slice a7 n6 c7, Value.map r12, Value.map r13, .int .i64 x7] 103 ∧ 4 = 4 ∧ I1 a7 n6 c7 r12 r13 x7 w213) (dB (b0 == 25) (I1 a3 n2 c3 r4 r5 x2 w24) (hA w24 a #[.slice a3 n2 c3, Value.map r4, Value.map r5, .int .i64 x2] 103 → cU 78 #[.pointer (some ⟨a, 0, none⟩), .bool false] w24 [id] X fun v14 w215 => ∃ a8 n7, ∃ c8 r14, ∃ r15 x8, hA w215 a #[.slice a8 n7 c8, Value.map r14, Value.map r15, .int .i64 x8] 103 ∧ 4 = 4 ∧ I1 a8 n7 c8 r14 r15 x8 w215)))) ∧ ∀ (jk1 : Nat → Value) (a9 : Option Addr) (n8 c9 : Nat) (r16 r17 : Option Nat) (x9 : Int) (w217 : World), I1 a9 n8 c9 r16 r17 x9 w217 → hA w217 a #[.slice a9 n8 c9, Value.map r16, Value.map r17, .int .i64 x9] 103 → cU 78 #[.pointer (some ⟨a, 0, none⟩), .bool (strEq b2 (ByteArray.mk #[]))] w217 [id] X fun v16 w218 => ∃ a10 n9, ∃ c10 r18, ∃ r19 x10, hA w218 a #[.slice a10 n9 c10, Value.map r18, Value.map r19, .int .i64 x10] 103 ∧ 4 = 4 ∧ ∃ (I2 : Int → Option Addr → Nat → Nat → Option Nat → Option Nat → Int → World → Prop), ∃ (m : Int → Option Addr → Nat → Nat → Option Nat → Option Nat → Int → Nat), I2 0 a10 n9 c10 r18 r19 x10 w218 ∧ ∀ (jk2 : Nat → Value) (x11 : Int) (a11 : Option Addr) (n10 c11 : Nat) (r20 r21 : Option Nat) (x12 : Int) (w219 : World), I2 x11 a11 n10 c11 r20 r21 x12 w219 → dB (decide (x11 < (↑b3l : Int))) (iX x11 b3l b3 fun ad => lA w219 (Addr.add ad (Int.toNat x11 * 4)) fun x13 x14 x15 a12 n11 c12 => nB w219 fun id1 => fL w219 [] fun w12 => id1 < w12.heap.size → hA w12 a #[.slice a11 n10 c11, Value.map r20, Value.map r21, .int .i64 x12] 103 → cU 105 #[.pointer (some ⟨a, 0, none⟩), Av x13 x14 x15 a12 n11 c12, .int .i64 3, .int .i64 c, .int .i64 d] w12 [id, id1] X fun v18 w220 => ∃ a13 n12, ∃ c13 r22, ∃ r23 x16, hA w220 a #[.slice a13 n12 c13, Value.map r22, Value.map r23, .int .i64 x16] 103 ∧ 4 = 4 ∧ I2 (w64 (x11 + 1)) a13 n12 c13 r22 r23 x16 w220 ∧ m (w64 (x11 + 1)) a13 n12 c13 r22 r23 x16 < m x11 a11 n10 c11 r20 r21 x12) (hA w219 a #[.slice a11 n10 c11, Value.map r20, Value.map r21, .int .i64 x12] 103 → R (.tuple #[]) w219)
 ) : CallsX E.P 119 #[.pointer (some ⟨a, 0, none⟩), Av b0 b1 b2 b3 b3l b3c, .int .i64 c, .int .i64 d] w R X :=
  calls_vc E_ok ⟨[(14, ⟨[(72, .int .i64)], [(0, 0, .slc), (0, 1, .map), (0, 2, .map), (0, 3, .int .i64)]⟩)], [(3, ⟨[], [(0, 0, .slc), (0, 1, .map), (0, 2, .map), (0, 3, .int .i64)]⟩), (12, ⟨[], [(0, 0, .slc), (0, 1, .map), (0, 2, .map), (0, 3, .int .i64)]⟩)]⟩ (f := 119) Tryz.func119 rfl [(.pointer (some ⟨a, 0, none⟩), .ptr 0 0), (Av b0 b1 b2 b3 b3l b3c, .no), (.int .i64 c, .no), (.int .i64 d, .no)] [⟨a, 103, false, [⟨.slice a0 a0l a0c, .no, 0⟩, ⟨.map a1, .no, 0⟩, ⟨.map a2, .no, 0⟩, ⟨.int .i64 a3, .no, 0⟩]⟩] (bls1 ha) nod1 (plain_of rfl) (shs_of ⟨rfl, trivial, trivial, trivial, trivial⟩) h (by kernel_rfl)
theorem vc156 {a : ByteArray}  (h : 
 ∃ R1, RunsTo E.P (Instr.range 9 (.string a)) w R1 ∧ ∀ v w2, R1 v w2 → ∃ (v1 : Value), v = v1 ∧ ∃ S, Upd w w2 S ∧ Away [] S ∧ ∃ (I : Nat → World → Prop), ∃ n0, I n0 w2 ∧ ∀ (n : Nat) (jk : Nat → Value) (w21 : World), I n w21 → ∃ R2, RunsTo E.P (Instr.next v1 true 0) w21 R2 ∧ ∀ v2 w22, R2 v2 w22 → ∃ S1, Upd w21 w22 S1 ∧ Away [] S1 ∧ (v2 = .tuple #[.bool false] ∧ (false = true → False) ∧ (false = false → (decide ((↑(ByteArray.size a) : Int) ≥ 1) = true → (decide ((↑(ByteArray.size a) : Int) ≤ 12) = true → ∃ R3 X', CallsX E.P 133 #[.string a] w22 R3 X' ∧ (∀ v3 w23, R3 v3 w23 → ∃ x, v3 = .bool x ∧ ∃ S2, Upd w22 w23 S2 ∧ Away [] S2 ∧ R (.bool !x) w23) ∧ PX X' X) ∧ (decide ((↑(ByteArray.size a) : Int) ≤ 12) = false → R (.bool false) w22)) ∧ (decide ((↑(ByteArray.size a) : Int) ≥ 1) = false → R (.bool false) w22)) ∨ ∃ i r, v2 = .tuple #[.bool true, .int .i64 i, Value.int IntKind.i32 r] ∧ (true = true → ∃ R4 X'1, CallsX E.P 132 #[Value.int IntKind.i32 r] w22 R4 X'1 ∧ (∀ v4 w25, R4 v4 w25 → ∃ x1, v4 = .int .i64 x1 ∧ ∃ S3, Upd w22 w25 S3 ∧ Away [] S3 ∧ ((x1 != 3) = true → ((i == 0) = true → R (.bool false) w25) ∧ ((i == 0) = false → ((x1 != 2) = true → ((x1 != 5) = true → R (.bool false) w25) ∧ ((x1 != 5) = false → ∃ n2, I n2 w25 ∧ n2 < n)) ∧ ((x1 != 2) = false → ∃ n21, I n21 w25 ∧ n21 < n))) ∧ ((x1 != 3) = false → ∃ n22, I n22 w25 ∧ n22 < n)) ∧ PX X'1 X) ∧ (true = false → (decide ((↑(ByteArray.size a) : Int) ≥ 1) = true → (decide ((↑(ByteArray.size a) : Int) ≤ 12) = true → ∃ R5 X'2, CallsX E.P 133 #[.string a] w22 R5 X'2 ∧ (∀ v5 w27, R5 v5 w27 → ∃ x2, v5 = .bool x2 ∧ ∃ S4, Upd w22 w27 S4 ∧ Away [] S4 ∧ R (.bool !x2) w27) ∧ PX X'2 X) ∧ (decide ((↑(ByteArray.size a) : Int) ≤ 12) = false → R (.bool false) w22)) ∧ (decide ((↑(ByteArray.size a) : Int) ≥ 1) = false → R (.bool false) w22)))
 ) : CallsX E.P 127 #[.string a] w R X :=
  calls_vc E_ok ⟨[(2, ⟨[], []⟩), (200002, ⟨[], []⟩)], []⟩ (f := 127) Tryz.func127 rfl [(.string a, .no)] [] (bls0) nod0 (plain_of rfl) (shs_of ⟨trivial, trivial⟩) h (by kernel_rfl)
theorem vc158 {a : Int}  (h : 
 dB (decide (a ≥ 48)) (dB (decide (a ≤ 57)) (R (.int .i64 2) w) (dB (decide (a ≥ 97)) (dB (decide (a ≤ 122)) (R (.int .i64 3) w) (dB (decide (a ≥ 65)) (dB (decide (a ≤ 90)) (R (.int .i64 4) w) (dB (a == 95) (R (.int .i64 5) w) (dB (a == 32) (R (.int .i64 1) w) (dB (a == 9) (R (.int .i64 1) w) (dB (a == 10) (R (.int .i64 1) w) (dB (a == 13) (R (.int .i64 1) w) (dB (decide (a < 128)) (cB 139 #[.string (ByteArray.mk #[40, 41, 123, 125, 44, 58, 64, 43, 45, 42, 47, 37, 61, 60, 33]), Value.int IntKind.i32 a] w [] X fun x w2 => dB x (R (.int .i64 6) w2) (R (.int .i64 0) w2)) (R (.int .i64 0) w)))))))) (dB (a == 95) (R (.int .i64 5) w) (dB (a == 32) (R (.int .i64 1) w) (dB (a == 9) (R (.int .i64 1) w) (dB (a == 10) (R (.int .i64 1) w) (dB (a == 13) (R (.int .i64 1) w) (dB (decide (a < 128)) (cB 139 #[.string (ByteArray.mk #[40, 41, 123, 125, 44, 58, 64, 43, 45, 42, 47, 37, 61, 60, 33]), Value.int IntKind.i32 a] w [] X fun x1 w22 => dB x1 (R (.int .i64 6) w22) (R (.int .i64 0) w22)) (R (.int .i64 0) w))))))))) (dB (decide (a ≥ 65)) (dB (decide (a ≤ 90)) (R (.int .i64 4) w) (dB (a == 95) (R (.int .i64 5) w) (dB (a == 32) (R (.int .i64 1) w) (dB (a == 9) (R (.int .i64 1) w) (dB (a == 10) (R (.int .i64 1) w) (dB (a == 13) (R (.int .i64 1) w) (dB (decide (a < 128)) (cB 139 #[.string (ByteArray.mk #[40, 41, 123, 125, 44, 58, 64, 43, 45, 42, 47, 37, 61, 60, 33]), Value.int IntKind.i32 a] w [] X fun x2 w24 => dB x2 (R (.int .i64 6) w24) (R (.int .i64 0) w24)) (R (.int .i64 0) w)))))))) (dB (a == 95) (R (.int .i64 5) w) (dB (a == 32) (R (.int .i64 1) w) (dB (a == 9) (R (.int .i64 1) w) (dB (a == 10) (R (.int .i64 1) w) (dB (a == 13) (R (.int .i64 1) w) (dB (decide (a < 128)) (cB 139 #[.string (ByteArray.mk #[40, 41, 123, 125, 44, 58, 64, 43, 45, 42, 47, 37, 61, 60, 33]), Value.int IntKind.i32 a] w [] X fun x3 w26 => dB x3 (R (.int .i64 6) w26) (R (.int .i64 0) w26)) (R (.int .i64 0) w)))))))))) (dB (decide (a ≥ 97)) (dB (decide (a ≤ 122)) (R (.int .i64 3) w) (dB (decide (a ≥ 65)) (dB (decide (a ≤ 90)) (R (.int .i64 4) w) (dB (a == 95) (R (.int .i64 5) w) (dB (a == 32) (R (.int .i64 1) w) (dB (a == 9) (R (.int .i64 1) w) (dB (a == 10) (R (.int .i64 1) w) (dB (a == 13) (R (.int .i64 1) w) (dB (decide (a < 128)) (cB 139 #[.string (ByteArray.mk #[40, 41, 123, 125, 44, 58, 64, 43, 45, 42, 47, 37, 61, 60, 33]), Value.int IntKind.i32 a] w [] X fun x4 w28 => dB x4 (R (.int .i64 6) w28) (R (.int .i64 0) w28)) (R (.int .i64 0) w)))))))) (dB (a == 95) (R (.int .i64 5) w) (dB (a == 32) (R (.int .i64 1) w) (dB (a == 9) (R (.int .i64 1) w) (dB (a == 10) (R (.int .i64 1) w) (dB (a == 13) (R (.int .i64 1) w) (dB (decide (a < 128)) (cB 139 #[.string (ByteArray.mk #[40, 41, 123, 125, 44, 58, 64, 43, 45, 42, 47, 37, 61, 60, 33]), Value.int IntKind.i32 a] w [] X fun x5 w210 => dB x5 (R (.int .i64 6) w210) (R (.int .i64 0) w210)) (R (.int .i64 0) w))))))))) (dB (decide (a ≥ 65)) (dB (decide (a ≤ 90)) (R (.int .i64 4) w) (dB (a == 95) (R (.int .i64 5) w) (dB (a == 32) (R (.int .i64 1) w) (dB (a == 9) (R (.int .i64 1) w) (dB (a == 10) (R (.int .i64 1) w) (dB (a == 13) (R (.int .i64 1) w) (dB (decide (a < 128)) (cB 139 #[.string (ByteArray.mk #[40, 41, 123, 125, 44, 58, 64, 43, 45, 42, 47, 37, 61, 60, 33]), Value.int IntKind.i32 a] w [] X fun x6 w212 => dB x6 (R (.int .i64 6) w212) (R (.int .i64 0) w212)) (R (.int .i64 0) w)))))))) (dB (a == 95) (R (.int .i64 5) w) (dB (a == 32) (R (.int .i64 1) w) (dB (a == 9) (R (.int .i64 1) w) (dB (a == 10) (R (.int .i64 1) w) (dB (a == 13) (R (.int .i64 1) w) (dB (decide (a < 128)) (cB 139 #[.string (ByteArray.mk #[40, 41, 123, 125, 44, 58, 64, 43, 45, 42, 47, 37, 61, 60, 33]), Value.int IntKind.i32 a] w [] X fun x7 w214 => dB x7 (R (.int .i64 6) w214) (R (.int .i64 0) w214)) (R (.int .i64 0) w)))))))))
 ) : CallsX E.P 132 #[.int .i32 a] w R X :=
  calls_vc E_ok ⟨[], []⟩ (f := 132) Tryz.func132 rfl [(.int .i32 a, .no)] [] (bls0) nod0 (plain_of rfl) (shs_of ⟨trivial, trivial⟩) h (by kernel_rfl)
theorem vc159 {a : ByteArray}  (h : 
 nB w fun id => fL w [] fun w1 => id < w1.heap.size → hA w1 id #[.string (ByteArray.mk #[97, 108, 108]), .string (ByteArray.mk #[97, 110, 100]), .string (ByteArray.mk #[97, 114, 111, 117, 110, 100]), .string (ByteArray.mk #[98, 108, 111, 99, 107]), .string (ByteArray.mk #[98, 111, 116, 116, 108, 101, 110, 101, 99, 107]), .string (ByteArray.mk #[99, 111, 110, 110, 101, 99, 116, 101, 100]), .string (ByteArray.mk #[99, 111, 117, 110, 116]), .string (ByteArray.mk #[100, 101, 103, 114, 101, 101]), .string (ByteArray.mk #[101, 108, 115, 101]), .string (ByteArray.mk #[102, 97, 108, 115, 101]), .string (ByteArray.mk #[105, 102]), .string (ByteArray.mk #[105, 110]), .string (ByteArray.mk #[108, 101, 97, 115, 116]), .string (ByteArray.mk #[109, 97, 120]), .string (ByteArray.mk #[109, 105, 110]), .string (ByteArray.mk #[109, 111, 115, 116]), .string (ByteArray.mk #[110, 111, 116]), .string (ByteArray.mk #[111, 114]), .string (ByteArray.mk #[114, 101, 112]), .string (ByteArray.mk #[115, 105, 122, 101]), .string (ByteArray.mk #[115, 111, 109, 101]), .string (ByteArray.mk #[115, 117, 109]), .string (ByteArray.mk #[116, 104, 101, 110]), .string (ByteArray.mk #[116, 111, 116, 97, 108]), .string (ByteArray.mk #[116, 114, 117, 101]), .string (ByteArray.mk #[118, 97, 108, 117, 101]), .string (ByteArray.mk #[118, 101, 114, 116, 105, 99, 101, 115])] 9 → ∃ R1 X', CallsX E.P 140 #[.slice (some ⟨id, 0, none⟩) 27 27, .string a] w1 R1 X' ∧ (∀ v w2, R1 v w2 → ∃ x x1, v = .tuple #[.int .i64 x, .bool x1] ∧ ∃ S, Upd w1 w2 S ∧ Away [id] S ∧ (hA w2 id #[.string (ByteArray.mk #[97, 108, 108]), .string (ByteArray.mk #[97, 110, 100]), .string (ByteArray.mk #[97, 114, 111, 117, 110, 100]), .string (ByteArray.mk #[98, 108, 111, 99, 107]), .string (ByteArray.mk #[98, 111, 116, 116, 108, 101, 110, 101, 99, 107]), .string (ByteArray.mk #[99, 111, 110, 110, 101, 99, 116, 101, 100]), .string (ByteArray.mk #[99, 111, 117, 110, 116]), .string (ByteArray.mk #[100, 101, 103, 114, 101, 101]), .string (ByteArray.mk #[101, 108, 115, 101]), .string (ByteArray.mk #[102, 97, 108, 115, 101]), .string (ByteArray.mk #[105, 102]), .string (ByteArray.mk #[105, 110]), .string (ByteArray.mk #[108, 101, 97, 115, 116]), .string (ByteArray.mk #[109, 97, 120]), .string (ByteArray.mk #[109, 105, 110]), .string (ByteArray.mk #[109, 111, 115, 116]), .string (ByteArray.mk #[110, 111, 116]), .string (ByteArray.mk #[111, 114]), .string (ByteArray.mk #[114, 101, 112]), .string (ByteArray.mk #[115, 105, 122, 101]), .string (ByteArray.mk #[115, 111, 109, 101]), .string (ByteArray.mk #[115, 117, 109]), .string (ByteArray.mk #[116, 104, 101, 110]), .string (ByteArray.mk #[116, 111, 116, 97, 108]), .string (ByteArray.mk #[116, 114, 117, 101]), .string (ByteArray.mk #[118, 97, 108, 117, 101]), .string (ByteArray.mk #[118, 101, 114, 116, 105, 99, 101, 115])] 9 → R (.bool x1) w2)) ∧ PX X' X
 ) : CallsX E.P 133 #[.string a] w R X :=
  calls_vc E_ok ⟨[], []⟩ (f := 133) Tryz.func133 rfl [(.string a, .no)] [] (bls0) nod0 (plain_of rfl) (shs_of ⟨trivial, trivial⟩) h (by kernel_rfl)
theorem vc162 {a : Option Addr} {al ac : Nat} {b : ByteArray}  (h : 
 ∃ (I : Int → Int → World → Prop), ∃ (m : Int → Int → Nat), I 0 (↑al : Int) w ∧ ∀ (jk : Nat → Value) (x x1 : Int) (w2 : World), I x x1 w2 → dB (decide (x < x1)) (iX (w64 (IntKind.wrap IntKind.u64 (w64 (x + x1)) / 2)) al a fun ad => lT w2 (Addr.add ad (Int.toNat (w64 (IntKind.wrap IntKind.u64 (w64 (x + x1)) / 2)) * 1)) fun x2 => cB 144 #[.string x2, .string b] w2 [] X fun x3 w21 => dB x3 (I (w64 (w64 (IntKind.wrap IntKind.u64 (w64 (x + x1)) / 2) + 1)) x1 w21 ∧ m (w64 (w64 (IntKind.wrap IntKind.u64 (w64 (x + x1)) / 2) + 1)) x1 < m x x1) (I x (w64 (IntKind.wrap IntKind.u64 (w64 (x + x1)) / 2)) w21 ∧ m x (w64 (IntKind.wrap IntKind.u64 (w64 (x + x1)) / 2)) < m x x1)) (dB (decide (x < (↑al : Int))) (iX x al a fun ad1 => lT w2 (Addr.add ad1 (Int.toNat x * 1)) fun x4 => dB (strEq x4 b) (R (.tuple #[.int .i64 x, .bool true]) w2) (iX x al a fun ad2 => lT w2 (Addr.add ad2 (Int.toNat x * 1)) fun x5 => cB 145 #[.string x5] w2 [] X fun x6 w23 => dB x6 (cB 145 #[.string b] w23 [] X fun x7 w24 => R (.tuple #[.int .i64 x, .bool x7]) w24) (R (.tuple #[.int .i64 x, .bool false]) w23))) (R (.tuple #[.int .i64 x, .bool false]) w2))
 ) : CallsX E.P 140 #[.slice a al ac, .string b] w R X :=
  calls_vc E_ok ⟨[(3, ⟨[(7, .int .i64), (8, .int .i64)], []⟩)], []⟩ (f := 140) Tryz.func140 rfl [(.slice a al ac, .no), (.string b, .no)] [] (bls0) nod0 (plain_of rfl) (shs_of ⟨trivial, trivial, trivial⟩) h (by kernel_rfl)
theorem vc164 {a b : ByteArray}  (h : 
 cB 150 #[.string a] w [] X fun x w2 => dB x (cB 150 #[.string b] w2 [] X fun x1 w21 => dB (!x1) (R (.bool true) w21) (R (.bool (strLt a b)) w21)) (R (.bool (strLt a b)) w2)
 ) : CallsX E.P 144 #[.string a, .string b] w R X :=
  calls_vc E_ok ⟨[], []⟩ (f := 144) Tryz.func144 rfl [(.string a, .no), (.string b, .no)] [] (bls0) nod0 (plain_of rfl) (shs_of ⟨trivial, trivial, trivial⟩) h (by kernel_rfl)
theorem vc165 {a : ByteArray}  (h : 
 R (.bool !strEq a a) w
 ) : CallsX E.P 145 #[.string a] w R X :=
  calls_vc E_ok ⟨[], []⟩ (f := 145) Tryz.func145 rfl [(.string a, .no)] [] (bls0) nod0 (plain_of rfl) (shs_of ⟨trivial, trivial⟩) h (by kernel_rfl)
theorem vc170 {a : ByteArray}  (h : 
 R (.bool !strEq a a) w
 ) : CallsX E.P 150 #[.string a] w R X :=
  calls_vc E_ok ⟨[], []⟩ (f := 150) Tryz.func150 rfl [(.string a, .no)] [] (bls0) nod0 (plain_of rfl) (shs_of ⟨trivial, trivial⟩) h (by kernel_rfl)
end Go.Vx.Tryz
namespace Go.Proofs
def Tryz.lays151_ren : Go.Shelf.Ren := ⟨fun | 151 => 139 | 152 => 143 | 137 => 146 | 119 => 147 | 224 => 148 | 225 => 149 | 217 => 151 | 266 => 152 | n => n, fun | 9 => 9 | 21 => 21 | 4 => 4 | 3 => 3 | 5 => 5 | 0 => 0 | 46 => 154 | n => n, fun n => n⟩
theorem Tryz.lays151 : Lays.n151 Tryz.prog Tryz.lays151_ren := { mixed := by kernel_rfl, f119 := Tryz.func147.trans (congrArg some (by kernel_rfl)), f137 := Tryz.func146.trans (congrArg some (by kernel_rfl)), f151 := Tryz.func139.trans (congrArg some (by kernel_rfl)), f152 := Tryz.func143.trans (congrArg some (by kernel_rfl)), f217 := Tryz.func151.trans (congrArg some (by kernel_rfl)), f224 := Tryz.func148.trans (congrArg some (by kernel_rfl)), f225 := Tryz.func149.trans (congrArg some (by kernel_rfl)), f266 := Tryz.func152.trans (congrArg some (by kernel_rfl)), t0 := Tryz.underlying0, a0 := Tryz.isAgg0, z0 := Tryz.sizeOf0, v0 := Tryz.zeroValue0, t3 := Tryz.underlying3, a3 := Tryz.isAgg3, z3 := Tryz.sizeOf3, v3 := Tryz.zeroValue3, t4 := Tryz.underlying4, a4 := Tryz.isAgg4, z4 := Tryz.sizeOf4, v4 := Tryz.zeroValue4, t5 := Tryz.underlying5, a5 := Tryz.isAgg5, z5 := Tryz.sizeOf5, v5 := Tryz.zeroValue5, t9 := Tryz.underlying9, a9 := Tryz.isAgg9, z9 := Tryz.sizeOf9, v9 := Tryz.zeroValue9, t21 := Tryz.underlying21, a21 := Tryz.isAgg21, z21 := Tryz.sizeOf21, v21 := Tryz.zeroValue21, t46 := Tryz.underlying154, a46 := Tryz.isAgg154, z46 := Tryz.sizeOf154, v46 := Tryz.zeroValue154 }
end Go.Proofs
namespace Go.Vx
open Go
section
theorem of_calls {P : Program} {f : Nat} {args : Array Value} {w : World} {Q : Ending → World → Prop} {R : Value → World → Prop} (h : Calls P f args w Q) (k : ∀ e w', Q e w' → ∃ v, e = .returned v ∧ R v w') : CallsX P f args w R never := by
  exact ⟨h.mono fun e w' hq => by obtain ⟨v, rfl, hr⟩ := k e w' hq; exact hr⟩
end
end Go.Vx
namespace Go.Vx.Tryz
open Go Go.Vx Go.Proofs
theorem isNaN_c (a : ByteArray) {w : World} : CallsX E.P 150 #[.string a] w (IsV (.bool false) w) never := by
  refine vc170 ?_
  rw [strEq_refl]; exact ⟨rfl, Upd.refl _ _⟩
theorem isNaN2_c (a : ByteArray) {w : World} : CallsX E.P 145 #[.string a] w (IsV (.bool false) w) never := by
  refine vc165 ?_
  rw [strEq_refl]; exact ⟨rfl, Upd.refl _ _⟩
theorem less_c (a b : ByteArray) {w : World} : CallsX E.P 144 #[.string a, .string b] w (IsV (.bool (strLt a b)) w) never := by
  refine vc164 ?_
  exact callB (isNaN_c a) fun w2 hE => ⟨(fun h => nomatch h), fun _ => ⟨rfl, hE⟩⟩
theorem word_row {w : World} {id : Nat} (h : w.heap[id]? = some (.cells (wordsL.map Value.string).toArray 9 (0, 0))) {m : Nat} (hm : m < wordsL.length) {i : Int} (hi : i = (m : Int)) :
    CellsIn w ((⟨id, 0, none⟩ : Addr).add (Int.toNat i * 1)) [.string wordsL[m]] := by
  subst hi
  have := row_cell (j := m) (c := .string wordsL[m]) h (by simp [hm])
  simpa using this
theorem search_c (a : ByteArray) {w : World} {id : Nat} (hh : w.heap[id]? = some (.cells (wordsL.map Value.string).toArray 9 (0, 0))) :
    CallsX E.P 140 #[.slice (some ⟨id, 0, none⟩) 27 27, .string a] w (fun v w' => (∃ x, v = .tuple #[.int .i64 x, .bool (wordIn a wordsL)]) ∧ Ext w w') never := by
  have hL : wordsL.length = 27 := rfl
  have hlt := lt_of_get hh
  refine vc162 ?_
  refine ⟨fun x x1 w2 => ∃ lo hi : Nat, x = lo ∧ x1 = hi ∧ Halved a lo hi ∧ Ext w w2, fun x x1 => (x1 - x).toNat, ⟨0, 27, rfl, rfl, ⟨by omega, by omega, fun i h hl => by omega, fun i h hl => by omega⟩, Upd.refl _ _⟩, ?_⟩
  rintro _ x x1 w2 ⟨lo, hi, rfl, rfl, hH, hE⟩
  have hw2 : w2.heap[id]? = some (.cells (wordsL.map Value.string).toArray 9 (0, 0)) := by rw [hE.keep id hlt (fun h => h)]; exact hh
  have h27 := hH.2.1
  refine ⟨fun hlh => ?_, fun hlh => ?_⟩
  · have hlh : lo < hi := by simpa using hlh
    have hm : w64 (IntKind.wrap .u64 (w64 ((lo : Int) + (hi : Int))) / 2) = (((lo + hi) / 2 : Nat) : Int) := by
      have e1 : w64 ((lo : Int) + (hi : Int)) = ((lo + hi : Nat) : Int) := by rw [w64_id (by omega) (by omega)]; rfl
      have e2 : IntKind.wrap .u64 ((lo + hi : Nat) : Int) = ((lo + hi : Nat) : Int) := by
        simp only [IntKind.wrap, IntKind.bits, IntKind.signed, Bool.false_and, Bool.false_eq_true, if_false]; omega
      rw [e1, e2, w64_id (by omega) (by omega)]; omega
    rw [hm]
    have hmm : (lo + hi) / 2 < wordsL.length := by omega
    refine ⟨by omega, _, rfl, _, word_row hw2 hmm rfl, callB (less_c _ _) fun w3 hE3 => ⟨fun hs => ?_, fun hs => ?_⟩⟩
    · have e3 : w64 ((((lo + hi) / 2 : Nat) : Int) + 1) = (((lo + hi) / 2 + 1 : Nat) : Int) := by rw [w64_id (by omega) (by omega)]; rfl
      rw [e3]
      exact ⟨⟨_, hi, rfl, rfl, hH.up (by omega) (by omega) hmm hs, hE.trans hE3⟩, by dsimp only; omega⟩
    · exact ⟨⟨lo, _, rfl, rfl, hH.down (by omega) (by omega) hmm hs, hE.trans hE3⟩, by dsimp only; omega⟩
  · have hle : ¬ lo < hi := by simpa using hlh
    have : lo = hi := by have := hH.1; omega
    subst this
    have hd := hH.done
    refine ⟨fun h1 => ?_, fun h1 => ?_⟩
    · have h1 : lo < 27 := by simp at h1; omega
      have hll : lo < wordsL.length := by omega
      rw [dif_pos hll] at hd
      refine ⟨by omega, _, rfl, _, word_row hw2 hll rfl, fun he => ⟨⟨_, by rw [hd, he]⟩, hE⟩, fun he => ⟨by omega, _, rfl, _, word_row hw2 hll rfl, ?_⟩⟩
      exact callB (isNaN2_c _) fun w3 hE3 => ⟨(fun h => nomatch h), fun _ => ⟨⟨_, by rw [hd, he]⟩, hE.trans hE3⟩⟩
    · have h1 : ¬ lo < 27 := by simp at h1; omega
      rw [dif_neg (by omega)] at hd
      exact ⟨⟨_, by rw [hd]⟩, hE⟩
theorem isWord_c (a : ByteArray) {w : World} : CallsX E.P 133 #[.string a] w (IsV (.bool (wordIn a wordsL)) w) never := by
  refine vc159 ?_
  intro id hid w1 hE1 hi hh
  refine ⟨_, _, search_c a hh, ?_, never_any⟩
  rintro v w2 ⟨⟨x, rfl⟩, hE2⟩
  exact ⟨_, _, rfl, no, hE2, Away.no _, fun _ => ⟨rfl, hE1.trans hE2⟩⟩
def ClassR (r : Int) (w : World) : Value → World → Prop := fun v w' => ∃ k : Int, v = .int .i64 k ∧ Ext w w' ∧ (k != 3) = !smallB r ∧ (k != 2) = !digitB r ∧ (k != 5) = !(r == 95)
theorem contains_c (s : ByteArray) (r : Int) (h0 : 0 ≤ r) (h1 : r < 128) {w : World} : CallsX E.P 139 #[.string s, .int .i32 r] w (fun v w' => ∃ x : Bool, v = .bool x ∧ Ext w w') never :=
  of_calls (Any.strings_ContainsRune_ascii Tryz.lays151 s r w h0 h1) fun _ _ ⟨he, hw⟩ => ⟨_, he, _, rfl, by rw [hw]; exact Upd.refl _ _⟩
theorem class_c (r : Int) (h0 : 0 ≤ r) {w : World} : CallsX E.P 132 #[.int .i32 r] w (ClassR r w) never := by
  have leaf : ∀ (k : Int) {w2 : World}, Ext w w2 → ((k != 3) = !smallB r) → ((k != 2) = !digitB r) → ((k != 5) = !(r == 95)) → ClassR r w (.int .i64 k) w2 := fun k _ hE a1 a2 a3 => ⟨k, rfl, hE, a1, a2, a3⟩
  have tail : (decide (r ≥ 48) && decide (r ≤ 57)) = false → (decide (r ≥ 97) && decide (r ≤ 122)) = false →
      ((r == 95) = true → ClassR r w (.int .i64 5) w) ∧ ((r == 95) = false → ((r == 32) = true → ClassR r w (.int .i64 1) w) ∧ ((r == 32) = false → ((r == 9) = true → ClassR r w (.int .i64 1) w) ∧ ((r == 9) = false → ((r == 10) = true → ClassR r w (.int .i64 1) w) ∧ ((r == 10) = false → ((r == 13) = true → ClassR r w (.int .i64 1) w) ∧ ((r == 13) = false →
        (decide (r < 128) = true → ∃ (R1 : Value → World → Prop) (X' : ContX), CallsX E.P 139 (#[.string (ByteArray.mk #[40, 41, 123, 125, 44, 58, 64, 43, 45, 42, 47, 37, 61, 60, 33]), .int .i32 r]) w R1 X' ∧ (∀ v w2, R1 v w2 → ∃ x, v = .bool x ∧ ∃ S, Upd w w2 S ∧ Away [] S ∧ (x = true → ClassR r w (.int .i64 6) w2) ∧ (x = false → ClassR r w (.int .i64 0) w2)) ∧ ∀ ch w2, X' ch w2 → never ch w2) ∧
        (decide (r < 128) = false → ClassR r w (.int .i64 0) w)))))) := fun hd hs => by
    have es : smallB r = false := hs
    have ed : digitB r = false := hd
    refine ⟨fun h => leaf 5 (Upd.refl _ _) (by rw [es]; rfl) (by rw [ed]; rfl) (by rw [h]; rfl), fun h => ?_⟩
    have lf : ∀ (k : Int) {w2 : World}, Ext w w2 → k ≠ 3 → k ≠ 2 → k ≠ 5 → ClassR r w (.int .i64 k) w2 := fun k _ hE a1 a2 a3 => leaf k hE (by rw [es]; simpa using a1) (by rw [ed]; simpa using a2) (by rw [h]; simpa using a3)
    refine ⟨fun _ => lf 1 (Upd.refl _ _) (by decide) (by decide) (by decide), fun _ => ⟨fun _ => lf 1 (Upd.refl _ _) (by decide) (by decide) (by decide), fun _ => ⟨fun _ => lf 1 (Upd.refl _ _) (by decide) (by decide) (by decide), fun _ => ⟨fun _ => lf 1 (Upd.refl _ _) (by decide) (by decide) (by decide), fun _ => ⟨fun h8 => ?_, fun _ => lf 0 (Upd.refl _ _) (by decide) (by decide) (by decide)⟩⟩⟩⟩⟩
    refine ⟨_, _, contains_c _ r h0 (by simpa using h8), ?_, never_any⟩
    rintro v w2 ⟨x, rfl, hE⟩
    exact ⟨x, rfl, no, hE, Away.no _, fun _ => lf 6 hE (by decide) (by decide) (by decide), fun _ => lf 0 hE (by decide) (by decide) (by decide)⟩
  have low : ∀ (k : Int), (decide (r ≥ 48) && decide (r ≤ 57)) = false → (decide (r ≥ 97) && decide (r ≤ 122)) = false → r ≤ 90 → k ≠ 3 → k ≠ 2 → k ≠ 5 → ClassR r w (.int .i64 k) w := fun k hd hs hr a1 a2 a3 => by
    have es : smallB r = false := hs
    have ed : digitB r = false := hd
    refine leaf k (Upd.refl _ _) (by rw [es]; simpa using a1) (by rw [ed]; simpa using a2) ?_
    have : (r == 95) = false := by simp; omega
    rw [this]; simpa using a3
  refine vc158 ?_
  refine ⟨fun a1 => ⟨fun a2 => ?_, fun a2 => ?_⟩, fun a1 => ?_⟩
  · simp only [decide_eq_true_eq] at a1 a2
    refine leaf 2 (Upd.refl _ _) ?_ ?_ ?_
    · have : smallB r = false := by simp [smallB]; omega
      rw [this]; rfl
    · have : digitB r = true := by simp [digitB]; omega
      rw [this]; rfl
    · have : (r == 95) = false := by simp; omega
      rw [this]; rfl
  all_goals
    have hd : (decide (r ≥ 48) && decide (r ≤ 57)) = false := by first | simp only [a1, a2, Bool.and_false, Bool.false_and] | simp only [a1, Bool.false_and]
    refine ⟨fun b1 => ⟨fun b2 => ?_, fun b2 => ?_⟩, fun b1 => ?_⟩
    · refine leaf 3 (Upd.refl _ _) ?_ (by rw [show digitB r = false from hd]; rfl) ?_
      · have : smallB r = true := by simp only [smallB, b1, b2, Bool.and_self]
        rw [this]; rfl
      · have : (r == 95) = false := by simp at b1 b2 ⊢; omega
        rw [this]; rfl
    all_goals
      have hs : (decide (r ≥ 97) && decide (r ≤ 122)) = false := by first | simp only [b1, b2, Bool.and_false, Bool.false_and] | simp only [b1, Bool.false_and]
      refine ⟨fun c1 => ⟨fun c2 => low 4 hd hs (by simpa using c2) (by decide) (by decide) (by decide), fun c2 => tail hd hs⟩, fun c1 => tail hd hs⟩
theorem run_get_iter {P : Program} {w : World} {r : Nat} {a : ByteArray} {c : Nat} (h : w.heap[r]? = some (.stringIter a c)) : (getObj r).run P w = .ok (.stringIter a c) w := by
  simp [getObj, Sem.run, h]
theorem run_set_iter {P : Program} {w : World} {r : Nat} {a : ByteArray} {c : Nat} (o : Obj) (h : w.heap[r]? = some (.stringIter a c)) : (setObj r o).run P w = .ok () { w with heap := w.heap.setIfInBounds r o } := by
  have := lt_of_get h
  simp [setObj, Sem.run, h]
theorem lexName_c (a : ByteArray) {w : World} : CallsX E.P 127 #[.string a] w (IsV (.bool (isNameB a)) w) never := by
  refine vc156 ?_
  have hu : E.P.underlying 9 = some .string := by kernel_rfl
  refine ⟨fun v w' => v = .pointer (some ⟨w.heap.size, 0, none⟩) ∧ w' = { w with heap := w.heap.push (.stringIter a 0) }, ?_, ?_⟩
  · refine ⟨_, _, ?_, rfl, rfl⟩
    simp only [Instr.range, Sem.run_bind, run_underlying hu, Result.andThen_ok, Sem.run_pure, run_newObj_alloc]
    rfl
  rintro v w2 ⟨rfl, rfl⟩
  have hE2 : Ext w { w with heap := w.heap.push (.stringIter a 0) } := (Upd.refl w no).push _
  refine ⟨_, rfl, no, hE2, Away.no _, ?_⟩
  refine ⟨fun n w2 => ∃ pos : Nat, w2.heap[w.heap.size]? = some (.stringIter a pos) ∧ n = a.size - pos ∧ (pos = 0 ∨ okName a = nameL ((bytesL a).drop pos)) ∧ Ext w w2, a.size, ⟨0, by simp, rfl, .inl rfl, hE2⟩, ?_⟩
  rintro n _ w3 ⟨pos, hit, rfl, hok, hE3⟩
  have fin : ∀ {w4 : World}, a.size ≤ pos → Ext w w4 → (decide ((a.size : Int) ≥ 1) = true → (decide ((a.size : Int) ≤ 12) = true → ∃ (R1 : Value → World → Prop) (X' : ContX), CallsX E.P 133 (#[.string a]) w4 R1 X' ∧ (∀ v w2, R1 v w2 → ∃ x, v = .bool x ∧ ∃ S, Upd w4 w2 S ∧ Away [] S ∧ IsV (.bool (isNameB a)) w (.bool !x) w2) ∧ ∀ ch w2, X' ch w2 → never ch w2) ∧ (decide ((a.size : Int) ≤ 12) = false → IsV (.bool (isNameB a)) w (.bool false) w4)) ∧ (decide ((a.size : Int) ≥ 1) = false → IsV (.bool (isNameB a)) w (.bool false) w4) := fun hp hE4 => by
    have ho := okName_end hp hok
    rw [isName_eq, ho]
    refine ⟨fun h1 => ⟨fun h2 => ?_, fun h2 => ⟨by simp only [h1, h2, Bool.false_and, Bool.and_false], hE4⟩⟩, fun h1 => ⟨by simp only [h1, Bool.false_and], hE4⟩⟩
    exact callB (isWord_c a) fun w5 hE5 => ⟨by simp only [h1, h2, Bool.true_and], hE4.trans hE5⟩
  have hlt3 := lt_of_get hit
  by_cases hp : pos < a.size
  · obtain ⟨d1, d2, d3, d4, d5⟩ := decode_class a pos
    refine ⟨fun v w' => v = .tuple #[.bool true, .int .i64 pos, .int .i32 ((Utf8.decode a pos).1 : Int)] ∧ w' = { w3 with heap := w3.heap.setIfInBounds w.heap.size (.stringIter a (pos + (Utf8.decode a pos).2)) }, ⟨_, _, ?_, rfl, rfl⟩, ?_⟩
    · simp only [Instr.next, Sem.run_bind, run_get_iter hit, Result.andThen_ok, hp, if_true, run_set_iter _ hit, Sem.run_pure, goInt]
    rintro v w4 ⟨rfl, rfl⟩
    have hU4 : Upd w3 { w3 with heap := w3.heap.setIfInBounds w.heap.size (.stringIter a (pos + (Utf8.decode a pos).2)) } (fun x => x = w.heap.size) :=
      ⟨rfl, rfl, rfl, by simp, fun k hk hS => by simp [Array.getElem?_setIfInBounds_ne (fun e => hS e.symm)]⟩
    have hE4 := hE3.step hU4 (fun b hb => by omega)
    refine ⟨_, hU4, Away.nil _, .inr ⟨pos, _, rfl, fun _ => ?_, fun h => nomatch h⟩⟩
    generalize hw4 : ({ w3 with heap := w3.heap.setIfInBounds w.heap.size (.stringIter a (pos + (Utf8.decode a pos).2)) } : World) = w4 at hU4 hE4
    have hit4 : w4.heap[w.heap.size]? = some (.stringIter a (pos + (Utf8.decode a pos).2)) := by rw [← hw4]; simp [hlt3]
    refine ⟨_, _, class_c _ (by omega), ?_, never_any⟩
    rintro v w5 ⟨k, rfl, hE5, k3, k2, k5⟩
    rw [d1] at k3; rw [d2] at k2; rw [d3] at k5
    have hE05 := hE4.trans hE5
    have bad : smallB (byteAt a pos) = false → (pos = 0 ∨ (digitB (byteAt a pos) = false ∧ (byteAt a pos == 95) = false)) → IsV (.bool (isNameB a)) w (.bool false) w5 := fun h1 h2 => ⟨by rw [isName_eq, okName_bad hp hok h1 h2]; simp, hE05⟩
    have good : (smallB (byteAt a pos) = true ∨ (pos ≠ 0 ∧ (digitB (byteAt a pos) = true ∨ (byteAt a pos == 95) = true))) → ∃ n2 : Nat, (∃ pos : Nat, w5.heap[w.heap.size]? = some (.stringIter a pos) ∧ n2 = a.size - pos ∧ (pos = 0 ∨ okName a = nameL ((bytesL a).drop pos)) ∧ Ext w w5) ∧ n2 < a.size - pos := fun hg => by
      have h1 : (Utf8.decode a pos).2 = 1 := d5 (hg.elim .inl fun h => .inr h.2)
      rw [h1] at hit4
      refine ⟨a.size - (pos + 1), ⟨pos + 1, by rw [hE5.keep _ (lt_of_get hit4) (fun h => h)]; exact hit4, rfl, .inr (okName_step hp hok hg), hE05⟩, by omega⟩
    refine ⟨k, rfl, no, hE5, Away.no _, fun e3 => ?_, fun e3 => good (.inl (by rw [k3] at e3; simpa using e3))⟩
    have f3 : smallB (byteAt a pos) = false := by rw [k3] at e3; simpa using e3
    refine ⟨fun e0 => bad f3 (.inl (by simpa using e0)), fun e0 => ⟨fun e2 => ⟨fun e5 => bad f3 (.inr ⟨by rw [k2] at e2; simpa using e2, by rw [k5] at e5; simpa using e5⟩), fun e5 => good (.inr ⟨by simp at e0; omega, .inr (by rw [k5] at e5; simpa using e5)⟩)⟩, fun e2 => good (.inr ⟨by simp at e0; omega, .inl (by rw [k2] at e2; simpa using e2)⟩)⟩⟩
  · refine ⟨fun v w' => v = .tuple #[.bool false] ∧ w' = w3, ⟨_, _, ?_, rfl, rfl⟩, ?_⟩
    · simp only [Instr.next, Sem.run_bind, run_get_iter hit, Result.andThen_ok, hp, if_false, Sem.run_pure]
    rintro v w4 ⟨rfl, rfl⟩
    exact ⟨no, Upd.refl _ _, Away.no _, .inl ⟨rfl, (fun h => nomatch h), fun _ => fin (by omega) hE3⟩⟩
end Go.Vx.Tryz
namespace Go.Vx.Tryz
open Go Go.Vx Go.Proofs
set_option maxRecDepth 100000
variable {w : World} {R : Value → World → Prop} {X : ContX}
end Go.Vx.Tryz
namespace Go.Vx.Tryz
open Go Go.Vx Go.Proofs
variable {b g h : Nat} {zs : List Int} {C : Option Addr} {cc : Nat}
theorem mustK_c {w : World} {st : WS} {t : Bool} (hw : Lst w b g h zs C cc st) :
    CallsX E.P 78 #[.pointer (some ⟨b, 0, none⟩), .bool t] w (LU b g h zs C cc w (if t then some st else none)) (LX b g h w (if t then some st else none)) := by
  refine vc109 hw.1 ⟨fun ht => ⟨by simp at ht; simp [ht], rfl, Upd.refl _ _⟩, fun ht hh => ⟨st, by simp at ht; simp [ht], rfl, ⟨hh, hw.2⟩, Upd.refl _ _⟩⟩
theorem callM {α : Type} {w0 w : World} {ids : List Nat} {st : WS} {t : Bool} {rc : Option α} (hw : Lst w b g h zs C cc st) (h0 : Upd w0 w (S3 b g h)) (haw : Away ids (S3 b g h)) (hn : t = false → rc = none)
    {K : Option Addr → Nat → Nat → Option Nat → Option Nat → Int → World → Prop}
    (k : ∀ w2, t = true → LMem w2 b g h zs C cc st.ks st.ts → Upd w w2 (S3 b g h) → K C zs.length cc (some g) (some h) st.parts w2) :
    ∃ (R : Value → World → Prop) (X' : ContX), CallsX E.P 78 #[.pointer (some ⟨b, 0, none⟩), .bool t] w R X' ∧ (∀ v w2, R v w2 → ∃ y : Value, v = y ∧ ∃ S, Upd w w2 S ∧ Away ids S ∧ ∃ a1 n c1 r1 r2, ∃ x, w2.heap[b]? = some (Obj.cells #[.slice a1 n c1, .map r1, .map r2, .int .i64 x] 103) ∧ 4 = 4 ∧ K a1 n c1 r1 r2 x w2) ∧ ∀ ch w2, X' ch w2 → LX b g h w0 rc ch w2 := by
  refine callLU (mustK_c hw) h0 haw (fun e => hn ?_) (fun s2 w2 he hw2 hU2 => ?_)
  · cases t with
    | false => rfl
    | true => cases e
  · cases t with
    | false => cases he
    | true => cases he; exact k w2 rfl hw2.2 hU2
def KL (b g h : Nat) (zs : List Int) (C : Option Addr) (cc : Nat) (kf : Int → Int → WS → Nd → Option (Int × WS)) (n : Nd) : Prop :=
  ∀ {w : World} {A : Option Addr} {l c : Nat} (a q : Int) (st : WS), Lst w b g h zs C cc st → NdsR w (Fw b g h) n.kids A l c →
    CallsX E.P 54 #[.pointer (some ⟨b, 0, none⟩), ndA n A l c, .int .i64 a, .int .i64 q] w (LR b g h zs C cc w (kf a q st n)) (LX b g h w (kf a q st n))
theorem ofK_c {kf : Int → Int → WS → Nd → Option (Int × WS)} {n : Nd} (hk : KL b g h zs C cc kf n) {w : World} {A : Option Addr} {l c : Nat} (a q x : Int) (st : WS) (hw : Lst w b g h zs C cc st) (hr : NdsR w (Fw b g h) n.kids A l c) :
    CallsX E.P 105 #[.pointer (some ⟨b, 0, none⟩), ndA n A l c, .int .i64 x, .int .i64 a, .int .i64 q] w (LU b g h zs C cc w (ofL (kf a q st n) x)) (LX b g h w (ofL (kf a q st n) x)) := by
  obtain ⟨hb, hg, hh⟩ := hw.lt
  refine vc137 hw.1 ?_
  intro id hid w1 hE1 hi hh1
  refine callL (hk a q st ⟨hh1, hw.2.ext hE1⟩ (hr.ext hE1)) (ext_s3 hE1) (away_s3 hb hg hh (by simp; omega)) (fun e => by rw [e]; rfl) fun y s1 w2 he hw2 hU2 hh2 => ?_
  have hs2 := hU2.size
  have hs1 := hE1.size
  refine callM (t := y == x) ⟨hh2, hw2.2⟩ ((ext_s3 hE1).t3 hU2) (away_s3 hb hg hh (by simp; omega)) (fun e => by rw [he]; simp only [ofL, e, Bool.false_eq_true, if_false]) fun w3 ht hM3 hU3 hh3 => ?_
  exact ⟨s1, by rw [he]; simp only [ofL, ht, if_true], rfl, ⟨hh3, hM3⟩, ((ext_s3 hE1).t3 hU2).t3 hU3⟩
theorem test_c (t : Nat) (ht : t = 95 ∨ t = 96 ∨ t = 97 ∨ t = 99 ∨ t = 102) (v a : Int) {w : World} : CallsX E.P t #[.int .i64 v] w (IsV (.bool (testB t v a)) w) never := by
  have r := Upd.refl w no
  rcases ht with rfl | rfl | rfl | rfl | rfl
  · exact vc127 ⟨rfl, r⟩
  · refine vc128 ⟨fun h => ⟨by simp only [testB, h, Bool.true_or], r⟩, fun h => ⟨by simp only [testB, h, Bool.false_or], r⟩⟩
  · exact vc129 ⟨rfl, r⟩
  · exact vc131 ⟨rfl, r⟩
  · refine vc134 ⟨fun h => ⟨by simp only [testB, h, Bool.true_and], r⟩, fun h => ⟨by simp only [testB, h, Bool.false_and], r⟩⟩
theorem around_c {w : World} {ab : Nat} (v a : Int) (hh : w.heap[ab]? = some (.cells #[.int .i64 a] 3 (0, 0))) : CallsX E.P 98 #[.int .i64 v, .pointer (some ⟨ab, 0, none⟩)] w (IsV (.bool (testB 98 v a)) w) never := by
  have r := Upd.refl w no
  refine vc130 hh ⟨fun h _ => ⟨by simp only [testB, h, Bool.true_and], r⟩, fun h _ => ⟨by simp only [testB, h, Bool.false_and], r⟩⟩
theorem alikeK_c {kf : Int → Int → WS → Nd → Option (Int × WS)} {k v : Int} {s : ByteArray} {kids : List Nd} (h2 : 2 ≤ kids.length) (hk0 : KL b g h zs C cc kf (kids.getD 0 nd0)) (hk1 : KL b g h zs C cc kf (kids.getD 1 nd0))
    {w : World} {A : Option Addr} {l c : Nat} (a q : Int) (st : WS) (hw : Lst w b g h zs C cc st) (hr : NdsR w (Fw b g h) kids A l c) :
    CallsX E.P 100 #[.pointer (some ⟨b, 0, none⟩), ndA (.mk k v s kids) A l c, .int .i64 a, .int .i64 q] w (LR b g h zs C cc w (alikeL (kf a q) st v kids)) (LX b g h w (alikeL (kf a q) st v kids)) := by
  obtain ⟨hb, hg, hh⟩ := hw.lt
  dsimp only [ndA, Nd.k, Nd.n, Nd.s, Nd.kids]
  refine vc132 hw.1 ?_
  intro id hid w1 hE1 hi hh1
  refine callM (t := v == 0) ⟨hh1, hw.2.ext hE1⟩ (ext_s3 hE1) (away_s3 hb hg hh (by simp; omega)) (fun e => by simp only [alikeL, e, Bool.false_eq_true, if_false]) fun w2 ht hM2 hU2 => ?_
  have hU02 := (ext_s3 hE1).t3 hU2
  have hs2 := hU02.size
  refine hr.idxL 1 rfl (by omega) fun ad ha => hr.idxL 0 rfl (by omega) fun ad1 ha1 => ?_
  have hv : alikeL (kf a q) st v kids = (kf a q st (kids.getD 0 nd0)).bind fun p => (ofL (kf a q p.2 (kids.getD 1 nd0)) p.1).map fun s2 => (2, s2) := by rw [alikeL, if_pos ht]
  have last : ∀ {w3 w4 : World} {A1 : Option Addr} {l1 c1 : Nat} {y : Int} {s1 : WS}, kf a q st (kids.getD 0 nd0) = some (y, s1) → Lst w4 b g h zs C cc s1 → Upd w w3 (S3 b g h) → Upd w3 w4 (S3 b g h) → NdsR w4 (Fw b g h) (kids.getD 1 nd0).kids A1 l1 c1 → w4.heap[b]? = some (.cells (lcells zs C cc g h s1) 103 (0, 0)) →
      ∃ (R : Value → World → Prop) (X' : ContX), CallsX E.P 105 #[.pointer (some ⟨b, 0, none⟩), ndA (kids.getD 1 nd0) A1 l1 c1, .int .i64 y, .int .i64 a, .int .i64 q] w4 R X' ∧ (∀ u w2, R u w2 → ∃ y : Value, u = y ∧ ∃ S, Upd w4 w2 S ∧ Away [id] S ∧ ∃ a1 n c1 r1 r2, ∃ x, w2.heap[b]? = some (Obj.cells #[.slice a1 n c1, .map r1, .map r2, .int .i64 x] 103) ∧ 4 = 4 ∧
        (w2.heap[b]? = some (Obj.cells #[.slice a1 n c1, .map r1, .map r2, .int .i64 x] 103) → LR b g h zs C cc w (alikeL (kf a q) st v kids) (.int .i64 2) w2)) ∧ ∀ ch w2, X' ch w2 → LX b g h w (alikeL (kf a q) st v kids) ch w2 := fun he hw4 h03 h34 q1 hh4 => by
    refine callLU (ofK_c hk1 a q _ _ hw4 q1) (h03.t3 h34) (away_s3 hb hg hh (by simp; omega)) (fun e => by rw [hv, he]; simp only [Option.bind_some, e, Option.map_none]) fun s2 w5 he5 hw5 hU5 hh5 => ?_
    exact ⟨(2, s2), by rw [hv, he]; simp only [Option.bind_some, he5, Option.map_some], rfl, ⟨hh5, hw5.2⟩, (h03.t3 h34).t3 hU5⟩
  have first : ∀ {w3 : World} {A1 : Option Addr} {l1 c1 : Nat}, Ext w2 w3 → NdsR w3 (Fw b g h) (kids.getD 0 nd0).kids A1 l1 c1 → w3.heap[b]? = some (.cells (lcells zs C cc g h st) 103 (0, 0)) →
      CallsX E.P 54 #[.pointer (some ⟨b, 0, none⟩), ndA (kids.getD 0 nd0) A1 l1 c1, .int .i64 a, .int .i64 q] w3 (LR b g h zs C cc w3 (kf a q st (kids.getD 0 nd0))) (LX b g h w3 (kf a q st (kids.getD 0 nd0))) := fun hE q0 hh3 => hk0 a q st ⟨hh3, hM2.ext hE⟩ q0
  have hnone : kf a q st (kids.getD 0 nd0) = none → alikeL (kf a q) st v kids = none := fun e => by rw [hv, e]; rfl
  have aw := away_s3 (b := b) (g := g) (h := h) (ids := [id]) hb hg hh (by simp; omega)
  refine ⟨fun w3 hE3 => ((hr.s3 hU02).ext hE3).cellL ha 1 rfl (by omega) (d := nd0) fun A1 l1 c1 q1 => ((hr.s3 hU02).ext hE3).cellL ha1 0 rfl (by omega) (d := nd0) fun A0 l0 c0 q0 hh3 => ?_, fun w3 hE3 => ((hr.s3 hU02).ext hE3).cellL ha1 0 rfl (by omega) (d := nd0) fun A0 l0 c0 q0 => ⟨((hr.s3 hU02).ext hE3).cellL ha 1 rfl (by omega) (d := nd0) fun A1 l1 c1 q1 hh3 => ?_, fun hh3 => ?_⟩⟩
  · exact callL (first hE3 q0 hh3) (hU02.t3 (ext_s3 hE3)) aw hnone fun y s1 w4 he hw4 hU4 hh4 => last he ⟨hh4, hw4.2⟩ (hU02.t3 (ext_s3 hE3)) hU4 (q1.s3 hU4) hh4
  · exact callL (first hE3 q0 hh3) (hU02.t3 (ext_s3 hE3)) aw hnone fun y s1 w4 he hw4 hU4 hh4 => last he ⟨hh4, hw4.2⟩ (hU02.t3 (ext_s3 hE3)) hU4 (q1.s3 hU4) hh4
  · exact callL (first hE3 q0 hh3) (hU02.t3 (ext_s3 hE3)) aw hnone fun y s1 w4 he hw4 hU4 => (((hr.s3 hU02).ext hE3).s3 hU4).cellL ha 1 rfl (by omega) (d := nd0) fun A1 l1 c1 q1 hh4 => last he ⟨hh4, hw4.2⟩ (hU02.t3 (ext_s3 hE3)) hU4 q1 hh4
theorem choiceK_c {kf : Int → Int → WS → Nd → Option (Int × WS)} {k v : Int} {s : ByteArray} {kids : List Nd} (h3 : 3 ≤ kids.length) (hk0 : KL b g h zs C cc kf (kids.getD 0 nd0)) (hk1 : KL b g h zs C cc kf (kids.getD 1 nd0)) (hk2 : KL b g h zs C cc kf (kids.getD 2 nd0))
    {w : World} {A : Option Addr} {l c : Nat} (a q : Int) (st : WS) (hw : Lst w b g h zs C cc st) (hr : NdsR w (Fw b g h) kids A l c) :
    CallsX E.P 101 #[.pointer (some ⟨b, 0, none⟩), ndA (.mk k v s kids) A l c, .int .i64 a, .int .i64 q] w (LR b g h zs C cc w (choiceL (kf a q) st v kids)) (LX b g h w (choiceL (kf a q) st v kids)) := by
  obtain ⟨hb, hg, hh⟩ := hw.lt
  dsimp only [ndA, Nd.k, Nd.n, Nd.s, Nd.kids]
  refine vc133 hw.1 ?_
  intro id hid w1 hE1 hi hh1
  refine callM (t := v == 0) ⟨hh1, hw.2.ext hE1⟩ (ext_s3 hE1) (away_s3 hb hg hh (by simp; omega)) (fun e => by simp only [choiceL, e, Bool.false_eq_true, if_false]) fun w2 ht hM2 hU2 => ?_
  have hU02 := (ext_s3 hE1).t3 hU2
  have hs2 := hU02.size
  have hv : choiceL (kf a q) st v kids = (ofL (kf a q st (kids.getD 0 nd0)) 2).bind fun s1 => (kf a q s1 (kids.getD 1 nd0)).bind fun p => (ofL (kf a q p.2 (kids.getD 2 nd0)) p.1).map fun s3 => (p.1, s3) := by rw [choiceL, if_pos ht]
  refine hr.idxL 0 rfl (by omega) fun ad ha => (hr.s3 hU02).cellL ha 0 rfl (by omega) (d := nd0) fun A0 l0 c0 q0 hh2 => ?_
  refine callLU (ofK_c hk0 a q 2 st ⟨hh2, hM2⟩ q0) hU02 (away_s3 hb hg hh (by simp; omega)) (fun e => by rw [hv, e]; rfl) fun s1 w3 he3 hw3 hU3 => ?_
  have hU03 := hU02.t3 hU3
  refine hr.idxL 1 rfl (by omega) fun ad1 ha1 => (hr.s3 hU03).cellL ha1 1 rfl (by omega) (d := nd0) fun A1 l1 c1 q1 hh3 => ?_
  refine callL (hk1 a q s1 ⟨hh3, hw3.2⟩ q1) hU03 (away_s3 hb hg hh (by simp; omega)) (fun e => by rw [hv, he3]; simp only [Option.bind_some, e, Option.bind_none]) fun y s2 w4 he4 hw4 hU4 => ?_
  have hU04 := hU03.t3 hU4
  refine hr.idxL 2 rfl (by omega) fun ad2 ha2 => (hr.s3 hU04).cellL ha2 2 rfl (by omega) (d := nd0) fun A2 l2 c2 q2 hh4 => ?_
  refine callLU (ofK_c hk2 a q y s2 ⟨hh4, hw4.2⟩ q2) hU04 (away_s3 hb hg hh (by simp; omega)) (fun e => by rw [hv, he3]; simp only [Option.bind_some, he4, e, Option.map_none]) fun s3 w5 he5 hw5 hU5 hh5 => ?_
  exact ⟨(y, s3), by rw [hv, he3]; simp only [Option.bind_some, he4, he5, Option.map_some], rfl, ⟨hh5, hw5.2⟩, hU04.t3 hU5⟩
end Go.Vx.Tryz
namespace Go.Vx.Tryz
open Go Go.Vx Go.Proofs
variable {b g h : Nat} {zs : List Int} {C : Option Addr} {cc : Nat}
theorem loopK {α : Type} {kf : Int → Int → WS → Nd → Option (Int × WS)} {K a q : Int} {kids : List Nd} {A : Option Addr} {l c : Nat} (ids : List Nat) {w0 w : World} {s0 : WS} {rc : Option α} {v : Value} {R : Value → World → Prop}
    (hk : ∀ j (_ : j < kids.length), KL b g h zs C cc kf kids[j]) (hr : NdsR w0 (Fw b g h) kids A l c) (hl : l < 2 ^ 48) (hlt : b < w0.heap.size ∧ g < w0.heap.size ∧ h < w0.heap.size) (hids : ∀ i ∈ ids, w0.heap.size ≤ i)
    (h0 : Upd w0 w (S3 b g h)) (hM : LMem w b g h zs C cc s0.ks s0.ts) (hn : lookAll (kf a q) K s0 kids = none → rc = none)
    (fin : ∀ (s1 : WS) (w2 : World), lookAll (kf a q) K s0 kids = some s1 → LMem w2 b g h zs C cc s1.ks s1.ts → Upd w0 w2 (S3 b g h) → w2.heap[b]? = some (.cells (lcells zs C cc g h s1) 103 (0, 0)) → R v w2) :
    ∃ (I : Int → Option Addr → Nat → Nat → Option Nat → Option Nat → Int → World → Prop), ∃ (m : Int → Option Addr → Nat → Nat → Option Nat → Option Nat → Int → Nat), I 0 C zs.length cc (some g) (some h) s0.parts w ∧
      ∀ (_ : Nat → Value) (x : Int) (a1 : Option Addr) (n c1 : Nat) (r1 r2 : Option Nat) (p : Int) (w2 : World), I x a1 n c1 r1 r2 p w2 →
        (decide (x < (l : Int)) = true → (0 ≤ x ∧ x < (l : Int)) ∧ ∃ ad, A = some ad ∧ ∃ x4 x5, ∃ x6 a2, ∃ n2 c2, CellsIn w2 (Addr.add ad (Int.toNat x * 4)) [.int .i64 x4, .int .i64 x5, .string x6, .slice a2 n2 c2] ∧ ∀ id1, w2.heap.size ≤ id1 → ∀ w3, Upd w2 w3 (setOf []) → id1 < w3.heap.size →
          w3.heap[b]? = some (Obj.cells (#[.slice a1 n c1, Value.map r1, Value.map r2, .int .i64 p]) 103) → ∃ (R1 : Value → World → Prop), ∃ (X' : ContX), CallsX E.P 105 (#[.pointer (some (Addr.mk b 0 none)), .agg (#[.int .i64 x4, .int .i64 x5, .string x6, .slice a2 n2 c2]), .int .i64 K, .int .i64 a, .int .i64 q]) w3 R1 X' ∧
            (∀ (u : Value) (w4 : World), R1 u w4 → ∃ (u1 : Value), u = u1 ∧ ∃ S, Upd w3 w4 S ∧ Away (ids ++ [id1]) S ∧ ∃ a3 n3, ∃ c3 r3, ∃ r4 p2, w4.heap[b]? = some (Obj.cells (#[.slice a3 n3 c3, Value.map r3, Value.map r4, .int .i64 p2]) 103) ∧ 4 = 4 ∧ I (w64 (x + 1)) a3 n3 c3 r3 r4 p2 w4 ∧ m (w64 (x + 1)) a3 n3 c3 r3 r4 p2 < m x a1 n c1 r1 r2 p) ∧
            ∀ (ch : List PanicEntry) (w5 : World), X' ch w5 → LX b g h w0 rc ch w5) ∧
        (decide (x < (l : Int)) = false → w2.heap[b]? = some (Obj.cells (#[.slice a1 n c1, Value.map r1, Value.map r2, .int .i64 p]) 103) → R v w2) := by
  obtain ⟨hb, hg, hh⟩ := hlt
  obtain rfl := hr.len
  refine ⟨fun x a1 n c1 r1 r2 p w2 => ∃ (j : Nat) (s : WS), x = j ∧ j ≤ kids.length ∧ (C = a1 ∧ n = zs.length ∧ cc = c1 ∧ r1 = some g ∧ r2 = some h ∧ p = s.parts) ∧ LMem w2 b g h zs C cc s.ks s.ts ∧ Upd w0 w2 (S3 b g h) ∧ lookAll (kf a q) K s (kids.drop j) = lookAll (kf a q) K s0 kids,
    fun x _ _ _ _ _ _ => ((kids.length : Int) - x).toNat, ⟨0, s0, rfl, Nat.zero_le _, ⟨rfl, rfl, rfl, rfl, rfl, rfl⟩, hM, h0, rfl⟩, ?_⟩
  rintro _ x a1 n c1 r1 r2 p w2 ⟨j, s, rfl, hj, ⟨rfl, rfl, rfl, rfl, rfl, rfl⟩, hM2, hU2, hL⟩
  refine ⟨fun hlt => ?_, fun hlt hh2 => ?_⟩
  · have hlt : j < kids.length := by simpa using hlt
    refine hr.idx hlt fun ad ha => (hr.s3 hU2).cell ha hlt fun A1 l1 c1 q1 id1 hid1 w3 hE3 hi3 hh3 => ?_
    rw [drop_cons hlt, lookAll] at hL
    have hs2 := hU2.size
    refine callLU (ofK_c (hk j hlt) a q K s ⟨hh3, hM2.ext hE3⟩ (q1.ext hE3)) (hU2.t3 (ext_s3 hE3)) (away_s3 hb hg hh fun i hi => ?_) (fun e => hn (by rw [← hL, e]; rfl)) fun s1 w4 he hw4 hU4 => ⟨⟨j + 1, s1, w64_succ (by omega), hlt, ⟨rfl, rfl, rfl, rfl, rfl, rfl⟩, hw4.2, (hU2.t3 (ext_s3 hE3)).t3 hU4, by rw [← hL, he]; rfl⟩, ?_⟩
    · rcases List.mem_append.1 hi with hi | hi
      · exact hids i hi
      · simp only [List.mem_singleton] at hi; omega
    · have := w64_succ (j := j) (by omega)
      dsimp only
      rw [this]; exact mea_succ hlt
  · have hlt : ¬ j < kids.length := by simpa using hlt
    rw [List.drop_eq_nil_of_le (by omega), lookAll] at hL
    exact fin s w2 hL.symm hM2 hU2 hh2
def SLk (b g h : Nat) (zs : List Int) (C : Option Addr) (cc : Nat) (kf : Int → Int → WS → Nd → Option (Int × WS)) (n : Nd) : Prop :=
  ∀ {w : World} {A : Option Addr} {l c : Nat} (a q : Int) (st : WS), Lst w b g h zs C cc st → NdsR w (Fw b g h) n.kids A l c →
    CallsX E.P 119 #[.pointer (some ⟨b, 0, none⟩), ndA n A l c, .int .i64 a, .int .i64 q] w (LU b g h zs C cc w (setLk (kf a q) st n)) (LX b g h w (setLk (kf a q) st n))
theorem lst_put {b g h : Nat} {zs : List Int} {C : Option Addr} {cc : Nat} {w w' : World} {st st' : WS} (q : LMem w b g h zs C cc st.ks st.ts) (k : Upd w w' (setOf [b])) (hh : w'.heap[b]? = some (.cells (lcells zs C cc g h st') 103 (0, 0))) (h1 : st'.ks = st.ks) (h2 : st'.ts = st.ts) : Lst w' b g h zs C cc st' :=
  ⟨hh, by rw [h1, h2]; exact q.upd k upd_b⟩
theorem setK_c {kf : Int → Int → WS → Nd → Option (Int × WS)} {n : Nd} (hk : ∀ j (_ : j < n.kids.length), KL b g h zs C cc kf n.kids[j]) : SLk b g h zs C cc kf n := by
  intro w A l c a q st hw hr
  obtain ⟨hb, hg, hh⟩ := hw.lt
  obtain ⟨k, v, s, kids⟩ := n
  have hl := hr.lt
  have hlen := hr.len
  dsimp only [ndA, Nd.k, Nd.n, Nd.s, Nd.kids] at *
  have hz : ∀ x : Int, ((l : Int) == x) = ((kids.length : Int) == x) := fun x => by rw [hlen]
  refine vc149 hw.1 ?_
  intro id hid
  have aw : ∀ {S : List Nat}, (∀ i ∈ S, w.heap.size ≤ i) → Away S (S3 b g h) := fun hS => away_s3 hb hg hh hS
  have hi1 : ∀ i ∈ [id], w.heap.size ≤ i := by simp; omega
  refine ⟨fun a1 n1 c1 r1 r2 x w2 => (C = a1 ∧ n1 = zs.length ∧ cc = c1 ∧ r1 = some g ∧ r2 = some h ∧ x = st.inc.parts) ∧ (decide (w64 (st.parts + 1) ≤ 4096) && v == 0) = true ∧ LMem w2 b g h zs C cc st.ks st.ts ∧ Upd w w2 (S3 b g h), ⟨fun hp w1 hU1 _ hh1 => ?_, fun hp w1 hU1 _ hh1 => ?_⟩, ?_⟩
  · refine callM (st := st.inc) (t := v == 0) (lst_put (st := st) hw.2 hU1 hh1 rfl rfl) (upd_s3 hU1) (aw hi1) (fun e => by simp only [setLk, hp, e, Bool.and_false, Bool.not_false, if_true]) fun w2 ht hM2 hU2 => ?_
    exact ⟨⟨rfl, rfl, rfl, rfl, rfl, rfl⟩, by simp only [hp, ht, Bool.and_self], hM2, (upd_s3 hU1).t3 hU2⟩
  · exact callM (st := st.inc) (t := false) (lst_put (st := st) hw.2 hU1 hh1 rfl rfl) (upd_s3 hU1) (aw hi1) (fun e => by simp only [setLk, hp, Bool.false_and, Bool.not_false, if_true]) fun w2 ht _ _ => by cases ht
  rintro _ _ _ _ _ _ _ w2 ⟨⟨rfl, rfl, rfl, rfl, rfl, rfl⟩, hc, hM2, hU2⟩
  have hs2 := hU2.size
  generalize hres : setLk (kf a q) st (.mk k v s kids) = res
  rw [setLk, hc] at hres
  simp only [Bool.not_true, Bool.false_eq_true, if_false] at hres
  refine ⟨fun a1 n1 c1 r1 r2 x w3 => (C = a1 ∧ n1 = zs.length ∧ cc = c1 ∧ r1 = some g ∧ r2 = some h ∧ x = st.inc.parts) ∧ (if strEq s (ByteArray.mk #[]) then lookAll (kf a q) 3 st.inc kids else none) = res ∧ LMem w3 b g h zs C cc st.ks st.ts ∧ Upd w w3 (S3 b g h), ⟨fun e23 => ?_, fun e23 => ?_⟩, ?_⟩
  · simp only [e23, if_true] at hres
    refine callB (lexName_c s) fun w3 hE3 => ⟨fun hx hh3 => ?_, fun hx hh3 => ?_⟩
    · refine callM (st := st.inc) (t := (l : Int) == 0) ⟨hh3, hM2.ext hE3⟩ (hU2.t3 (ext_s3 hE3)) (aw hi1) (fun e => by rw [← hres, hx, ← hz, e]; rfl) fun w4 ht hM4 hU4 hh4 => ?_
      exact ⟨st.inc, by rw [← hres, hx, ← hz, ht]; rfl, rfl, ⟨hh4, hM4⟩, (hU2.t3 (ext_s3 hE3)).t3 hU4⟩
    · exact callM (st := st.inc) (t := false) ⟨hh3, hM2.ext hE3⟩ (hU2.t3 (ext_s3 hE3)) (aw hi1) (fun e => by rw [← hres, hx]; rfl) fun w4 ht _ _ => by cases ht
  · simp only [e23, Bool.false_eq_true, if_false] at hres
    refine ⟨fun e22 hh2 => ?_, fun e22 => ⟨fun e24 hh2 => ?_, fun e24 => ⟨fun e25 => ?_, fun e25 hh2 => ?_⟩⟩⟩
    · simp only [e22, if_true] at hres
      refine callM (st := st.inc) (t := (l : Int) == 0) ⟨hh2, hM2⟩ hU2 (aw hi1) (fun e => by rw [← hres, ← hz, e]; rfl) fun w4 ht hM4 hU4 => ?_
      exact ⟨⟨rfl, rfl, rfl, rfl, rfl, rfl⟩, by rw [← hres, ← hz, ht]; simp only [Bool.true_and], hM4, hU2.t3 hU4⟩
    · simp only [e22, e24, Bool.false_eq_true, if_false, if_true] at hres
      refine callM (st := st.inc) (t := (l : Int) == 1) ⟨hh2, hM2⟩ hU2 (aw hi1) (fun e => by rw [← hres, ← hz, e]; rfl) fun w4 ht hM4 hU4 => ?_
      exact ⟨⟨rfl, rfl, rfl, rfl, rfl, rfl⟩, by rw [← hres, ← hz, ht]; simp only [Bool.true_and], hM4, hU2.t3 hU4⟩
    · simp only [e22, e24, e25, Bool.false_eq_true, if_false, Bool.true_and] at hres
      exact ⟨⟨rfl, rfl, rfl, rfl, rfl, rfl⟩, hres, hM2, hU2⟩
    · simp only [e22, e24, e25, Bool.false_eq_true, if_false, Bool.false_and] at hres
      exact callM (st := st.inc) (t := false) ⟨hh2, hM2⟩ hU2 (aw hi1) (fun e => hres.symm) fun w4 ht _ _ => by cases ht
  rintro _ _ _ _ _ _ _ w3 ⟨⟨rfl, rfl, rfl, rfl, rfl, rfl⟩, hc2, hM3, hU3⟩ hh3
  refine callM (st := st.inc) (t := strEq s (ByteArray.mk #[])) ⟨hh3, hM3⟩ hU3 (aw hi1) (fun e => by rw [← hc2, e]; rfl) fun w4 ht hM4 hU4 => ?_
  rw [ht, if_pos rfl] at hc2
  exact loopK (s0 := st.inc) [id] hk hr hl ⟨hb, hg, hh⟩ hi1 (hU3.t3 hU4) hM4 (fun e => by rw [← hc2, e]) fun s1 w5 he hM5 hU5 hh5 => ⟨s1, by rw [← hc2, he], rfl, ⟨hh5, hM5⟩, hU5⟩
end Go.Vx.Tryz
