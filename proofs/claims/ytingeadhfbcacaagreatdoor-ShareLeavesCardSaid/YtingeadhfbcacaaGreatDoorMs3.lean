/- Texts of the walk, gathered. -/
import Derived.Test.YtingeadhfbcacaaGreatDoorMs2
import Derived.Test.YtingeadhfbcacaaGreatDoorMs1
import Derived.Lib.AppendStr
import Derived.Laws.BytesArg
set_option linter.unusedSimpArgs false
set_option linter.unusedVariables false
namespace Go.Vx.Tryz
open Go Go.Vx Go.Proofs
variable {b : Nat} {ts : List Tok} {A : Option Addr} {c : Nat}
def SpecCl (b : Nat) (ts : List Tok) (A : Option Addr) (c : Nat) : Cl → RS → Ex × RS → Prop
  | .row r, st, res => ∀ {w : World}, RdW w b ts A c st → CallsX E.P 28 #[.pointer (some ⟨b, 0, none⟩), .int .i64 r] w (RdX b ts A c w res) never
  | .not, st, res => ∀ {w : World}, RdW w b ts A c st → CallsX E.P 44 #[.pointer (some ⟨b, 0, none⟩)] w (RdX b ts A c w res) never
  | .unary, st, res => ∀ {w : World}, RdW w b ts A c st → CallsX E.P 45 #[.pointer (some ⟨b, 0, none⟩)] w (RdX b ts A c w res) never
  | .atom, st, res => ∀ {w : World}, RdW w b ts A c st → CallsX E.P 70 #[.pointer (some ⟨b, 0, none⟩)] w (RdX b ts A c w res) never
  | .choice t, st, res => ∀ {w : World}, (tokAt ts st.at_).kind ≠ 0 → RdW w b ts A c st → CallsX E.P 88 #[.pointer (some ⟨b, 0, none⟩), .int .i64 t] w (RdX b ts A c w res) never
  | .call i t, st, res => ∀ {w : World}, (tokAt ts st.at_).kind ≠ 0 → RdW w b ts A c st → CallsX E.P 89 #[.pointer (some ⟨b, 0, none⟩), .int .i64 i, .int .i64 t] w (RdX b ts A c w res) never
  | .quant i t, st, res => ∀ {w : World}, (tokAt ts st.at_).kind ≠ 0 → RdW w b ts A c st → CallsX E.P 90 #[.pointer (some ⟨b, 0, none⟩), .int .i64 i, .int .i64 t] w (RdX b ts A c w res) never
  | .set, st, res => ∀ {w : World}, RdW w b ts A c st → CallsX E.P 109 #[.pointer (some ⟨b, 0, none⟩)] w (RdX b ts A c w res) never
  | .list t, st, res => ∀ {w : World}, RdW w b ts A c st → CallsX E.P 123 #[.pointer (some ⟨b, 0, none⟩), .int .i64 t] w (RdX b ts A c w res) never
  | .loop .., _, _ => True
  | .more .., _, _ => True
def RdOk (b : Nat) (ts : List Tok) (A : Option Addr) (c : Nat) (f : Nat) : Prop := ∀ g, g ≤ f → ∀ cl st res, rd ts g cl st = some res → SpecCl b ts A c cl st res
theorem new_s {w : World} {ids : List Nat} {b : Nat} (h : ∀ i ∈ ids, i = b ∨ w.heap.size ≤ i) : ∀ y, setOf ids y → y = b ∨ w.heap.size ≤ y := by
  induction ids with
  | nil => intro y hy; exact hy.elim
  | cons i r ih =>
    intro y hy
    rcases hy with hy | hy
    · subst hy; exact h _ (by simp)
    · exact ih (fun j hj => h j (by simp [hj])) y hy
theorem not_c {f : Nat} (hE : Ended ts) (ih : RdOk b ts A c f) (st : RS) (res : Ex × RS) (h : rd ts (f + 1) .not st = some res) : SpecCl b ts A c .not st res := by
  intro w hw
  have hb := hw.blt
  rw [rd] at h
  refine vc55 hw.hh ?_
  intro id hid w1 hE1 hi1 hh1
  have hE1' : Ext w w1 := hE1
  have aw : Away [id] (OB b) := away_ob hb (by simp; omega)
  refine callRB (is_c _ (hw.ext hE1)) fun w2 hw2 hE2 => ⟨fun hx hh2 => ?_, fun hx => hw2.idx hw2.lt fun ad ha w3 hE3 => tok_at (hw2.ext hE3).ht ha hw2.lt fun hh3 => ?_⟩
  · rw [if_pos hx] at h
    refine callRX (ih f (Nat.le_refl _) (.row 4) st res h hw2) aw fun A1 l1 c1 w3 hx3 hw3 hU3 w4 hU4 hh4 => ?_
    have hs := (hE1'.trans hE2).size
    have hs4 := hU4.size
    exact rdx_done hw3 hb ((ext_ob (hE1'.trans hE2)).tb hU3) hU4 (new_s (by simp; omega)) hh4 hw3.lt (rng_mono (tree_keep hx3 hU4 fun y hy => by simp only [setOf, no, or_false] at hy; have := hE2.size; omega) (by omega) (by omega))
  · rw [if_neg (by rw [hx]; exact Bool.false_ne_true)] at h
    have hx' : isF ts st (ByteArray.mk #[110, 111, 116]) = true := by simpa using hx
    have hE13 : Ext w w3 := (hE1'.trans hE2).trans hE3
    refine callRU (opens_c hE (.inl (isF_kind hx')) (hw2.ext hE3)) aw fun w4 hw4 hU4 hh4 => ?_
    obtain ⟨p, hp, rfl⟩ := map_some' h
    refine callRX (ih f (Nat.le_refl _) (.row 3) _ p hp hw4) aw fun A1 l1 c1 w5 hx5 hw5 hU5 id1 hid1 id2 hid2 w6 hU6 hi1 hi2 hh6 hk6 => ?_
    have hs3 := hE13.size
    have hs4 := hU4.size
    have hs5 := hU5.size
    have hs6 := hU6.size
    have hs12 : w1.heap.size ≤ w3.heap.size := (hE2.trans hE3).size
    refine rdx_done (x := .mk 7 0 (ByteArray.mk #[]) [p.1] (tokAt ts st.at_).at_) (s' := p.2.shut) hw5 hb (((ext_ob hE13).tb hU4).tb hU5) hU6 (new_s (by simp; omega)) hh6 hw5.lt ?_
    exact lit1 hk6 ⟨by omega, hi2⟩ (rng_mono (tree_keep hx5 hU6 fun y hy => by simp only [setOf, no, or_false] at hy; omega) (by omega) (by omega))
theorem unary_c {f : Nat} (hE : Ended ts) (ih : RdOk b ts A c f) (st : RS) (res : Ex × RS) (h : rd ts (f + 1) .unary st = some res) : SpecCl b ts A c .unary st res := by
  intro w hw
  have hb := hw.blt
  rw [rd] at h
  refine vc56 hw.hh ?_
  intro id hid w1 hE1 hi1 hh1
  have hE1' : Ext w w1 := hE1
  have aw : Away [id] (OB b) := away_ob hb (by simp; omega)
  refine callRB (is_c _ (hw.ext hE1)) fun w2 hw2 hE2 => ⟨fun hx hh2 => ?_, fun hx => hw2.idx hw2.lt fun ad ha w3 hE3 => tok_at (hw2.ext hE3).ht ha hw2.lt fun hh3 => ?_⟩
  · rw [if_pos hx] at h
    refine callRX (ih f (Nat.le_refl _) .atom st res h hw2) aw fun A1 l1 c1 w3 hx3 hw3 hU3 w4 hU4 hh4 => ?_
    have hs := (hE1'.trans hE2).size
    have hs4 := hU4.size
    exact rdx_done hw3 hb ((ext_ob (hE1'.trans hE2)).tb hU3) hU4 (new_s (by simp; omega)) hh4 hw3.lt (rng_mono (tree_keep hx3 hU4 fun y hy => by simp only [setOf, no, or_false] at hy; have := hE2.size; omega) (by omega) (by omega))
  · rw [if_neg (by rw [hx]; exact Bool.false_ne_true)] at h
    have hx' : isF ts st (ByteArray.mk #[45]) = true := by simpa using hx
    have hE13 : Ext w w3 := (hE1'.trans hE2).trans hE3
    refine callRU (opens_c hE (.inl (isF_kind hx')) (hw2.ext hE3)) aw fun w4 hw4 hU4 hh4 => ?_
    obtain ⟨p, hp, rfl⟩ := map_some' h
    refine callRX (ih f (Nat.le_refl _) (.row 7) _ p hp hw4) aw fun A1 l1 c1 w5 hx5 hw5 hU5 id1 hid1 id2 hid2 w6 hU6 hi1 hi2 hh6 hk6 => ?_
    have hs3 := hE13.size
    have hs4 := hU4.size
    have hs5 := hU5.size
    have hs6 := hU6.size
    have hs12 : w1.heap.size ≤ w3.heap.size := (hE2.trans hE3).size
    refine rdx_done (x := .mk 6 0 (ByteArray.mk #[]) [p.1] (tokAt ts st.at_).at_) (s' := p.2.shut) hw5 hb (((ext_ob hE13).tb hU4).tb hU5) hU6 (new_s (by simp; omega)) hh6 hw5.lt ?_
    exact lit1 hk6 ⟨by omega, hi2⟩ (rng_mono (tree_keep hx5 hU6 fun y hy => by simp only [setOf, no, or_false] at hy; omega) (by omega) (by omega))
theorem choice_c {f : Nat} (hE : Ended ts) (ih : RdOk b ts A c f) (t : Int) (st : RS) (res : Ex × RS) (h : rd ts (f + 1) (.choice t) st = some res) : SpecCl b ts A c (.choice t) st res := by
  intro w hk hw
  have hb := hw.blt
  rw [rd] at h
  refine vc117 hw.hh ?_
  intro id hid w1 hE1 hi1 hh1
  have hE1' : Ext w w1 := hE1
  have hs1 := hE1'.size
  refine callRU (opens_c hE (.inl hk) (hw.ext hE1)) (away_ob hb (by simp; omega)) fun w2 hw2 hU2 hh2 => ?_
  have hs2 := hU2.size
  obtain ⟨p, hp, h⟩ := bind_some' h
  refine callRX (ih f (Nat.le_refl _) (.row 1) _ p hp hw2) (away_ob hb (by simp; omega)) fun A1 l1 c1 w3 hx3 hw3 hU3 id1 hid1 w4 hE4 hi4 hh4 => ?_
  have hs3 := hU3.size
  have hs4 : w3.heap.size ≤ w4.heap.size := Upd.size hE4
  refine callRU (takes_c hE _ (hw3.ext hE4)) (away_ob hb (by simp; omega)) fun w5 hw5 hU5 hh5 => ?_
  have hs5 := hU5.size
  obtain ⟨p2, hp2, h⟩ := bind_some' h
  refine callRX (ih f (Nat.le_refl _) (.row 1) _ p2 hp2 hw5) (away_ob hb (by simp; omega)) fun A2 l2 c2 w6 hx6 hw6 hU6 id2 hid2 w7 hE7 hi7 hh7 => ?_
  have hs6 := hU6.size
  have hs7 : w6.heap.size ≤ w7.heap.size := Upd.size hE7
  refine callRU (takes_c hE _ (hw6.ext hE7)) (away_ob hb (by simp; omega)) fun w8 hw8 hU8 hh8 => ?_
  have hs8 := hU8.size
  obtain ⟨p3, hp3, rfl⟩ := map_some' h
  refine callRX (ih f (Nat.le_refl _) (.row 1) _ p3 hp3 hw8) (away_ob hb (by simp; omega)) fun A3 l3 c3 w9 hx9 hw9 hU9 id3 hid3 id4 hid4 w10 hU10 hi3 hi4' hh10 hk10 => ?_
  have hs9 := hU9.size
  have hs10 := hU10.size
  have u39 : Upd w3 w9 (OB b) := (((((ext_ob hE4).tb hU5).tb hU6).tb (ext_ob hE7)).tb hU8).tb hU9
  have u69 : Upd w6 w9 (OB b) := ((ext_ob hE7).tb hU8).tb hU9
  have u09 : Upd w w9 (OB b) := (((ext_ob hE1').tb hU2).tb hU3).tb u39
  have ob : ∀ {y lo hi : Nat}, OB b y → w.heap.size ≤ lo → y < lo ∨ hi ≤ y := fun {y lo hi} hy hl => by have hy : y = b := hy; omega
  have so : ∀ {y lo hi : Nat}, setOf [id, b] y → w1.heap.size ≤ lo → y < lo ∨ hi ≤ y := fun {y lo hi} hy hl => by simp only [setOf, no, or_false] at hy; omega
  refine rdx_done (x := .mk 19 0 (ByteArray.mk #[]) [p.1, p2.1, p3.1] t) (s' := p3.2.shut) hw9 hb u09 hU10 (new_s (by simp; omega)) hh10 hw9.lt ?_
  refine lit3 hk10 ⟨by omega, hi4'⟩ (rng_mono (tree_keep (tree_keep hx3 u39 fun y hy => ob hy (by omega)) hU10 fun y hy => so hy (by omega)) (by omega) (by omega))
    (rng_mono (tree_keep (tree_keep hx6 u69 fun y hy => ob hy (by omega)) hU10 fun y hy => so hy (by omega)) (by omega) (by omega)) (rng_mono (tree_keep hx9 hU10 fun y hy => so hy (by omega)) (by omega) (by omega))
theorem sl36 : SlT E.P 42 44 5 64 := SlT.of (by kernel_rfl) (by omega) (by omega)
theorem call_c {f : Nat} (hE : Ended ts) (ih : RdOk b ts A c f) (i t : Int) (st : RS) (res : Ex × RS) (h : rd ts (f + 1) (.call i t) st = some res) : SpecCl b ts A c (.call i t) st res := by
  intro w hk hw
  have hb := hw.blt
  have hsm := hw.sm
  have hnl := next_lt hE hw.lt hk
  rw [rd] at h
  refine vc118 hw.hh ?_
  intro id hid w1 hU1 hi1 hh1
  rw [w64_succ (by omega)] at hh1
  have hw1 : RdW w1 b ts A c st.next := hw.put hU1 hh1 hnl
  have hs1 := hU1.size
  refine callRU (bracket_c hE _ hw1) (away_ob hb (by simp; omega)) fun w2 hw2 hU2 hh2 => ?_
  have hs2 := hU2.size
  obtain ⟨p, hp, h⟩ := bind_some' h
  refine callRX (ih f (Nat.le_refl _) (.row 1) _ p hp hw2) (away_ob hb (by simp; omega)) fun A1 l1 c1 w3 hx3 hw3 hU3 id1 hid1 => ⟨fun hlt w4 hE4 hi4 hh4 hk4 => ?_, fun hge w4 hE4 hi4 hh4 hk4 => ?_⟩
  · rw [if_pos hlt] at h
    obtain ⟨p2, hp2, rfl⟩ := map_some' h
    have hs3 := hU3.size
    have hs4 : w3.heap.size ≤ w4.heap.size := Upd.size hE4
    refine callRU (takes_c hE _ (hw3.ext hE4)) (away_ob hb (by simp; omega)) fun w5 hw5 hU5 hh5 hk5 => ?_
    have hs5 := hU5.size
    refine callRX (ih f (Nat.le_refl _) (.row 1) _ p2 hp2 hw5) (away_ob hb (by simp; omega)) fun A2 l2 c2 w6 hx6 hw6 hU6 id2 hid2 w7 hE7 hi7 hk7 hk72 => ?_
    have hs6 := hU6.size
    have hs7 : w6.heap.size ≤ w7.heap.size := Upd.size hE7
    have u37 : Upd w3 w7 (OB b) := (((ext_ob hE4).tb hU5).tb hU6).tb (ext_ob hE7)
    have u07 : Upd w w7 (OB b) := (((upd_ob hU1).tb hU2).tb hU3).tb u37
    have hx7 : ExsR w7 (Rng w2.heap.size w7.heap.size) p.1.kids A1 l1 c1 := rng_mono (tree_keep hx3 u37 fun y hy => by have hy : y = b := hy; omega) (by omega) (by omega)
    have hy7 : ExsR w7 (Rng w2.heap.size w7.heap.size) p2.1.kids A2 l2 c2 := rng_mono (ExsR.ext hx6 hE7) (by omega) (by omega)
    refine ⟨_, append_ex (x := p.1) (y := p2.1) sl36 hk7 hk72 hx7 hy7, ?_⟩
    rintro v w8 ⟨A', c', rfl, hx8, hE8⟩
    have hs8 := hE8.size
    refine ⟨_, _, _, rfl, no, hE8, Away.no _, fun hh8 hk8 hk82 => ?_⟩
    refine callRU (closes_c hE _ ((hw6.ext hE7).ext hE8)) (away_ob hb (by simp; omega)) fun w9 hw9 hU9 w10 hU10 hh10 hk10 hk102 => ?_
    have hs9 := hU9.size
    have hs10 := hU10.size
    refine rdx_done (x := .mk 20 (w64 (i + 1)) (ByteArray.mk #[]) [p.1, p2.1] t) (s' := closesF ts p2.2 (ByteArray.mk #[41])) hw9 hb ((u07.tb (ext_ob hE8)).tb hU9) hU10 (new_s (by simp; omega)) hh10 hw9.lt ?_
    have hx8' : ExsR w8 (Rng w2.heap.size w8.heap.size) [p.1, p2.1] A' 2 c' := hx8.mono fun z hz => by
      rcases hz with hz | hz
      · exact ⟨hz.1, by have := hz.2; omega⟩
      · exact ⟨by have := hz.1; omega, hz.2⟩
    exact rng_mono (tree_keep (tree_keep hx8' hU9 fun y hy => by have hy : y = b := hy; omega) hU10 fun y hy => by simp only [setOf, no, or_false] at hy; omega) (by omega) (by omega)
  · rw [if_neg (by rw [hge]; exact Bool.false_ne_true)] at h
    cases h
    have hs3 := hU3.size
    have hs4 : w3.heap.size ≤ w4.heap.size := Upd.size hE4
    refine callRU (closes_c hE _ (hw3.ext hE4)) (away_ob hb (by simp; omega)) fun w5 hw5 hU5 w6 hU6 hh6 hk6 => ?_
    have hs5 := hU5.size
    have hs6 := hU6.size
    refine rdx_done (x := .mk 20 (w64 (i + 1)) (ByteArray.mk #[]) [p.1] t) (s' := closesF ts p.2 (ByteArray.mk #[41])) hw5 hb (((((upd_ob hU1).tb hU2).tb hU3).tb (ext_ob hE4)).tb hU5) hU6 (new_s (by simp; omega)) hh6 hw5.lt ?_
    refine lit1 hk6 ⟨by omega, by omega⟩ (rng_mono (tree_keep (tree_keep hx3 ((ext_ob hE4).tb hU5) fun y hy => by have hy : y = b := hy; omega) hU6 fun y hy => by simp only [setOf, no, or_false] at hy; omega) (by omega) (by omega))
theorem rquant_c {f : Nat} (hE : Ended ts) (ih : RdOk b ts A c f) (i t : Int) (st : RS) (res : Ex × RS) (h : rd ts (f + 1) (.quant i t) st = some res) : SpecCl b ts A c (.quant i t) st res := by
  intro w hk hw
  have hb := hw.blt
  have hsm := hw.sm
  rw [rd] at h
  refine vc119 hw.hh ?_
  intro id hid
  have bad : ∀ {w1 : World}, Ext w w1 → id < w1.heap.size → some (ex0, failsF ts st 121) = some res → ∀ {X : ContX}, ∃ (R : Value → World → Prop) (X' : ContX), CallsX E.P 29 #[.pointer (some ⟨b, 0, none⟩), .int .i64 121] w1 R X' ∧ (∀ v w2, R v w2 → ∃ y : Value, v = y ∧ ∃ S, Upd w1 w2 S ∧ Away [id] S ∧ ∃ a1 n c1 x x1 x2 x3 x4,
      w2.heap[b]? = some (Obj.cells #[.slice a1 n c1, .int .i64 x, .int .i64 x1, .int .i64 x2, .int .i64 x3, .int .i64 x4] 62) ∧ 6 = 6 ∧ ∀ w11, Upd w2 w11 (setOf [id]) → w11.heap[b]? = some (Obj.cells #[.slice a1 n c1, .int .i64 x, .int .i64 x1, .int .i64 x2, .int .i64 x3, .int .i64 x4] 62) → RdX b ts A c w res (.agg #[.int .i64 0, .int .i64 0, .string (ByteArray.mk #[]), .slice none 0 0, .int .i64 0]) w11) ∧ ∀ ch w2, X' ch w2 → X ch w2 := fun {w1} hE1 hi1 hr {X} => by
    cases hr
    refine callRU (fails_c 121 (hw.ext hE1)) (away_ob hb (by simp; omega)) fun w2 hw2 hU2 w3 hU3 hh3 => ?_
    exact rdx_done (x := ex0) (s' := failsF ts st 121) hw2 hb ((ext_ob hE1).tb hU2) hU3 (new_s (by simp; omega)) hh3 hw2.lt ExsR.nil
  refine ⟨fun h64 w1 hE1 hi1 hh1 => bad hE1 hi1 (by rw [if_pos h64] at h; exact h), fun h64 => ⟨fun hq4 w1 hE1 hi1 hh1 => bad hE1 hi1 (by rw [if_neg (by rw [h64]; exact Bool.false_ne_true), if_pos hq4] at h; exact h), fun hq4 w1 hU1 hi1 hh1 => ?_⟩⟩
  rw [if_neg (by rw [h64]; exact Bool.false_ne_true), if_neg (by rw [hq4]; exact Bool.false_ne_true)] at h
  have hw1 : RdW w1 b ts A c { st with quants := w64 (st.quants + 1) } := hw.put hU1 hh1 hw.lt
  have hs1 := hU1.size
  refine callRU (opens_c (st := { st with quants := w64 (st.quants + 1) }) hE (.inl hk) hw1) (away_ob hb (by simp; omega)) fun w2 hw2 hU2 => ?_
  have hs2 := hU2.size
  generalize opensF ts { st with quants := w64 (st.quants + 1) } = s1 at h hw2
  refine hw2.idx hw2.lt fun ad ha w3 hE3 => tok_cell (hw2.ext hE3).ht ha hw2.lt fun id1 hid1 => ⟨fun hn w4 hE4 hi4 hh4 => ?_, fun hn w4 hU4 hi4 hh4 => ?_⟩
  · rw [if_pos hn] at h
    cases h
    have hs3 : w2.heap.size ≤ w3.heap.size := Upd.size hE3
    refine callRU (fails_c 120 ((hw2.ext hE3).ext hE4)) (away_ob hb (by simp; omega)) fun w5 hw5 hU5 w6 hU6 hh6 => ?_
    exact rdx_done (x := ex0) (s' := failsF ts s1 120) hw5 hb (((((upd_ob hU1).tb hU2).tb (ext_ob hE3)).tb (ext_ob hE4)).tb hU5) hU6 (new_s (by simp; omega)) hh6 hw5.lt ExsR.nil
  · rw [if_neg (by rw [hn]; exact Bool.false_ne_true)] at h
    have hkn : (tokAt ts s1.at_).kind ≠ 0 := by
      have : (tokAt ts s1.at_).kind = 2 := by simpa using hn
      omega
    have hnl := next_lt hE hw2.lt hkn
    rw [w64_succ (by omega)] at hh4
    have hw4 : RdW w4 b ts A c s1.next := (hw2.ext hE3).put hU4 hh4 hnl
    have hs3 : w2.heap.size ≤ w3.heap.size := Upd.size hE3
    have hs4 := hU4.size
    refine callRU (takes_c hE _ hw4) (away_ob hb (by simp; omega)) fun w5 hw5 hU5 hh5 => ?_
    have hs5 := hU5.size
    obtain ⟨p, hp, h⟩ := bind_some' h
    refine callRX (ih f (Nat.le_refl _) .set _ p hp hw5) (away_ob hb (by simp; omega)) fun A1 l1 c1 w6 hx6 hw6 hU6 id2 hid2 w7 hE7 hi7 hh7 => ?_
    have hs6 := hU6.size
    have hs7 : w6.heap.size ≤ w7.heap.size := Upd.size hE7
    refine callRU (takes_c hE _ (hw6.ext hE7)) (away_ob hb (by simp; omega)) fun w8 hw8 hU8 hh8 => ?_
    have hs8 := hU8.size
    obtain ⟨p2, hp2, rfl⟩ := map_some' h
    refine callRX (ih f (Nat.le_refl _) (.row 1) _ p2 hp2 hw8) (away_ob hb (by simp; omega)) fun A2 l2 c2 w9 hx9 hw9 hU9 id3 hid3 id4 hid4 w10 hU10 hi3 hi4' hh10 hk10 => ?_
    have hs9 := hU9.size
    have hs10 := hU10.size
    have u69 : Upd w6 w9 (OB b) := ((ext_ob hE7).tb hU8).tb hU9
    have u09 : Upd w w9 (OB b) := (((((((upd_ob hU1).tb hU2).tb (ext_ob hE3)).tb (upd_ob hU4)).tb hU5).tb hU6)).tb u69
    refine rdx_done (x := .mk 21 (w64 (i + 1)) (tokAt ts s1.at_).text [p.1, p2.1] t) (s' := { p2.2.shut with quants := w64 (p2.2.quants - 1) }) hw9 hb u09 hU10 (new_s (by simp; omega)) hh10 hw9.lt ?_
    refine lit2 hk10 ⟨by omega, hi4'⟩ (rng_mono (tree_keep (tree_keep hx6 u69 fun y hy => by have hy : y = b := hy; omega) hU10 fun y hy => by simp only [setOf, no, or_false] at hy; omega) (by omega) (by omega))
      (rng_mono (tree_keep hx9 hU10 fun y hy => by simp only [setOf, no, or_false] at hy; omega) (by omega) (by omega))
theorem among_kind {ts : List Tok} {st : RS} {l : List ByteArray} (h : amongF ts st l ≥ 0) : (tokAt ts st.at_).kind ≠ 0 := ((amongL_lt ts st l 0).2 h).1
theorem rset_c {f : Nat} (hE : Ended ts) (ih : RdOk b ts A c f) (st : RS) (res : Ex × RS) (h : rd ts (f + 1) .set st = some res) : SpecCl b ts A c .set st res := by
  intro w hw
  have hb := hw.blt
  have hsm := hw.sm
  rw [rd] at h
  refine vc139 hw.hh ?_
  intro id hid
  refine ⟨fun he w1 hE1 hi1 hh1 => ?_, fun he => hw.idx hw.lt fun ad ha w1 hE1 hi1 => tok_cell (hw.ext hE1).ht ha hw.lt fun id1 hid1 id2 hid2 w2 hE2 hi12 hi22 hh2 hl2 => ?_⟩
  · rw [if_pos he] at h
    cases h
    exact rdx_done (x := ex0) (s' := st) hw hb (Upd.refl _ _) hE1 (fun _ h => h.elim) hh1 hw.lt ExsR.nil
  rw [if_neg (by rw [he]; exact Bool.false_ne_true)] at h
  have hE02 : Ext w w2 := Ext.trans hE1 hE2
  have hs1 : w.heap.size ≤ w1.heap.size := Upd.size hE1
  have hs2 : w1.heap.size ≤ w2.heap.size := Upd.size hE2
  refine callRI (among_c setsL ((hw.ext hE1).ext hE2) (lit_strs (F := fun _ => True) hl2 trivial (by decide))) fun w3 hw3 hE3 => ?_
  have hE03 := hE02.trans hE3
  have hs3 := hE3.size
  have leaf : ∀ {w4 : World} {x : Ex}, (tokAt ts st.at_).kind ≠ 0 → some (x, st.next) = some res → x.kids = [] → Upd w3 w4 (setOf [id, b]) → w4.heap[b]? = some (Obj.cells #[.slice A ts.length c, .int .i64 (w64 ((st.at_ : Int) + 1)), .int .i64 st.open_, .int .i64 st.quants, .int .i64 st.e, .int .i64 st.place] 62) →
      RdX b ts A c w res (.agg #[.int .i64 x.k, .int .i64 x.n, .string x.s, .slice none 0 0, .int .i64 x.at_]) w4 := fun {w4 x} hk hr hx hU4 hh4 => by
    cases hr
    rw [w64_succ (by have := hw.lt; omega)] at hh4
    exact rdx_done (x := x) (s' := st.next) hw3 hb (ext_ob hE03) hU4 (new_s (by simp; omega)) hh4 (next_lt hE hw.lt hk) (by rw [hx]; exact ExsR.nil)
  refine ⟨fun c0 w4 hU4 hh4 _ => ?_, fun c0 => ⟨fun c1 w4 hU4 hh4 _ => ?_, fun c1 => ⟨fun c2 hh3 _ => ?_, fun c2 => ⟨fun c3 w4 hU4 hh4 _ => ?_, fun c3 hh3 _ => ?_⟩⟩⟩⟩
  · rw [if_pos c0] at h
    exact leaf (x := .mk 22 0 (ByteArray.mk #[]) [] (tokAt ts st.at_).at_) (among_kind (l := setsL) (by rw [eq_of_beq c0]; omega)) h rfl hU4 hh4
  · rw [if_neg (by rw [c0]; exact Bool.false_ne_true), if_pos c1] at h
    have hk := among_kind (ts := ts) (st := st) (l := setsL) (by rw [eq_of_beq c1]; omega)
    obtain ⟨p, hp, rfl⟩ := map_some' h
    rw [w64_succ (by have := hw.lt; omega)] at hh4
    have hw4 : RdW w4 b ts A c st.next := hw3.put hU4 hh4 (next_lt hE hw.lt hk)
    have hs4 := hU4.size
    refine callRU (bracket_c hE _ hw4) (away_ob hb (by simp; omega)) fun w5 hw5 hU5 hh5 _ => ?_
    have hs5 := hU5.size
    refine callRX (ih f (Nat.le_refl _) (.row 1) _ p hp hw5) (away_ob hb (by simp; omega)) fun A1 l1 c1 w6 hx6 hw6 hU6 id3 hid3 w7 hE7 hi7 hh7 _ => ?_
    have hs6 := hU6.size
    have hs7 : w6.heap.size ≤ w7.heap.size := Upd.size hE7
    refine callRU (closes_c hE _ (hw6.ext hE7)) (away_ob hb (by simp; omega)) fun w8 hw8 hU8 id4 hid4 w9 hU9 hi9 hh9 _ hk9 => ?_
    have hs8 := hU8.size
    have hs9 := hU9.size
    refine rdx_done (x := .mk 24 0 (ByteArray.mk #[]) [p.1] (tokAt ts st.at_).at_) (s' := closesF ts p.2 (ByteArray.mk #[41])) hw8 hb ((((((ext_ob hE03).tb (upd_ob hU4)).tb hU5).tb hU6).tb (ext_ob hE7)).tb hU8) hU9 (new_s (by simp; omega)) hh9 hw8.lt ?_
    exact lit1 hk9 ⟨by omega, hi9⟩ (rng_mono (tree_keep (tree_keep hx6 ((ext_ob hE7).tb hU8) fun y hy => by have hy : y = b := hy; omega) hU9 fun y hy => by simp only [setOf, no, or_false] at hy; omega) (by omega) (by omega))
  · rw [if_neg (by rw [c0]; exact Bool.false_ne_true), if_neg (by rw [c1]; exact Bool.false_ne_true), if_pos c2] at h
    refine callRX (ih f (Nat.le_refl _) (.list _) st res h hw3) (away_ob hb (by simp; omega)) fun A1 l1 c1 w4 hx4 hw4 hU4 w5 hU5 hh5 _ => ?_
    have hs4 := hU4.size
    have hs5 := hU5.size
    exact rdx_done hw4 hb ((ext_ob hE03).tb hU4) hU5 (new_s (by simp; omega)) hh5 hw4.lt (rng_mono (tree_keep hx4 hU5 fun y hy => by simp only [setOf, no, or_false] at hy; omega) (by omega) (by omega))
  · rw [if_neg (by rw [c0]; exact Bool.false_ne_true), if_neg (by rw [c1]; exact Bool.false_ne_true), if_neg (by rw [c2]; exact Bool.false_ne_true), if_pos c3] at h
    exact leaf (x := .mk 23 0 (tokAt ts st.at_).text [] (tokAt ts st.at_).at_) (by rw [eq_of_beq c3]; omega) h rfl hU4 hh4
  · rw [if_neg (by rw [c0]; exact Bool.false_ne_true), if_neg (by rw [c1]; exact Bool.false_ne_true), if_neg (by rw [c2]; exact Bool.false_ne_true), if_neg (by rw [c3]; exact Bool.false_ne_true)] at h
    cases h
    refine callRU (fails_c 120 hw3) (away_ob hb (by simp; omega)) fun w4 hw4 hU4 w5 hU5 hh5 _ => ?_
    exact rdx_done (x := ex0) (s' := failsF ts st 120) hw4 hb ((ext_ob hE03).tb hU4) hU5 (new_s (by simp; omega)) hh5 hw4.lt ExsR.nil
theorem atom_c {f : Nat} (hE : Ended ts) (ih : RdOk b ts A c f) (st : RS) (res : Ex × RS) (h : rd ts (f + 1) .atom st = some res) : SpecCl b ts A c .atom st res := by
  intro w hw
  have hb := hw.blt
  have hsm := hw.sm
  rw [rd] at h
  refine vc90 hw.hh ?_
  intro id hid
  refine ⟨fun he w1 hE1 hi1 hh1 => ?_, fun he => hw.idx hw.lt fun ad ha w1 hE1 hi1 => tok_cell (hw.ext hE1).ht ha hw.lt fun id1 hid1 w2 hE2 hi12 => ?_⟩
  · rw [if_pos he] at h
    cases h
    exact rdx_done (x := ex0) (s' := st) hw hb (Upd.refl _ _) hE1 (fun _ h => h.elim) hh1 hw.lt ExsR.nil
  rw [if_neg (by rw [he]; exact Bool.false_ne_true)] at h
  have hE02 : Ext w w2 := Ext.trans hE1 hE2
  have hs1 : w.heap.size ≤ w1.heap.size := Upd.size hE1
  have hs2 : w1.heap.size ≤ w2.heap.size := Upd.size hE2
  refine ⟨_, _, calls_c, ?_, never_any⟩
  rintro v w3 ⟨B, bl, bc, rfl, hB, hE3⟩
  refine ⟨_, _, _, rfl, no, hE3, Away.no _, fun hh3 => callRI (among_c callsL ((hw.ext hE02).ext hE3) hB) fun w4 hw4 hE4 => ?_⟩
  refine ⟨_, _, quants_c, ?_, never_any⟩
  rintro v w5 ⟨B2, bl2, bc2, rfl, hB2, hE5⟩
  refine ⟨_, _, _, rfl, no, hE5, Away.no _, fun hh5 => callRI (among_c quantsL (hw4.ext hE5) hB2) fun w6 hw6 hE6 id2 hid2 w7 hE7 hi27 hh7 hl7 => ?_⟩
  refine callRI (among_c truthL (hw6.ext hE7) (lit_strs (F := fun _ => True) hl7 trivial (by decide))) fun w8 hw8 hE8 id3 hid3 w9 hE9 hi39 hh9 hl9 hl93 => ?_
  refine callRI (among_c whichL (hw8.ext hE9) (lit_strs (F := fun _ => True) hl93 trivial (by decide))) fun w10 hw10 hE10 => ?_
  have hE010 : Ext w w10 := (((((((hE02.trans hE3).trans hE4).trans hE5).trans hE6).trans hE7).trans hE8).trans hE9).trans hE10
  have hs3 := hE3.size
  have hs4 := hE4.size
  have hs5 := hE5.size
  have hs6 := hE6.size
  have hs7 : w6.heap.size ≤ w7.heap.size := Upd.size hE7
  have hs8 := hE8.size
  have hs9 : w8.heap.size ≤ w9.heap.size := Upd.size hE9
  have hs10 := hE10.size
  have aw : ∀ {ids : List Nat}, (∀ i ∈ ids, w.heap.size ≤ i) → Away ids (OB b) := fun hi => away_ob hb hi
  have leaf : ∀ {w4 : World} {x : Ex}, (tokAt ts st.at_).kind ≠ 0 → some (x, st.next) = some res → x.kids = [] → Upd w10 w4 (setOf [id, b]) → w4.heap[b]? = some (Obj.cells #[.slice A ts.length c, .int .i64 (w64 ((st.at_ : Int) + 1)), .int .i64 st.open_, .int .i64 st.quants, .int .i64 st.e, .int .i64 st.place] 62) →
      RdX b ts A c w res (.agg #[.int .i64 x.k, .int .i64 x.n, .string x.s, .slice none 0 0, .int .i64 x.at_]) w4 := fun {w4 x} hk hr hx hU4 hh4 => by
    cases hr
    rw [w64_succ (by have := hw.lt; omega)] at hh4
    exact rdx_done (x := x) (s' := st.next) hw10 hb (ext_ob hE010) hU4 (new_s (by simp; omega)) hh4 (next_lt hE hw.lt hk) (by rw [hx]; exact ExsR.nil)
  have done : ∀ {w11 w12 : World} {A1 : Option Addr} {l1 c1 : Nat}, ExsR w11 (Rng w10.heap.size w11.heap.size) res.1.kids A1 l1 c1 → RdW w11 b ts A c res.2 → Upd w10 w11 (OB b) → Upd w11 w12 (setOf [id]) → w12.heap[b]? = some (Obj.cells #[.slice A ts.length c, .int .i64 res.2.at_, .int .i64 res.2.open_, .int .i64 res.2.quants, .int .i64 res.2.e, .int .i64 res.2.place] 62) →
      RdX b ts A c w res (exA res.1 A1 l1 c1) w12 := fun {w11 w12 A1 l1 c1} hx hw11 hU11 hU12 hh12 => by
    have := hU11.size
    have := hU12.size
    exact rdx_done hw11 hb ((ext_ob hE010).tb hU11) hU12 (new_s (by simp; omega)) hh12 hw11.lt (rng_mono (tree_keep hx hU12 fun y hy => by simp only [setOf, no, or_false] at hy; omega) (by omega) (by omega))
  refine ⟨fun c1 w11 hU11 hh11 _ _ => ?_, fun c1 => ⟨fun c2 w11 hU11 hh11 _ _ => ?_, fun c2 => ⟨fun c3 w11 hU11 hh11 _ _ => ?_, fun c3 => ⟨fun c4 => ?_, fun c4 => ⟨fun c5 hh10 _ _ => ?_, fun c5 => ⟨fun c6 hh10 _ _ => ?_, fun c6 => ⟨fun c7 hh10 _ _ => ?_, fun c7 => ⟨fun c8 hh10 _ _ => ?_, fun c8 hh10 _ _ => ?_⟩⟩⟩⟩⟩⟩⟩⟩
  · rw [if_pos c1] at h
    exact leaf (x := .mk 1 (tokAt ts st.at_).n (ByteArray.mk #[]) [] (tokAt ts st.at_).at_) (by rw [eq_of_beq c1]; omega) h rfl hU11 hh11
  · rw [if_neg (by rw [c1]; exact Bool.false_ne_true), if_pos c2] at h
    exact leaf (x := .mk 4 0 (tokAt ts st.at_).text [] (tokAt ts st.at_).at_) (by rw [eq_of_beq c2]; omega) h rfl hU11 hh11
  · rw [if_neg (by rw [c1]; exact Bool.false_ne_true), if_neg (by rw [c2]; exact Bool.false_ne_true), if_pos c3] at h
    exact leaf (x := .mk 2 (amongF ts st truthL) (ByteArray.mk #[]) [] (tokAt ts st.at_).at_) (among_kind (l := truthL) (by simpa using c3)) h rfl hU11 hh11
  · rw [if_neg (by rw [c1]; exact Bool.false_ne_true), if_neg (by rw [c2]; exact Bool.false_ne_true), if_neg (by rw [c3]; exact Bool.false_ne_true), if_pos c4] at h
    have hk := among_kind (ts := ts) (st := st) (l := whichL) (by rw [eq_of_beq c4]; omega)
    have hnl := next_lt hE hw.lt hk
    have hw1 : w64 ((st.at_ : Int) + 1) = ((st.at_ + 1 : Nat) : Int) := w64_succ (by omega)
    rw [hw1]
    refine hw10.idx hnl fun ad1 ha1 w11 hU11 _ _ => tok_cell (w := w11) (hw10.ht.upd' hU11 fun x hx _ hS => by simp only [setOf, no, or_false] at hS; have hx : x < b := hx; omega) ha1 hnl fun id4 hid4 => ⟨fun c5 w12 hE12 hi12 hh12 _ _ => ?_, fun c5 w12 hU12 hi12 hh12 _ _ => ?_⟩
    · rw [if_pos c5] at h
      cases h
      have hs11 := hU11.size
      have hw12 : RdW w12 b ts A c st.next := hw10.putS (upd_ob hU11 |>.tb (ext_ob hE12)) (fun x hx => by have hx : x = b := hx; omega) hh12 hnl
      refine callRU (fails_c 120 hw12) (aw (by simp; omega)) fun w13 hw13 hU13 w14 hU14 hh14 _ _ => ?_
      exact rdx_done (x := ex0) (s' := failsF ts st.next 120) hw13 hb ((((ext_ob hE010).tb (upd_ob hU11)).tb (ext_ob hE12)).tb hU13) hU14 (new_s (by simp; omega)) hh14 hw13.lt ExsR.nil
    · rw [if_neg (by rw [c5]; exact Bool.false_ne_true)] at h
      cases h
      have hk2 : (tokAt ts (st.at_ + 1)).kind ≠ 0 := by
        have : (tokAt ts (st.at_ + 1)).kind = 1 := by simpa using c5
        omega
      have hnl2 := next_lt hE hnl hk2
      rw [w64_succ (by omega)] at hh12
      refine ⟨none, 0, 0, rfl, ExsR.nil, hw10.putS (st' := st.next.next) (hU11.mono (fun x hx => (Or.inr hx : setOf [id, b] x)) |>.trans hU12) (fun x hx => by simp only [setOf, no, or_false] at hx; omega) hh12 hnl2, ((ext_ob hE010).tb (upd_ob hU11)).tf hU12 (new_s (by simp; omega))⟩
  · rw [if_neg (by rw [c1]; exact Bool.false_ne_true), if_neg (by rw [c2]; exact Bool.false_ne_true), if_neg (by rw [c3]; exact Bool.false_ne_true), if_neg (by rw [c4]; exact Bool.false_ne_true), if_pos c5] at h
    obtain ⟨p, hp, rfl⟩ := map_some' h
    refine callRU (bracket_c hE _ hw10) (aw (by simp; omega)) fun w11 hw11 hU11 hh11 _ _ => ?_
    have hs11 := hU11.size
    refine callRX (ih f (Nat.le_refl _) (.row 1) _ p hp hw11) (aw (by simp; omega)) fun A1 l1 c1 w12 hx12 hw12 hU12 id5 hid5 w13 hE13 hi13 hh13 _ _ => ?_
    have hs12 := hU12.size
    have hs13 : w12.heap.size ≤ w13.heap.size := Upd.size hE13
    refine callRU (closes_c hE _ (hw12.ext hE13)) (aw (by simp; omega)) fun w14 hw14 hU14 w15 hU15 hh15 _ _ => ?_
    have hs14 := hU14.size
    exact done (rng_mono (tree_keep hx12 ((ext_ob hE13).tb hU14) fun y hy => by have hy : y = b := hy; omega) (by omega) (by omega)) hw14 (((hU11.tb hU12).tb (ext_ob hE13)).tb hU14) hU15 hh15
  · rw [if_neg (by rw [c1]; exact Bool.false_ne_true), if_neg (by rw [c2]; exact Bool.false_ne_true), if_neg (by rw [c3]; exact Bool.false_ne_true), if_neg (by rw [c4]; exact Bool.false_ne_true), if_neg (by rw [c5]; exact Bool.false_ne_true), if_pos c6] at h
    exact callRX (ih f (Nat.le_refl _) (.choice _) st res h (among_kind (l := whichL) (by rw [eq_of_beq c6]; omega)) hw10) (aw (by simp; omega)) fun A1 l1 c1 w11 hx11 hw11 hU11 w12 hU12 hh12 _ _ => done hx11 hw11 hU11 hU12 hh12
  · rw [if_neg (by rw [c1]; exact Bool.false_ne_true), if_neg (by rw [c2]; exact Bool.false_ne_true), if_neg (by rw [c3]; exact Bool.false_ne_true), if_neg (by rw [c4]; exact Bool.false_ne_true), if_neg (by rw [c5]; exact Bool.false_ne_true), if_neg (by rw [c6]; exact Bool.false_ne_true), if_pos c7] at h
    exact callRX (ih f (Nat.le_refl _) (.call _ _) st res h (among_kind (l := callsL) (by simpa using c7)) hw10) (aw (by simp; omega)) fun A1 l1 c1 w11 hx11 hw11 hU11 w12 hU12 hh12 _ _ => done hx11 hw11 hU11 hU12 hh12
  · rw [if_neg (by rw [c1]; exact Bool.false_ne_true), if_neg (by rw [c2]; exact Bool.false_ne_true), if_neg (by rw [c3]; exact Bool.false_ne_true), if_neg (by rw [c4]; exact Bool.false_ne_true), if_neg (by rw [c5]; exact Bool.false_ne_true), if_neg (by rw [c6]; exact Bool.false_ne_true), if_neg (by rw [c7]; exact Bool.false_ne_true), if_pos c8] at h
    exact callRX (ih f (Nat.le_refl _) (.quant _ _) st res h (among_kind (l := quantsL) (by simpa using c8)) hw10) (aw (by simp; omega)) fun A1 l1 c1 w11 hx11 hw11 hU11 w12 hU12 hh12 _ _ => done hx11 hw11 hU11 hU12 hh12
  · rw [if_neg (by rw [c1]; exact Bool.false_ne_true), if_neg (by rw [c2]; exact Bool.false_ne_true), if_neg (by rw [c3]; exact Bool.false_ne_true), if_neg (by rw [c4]; exact Bool.false_ne_true), if_neg (by rw [c5]; exact Bool.false_ne_true), if_neg (by rw [c6]; exact Bool.false_ne_true), if_neg (by rw [c7]; exact Bool.false_ne_true), if_neg (by rw [c8]; exact Bool.false_ne_true)] at h
    cases h
    refine callRU (fails_c 120 hw10) (aw (by simp; omega)) fun w11 hw11 hU11 w12 hU12 hh12 _ _ => ?_
    exact done (A1 := none) (l1 := 0) (c1 := 0) ExsR.nil hw11 hU11 hU12 hh12
theorem list_c {f : Nat} (hE : Ended ts) (ih : RdOk b ts A c f) (t : Int) (st : RS) (res : Ex × RS) (h : rd ts (f + 1) (.list t) st = some res) (hts : f < 2 ^ 30) : SpecCl b ts A c (.list t) st res := by
  intro w hw
  have hb := hw.blt
  have hsm := hw.sm
  rw [rd] at h
  refine vc152 hw.hh ?_
  intro id hid id1 hid1 w1 hE1 hi1 hi11 hh1
  have hs1 : w.heap.size ≤ w1.heap.size := Upd.size hE1
  have aw : ∀ {ids : List Nat}, (∀ i ∈ ids, w.heap.size ≤ i) → Away ids (OB b) := fun hi => away_ob hb hi
  refine callRU (bracket_c hE _ (hw.ext hE1)) (aw (by simp; omega)) fun w2 hw2 hU2 hh2 => ?_
  have hs2 := hU2.size
  refine callRB (is_c _ hw2) fun w3 hw3 hE3 => ?_
  have hs3 := hE3.size
  have u03 : Upd w w3 (OB b) := ((ext_ob hE1).tb hU2).tb (ext_ob hE3)
  refine ⟨fun n en a3 n3 c2 x12 x13 x14 x15 x16 a4 n4 c3 w4 => ∃ (s2 : RS) (acc : List Ex), (A = a3 ∧ n3 = ts.length ∧ c = c2 ∧ x12 = s2.at_ ∧ x13 = s2.open_ ∧ x14 = s2.quants ∧ x15 = s2.e ∧ x16 = s2.place) ∧ rd ts n (.more t en acc) s2 = some res ∧ n + acc.length ≤ f ∧ RdW w4 b ts A c s2 ∧ RowB exRel 44 w4 false w1.heap.size w4.heap.size no no acc a4 n4 c3 ∧ Upd w w4 (OB b) ∧ w1.heap.size ≤ w4.heap.size,
    f, ⟨_, [], ⟨rfl, rfl, rfl, rfl, rfl, rfl, rfl, rfl⟩, h, by simp, hw3, (RowB.nil (E := no) (lo := w1.heap.size) (fun _ h => h.elim) (by omega)).re (by omega) (Nat.le_refl _) (fun _ h => h.elim), u03, by omega⟩, ?_⟩
  rintro n _ en _ _ _ _ _ _ _ _ a4 n4 c3 w4 ⟨s2, acc, ⟨rfl, rfl, rfl, rfl, rfl, rfl, rfl, rfl⟩, hr, hnf, hw4, hB, u04, hs14⟩
  have hn4 := hB.len
  have fin : ((!en) && s2.e == 0) = false → ∀ {X : ContX}, ∃ (R : Value → World → Prop) (X' : ContX), CallsX E.P 87 #[.pointer (some ⟨b, 0, none⟩), .string (ByteArray.mk #[125])] w4 R X' ∧ (∀ v w2, R v w2 → ∃ y : Value, v = y ∧ ∃ S, Upd w4 w2 S ∧ Away [id, id1] S ∧ ∃ a1 n c1 x x1 x2 x3 x4,
      w2.heap[b]? = some (Obj.cells #[.slice a1 n c1, .int .i64 x, .int .i64 x1, .int .i64 x2, .int .i64 x3, .int .i64 x4] 62) ∧ 6 = 6 ∧ ∀ w11, Upd w2 w11 (setOf [id]) → w11.heap[b]? = some (Obj.cells #[.slice a1 n c1, .int .i64 x, .int .i64 x1, .int .i64 x2, .int .i64 x3, .int .i64 x4] 62) → RdX b ts A c w res (.agg #[.int .i64 25, .int .i64 0, .string (ByteArray.mk #[]), .slice a4 n4 c3, .int .i64 t]) w11) ∧ ∀ ch w2, X' ch w2 → X ch w2 := fun hf {X} => by
    cases n with
    | zero => simp [rd] at hr
    | succ n =>
      rw [rd, if_neg (by rw [hf]; exact Bool.false_ne_true)] at hr
      cases hr
      refine callRU (closes_c hE _ hw4) (aw (by simp; omega)) fun w5 hw5 hU5 w6 hU6 hh6 => ?_
      have hs5 := hU5.size
      have hs6 := hU6.size
      have hx4 : ExsR w4 (Rng w1.heap.size w4.heap.size) acc a4 n4 c3 := (exs_of (RowB.done (c' := c3) hB (by omega) (.inr ⟨rfl, rfl⟩))).mono fun x hx => by
        rcases hx with ⟨_, h⟩ | h
        · exact h.elim
        · exact ⟨h.1, h.2.1⟩
      refine rdx_done (x := .mk 25 0 (ByteArray.mk #[]) acc t) (s' := closesF ts s2 (ByteArray.mk #[125])) hw5 hb (u04.tb hU5) hU6 (new_s (by simp; omega)) hh6 hw5.lt (rng_mono (tree_keep (tree_keep hx4 hU5 fun y hy => by have hy : y = b := hy; omega) hU6 fun y hy => by simp only [setOf, no, or_false] at hy; omega) (by omega) (by omega))
  refine ⟨fun hen => ⟨fun he w5 hE5 hh5 => ?_, fun he hh4 => fin (by rw [hen, he]; rfl)⟩, fun hen hh4 => fin (by rw [hen]; rfl)⟩
  cases n with
  | zero => simp [rd] at hr
  | succ n =>
    rw [rd, if_pos (by rw [hen, he]; rfl)] at hr
    obtain ⟨p, hp, hr⟩ := bind_some' hr
    have hs5 : w4.heap.size ≤ w5.heap.size := Upd.size hE5
    refine callRX (ih n (by omega) (.row 1) _ p hp (hw4.ext hE5)) (aw (by simp; omega)) fun A1 l1 c1 w6 hx6 hw6 hU6 id2 hid2 w7 hE7 hi7 hk7 => ?_
    have hs6 := hU6.size
    have hs7 : w6.heap.size ≤ w7.heap.size := Upd.size hE7
    have hB6 : RowB exRel 44 w6 false w1.heap.size w5.heap.size no no acc a4 n4 c3 := ((RowB.ext hB hE5).re hs5 (Nat.le_refl _) (fun _ h => h.elim)).upd hU6 fun x hx => ⟨fun h => h.elim, .inr (fun hr => by have hx : x = b := hx; omega)⟩
    refine pushVC (RowB.push (x := p.1) (cs := exV p.1 A1 l1 c1) (Fk := Rng w5.heap.size w6.heap.size) sl36 hB6 hx6.node (fun x hx => .inr ⟨hx.1, hx.2, fun h => h.elim⟩) hE7 (fun _ h => h.elim) hk7 (by omega)) (away_of fun i hi hS => ?_) ?_
    · have := hB6.blk hS
      have := hB.blk hS
      simp only [List.mem_cons, List.not_mem_nil, or_false] at hi
      omega
    intro A' c' w8 ⟨hB8, _⟩ hU8 w9 hU9 hh9 hk9
    have hs8 := hU8.size
    have hs9 := hU9.size
    have u48 : ∀ {x : Nat}, blkOf a4 x → x < b → False := fun {x} hx hlt => by have := hB.blk hx; omega
    have hw9 : RdW w9 b ts A c p.2 := ((hw6.ext hE7).putS (st' := p.2) (hU8.mono (fun x hx => (Or.inl hx : blkOf a4 x ∨ setOf [id1] x)) |>.trans (hU9.mono fun x hx => Or.inr hx)) (fun x hx => by
      rcases hx with hx | hx
      · have := hB.blk hx; omega
      · simp only [setOf, no, or_false] at hx; omega) hh9 hw6.lt)
    have u09 : Upd w w9 (OB b) := ((((u04.tb (ext_ob hE5)).tb hU6).tb (ext_ob hE7)).tf hU8 (fun x hx => by have := hB.blk hx; omega)).tf hU9 (new_s (by simp; omega))
    have hB9 : RowB exRel 44 w9 false w1.heap.size w9.heap.size no no (acc ++ [p.1]) A' (n4 + 1) c' := (RowB.upd hB8 hU9 fun x hx => ⟨fun h => h.elim, .inr (fun hr => by simp only [setOf, no, or_false] at hx; omega)⟩).re hs9 (Nat.le_refl _) (fun _ h => h.elim)
    refine callRB (is_c _ hw9) fun w10 hw10 hE10 => ⟨fun hx hh10 hk10 => ?_, fun hx hk10 => ?_⟩
    · have hx' : isF ts p.2 (ByteArray.mk #[125]) = false := by simpa using hx
      rw [hx'] at hr
      simp only [Bool.false_eq_true, if_false] at hr
      have hs10 := hE10.size
      refine callRU (takes_c hE _ hw10) (aw (by simp; omega)) fun w11 hw11 hU11 hk11 => ⟨n, ⟨_, acc ++ [p.1], ⟨rfl, rfl, rfl, rfl, rfl, rfl, rfl, rfl⟩, hx'.symm ▸ hr, by simp; omega, hw11, ?_, (u09.tb (ext_ob hE10)).tb hU11, ?_⟩, by omega⟩
      · have hs11 := hU11.size
        exact (RowB.upd ((RowB.ext hB9 hE10).re (E' := no) hs10 (Nat.le_refl _) (fun _ h => h.elim)) hU11 fun x hx => ⟨fun h => h.elim, .inr (fun hr => by have hx : x = b := hx; omega)⟩).re hs11 (Nat.le_refl _) (fun _ h => h.elim)
      · have hs11 := hU11.size; omega
    · have hx' : isF ts p.2 (ByteArray.mk #[125]) = true := by simpa using hx
      rw [hx'] at hr
      simp only [if_true] at hr
      have hs10 := hE10.size
      exact ⟨n, ⟨_, acc ++ [p.1], ⟨rfl, rfl, rfl, rfl, rfl, rfl, rfl, rfl⟩, hx'.symm ▸ hr, by simp; omega, hw10, (RowB.ext hB9 hE10).re hs10 (Nat.le_refl _) (fun _ h => h.elim), u09.tb (ext_ob hE10), by omega⟩, by omega⟩
theorem kinds_len (r : Int) : (kindsL r).length = (signsL r).length := by
  unfold kindsL signsL
  split
  · rfl
  · split
    · rfl
    · split
      · rfl
      · split <;> rfl
def FX (a b c d : Nat) : Nat → Prop := fun x => a ≤ x ∧ x < d ∧ ¬ (b ≤ x ∧ x < c)
theorem fx_keep {w w' : World} {p q r d : Nat} {kids : List Ex} {A : Option Addr} {l c : Nat} {S : Nat → Prop} (h : ExsR w (FX p q r d) kids A l c) (k : Upd w w' S) (hS : ∀ x, S x → x < p ∨ d ≤ x ∨ (q ≤ x ∧ x < r)) : ExsR w' (FX p q r d) kids A l c :=
  h.upd' k fun x hx _ hs => by have := hS x hs; have h1 := hx.1; have h2 := hx.2.1; have h3 := hx.2.2; omega
theorem fx_mono {w : World} {p q r d d' : Nat} {kids : List Ex} {A : Option Addr} {l c : Nat} (h : ExsR w (FX p q r d) kids A l c) (hd : d ≤ d') : ExsR w (FX p q r d') kids A l c := h.mono fun x hx => ⟨hx.1, by have := hx.2.1; omega, hx.2.2⟩
theorem fx_rng {w : World} {p q r d lo hi : Nat} {kids : List Ex} {A : Option Addr} {l c : Nat} (h : ExsR w (FX p q r d) kids A l c) (h1 : lo ≤ p) (h2 : d ≤ hi) : ExsR w (Rng lo hi) kids A l c := h.mono fun x hx => ⟨by have := hx.1; omega, by have := hx.2.1; omega⟩
theorem fx_of {w : World} {p q r d lo hi : Nat} {kids : List Ex} {A : Option Addr} {l c : Nat} (h : ExsR w (Rng lo hi) kids A l c) (h1 : p ≤ lo) (h2 : hi ≤ d) (h3 : hi ≤ q ∨ r ≤ lo) : ExsR w (FX p q r d) kids A l c := h.mono fun x hx => ⟨by have := hx.1; omega, by have := hx.2; omega, by have := hx.1; have := hx.2; omega⟩
theorem row_c {f : Nat} (hE : Ended ts) (ih : RdOk b ts A c f) (r : Int) (st : RS) (res : Ex × RS) (h : rd ts (f + 1) (.row r) st = some res) : SpecCl b ts A c (.row r) st res := by
  intro w hw
  have hb := hw.blt
  have hsm := hw.sm
  rw [rd] at h
  refine vc38 hw.hh ?_
  intro id hid
  have aw : ∀ {ids : List Nat}, (∀ i ∈ ids, w.heap.size ≤ i) → Away ids (OB b) := fun hi => away_ob hb hi
  have pass : ∀ {w1 w2 w3 : World} {A1 : Option Addr} {l1 c1 : Nat}, Ext w w1 → id < w1.heap.size → ExsR w2 (Rng w1.heap.size w2.heap.size) res.1.kids A1 l1 c1 → RdW w2 b ts A c res.2 → Upd w1 w2 (OB b) → Upd w2 w3 (setOf [id]) → w3.heap[b]? = some (Obj.cells #[.slice A ts.length c, .int .i64 res.2.at_, .int .i64 res.2.open_, .int .i64 res.2.quants, .int .i64 res.2.e, .int .i64 res.2.place] 62) →
      RdX b ts A c w res (exA res.1 A1 l1 c1) w3 := fun {w1 w2 w3 A1 l1 c1} hE1 hi1 hx hw2 hU2 hU3 hh3 => by
    have := hE1.size
    have := hU2.size
    have := hU3.size
    exact rdx_done hw2 hb ((ext_ob hE1).tb hU2) hU3 (new_s (by simp; omega)) hh3 hw2.lt (rng_mono (tree_keep hx hU3 fun y hy => by simp only [setOf, no, or_false] at hy; omega) (by omega) (by omega))
  refine ⟨fun he w1 hE1 hi1 hh1 => ?_, fun he => ⟨fun h3 w1 hE1 hi1 hh1 => ?_, fun h3 => ⟨fun h7 w1 hE1 hi1 hh1 => ?_, fun h7 w1 hE1 hi1 => ?_⟩⟩⟩
  · rw [if_pos he] at h
    cases h
    exact rdx_done (x := ex0) (s' := st) hw hb (Upd.refl _ _) hE1 (fun _ h => h.elim) hh1 hw.lt ExsR.nil
  · rw [if_neg (by rw [he]; exact Bool.false_ne_true), if_pos h3] at h
    have hs1 : w.heap.size ≤ w1.heap.size := Upd.size hE1
    exact callRX (ih f (Nat.le_refl _) .not st res h (hw.ext hE1)) (aw (by simp; omega)) fun A1 l1 c1 w2 hx2 hw2 hU2 w3 hU3 hh3 => pass hE1 hi1 hx2 hw2 hU2 hU3 hh3
  · rw [if_neg (by rw [he]; exact Bool.false_ne_true), if_neg (by rw [h3]; exact Bool.false_ne_true), if_pos h7] at h
    have hs1 : w.heap.size ≤ w1.heap.size := Upd.size hE1
    exact callRX (ih f (Nat.le_refl _) .unary st res h (hw.ext hE1)) (aw (by simp; omega)) fun A1 l1 c1 w2 hx2 hw2 hU2 w3 hU3 hh3 => pass hE1 hi1 hx2 hw2 hU2 hU3 hh3
  rw [if_neg (by rw [he]; exact Bool.false_ne_true), if_neg (by rw [h3]; exact Bool.false_ne_true), if_neg (by rw [h7]; exact Bool.false_ne_true)] at h
  have hs1 : w.heap.size ≤ w1.heap.size := Upd.size hE1
  refine ⟨_, _, signs_c r, ?_, never_any⟩
  rintro v w2 ⟨B, bl, bc, D, dl, dc, rfl, hB2, hD2, hE2⟩
  have hs2 := hE2.size
  refine ⟨_, _, _, _, _, _, rfl, no, hE2, Away.no _, fun hh2 => ?_⟩
  obtain ⟨p0, hp0, h⟩ := bind_some' h
  have hE02 : Ext w w2 := Ext.trans hE1 hE2
  refine callRX (ih f (Nat.le_refl _) (.row _) st p0 hp0 (hw.ext hE02)) (aw (by simp; omega)) fun A1 l1 c1 w3 hx3 hw3 hU3 id1 hid1 w4 hE4 hi4 hh4 => ?_
  have hs3 := hU3.size
  have hs4 : w3.heap.size ≤ w4.heap.size := Upd.size hE4
  have keepB : ∀ {wa wb : World} {S : Nat → Prop}, StrsR wa (Rng w1.heap.size w2.heap.size) (signsL r) B bl bc → Upd wa wb S → (∀ x, S x → x < w1.heap.size ∨ w2.heap.size ≤ x) → StrsR wb (Rng w1.heap.size w2.heap.size) (signsL r) B bl bc := fun q k hS => RowIn.upd' q k fun x hx _ hs => by have := hS x hs; have := hx.1; have := hx.2; omega
  have keepD : ∀ {wa wb : World} {S : Nat → Prop}, IntsR wa (Rng w1.heap.size w2.heap.size) (kindsL r) D dl dc → Upd wa wb S → (∀ x, S x → x < w1.heap.size ∨ w2.heap.size ≤ x) → IntsR wb (Rng w1.heap.size w2.heap.size) (kindsL r) D dl dc := fun q k hS => RowIn.upd' q k fun x hx _ hs => by have := hS x hs; have := hx.1; have := hx.2; omega
  have ob1 : ∀ x, OB b x → x < w1.heap.size ∨ w2.heap.size ≤ x := fun x hx => by have hx : x = b := hx; omega
  have ids1 : ∀ x, setOf [id] x → x < w1.heap.size ∨ w2.heap.size ≤ x := fun x hx => by simp only [setOf, no, or_false] at hx; omega
  have no1 : ∀ x, setOf [] x → x < w1.heap.size ∨ w2.heap.size ≤ x := fun x hx => hx.elim
  have hB4 := keepB (keepB hB2 hU3 ob1) hE4 no1
  have hD4 := keepD (keepD hD2 hU3 ob1) hE4 no1
  have u04 : Upd w w4 (OB b) := ((ext_ob hE02).tb hU3).tb (ext_ob hE4)
  refine callRI (among_c _ (hw3.ext hE4) hB4) fun w5 hw5 hE5 => ?_
  have hs5 := hE5.size
  refine ⟨fun n k a10 n10 c9 x34 x35 x36 x37 x38 x39 x40 x41 a11 n11 c10 x42 w6 => ∃ (s2 : RS) (acc : Ex), (A = a10 ∧ n10 = ts.length ∧ c = c9 ∧ x34 = s2.at_ ∧ x35 = s2.open_ ∧ x36 = s2.quants ∧ x37 = s2.e ∧ x38 = s2.place) ∧ (x39 = acc.k ∧ x40 = acc.n ∧ x41 = acc.s ∧ x42 = acc.at_) ∧ k = amongF ts s2 (signsL r) ∧
      rd ts n (.loop r k acc) s2 = some res ∧ n ≤ f ∧ RdW w6 b ts A c s2 ∧ ExsR w6 (FX w2.heap.size w3.heap.size w4.heap.size w6.heap.size) acc.kids a11 n11 c10 ∧ StrsR w6 (Rng w1.heap.size w2.heap.size) (signsL r) B bl bc ∧ IntsR w6 (Rng w1.heap.size w2.heap.size) (kindsL r) D dl dc ∧ Upd w w6 (OB b) ∧ w4.heap.size ≤ w6.heap.size,
    f, ⟨p0.2, p0.1, ⟨rfl, rfl, rfl, rfl, rfl, rfl, rfl, rfl⟩, ⟨rfl, rfl, rfl, rfl⟩, rfl, h, Nat.le_refl _, hw5, fx_of ((hx3.ext hE4).ext hE5) (by omega) (by omega) (.inl (Nat.le_refl _)), keepB hB4 hE5 (fun _ h => h.elim), keepD hD4 hE5 (fun _ h => h.elim), u04.tb (ext_ob hE5), by omega⟩, ?_⟩
  rintro n _ k _ _ _ _ _ _ _ _ _ _ _ a11 n11 c10 _ w6 ⟨s2, acc, ⟨rfl, rfl, rfl, rfl, rfl, rfl, rfl, rfl⟩, ⟨rfl, rfl, rfl, rfl⟩, hk, hr, hnf, hw6, hx6, hB6, hD6, u06, hs46⟩
  have hn0 : n ≠ 0 := fun e => by subst e; simp [rd] at hr
  obtain ⟨n, rfl⟩ : ∃ m, n = m + 1 := ⟨n - 1, by omega⟩
  rw [rd] at hr
  have stop : ∀ {w7 : World}, (decide (k ≥ 0) && s2.e == 0) = false → Upd w6 w7 (setOf [id]) → w7.heap[b]? = some (Obj.cells #[.slice A ts.length c, .int .i64 s2.at_, .int .i64 s2.open_, .int .i64 s2.quants, .int .i64 s2.e, .int .i64 s2.place] 62) →
      RdX b ts A c w res (exA acc a11 n11 c10) w7 := fun {w7} hf hU7 hh7 => by
    rw [if_neg (by rw [hf]; exact Bool.false_ne_true)] at hr
    cases hr
    have := hU7.size
    exact rdx_done hw6 hb u06 hU7 (new_s (by simp; omega)) hh7 hw6.lt (fx_rng (fx_keep hx6 hU7 fun y hy => by simp only [setOf, no, or_false] at hy; omega) (by omega) (by omega))
  refine ⟨fun hk0 => ⟨fun he2 => ?_, fun he2 w7 hU7 hh7 => stop (by rw [hk0, he2]; rfl) hU7 hh7⟩, fun hk0 w7 hU7 hh7 => stop (by rw [hk0]; rfl) hU7 hh7⟩
  rw [if_pos (by rw [hk0, he2]; rfl)] at hr
  have hk0' : k ≥ 0 := by simpa using hk0
  obtain ⟨hkl, hkk⟩ := amongL_lt ts s2 (signsL r) 0
  have hkl : k < ((signsL r).length : Int) := by rw [hk]; unfold amongF; simpa using hkl
  have hkk : (tokAt ts s2.at_).kind ≠ 0 := (hkk (by rw [hk] at hk0'; exact hk0')).1
  have hnl := next_lt hE hw6.lt hkk
  obtain ⟨j, rfl⟩ : ∃ j : Nat, k = j := ⟨k.toNat, by omega⟩
  have hj : j < (kindsL r).length := by rw [kinds_len]; omega
  have hjt : Int.toNat (j : Int) = j := by omega
  have hgd : (kindsL r).getD (Int.toNat (j : Int)) 0 = (kindsL r)[j] := by rw [hjt, List.getD_eq_getElem?_getD, List.getElem?_eq_getElem hj]; rfl
  rw [hgd] at hr
  obtain ⟨p, hp, hr⟩ := bind_some' hr
  refine hw6.idx hw6.lt fun ad ha w7 hE7 => tok_at (hw6.ext hE7).ht ha hw6.lt fun w8 hU8 hh8 => ?_
  rw [w64_succ (by omega)] at hh8
  have hw8 : RdW w8 b ts A c s2.next := (hw6.ext hE7).put hU8 hh8 hnl
  have hs7 : w6.heap.size ≤ w7.heap.size := Upd.size hE7
  have hs8 := hU8.size
  refine callRX (ih n (by omega) (.row _) _ p hp hw8) (aw (by simp; omega)) fun A2 l2 c2 w9 hx9 hw9 hU9 id2 hid2 => hD6.idx hj fun ad1 ha1 w10 hE10 hi10 => ?_
  have hs9 := hU9.size
  have hs10 : w9.heap.size ≤ w10.heap.size := Upd.size hE10
  have u69 : Upd w6 w9 (OB b) := ((ext_ob hE7).tb (upd_ob hU8)).tb hU9
  have u610 : Upd w6 w10 (OB b) := u69.tb (ext_ob hE10)
  have hD10 := keepD hD6 u610 ob1
  refine hD10.cell ha1 hj ?_
  have ob2 : ∀ {lo hi : Nat}, w.heap.size ≤ lo → ∀ y, OB b y → y < lo ∨ hi ≤ y := fun {lo hi} hl y hy => by have hy : y = b := hy; omega
  have hxa : ExsR w10 (FX w2.heap.size w3.heap.size w4.heap.size w10.heap.size) acc.kids a11 n11 c10 := fx_mono (fx_keep hx6 u610 fun y hy => by have hy : y = b := hy; omega) (by omega)
  have hxb : ExsR w10 (FX w2.heap.size w3.heap.size w4.heap.size w10.heap.size) p.1.kids A2 l2 c2 := fx_of (ExsR.ext hx9 hE10) (by omega) (by omega) (.inr (by omega))
  refine ⟨_, _, two_c (kindsL r)[j] (tokAt ts s2.at_).at_ acc p.1 hxa hxb, ?_, never_any⟩
  rintro v w11 ⟨A3, l3, c3, rfl, hx11, hE11⟩
  have hs11 := hE11.size
  refine ⟨_, _, _, _, _, _, _, rfl, no, hE11, Away.no _, fun w12 hU12 hh12 => ?_⟩
  have hs12 := hU12.size
  have hw12 : RdW w12 b ts A c p.2 := ((hw9.ext hE10).ext hE11).putS hU12 (fun x hx => by simp only [setOf, no, or_false] at hx; omega) hh12 hw9.lt
  have u012 : Upd w w12 (OB b) := ((u06.tb u610).tb (ext_ob hE11)).tf hU12 (new_s (by simp; omega))
  have ids2 : ∀ {lo hi : Nat}, w1.heap.size ≤ lo → hi ≤ w3.heap.size → ∀ y, setOf [id1] y → y < lo ∨ hi ≤ y := fun {lo hi} _ hh y hy => by simp only [setOf, no, or_false] at hy; omega
  have hB12 := keepB (keepB (keepB hB6 u610 ob1) hE11 (fun _ h => h.elim)) hU12 (ids2 (Nat.le_refl _) (by omega))
  have hD12 := keepD (keepD hD10 hE11 (fun _ h => h.elim)) hU12 (ids2 (Nat.le_refl _) (by omega))
  have hx11' : ExsR w11 (FX w2.heap.size w3.heap.size w4.heap.size w11.heap.size) [acc, p.1] A3 l3 c3 := hx11.mono fun x hx => by
    rcases hx with hx | hx
    · exact ⟨hx.1, by have := hx.2.1; omega, hx.2.2⟩
    · exact ⟨by have := hx.1; omega, hx.2, by have := hx.1; omega⟩
  have hx12 : ExsR w12 (FX w2.heap.size w3.heap.size w4.heap.size w12.heap.size) [acc, p.1] A3 l3 c3 := fx_mono (fx_keep hx11' hU12 fun y hy => by simp only [setOf, no, or_false] at hy; omega) (by omega)
  refine callRI (among_c _ hw12 hB12) fun w13 hw13 hE13 => ⟨fun h4 w14 hU14 hh14 => ?_, fun h4 => ?_⟩
  · rw [if_pos h4] at hr
    cases hr
    have hs13 := hE13.size
    have hs14 := hU14.size
    exact rdx_done (x := .mk (kindsL r)[j] 0 (ByteArray.mk #[]) [acc, p.1] (tokAt ts s2.at_).at_) (s' := p.2) hw13 hb (u012.tb (ext_ob hE13)) hU14 (new_s (by simp; omega)) hh14 hw13.lt (fx_rng (fx_keep (hx12.ext hE13) hU14 fun y hy => by simp only [setOf, no, or_false] at hy; omega) (by omega) (by omega))
  · rw [if_neg (by rw [h4]; exact Bool.false_ne_true)] at hr
    have hs13 := hE13.size
    exact ⟨n, ⟨p.2, .mk (kindsL r)[j] 0 (ByteArray.mk #[]) [acc, p.1] (tokAt ts s2.at_).at_, ⟨rfl, rfl, rfl, rfl, rfl, rfl, rfl, rfl⟩, ⟨rfl, rfl, rfl, rfl⟩, rfl, hr, by omega, hw13, fx_mono (hx12.ext hE13) (by omega), keepB hB12 hE13 (fun _ h => h.elim), keepD hD12 hE13 (fun _ h => h.elim), u012.tb (ext_ob hE13), by omega⟩, by omega⟩
theorem reader_c (hE : Ended ts) : ∀ (f : Nat), f < 2 ^ 30 → RdOk b ts A c f := by
  intro f
  induction f with
  | zero =>
    intro _ g hg cl st res h
    have : g = 0 := by omega
    subst this; simp [rd] at h
  | succ f ih =>
    intro hf
    have ih := ih (by omega)
    intro g hg cl st res h
    by_cases hgf : g ≤ f
    · exact ih g hgf cl st res h
    have : g = f + 1 := by omega
    subst this
    cases cl with
    | row r => exact fun {_} => row_c hE ih r st res h
    | loop r k a => trivial
    | not => exact fun {_} => not_c hE ih st res h
    | unary => exact fun {_} => unary_c hE ih st res h
    | atom => exact fun {_} => atom_c hE ih st res h
    | choice t => exact fun {_} => choice_c hE ih t st res h
    | call i t => exact fun {_} => call_c hE ih i t st res h
    | quant i t => exact fun {_} => rquant_c hE ih i t st res h
    | set => exact fun {_} => rset_c hE ih st res h
    | list t => exact fun {_} => list_c hE ih t st res h (by omega)
    | more t en acc => trivial
end Go.Vx.Tryz
namespace Go.Vx.Tryz
open Go Go.Vx Go.Proofs
theorem scanL_ended (s : ByteArray) : ∀ (f i : Nat) (acc : List Tok), (scanL s f i acc).2.1 = 0 → Ended (scanL s f i acc).1 ∧ 0 < (scanL s f i acc).1.length := by
  have fin : ∀ (acc : List Tok), Ended (acc ++ [⟨0, 0, ByteArray.mk #[], s.size⟩]) ∧ 0 < (acc ++ [(⟨0, 0, ByteArray.mk #[], s.size⟩ : Tok)]).length := fun acc => by
    refine ⟨?_, by simp⟩
    unfold Ended tokAt
    rw [List.getD_eq_getElem?_getD]
    simp
  intro f
  induction f with
  | zero => intro i acc _; rw [scanL]; exact fin acc
  | succ f ih =>
    intro i acc h
    rw [scanL] at h ⊢
    split at h
    · rename_i hc
      rw [if_pos hc]
      split at h
      · rename_i hb; rw [if_pos hb]; exact ih _ _ h
      · rename_i hb
        rw [if_neg hb]
        split at h
        · rename_i he; dsimp only at h; rw [h] at he; simp at he
        · rename_i he; rw [if_neg he]; exact ih _ _ h
    · rename_i hc
      rw [if_neg hc]; exact fin acc
theorem scan_ended {s : ByteArray} (h : (scanF s).2.1 = 0) : Ended (scanF s).1 ∧ 0 < (scanF s).1.length := by
  unfold scanF at h ⊢
  split at h
  · simp at h
  · rename_i hc; rw [if_neg hc]; exact scanL_ended s _ _ _ h
def ParR (w : World) (r : Ex × Int × Int) : Value → World → Prop := fun v w' => ∃ A l c, v = .tuple #[exA r.1 A l c, .int .i64 r.2.1, .int .i64 r.2.2] ∧ ExsR w' (Rng w.heap.size w'.heap.size) r.1.kids A l c ∧ Ext w w'
theorem parse_c (s : ByteArray) (f : Nat) (hf : f < 2 ^ 30) (r : Ex × Int × Int) (h : parseF s f = some r) {w : World} : CallsX E.P 15 #[.string s] w (ParR w r) never := by
  refine vc16 ?_
  intro id hid w1 hE1 hi1
  have hE1' : Ext w w1 := hE1
  have hs1 := hE1'.size
  unfold parseF at h
  refine ⟨_, _, scan_c s, ?_, never_any⟩
  rintro v w2 ⟨A, l, c, rfl, hT, hE2⟩
  have hs2 := hE2.size
  have idS : ∀ {lo : Nat}, w1.heap.size ≤ lo → ∀ y, setOf [id] y → y < lo ∨ lo ≤ y := fun hl y _ => by omega
  have fresh : ∀ y, setOf [id] y → w.heap.size ≤ y := fun y hy => by simp only [setOf, no, or_false] at hy; omega
  refine ⟨_, _, _, _, _, rfl, no, hE2, Away.no _, fun he w3 hU3 => ?_, fun he id1 hid1 w3 hE3 hi3 hh3 => ?_⟩
  · rw [if_pos he] at h
    cases h
    exact ⟨none, 0, 0, rfl, ExsR.nil, Upd.step (hE1'.trans hE2) hU3 fresh⟩
  rw [if_neg (by rw [he]; exact Bool.false_ne_true)] at h
  have he0 : (scanF s).2.1 = 0 := by simpa using he
  obtain ⟨hEnd, hpos⟩ := scan_ended he0
  generalize hts : (scanF s).1 = ts at h hT hEnd hpos
  have hlen : l = ts.length := by have := RowIn.len hT; simpa using this
  subst hlen
  have hE3' : Ext w2 w3 := hE3
  have hs3 := hE3'.size
  unfold parseL at h
  obtain ⟨p, hp, rfl⟩ := map_some' h
  have hw3 : RdW w3 id1 ts A c ⟨0, 0, 0, 0, 0⟩ := ⟨hh3, (RowIn.upd' hT hE3 (fun _ _ _ h => h)).mono fun x hx => by have := hx.2; show x < id1; omega, hpos⟩
  have hE03 : Ext w w3 := (hE1'.trans hE2).trans hE3'
  refine callRX (reader_c hEnd f hf f (Nat.le_refl _) (.row 1) _ p hp hw3) (away_of fun i hi hS => by simp only [List.mem_cons, List.not_mem_nil, or_false] at hi; have hS : i = id1 := hS; omega) fun A1 l1 c1 w4 hx4 hw4 hU4 id2 hid2 => ?_
  have hs4 := hU4.size
  have e4 : Ext w w4 := Upd.step hE03 hU4 fun x hx => by have hx : x = id1 := hx; omega
  have keep : ∀ {w5 : World}, Upd w4 w5 (setOf [id]) → ExsR w5 (Rng w.heap.size w5.heap.size) p.1.kids A1 l1 c1 := fun {w5} hU5 => by
    have := hU5.size
    exact rng_mono (tree_keep hx4 hU5 fun y hy => by simp only [setOf, no, or_false] at hy; omega) (by omega) (by omega)
  generalize hsE : (if p.2.e == 0 then if (tokAt ts p.2.at_).kind != 0 then failsF ts p.2 120 else p.2 else p.2) = sE
  refine ⟨fun e0 => hw4.idx hw4.lt fun ad ha w5 hE5 hi5 => tok_kind (hw4.ext hE5).ht ha hw4.lt ⟨fun k0 hh5 => ?_, fun k0 => ⟨fun e1 w6 hU6 => ?_, fun e1 w6 hU6 => ?_⟩⟩, fun e0 => ⟨fun e1 w6 hU6 hi6 => ?_, fun e1 w6 hU6 hi6 => ?_⟩⟩
  · have hE5' : Ext w4 w5 := hE5
    refine callRU (fails_c 120 (hw4.ext hE5)) (away_of fun i hi hS => by simp only [List.mem_cons, List.not_mem_nil, or_false] at hi; have hS : i = id1 := hS; have := hw4.blt; omega) fun w6 hw6 hU6 => ?_
    have hs5 := hE5'.size
    have hs6 := hU6.size
    have hsE' : failsF ts p.2 120 = sE := by rw [← hsE, if_pos e0, if_pos k0]
    rw [hsE']
    have e6 : Ext w w6 := Upd.step (e4.trans hE5') hU6 fun x hx => by have hx : x = id1 := hx; omega
    refine ⟨fun e1 w7 hU7 => ?_, fun e1 w7 hU7 => ?_⟩
    · rw [if_pos e1]
      exact ⟨none, 0, 0, rfl, ExsR.nil, Upd.step e6 hU7 fresh⟩
    · rw [if_neg (by rw [e1]; exact Bool.false_ne_true)]
      have hs7 := hU7.size
      exact ⟨A1, l1, c1, rfl, rng_mono (tree_keep (tree_keep (hx4.ext hE5') hU6 fun y hy => by have hy : y = id1 := hy; omega) hU7 fun y hy => by simp only [setOf, no, or_false] at hy; omega) (by omega) (by omega), Upd.step e6 hU7 fresh⟩
  · exact absurd e1 (by simpa using e0)
  · have hE5' : Ext w4 w5 := hE5
    have hs5 := hE5'.size
    have hs6 := hU6.size
    have hsE' : p.2 = sE := by rw [← hsE, if_pos e0, if_neg (by rw [k0]; exact Bool.false_ne_true)]
    rw [← hsE', if_neg (by rw [e1]; exact Bool.false_ne_true)]
    exact ⟨A1, l1, c1, rfl, rng_mono (tree_keep (hx4.ext hE5') hU6 fun y hy => by simp only [setOf, no, or_false] at hy; omega) (by omega) (by omega), Upd.step (e4.trans hE5') hU6 fresh⟩
  · have hsE' : p.2 = sE := by rw [← hsE, if_neg (by rw [e0]; exact Bool.false_ne_true)]
    rw [← hsE', if_pos e1]
    exact ⟨none, 0, 0, rfl, ExsR.nil, Upd.step e4 hU6 fresh⟩
  · have e1' : p.2.e = 0 := by simpa using e1
    rw [e1'] at e0; simp at e0
end Go.Vx.Tryz
namespace Go.Vx.Tryz
open Go Go.Vx Go.Proofs
set_option maxRecDepth 100000
variable {w : World} {R : Value → World → Prop} {X : ContX}
theorem vc143 {a : Nat} {a0 : Option Addr} {a0l a0c : Nat} {a1 a2 : Int} {a3 : Bool} {b : ByteArray} (ha : w.heap[a]? = some (.cells #[.slice a0 a0l a0c, .int .i64 a1, .int .i64 a2, .bool a3] 133 (0, 0))) (h : 
 dB (decide (w64 ((↑a0l : Int) + (↑(ByteArray.size b) : Int)) > 2000)) (fL w [a] fun w1 => hA w1 a #[.slice a0 a0l a0c, .int .i64 a1, .int .i64 a2, .bool false] 133 → R (.tuple #[]) w1) (∃ R1, RunsTo E.P (Builtin.append_ #[131, 9] 131 #[.slice a0 a0l a0c, .string b]) w R1 ∧ ∀ v w2, R1 v w2 → ∃ a1_1 n c, v = .slice a1_1 n c ∧ ∃ S, Upd w w2 S ∧ Away [a] S ∧ fL w2 [a] fun w11 => hA w11 a #[.slice a1_1 n c, .int .i64 a1, .int .i64 a2, .bool a3] 133 → R (.tuple #[]) w11)
 ) : CallsX E.P 113 #[.pointer (some ⟨a, 0, none⟩), .string b] w R X :=
  calls_vc E_ok ⟨[], []⟩ (f := 113) Tryz.func113 rfl [(.pointer (some ⟨a, 0, none⟩), .ptr 0 0), (.string b, .no)] [⟨a, 133, false, [⟨.slice a0 a0l a0c, .no, 0⟩, ⟨.int .i64 a1, .no, 0⟩, ⟨.int .i64 a2, .no, 0⟩, ⟨.bool a3, .no, 0⟩]⟩] (bls1 ha) nod1 (plain_of rfl) (shs_of ⟨rfl, trivial, trivial⟩) h (by kernel_rfl)
theorem vc145 {a : Nat} {a0 : Option Addr} {a0l a0c : Nat} {a1 a2 : Int} {a3 : Bool} {b : ByteArray} (ha : w.heap[a]? = some (.cells #[.slice a0 a0l a0c, .int .i64 a1, .int .i64 a2, .bool a3] 133 (0, 0))) (h : 
 dB (decide (w64 (a1 + 1) > 64)) (fL w [a] fun w1 => hA w1 a #[.slice a0 a0l a0c, .int .i64 (w64 (a1 + 1)), .int .i64 a2, .bool false] 133 → cU 113 #[.pointer (some ⟨a, 0, none⟩), .string b] w1 [] X fun v1 w2 => ∃ a1 n, ∃ c x, ∃ x1 x2, hA w2 a #[.slice a1 n c, .int .i64 x, .int .i64 x1, .bool x2] 133 ∧ 4 = 4 ∧ (hA w2 a #[.slice a1 n c, .int .i64 x, .int .i64 x1, .bool x2] 133 → R (.tuple #[]) w2)) (fL w [a] fun w11 => hA w11 a #[.slice a0 a0l a0c, .int .i64 (w64 (a1 + 1)), .int .i64 a2, .bool a3] 133 → cU 113 #[.pointer (some ⟨a, 0, none⟩), .string b] w11 [] X fun v3 w22 => ∃ a2 n1, ∃ c1 x3, ∃ x4 x5, hA w22 a #[.slice a2 n1 c1, .int .i64 x3, .int .i64 x4, .bool x5] 133 ∧ 4 = 4 ∧ (hA w22 a #[.slice a2 n1 c1, .int .i64 x3, .int .i64 x4, .bool x5] 133 → R (.tuple #[]) w22))
 ) : CallsX E.P 115 #[.pointer (some ⟨a, 0, none⟩), .string b] w R X :=
  calls_vc E_ok ⟨[], []⟩ (f := 115) Tryz.func115 rfl [(.pointer (some ⟨a, 0, none⟩), .ptr 0 0), (.string b, .no)] [⟨a, 133, false, [⟨.slice a0 a0l a0c, .no, 0⟩, ⟨.int .i64 a1, .no, 0⟩, ⟨.int .i64 a2, .no, 0⟩, ⟨.bool a3, .no, 0⟩]⟩] (bls1 ha) nod1 (plain_of rfl) (shs_of ⟨rfl, trivial, trivial⟩) h (by kernel_rfl)
theorem vc144 {a : Int}  (h : 
 dB (decide (a < 10)) (nB w fun id => fL w [] fun w1 => id < w1.heap.size → hA w1 id #[Value.int IntKind.u8 (IntKind.wrap IntKind.u8 (w64 (48 + a)))] 5 → ∃ R1, RunsTo E.P (convert 131 9 (.slice (some ⟨id, 0, none⟩) 1 1)) w1 R1 ∧ ∀ v w2, R1 v w2 → ∃ x, v = .string x ∧ ∃ S, Upd w1 w2 S ∧ Away [id] S ∧ (hA w2 id #[Value.int IntKind.u8 (IntKind.wrap IntKind.u8 (w64 (48 + a)))] 5 → R (.string x) w2)) ((fL w [] fun w11 => cT 114 #[.int .i64 (w64 (Int.tdiv a 10))] w11 [] X fun x1 w21 => nB w21 fun id1 => fL w21 [] fun w12 => id1 < w12.heap.size → hA w12 id1 #[Value.int IntKind.u8 (IntKind.wrap IntKind.u8 (w64 (48 + Int.tmod a 10)))] 5 → ∃ R3, RunsTo E.P (convert 131 9 (.slice (some ⟨id1, 0, none⟩) 1 1)) w12 R3 ∧ ∀ v2 w22, R3 v2 w22 → ∃ x2, v2 = .string x2 ∧ ∃ S2, Upd w12 w22 S2 ∧ Away [id1] S2 ∧ (hA w22 id1 #[Value.int IntKind.u8 (IntKind.wrap IntKind.u8 (w64 (48 + Int.tmod a 10)))] 5 → ∃ x3, Sem.run E.P (binSem BinOp.add 9 (Operand.tmp 12) (Operand.tmp 18) (.string x1) (.string x2)) w22 = Result.ok (.string x3) w22 ∧ (hA w22 id1 #[Value.int IntKind.u8 (IntKind.wrap IntKind.u8 (w64 (48 + Int.tmod a 10)))] 5 → R (.string x3) w22))) ∧ nB w fun id2 => (fL w [] fun w13 => id2 < w13.heap.size → hA w13 id2 #[Value.int IntKind.u8 (IntKind.wrap IntKind.u8 (w64 (48 + Int.tmod a 10)))] 5 → cT 114 #[.int .i64 (w64 (Int.tdiv a 10))] w13 [id2] X fun x4 w24 => hA w24 id2 #[Value.int IntKind.u8 (IntKind.wrap IntKind.u8 (w64 (48 + Int.tmod a 10)))] 5 → ∃ R5, RunsTo E.P (convert 131 9 (.slice (some ⟨id2, 0, none⟩) 1 1)) w24 R5 ∧ ∀ v4 w25, R5 v4 w25 → ∃ x5, v4 = .string x5 ∧ ∃ S4, Upd w24 w25 S4 ∧ Away [id2] S4 ∧ (hA w25 id2 #[Value.int IntKind.u8 (IntKind.wrap IntKind.u8 (w64 (48 + Int.tmod a 10)))] 5 → ∃ x6, Sem.run E.P (binSem BinOp.add 9 (Operand.tmp 12) (Operand.tmp 18) (.string x4) (.string x5)) w25 = Result.ok (.string x6) w25 ∧ (hA w25 id2 #[Value.int IntKind.u8 (IntKind.wrap IntKind.u8 (w64 (48 + Int.tmod a 10)))] 5 → R (.string x6) w25))) ∧ fL w [] fun w14 => id2 < w14.heap.size → hA w14 id2 #[Value.int IntKind.u8 (IntKind.wrap IntKind.u8 (w64 (48 + Int.tmod a 10)))] 5 → ∃ R6, RunsTo E.P (convert 131 9 (.slice (some ⟨id2, 0, none⟩) 1 1)) w14 R6 ∧ ∀ v5 w27, R6 v5 w27 → ∃ x7, v5 = .string x7 ∧ ∃ S5, Upd w14 w27 S5 ∧ Away [id2] S5 ∧ (hA w27 id2 #[Value.int IntKind.u8 (IntKind.wrap IntKind.u8 (w64 (48 + Int.tmod a 10)))] 5 → cT 114 #[.int .i64 (w64 (Int.tdiv a 10))] w27 [id2] X fun x8 w28 => hA w28 id2 #[Value.int IntKind.u8 (IntKind.wrap IntKind.u8 (w64 (48 + Int.tmod a 10)))] 5 → ∃ x9, Sem.run E.P (binSem BinOp.add 9 (Operand.tmp 12) (Operand.tmp 18) (.string x8) (.string x7)) w28 = Result.ok (.string x9) w28 ∧ (hA w28 id2 #[Value.int IntKind.u8 (IntKind.wrap IntKind.u8 (w64 (48 + Int.tmod a 10)))] 5 → R (.string x9) w28)))
 ) : CallsX E.P 114 #[.int .i64 a] w R X :=
  calls_vc E_ok ⟨[], []⟩ (f := 114) Tryz.func114 rfl [(.int .i64 a, .no)] [] (bls0) nod0 (plain_of rfl) (shs_of ⟨trivial, trivial⟩) h (by kernel_rfl)
theorem vc148 {a : Int}  (h : 
 ∃ (I : Int → World → Prop), ∃ (m : Int → Nat), I 1 w ∧ ∀ (jk : Nat → Value) (x : Int) (w2 : World), I x w2 → dB (decide (x < 7)) (dB (x == 3) (I (w64 (x + 1)) w2 ∧ m (w64 (x + 1)) < m x) (∃ R1 X', CallsX E.P 46 #[.int .i64 x] w2 R1 X' ∧ (∀ v w21, R1 v w21 → ∃ a1 n, ∃ c a2, ∃ n1 c1, v = .tuple #[.slice a1 n c, .slice a2 n1 c1] ∧ ∃ S, Upd w2 w21 S ∧ Away [] S ∧ ∃ (I1 : Int → World → Prop), ∃ (m1 : Int → Nat), I1 0 w21 ∧ ∀ (jk1 : Nat → Value) (x1 : Int) (w22 : World), I1 x1 w22 → dB (decide (x1 < (↑n : Int))) (iX x1 n1 a2 fun ad => lI w22 (Addr.add ad (Int.toNat x1 * 1)) fun x2 => dB (x2 == a) (iX x1 n a1 fun ad1 => lT w22 (Addr.add ad1 (Int.toNat x1 * 1)) fun x3 => R (.string x3) w22) (I1 (w64 (x1 + 1)) w22 ∧ m1 (w64 (x1 + 1)) < m1 x1)) (I (w64 (x + 1)) w22 ∧ m (w64 (x + 1)) < m x)) ∧ PX X' X)) (R (.string (ByteArray.mk #[])) w2)
 ) : CallsX E.P 118 #[.int .i64 a] w R X :=
  calls_vc E_ok ⟨[(2, ⟨[(3, .int .i64)], []⟩), (7, ⟨[(6, .int .i64)], []⟩)], []⟩ (f := 118) Tryz.func118 rfl [(.int .i64 a, .no)] [] (bls0) nod0 (plain_of rfl) (shs_of ⟨trivial, trivial⟩) h (by kernel_rfl)
theorem vc146 {a : Nat} {a0 : Option Addr} {a0l a0c : Nat} {a1 a2 : Int} {a3 : Bool} {b0 b1 : Int} {b2 : ByteArray} {b3 : Option Addr} {b3l b3c : Nat} {b4 c : Int} (ha : w.heap[a]? = some (.cells #[.slice a0 a0l a0c, .int .i64 a1, .int .i64 a2, .bool a3] 133 (0, 0))) (h : 
 nB w fun id => iX c b3l b3 fun ad => fL w [] fun w1 => id < w1.heap.size → lE w1 (Addr.add ad (Int.toNat c * 5)) fun x x1 x2 a1_1 n c1 x3 => nB w1 fun id1 => fL w1 [] fun w11 => id1 < w11.heap.size → cI 124 #[.int .i64 x] w11 [a, id, id1] X fun x4 w2 => cI 125 #[.int .i64 b0, .int .i64 c] w2 [a, id, id1] X fun x5 w21 => dB (decide (x4 ≥ x5)) (dB (b0 == 21) (hA w21 a #[.slice a0 a0l a0c, .int .i64 a1, .int .i64 a2, .bool a3] 133 → cU 91 #[.pointer (some ⟨a, 0, none⟩), Ae x x1 x2 a1_1 n c1 x3, .bool (c == 0)] w21 [id, id1] X fun v3 w22 => ∃ a2 n1, ∃ c2 x6, ∃ x7 x8, hA w22 a #[.slice a2 n1 c2, .int .i64 x6, .int .i64 x7, .bool x8] 133 ∧ 4 = 4 ∧ (hA w22 a #[.slice a2 n1 c2, .int .i64 x6, .int .i64 x7, .bool x8] 133 → R (.tuple #[]) w22)) (hA w21 a #[.slice a0 a0l a0c, .int .i64 a1, .int .i64 a2, .bool a3] 133 → cU 91 #[.pointer (some ⟨a, 0, none⟩), Ae x x1 x2 a1_1 n c1 x3, .bool false] w21 [id, id1] X fun v5 w24 => ∃ a3 n2, ∃ c3 x9, ∃ x10 x11, hA w24 a #[.slice a3 n2 c3, .int .i64 x9, .int .i64 x10, .bool x11] 133 ∧ 4 = 4 ∧ (hA w24 a #[.slice a3 n2 c3, .int .i64 x9, .int .i64 x10, .bool x11] 133 → R (.tuple #[]) w24))) (hA w21 a #[.slice a0 a0l a0c, .int .i64 a1, .int .i64 a2, .bool a3] 133 → cU 115 #[.pointer (some ⟨a, 0, none⟩), .string (ByteArray.mk #[40])] w21 [id, id1] X fun v7 w26 => ∃ a4 n3, ∃ c4 x12, ∃ x13 x14, hA w26 a #[.slice a4 n3 c4, .int .i64 x12, .int .i64 x13, .bool x14] 133 ∧ 4 = 4 ∧ (hA w26 a #[.slice a4 n3 c4, .int .i64 x12, .int .i64 x13, .bool x14] 133 → cU 91 #[.pointer (some ⟨a, 0, none⟩), Ae x x1 x2 a1_1 n c1 x3, .bool false] w26 [id, id1] X fun v9 w27 => ∃ a5 n4, ∃ c5 x15, ∃ x16 x17, hA w27 a #[.slice a5 n4 c5, .int .i64 x15, .int .i64 x16, .bool x17] 133 ∧ 4 = 4 ∧ fL w27 [a] fun w12 => hA w12 a #[.slice a5 n4 c5, .int .i64 (w64 (x15 - 1)), .int .i64 x16, .bool x17] 133 → cU 113 #[.pointer (some ⟨a, 0, none⟩), .string (ByteArray.mk #[41])] w12 [id, id1] X fun v11 w28 => ∃ a6 n5, ∃ c6 x18, ∃ x19 x20, hA w28 a #[.slice a6 n5 c6, .int .i64 x18, .int .i64 x19, .bool x20] 133 ∧ 4 = 4 ∧ (hA w28 a #[.slice a6 n5 c6, .int .i64 x18, .int .i64 x19, .bool x20] 133 → R (.tuple #[]) w28)))
 ) : CallsX E.P 116 #[.pointer (some ⟨a, 0, none⟩), Ae b0 b1 b2 b3 b3l b3c b4, .int .i64 c] w R X :=
  calls_vc E_ok ⟨[], []⟩ (f := 116) Tryz.func116 rfl [(.pointer (some ⟨a, 0, none⟩), .ptr 0 0), (Ae b0 b1 b2 b3 b3l b3c b4, .no), (.int .i64 c, .no)] [⟨a, 133, false, [⟨.slice a0 a0l a0c, .no, 0⟩, ⟨.int .i64 a1, .no, 0⟩, ⟨.int .i64 a2, .no, 0⟩, ⟨.bool a3, .no, 0⟩]⟩] (bls1 ha) nod1 (plain_of rfl) (shs_of ⟨rfl, trivial, trivial, trivial⟩) h (by kernel_rfl)
theorem vc155 {a : Nat} {a0 : Option Addr} {a0l a0c : Nat} {a1 a2 : Int} {a3 : Bool} {b0 b1 : Int} {b2 : ByteArray} {b3 : Option Addr} {b3l b3c : Nat} {b4 : Int} (ha : w.heap[a]? = some (.cells #[.slice a0 a0l a0c, .int .i64 a1, .int .i64 a2, .bool a3] 133 (0, 0))) (h : 
 nB w fun id => fL w [] fun w1 => id < w1.heap.size → ∃ (I : Int → Option Addr → Nat → Nat → Int → Int → Bool → World → Prop), ∃ (m : Int → Option Addr → Nat → Nat → Int → Int → Bool → Nat), I 0 a0 a0l a0c a1 a2 a3 w1 ∧ ∀ (jk : Nat → Value) (x : Int) (a1 : Option Addr) (n c : Nat) (x1 x2 : Int) (x3 : Bool) (w2 : World), I x a1 n c x1 x2 x3 w2 → dB (decide (x < (↑b3l : Int))) (dB x3 (dB (decide (x > 0)) (hA w2 a #[.slice a1 n c, .int .i64 x1, .int .i64 x2, .bool x3] 133 → cU 113 #[.pointer (some ⟨a, 0, none⟩), .string (ByteArray.mk #[44, 32])] w2 [id] X fun v1 w21 => ∃ a2 n1, ∃ c1 x4, ∃ x5 x6, hA w21 a #[.slice a2 n1 c1, .int .i64 x4, .int .i64 x5, .bool x6] 133 ∧ 4 = 4 ∧ (hA w21 a #[.slice a2 n1 c1, .int .i64 x4, .int .i64 x5, .bool x6] 133 → cU 116 #[.pointer (some ⟨a, 0, none⟩), Ae b0 b1 b2 b3 b3l b3c b4, .int .i64 x] w21 [id] X fun v3 w22 => ∃ a3 n2, ∃ c2 x7, ∃ x8 x9, hA w22 a #[.slice a3 n2 c2, .int .i64 x7, .int .i64 x8, .bool x9] 133 ∧ 4 = 4 ∧ I (w64 (x + 1)) a3 n2 c2 x7 x8 x9 w22 ∧ m (w64 (x + 1)) a3 n2 c2 x7 x8 x9 < m x a1 n c x1 x2 x3)) (hA w2 a #[.slice a1 n c, .int .i64 x1, .int .i64 x2, .bool x3] 133 → cU 116 #[.pointer (some ⟨a, 0, none⟩), Ae b0 b1 b2 b3 b3l b3c b4, .int .i64 x] w2 [id] X fun v5 w25 => ∃ a4 n3, ∃ c3 x10, ∃ x11 x12, hA w25 a #[.slice a4 n3 c3, .int .i64 x10, .int .i64 x11, .bool x12] 133 ∧ 4 = 4 ∧ I (w64 (x + 1)) a4 n3 c3 x10 x11 x12 w25 ∧ m (w64 (x + 1)) a4 n3 c3 x10 x11 x12 < m x a1 n c x1 x2 x3)) (hA w2 a #[.slice a1 n c, .int .i64 x1, .int .i64 x2, .bool x3] 133 → R (.tuple #[]) w2)) (hA w2 a #[.slice a1 n c, .int .i64 x1, .int .i64 x2, .bool x3] 133 → R (.tuple #[]) w2)
 ) : CallsX E.P 126 #[.pointer (some ⟨a, 0, none⟩), Ae b0 b1 b2 b3 b3l b3c b4] w R X :=
  calls_vc E_ok ⟨[(2, ⟨[(4, .int .i64)], [(0, 0, .slc), (0, 1, .int .i64), (0, 2, .int .i64), (0, 3, .bool)]⟩)], []⟩ (f := 126) Tryz.func126 rfl [(.pointer (some ⟨a, 0, none⟩), .ptr 0 0), (Ae b0 b1 b2 b3 b3l b3c b4, .no)] [⟨a, 133, false, [⟨.slice a0 a0l a0c, .no, 0⟩, ⟨.int .i64 a1, .no, 0⟩, ⟨.int .i64 a2, .no, 0⟩, ⟨.bool a3, .no, 0⟩]⟩] (bls1 ha) nod1 (plain_of rfl) (shs_of ⟨rfl, trivial, trivial⟩) h (by kernel_rfl)
theorem vc91 {a0 a1 : Int} {a2 : ByteArray} {a3 : Option Addr} {a3l a3c : Nat} {a4 : Int}  (h : 
 nB w fun id => nB w fun id1 => distL [id, id1] → fL w [] fun w1 => id < w1.heap.size → id1 < w1.heap.size → hA w1 id1 #[.slice none 0 0, .int .i64 0, .int .i64 0, .bool true] 133 → cU 91 #[.pointer (some ⟨id1, 0, none⟩), Ae a0 a1 a2 a3 a3l a3c a4, .bool false] w1 [id] X fun v1 w2 => ∃ a n, ∃ c x, ∃ x1 x2, hA w2 id1 #[.slice a n c, .int .i64 x, .int .i64 x1, .bool x2] 133 ∧ 4 = 4 ∧ dB (!x2) (R (.tuple #[.string (ByteArray.mk #[]), .int .i64 122]) w2) (∃ R2, RunsTo E.P (convert 131 9 (.slice a n c)) w2 R2 ∧ ∀ v2 w21, R2 v2 w21 → ∃ x3, v2 = .string x3 ∧ ∃ S1, Upd w2 w21 S1 ∧ Away [id, id1] S1 ∧ R (.tuple #[.string x3, .int .i64 0]) w21)
 ) : CallsX E.P 71 #[Ae a0 a1 a2 a3 a3l a3c a4] w R X :=
  calls_vc E_ok ⟨[(300002, ⟨[], []⟩)], []⟩ (f := 71) Tryz.func71 rfl [(Ae a0 a1 a2 a3 a3l a3c a4, .no)] [] (bls0) nod0 (plain_of rfl) (shs_of ⟨trivial, trivial⟩) h (by kernel_rfl)
theorem vc60 {a0 a1 : Int} {a2 : ByteArray} {a3 : Option Addr} {a3l a3c : Nat} {a4 : Int}  (h : 
 nB w fun id => fL w [] fun w1 => id < w1.heap.size → ∃ R1 X', CallsX E.P 71 #[Ae a0 a1 a2 a3 a3l a3c a4] w1 R1 X' ∧ (∀ v w2, R1 v w2 → ∃ x x1, v = .tuple #[.string x, .int .i64 x1] ∧ ∃ S, Upd w1 w2 S ∧ Away [id] S ∧ R (.bool (x1 == 0)) w2) ∧ PX X' X
 ) : CallsX E.P 49 #[Ae a0 a1 a2 a3 a3l a3c a4] w R X :=
  calls_vc E_ok ⟨[], []⟩ (f := 49) Tryz.func49 rfl [(Ae a0 a1 a2 a3 a3l a3c a4, .no)] [] (bls0) nod0 (plain_of rfl) (shs_of ⟨trivial, trivial⟩) h (by kernel_rfl)
theorem vc140 {a0 a1 : Int} {a2 : ByteArray} {a3 : Option Addr} {a3l a3c : Nat} {a4 : Int}  (h : 
 nB w fun id => dB (a0 == 1) (fL w [] fun w1 => id < w1.heap.size → R (.int .i64 0) w1) (dB (a0 == 2) (fL w [] fun w11 => id < w11.heap.size → R (.int .i64 0) w11) (dB (a0 == 3) (fL w [] fun w12 => id < w12.heap.size → R (.int .i64 0) w12) (dB (a0 == 4) (fL w [] fun w13 => id < w13.heap.size → R (.int .i64 0) w13) (dB (a0 == 22) (fL w [] fun w14 => id < w14.heap.size → R (.int .i64 0) w14) (dB (a0 == 23) (fL w [] fun w15 => id < w15.heap.size → R (.int .i64 0) w15) (dB (a0 == 6) (fL w [] fun w16 => id < w16.heap.size → R (.int .i64 1) w16) (dB (a0 == 7) (fL w [] fun w17 => id < w17.heap.size → R (.int .i64 1) w17) (dB (a0 == 24) (fL w [] fun w18 => id < w18.heap.size → R (.int .i64 1) w18) (dB (a0 == 8) (fL w [] fun w19 => id < w19.heap.size → R (.int .i64 2) w19) (dB (a0 == 9) (fL w [] fun w110 => id < w110.heap.size → R (.int .i64 2) w110) (dB (a0 == 10) (fL w [] fun w111 => id < w111.heap.size → R (.int .i64 2) w111) (dB (a0 == 11) (fL w [] fun w112 => id < w112.heap.size → R (.int .i64 2) w112) (dB (a0 == 12) (fL w [] fun w113 => id < w113.heap.size → R (.int .i64 2) w113) (dB (a0 == 13) (fL w [] fun w114 => id < w114.heap.size → R (.int .i64 2) w114) (dB (a0 == 14) (fL w [] fun w115 => id < w115.heap.size → R (.int .i64 2) w115) (dB (a0 == 15) (fL w [] fun w116 => id < w116.heap.size → R (.int .i64 2) w116) (dB (a0 == 16) (fL w [] fun w117 => id < w117.heap.size → R (.int .i64 2) w117) (dB (a0 == 17) (fL w [] fun w118 => id < w118.heap.size → R (.int .i64 2) w118) (dB (a0 == 18) (fL w [] fun w119 => id < w119.heap.size → R (.int .i64 2) w119) (dB (a0 == 21) (fL w [] fun w120 => id < w120.heap.size → R (.int .i64 2) w120) (dB (a0 == 19) (fL w [] fun w121 => id < w121.heap.size → R (.int .i64 3) w121) (dB (a0 == 25) (fL w [] fun w122 => id < w122.heap.size → R (.int .i64 (-1)) w122) (dB (a0 == 20) (dB (decide (a1 ≥ 1)) (dB (decide (a1 ≤ 3)) (fL w [] fun w123 => id < w123.heap.size → R (.int .i64 2) w123) (fL w [] fun w124 => id < w124.heap.size → R (.int .i64 1) w124)) (fL w [] fun w125 => id < w125.heap.size → R (.int .i64 1) w125)) (fL w [] fun w126 => id < w126.heap.size → R (.int .i64 (-2)) w126))))))))))))))))))))))))
 ) : CallsX E.P 110 #[Ae a0 a1 a2 a3 a3l a3c a4] w R X :=
  calls_vc E_ok ⟨[], []⟩ (f := 110) Tryz.func110 rfl [(Ae a0 a1 a2 a3 a3l a3c a4, .no)] [] (bls0) nod0 (plain_of rfl) (shs_of ⟨trivial, trivial⟩) h (by kernel_rfl)
theorem vc141 {a0 a1 : Int} {a2 : ByteArray} {a3 : Option Addr} {a3l a3c : Nat} {a4 : Int}  (h : 
 nB w fun id => fL w [] fun w1 => id < w1.heap.size → cB 66 #[.string a2] w1 [id] X fun x w2 => dB (a0 == 1) (dB (decide (a1 ≥ 0)) (R (.bool (strEq a2 (ByteArray.mk #[]))) w2) (R (.bool false) w2)) (dB (a0 == 3) (dB (decide (a1 ≥ 0)) (R (.bool (strEq a2 (ByteArray.mk #[]))) w2) (R (.bool false) w2)) (dB (a0 == 2) (dB (a1 == 0) (R (.bool (strEq a2 (ByteArray.mk #[]))) w2) (dB (a1 == 1) (R (.bool (strEq a2 (ByteArray.mk #[]))) w2) (R (.bool false) w2))) (dB (a0 == 4) (dB (a1 == 0) (R (.bool x) w2) (R (.bool false) w2)) (dB (a0 == 23) (dB (a1 == 0) (R (.bool x) w2) (R (.bool false) w2)) (dB (a0 == 20) (dB (decide (a1 ≥ 1)) (dB (decide (a1 ≤ 10)) (R (.bool (strEq a2 (ByteArray.mk #[]))) w2) (R (.bool false) w2)) (R (.bool false) w2)) (dB (a0 == 21) (dB (decide (a1 ≥ 1)) (dB (decide (a1 ≤ 6)) (R (.bool x) w2) (R (.bool false) w2)) (R (.bool false) w2)) (dB (a1 == 0) (R (.bool (strEq a2 (ByteArray.mk #[]))) w2) (R (.bool false) w2))))))))
 ) : CallsX E.P 111 #[Ae a0 a1 a2 a3 a3l a3c a4] w R X :=
  calls_vc E_ok ⟨[], []⟩ (f := 111) Tryz.func111 rfl [(Ae a0 a1 a2 a3 a3l a3c a4, .no)] [] (bls0) nod0 (plain_of rfl) (shs_of ⟨trivial, trivial⟩) h (by kernel_rfl)
theorem vc142 {a : Int}  (h : 
 dB (decide (a ≥ 22)) (R (.bool (decide (a ≤ 25))) w) (R (.bool false) w)
 ) : CallsX E.P 112 #[.int .i64 a] w R X :=
  calls_vc E_ok ⟨[], []⟩ (f := 112) Tryz.func112 rfl [(.int .i64 a, .no)] [] (bls0) nod0 (plain_of rfl) (shs_of ⟨trivial, trivial⟩) h (by kernel_rfl)
theorem vc153 {a : Int}  (h : 
 dB (a == 19) (R (.int .i64 0) w) (dB (a == 21) (R (.int .i64 0) w) (dB (a == 18) (R (.int .i64 1) w) (dB (a == 17) (R (.int .i64 2) w) (dB (a == 7) (R (.int .i64 3) w) (dB (a == 13) (R (.int .i64 4) w) (dB (a == 14) (R (.int .i64 4) w) (dB (a == 15) (R (.int .i64 4) w) (dB (a == 16) (R (.int .i64 4) w) (dB (a == 8) (R (.int .i64 5) w) (dB (a == 9) (R (.int .i64 5) w) (dB (a == 10) (R (.int .i64 6) w) (dB (a == 11) (R (.int .i64 6) w) (dB (a == 12) (R (.int .i64 6) w) (dB (a == 6) (R (.int .i64 7) w) (R (.int .i64 8) w)))))))))))))))
 ) : CallsX E.P 124 #[.int .i64 a] w R X :=
  calls_vc E_ok ⟨[], []⟩ (f := 124) Tryz.func124 rfl [(.int .i64 a, .no)] [] (bls0) nod0 (plain_of rfl) (shs_of ⟨trivial, trivial⟩) h (by kernel_rfl)
theorem vc154 {a b : Int}  (h : 
 cI 124 #[.int .i64 a] w [] X fun x w2 => dB (x == 3) (R (.int .i64 x) w2) (dB (x == 7) (R (.int .i64 x) w2) (dB (x == 4) (R (.int .i64 5) w2) (dB (x == 0) (R (.int .i64 0) w2) (dB (x == 8) (R (.int .i64 0) w2) (R (.int .i64 (w64 (x + b))) w2)))))
 ) : CallsX E.P 125 #[.int .i64 a, .int .i64 b] w R X :=
  calls_vc E_ok ⟨[], []⟩ (f := 125) Tryz.func125 rfl [(.int .i64 a, .no), (.int .i64 b, .no)] [] (bls0) nod0 (plain_of rfl) (shs_of ⟨trivial, trivial, trivial⟩) h (by kernel_rfl)
theorem vc120 {a : Nat} {a0 : Option Addr} {a0l a0c : Nat} {a1 a2 : Int} {a3 : Bool} {b0 b1 : Int} {b2 : ByteArray} {b3 : Option Addr} {b3l b3c : Nat} {b4 : Int} {c : Bool} (ha : w.heap[a]? = some (.cells #[.slice a0 a0l a0c, .int .i64 a1, .int .i64 a2, .bool a3] 133 (0, 0))) (h : 
 nB w fun id => fL w [] fun w1 => id < w1.heap.size → cI 110 #[Ae b0 b1 b2 b3 b3l b3c b4] w1 [a, id] X fun x w2 => cB 111 #[Ae b0 b1 b2 b3 b3l b3c b4] w2 [a, id] X fun x1 w21 => ∃ (I : Bool → World → Prop), dB (!a3) (fL w21 [a] fun w11 => hA w11 a #[.slice a0 a0l a0c, .int .i64 a1, .int .i64 a2, .bool false] 133 → R (.tuple #[]) w11) (dB (!x1) (fL w21 [a] fun w12 => hA w12 a #[.slice a0 a0l a0c, .int .i64 a1, .int .i64 a2, .bool false] 133 → R (.tuple #[]) w12) (dB (decide (x < -1)) (fL w21 [a] fun w13 => hA w13 a #[.slice a0 a0l a0c, .int .i64 a1, .int .i64 a2, .bool false] 133 → R (.tuple #[]) w13) (dB (decide (x ≥ 0)) (dB ((↑b3l : Int) != x) (fL w21 [a] fun w14 => hA w14 a #[.slice a0 a0l a0c, .int .i64 a1, .int .i64 a2, .bool false] 133 → R (.tuple #[]) w14) (cB 112 #[.int .i64 b0] w21 [a, id] X fun x2 w22 => dB (!x2 == c) (fL w22 [a] fun w15 => hA w15 a #[.slice a0 a0l a0c, .int .i64 a1, .int .i64 a2, .bool false] 133 → R (.tuple #[]) w15) (I a3 w22))) (cB 112 #[.int .i64 b0] w21 [a, id] X fun x3 w24 => dB (!x3 == c) (fL w24 [a] fun w16 => hA w16 a #[.slice a0 a0l a0c, .int .i64 a1, .int .i64 a2, .bool false] 133 → R (.tuple #[]) w16) (I a3 w24))))) ∧ ∀ (jk : Nat → Value) (x4 : Bool) (w26 : World), I x4 w26 → dB (b0 == 1) (cT 114 #[.int .i64 b1] w26 [a, id] X fun x5 w27 => hA w27 a #[.slice a0 a0l a0c, .int .i64 a1, .int .i64 a2, .bool x4] 133 → cU 113 #[.pointer (some ⟨a, 0, none⟩), .string x5] w27 [id] X fun v6 w28 => ∃ a1 n, ∃ c1 x6, ∃ x7 x8, hA w28 a #[.slice a1 n c1, .int .i64 x6, .int .i64 x7, .bool x8] 133 ∧ 4 = 4 ∧ (hA w28 a #[.slice a1 n c1, .int .i64 x6, .int .i64 x7, .bool x8] 133 → R (.tuple #[]) w28)) (dB (b0 == 2) (nB w26 fun id1 => iX b1 2 (some ⟨id1, 0, none⟩) fun ad => fL w26 [] fun w17 => id1 < w17.heap.size → hA w17 id1 #[.string (ByteArray.mk #[102, 97, 108, 115, 101]), .string (ByteArray.mk #[116, 114, 117, 101])] 9 → lT w17 (Addr.add ad (Int.toNat b1 * 1)) fun x9 => hA w17 a #[.slice a0 a0l a0c, .int .i64 a1, .int .i64 a2, .bool x4] 133 → hA w17 id1 #[.string (ByteArray.mk #[102, 97, 108, 115, 101]), .string (ByteArray.mk #[116, 114, 117, 101])] 9 → cU 113 #[.pointer (some ⟨a, 0, none⟩), .string x9] w17 [id, id1] X fun v8 w211 => ∃ a2 n1, ∃ c2 x10, ∃ x11 x12, hA w211 a #[.slice a2 n1 c2, .int .i64 x10, .int .i64 x11, .bool x12] 133 ∧ 4 = 4 ∧ (hA w211 a #[.slice a2 n1 c2, .int .i64 x10, .int .i64 x11, .bool x12] 133 → hA w211 id1 #[.string (ByteArray.mk #[102, 97, 108, 115, 101]), .string (ByteArray.mk #[116, 114, 117, 101])] 9 → R (.tuple #[]) w211)) (dB (b0 == 3) (cT 114 #[.int .i64 b1] w26 [a, id] X fun x13 w213 => ∃ x14, Sem.run E.P (binSem BinOp.add 9 (Operand.const (.string (ByteArray.mk #[64]))) (Operand.tmp 82) (.string (ByteArray.mk #[64])) (.string x13)) w213 = Result.ok (.string x14) w213 ∧ (hA w213 a #[.slice a0 a0l a0c, .int .i64 a1, .int .i64 a2, .bool x4] 133 → cU 113 #[.pointer (some ⟨a, 0, none⟩), .string x14] w213 [id] X fun v11 w214 => ∃ a3 n2, ∃ c3 x15, ∃ x16 x17, hA w214 a #[.slice a3 n2 c3, .int .i64 x15, .int .i64 x16, .bool x17] 133 ∧ 4 = 4 ∧ (hA w214 a #[.slice a3 n2 c3, .int .i64 x15, .int .i64 x16, .bool x17] 133 → R (.tuple #[]) w214))) (dB (b0 == 4) (hA w26 a #[.slice a0 a0l a0c, .int .i64 a1, .int .i64 a2, .bool x4] 133 → cU 113 #[.pointer (some ⟨a, 0, none⟩), .string b2] w26 [id] X fun v13 w217 => ∃ a4 n3, ∃ c4 x18, ∃ x19 x20, hA w217 a #[.slice a4 n3 c4, .int .i64 x18, .int .i64 x19, .bool x20] 133 ∧ 4 = 4 ∧ (hA w217 a #[.slice a4 n3 c4, .int .i64 x18, .int .i64 x19, .bool x20] 133 → R (.tuple #[]) w217)) (dB (b0 == 23) (hA w26 a #[.slice a0 a0l a0c, .int .i64 a1, .int .i64 a2, .bool x4] 133 → cU 113 #[.pointer (some ⟨a, 0, none⟩), .string b2] w26 [id] X fun v15 w219 => ∃ a5 n4, ∃ c5 x21, ∃ x22 x23, hA w219 a #[.slice a5 n4 c5, .int .i64 x21, .int .i64 x22, .bool x23] 133 ∧ 4 = 4 ∧ (hA w219 a #[.slice a5 n4 c5, .int .i64 x21, .int .i64 x22, .bool x23] 133 → R (.tuple #[]) w219)) (dB (b0 == 22) (hA w26 a #[.slice a0 a0l a0c, .int .i64 a1, .int .i64 a2, .bool x4] 133 → cU 113 #[.pointer (some ⟨a, 0, none⟩), .string (ByteArray.mk #[118, 101, 114, 116, 105, 99, 101, 115])] w26 [id] X fun v17 w221 => ∃ a6 n5, ∃ c6 x24, ∃ x25 x26, hA w221 a #[.slice a6 n5 c6, .int .i64 x24, .int .i64 x25, .bool x26] 133 ∧ 4 = 4 ∧ (hA w221 a #[.slice a6 n5 c6, .int .i64 x24, .int .i64 x25, .bool x26] 133 → R (.tuple #[]) w221)) (dB (b0 == 6) (hA w26 a #[.slice a0 a0l a0c, .int .i64 a1, .int .i64 a2, .bool x4] 133 → cU 115 #[.pointer (some ⟨a, 0, none⟩), .string (ByteArray.mk #[45])] w26 [id] X fun v19 w223 => ∃ a7 n6, ∃ c7 x27, ∃ x28 x29, hA w223 a #[.slice a7 n6 c7, .int .i64 x27, .int .i64 x28, .bool x29] 133 ∧ 4 = 4 ∧ (hA w223 a #[.slice a7 n6 c7, .int .i64 x27, .int .i64 x28, .bool x29] 133 → cU 116 #[.pointer (some ⟨a, 0, none⟩), Ae b0 b1 b2 b3 b3l b3c b4, .int .i64 0] w223 [id] X fun v21 w224 => ∃ a8 n7, ∃ c8 x30, ∃ x31 x32, hA w224 a #[.slice a8 n7 c8, .int .i64 x30, .int .i64 x31, .bool x32] 133 ∧ 4 = 4 ∧ fL w224 [a] fun w18 => hA w18 a #[.slice a8 n7 c8, .int .i64 (w64 (x30 - 1)), .int .i64 x31, .bool x32] 133 → R (.tuple #[]) w18)) (dB (b0 == 7) (hA w26 a #[.slice a0 a0l a0c, .int .i64 a1, .int .i64 a2, .bool x4] 133 → cU 115 #[.pointer (some ⟨a, 0, none⟩), .string (ByteArray.mk #[110, 111, 116, 32])] w26 [id] X fun v23 w227 => ∃ a9 n8, ∃ c9 x33, ∃ x34 x35, hA w227 a #[.slice a9 n8 c9, .int .i64 x33, .int .i64 x34, .bool x35] 133 ∧ 4 = 4 ∧ (hA w227 a #[.slice a9 n8 c9, .int .i64 x33, .int .i64 x34, .bool x35] 133 → cU 116 #[.pointer (some ⟨a, 0, none⟩), Ae b0 b1 b2 b3 b3l b3c b4, .int .i64 0] w227 [id] X fun v25 w228 => ∃ a10 n9, ∃ c10 x36, ∃ x37 x38, hA w228 a #[.slice a10 n9 c10, .int .i64 x36, .int .i64 x37, .bool x38] 133 ∧ 4 = 4 ∧ fL w228 [a] fun w19 => hA w19 a #[.slice a10 n9 c10, .int .i64 (w64 (x36 - 1)), .int .i64 x37, .bool x38] 133 → R (.tuple #[]) w19)) (∃ (I1 : Bool → World → Prop), dB (b0 == 19) (I1 (b0 == 19) w26) (dB (b0 == 21) (I1 (b0 == 21) w26) (dB (b0 == 20) (I1 (b0 == 20) w26) (dB (b0 == 24) (I1 (b0 == 24) w26) (I1 (b0 == 25) w26)))) ∧ ∀ (jk1 : Nat → Value) (x39 : Bool) (w231 : World), I1 x39 w231 → dB x39 (hA w231 a #[.slice a0 a0l a0c, .int .i64 a1, .int .i64 a2, .bool x4] 133 → cU 117 #[.pointer (some ⟨a, 0, none⟩), Ae b0 b1 b2 b3 b3l b3c b4] w231 [id] X fun v27 w232 => ∃ a11 n10, ∃ c11 x40, ∃ x41 x42, hA w232 a #[.slice a11 n10 c11, .int .i64 x40, .int .i64 x41, .bool x42] 133 ∧ 4 = 4 ∧ (hA w232 a #[.slice a11 n10 c11, .int .i64 x40, .int .i64 x41, .bool x42] 133 → R (.tuple #[]) w232)) (hA w231 a #[.slice a0 a0l a0c, .int .i64 a1, .int .i64 a2, .bool x4] 133 → cU 116 #[.pointer (some ⟨a, 0, none⟩), Ae b0 b1 b2 b3 b3l b3c b4, .int .i64 0] w231 [id] X fun v29 w234 => ∃ a12 n11, ∃ c12 x43, ∃ x44 x45, hA w234 a #[.slice a12 n11 c12, .int .i64 x43, .int .i64 x44, .bool x45] 133 ∧ 4 = 4 ∧ cT 118 #[.int .i64 b0] w234 [a, id] X fun x46 w235 => ∃ x47, Sem.run E.P (binSem BinOp.add 9 (Operand.const (.string (ByteArray.mk #[32]))) (Operand.tmp 54) (.string (ByteArray.mk #[32])) (.string x46)) w235 = Result.ok (.string x47) w235 ∧ ∃ x48, Sem.run E.P (binSem BinOp.add 9 (Operand.tmp 55) (Operand.const (.string (ByteArray.mk #[32]))) (.string x47) (.string (ByteArray.mk #[32]))) w235 = Result.ok (.string x48) w235 ∧ (hA w235 a #[.slice a12 n11 c12, .int .i64 x43, .int .i64 x44, .bool x45] 133 → cU 113 #[.pointer (some ⟨a, 0, none⟩), .string x48] w235 [id] X fun v32 w236 => ∃ a13 n12, ∃ c13 x49, ∃ x50 x51, hA w236 a #[.slice a13 n12 c13, .int .i64 x49, .int .i64 x50, .bool x51] 133 ∧ 4 = 4 ∧ (hA w236 a #[.slice a13 n12 c13, .int .i64 x49, .int .i64 x50, .bool x51] 133 → cU 116 #[.pointer (some ⟨a, 0, none⟩), Ae b0 b1 b2 b3 b3l b3c b4, .int .i64 1] w236 [id] X fun v34 w237 => ∃ a14 n13, ∃ c14 x52, ∃ x53 x54, hA w237 a #[.slice a14 n13 c14, .int .i64 x52, .int .i64 x53, .bool x54] 133 ∧ 4 = 4 ∧ (hA w237 a #[.slice a14 n13 c14, .int .i64 x52, .int .i64 x53, .bool x54] 133 → R (.tuple #[]) w237))))))))))))
 ) : CallsX E.P 91 #[.pointer (some ⟨a, 0, none⟩), Ae b0 b1 b2 b3 b3l b3c b4, .bool c] w R X :=
  calls_vc E_ok ⟨[], [(5, ⟨[], [(0, 3, .bool)]⟩), (33, ⟨[(124, .bool)], []⟩)]⟩ (f := 91) Tryz.func91 rfl [(.pointer (some ⟨a, 0, none⟩), .ptr 0 0), (Ae b0 b1 b2 b3 b3l b3c b4, .no), (.bool c, .no)] [⟨a, 133, false, [⟨.slice a0 a0l a0c, .no, 0⟩, ⟨.int .i64 a1, .no, 0⟩, ⟨.int .i64 a2, .no, 0⟩, ⟨.bool a3, .no, 0⟩]⟩] (bls1 ha) nod1 (plain_of rfl) (shs_of ⟨rfl, trivial, trivial, trivial⟩) h (by kernel_rfl)
theorem vc147 {a : Nat} {a0 : Option Addr} {a0l a0c : Nat} {a1 a2 : Int} {a3 : Bool} {b0 b1 : Int} {b2 : ByteArray} {b3 : Option Addr} {b3l b3c : Nat} {b4 : Int} (ha : w.heap[a]? = some (.cells #[.slice a0 a0l a0c, .int .i64 a1, .int .i64 a2, .bool a3] 133 (0, 0))) (h : 
 nB w fun id => dB (b0 == 19) (fL w [] fun w1 => id < w1.heap.size → hA w1 a #[.slice a0 a0l a0c, .int .i64 a1, .int .i64 a2, .bool a3] 133 → cU 115 #[.pointer (some ⟨a, 0, none⟩), .string (ByteArray.mk #[105, 102, 32])] w1 [id] X fun v1 w2 => ∃ a1 n, ∃ c x, ∃ x1 x2, hA w2 a #[.slice a1 n c, .int .i64 x, .int .i64 x1, .bool x2] 133 ∧ 4 = 4 ∧ (hA w2 a #[.slice a1 n c, .int .i64 x, .int .i64 x1, .bool x2] 133 → cU 116 #[.pointer (some ⟨a, 0, none⟩), Ae b0 b1 b2 b3 b3l b3c b4, .int .i64 0] w2 [id] X fun v3 w21 => ∃ a2 n1, ∃ c1 x3, ∃ x4 x5, hA w21 a #[.slice a2 n1 c1, .int .i64 x3, .int .i64 x4, .bool x5] 133 ∧ 4 = 4 ∧ (hA w21 a #[.slice a2 n1 c1, .int .i64 x3, .int .i64 x4, .bool x5] 133 → cU 113 #[.pointer (some ⟨a, 0, none⟩), .string (ByteArray.mk #[32, 116, 104, 101, 110, 32])] w21 [id] X fun v5 w22 => ∃ a3 n2, ∃ c2 x6, ∃ x7 x8, hA w22 a #[.slice a3 n2 c2, .int .i64 x6, .int .i64 x7, .bool x8] 133 ∧ 4 = 4 ∧ (hA w22 a #[.slice a3 n2 c2, .int .i64 x6, .int .i64 x7, .bool x8] 133 → cU 116 #[.pointer (some ⟨a, 0, none⟩), Ae b0 b1 b2 b3 b3l b3c b4, .int .i64 1] w22 [id] X fun v7 w23 => ∃ a4 n3, ∃ c3 x9, ∃ x10 x11, hA w23 a #[.slice a4 n3 c3, .int .i64 x9, .int .i64 x10, .bool x11] 133 ∧ 4 = 4 ∧ (hA w23 a #[.slice a4 n3 c3, .int .i64 x9, .int .i64 x10, .bool x11] 133 → cU 113 #[.pointer (some ⟨a, 0, none⟩), .string (ByteArray.mk #[32, 101, 108, 115, 101, 32])] w23 [id] X fun v9 w24 => ∃ a5 n4, ∃ c4 x12, ∃ x13 x14, hA w24 a #[.slice a5 n4 c4, .int .i64 x12, .int .i64 x13, .bool x14] 133 ∧ 4 = 4 ∧ (hA w24 a #[.slice a5 n4 c4, .int .i64 x12, .int .i64 x13, .bool x14] 133 → cU 116 #[.pointer (some ⟨a, 0, none⟩), Ae b0 b1 b2 b3 b3l b3c b4, .int .i64 2] w24 [id] X fun v11 w25 => ∃ a6 n5, ∃ c5 x15, ∃ x16 x17, hA w25 a #[.slice a6 n5 c5, .int .i64 x15, .int .i64 x16, .bool x17] 133 ∧ 4 = 4 ∧ fL w25 [a] fun w11 => hA w11 a #[.slice a6 n5 c5, .int .i64 (w64 (x15 - 1)), .int .i64 x16, .bool x17] 133 → R (.tuple #[]) w11)))))) (dB (b0 == 21) (∃ (I : Bool → World → Prop), dB (decide (w64 (a2 + 1) > 4)) (fL w [a] fun w12 => id < w12.heap.size → I false w12) (fL w [a] fun w13 => id < w13.heap.size → I a3 w13) ∧ ∀ (jk : Nat → Value) (x18 : Bool) (w212 : World), I x18 w212 → fL w212 [] fun w14 => cS 85 #[] w14 [a, id] X fun a7 n6 c6 w213 => iX (w64 (b1 - 1)) n6 a7 fun ad => lT w213 (Addr.add ad (Int.toNat (w64 (b1 - 1)) * 1)) fun x19 => ∃ x20, Sem.run E.P (binSem BinOp.add 9 (Operand.tmp 67) (Operand.const (.string (ByteArray.mk #[32]))) (.string x19) (.string (ByteArray.mk #[32]))) w213 = Result.ok (.string x20) w213 ∧ ∃ x21, Sem.run E.P (binSem BinOp.add 9 (Operand.tmp 68) (Operand.tmp 70) (.string x20) (.string b2)) w213 = Result.ok (.string x21) w213 ∧ ∃ x22, Sem.run E.P (binSem BinOp.add 9 (Operand.tmp 71) (Operand.const (.string (ByteArray.mk #[32, 105, 110, 32]))) (.string x21) (.string (ByteArray.mk #[32, 105, 110, 32]))) w213 = Result.ok (.string x22) w213 ∧ (hA w213 a #[.slice a0 a0l a0c, .int .i64 a1, .int .i64 (w64 (a2 + 1)), .bool x18] 133 → cU 115 #[.pointer (some ⟨a, 0, none⟩), .string x22] w213 [id] X fun v14 w214 => ∃ a8 n7, ∃ c7 x23, ∃ x24 x25, hA w214 a #[.slice a8 n7 c7, .int .i64 x23, .int .i64 x24, .bool x25] 133 ∧ 4 = 4 ∧ (hA w214 a #[.slice a8 n7 c7, .int .i64 x23, .int .i64 x24, .bool x25] 133 → cU 116 #[.pointer (some ⟨a, 0, none⟩), Ae b0 b1 b2 b3 b3l b3c b4, .int .i64 0] w214 [id] X fun v16 w215 => ∃ a9 n8, ∃ c8 x26, ∃ x27 x28, hA w215 a #[.slice a9 n8 c8, .int .i64 x26, .int .i64 x27, .bool x28] 133 ∧ 4 = 4 ∧ (hA w215 a #[.slice a9 n8 c8, .int .i64 x26, .int .i64 x27, .bool x28] 133 → cU 113 #[.pointer (some ⟨a, 0, none⟩), .string (ByteArray.mk #[58, 32])] w215 [id] X fun v18 w216 => ∃ a10 n9, ∃ c9 x29, ∃ x30 x31, hA w216 a #[.slice a10 n9 c9, .int .i64 x29, .int .i64 x30, .bool x31] 133 ∧ 4 = 4 ∧ (hA w216 a #[.slice a10 n9 c9, .int .i64 x29, .int .i64 x30, .bool x31] 133 → cU 116 #[.pointer (some ⟨a, 0, none⟩), Ae b0 b1 b2 b3 b3l b3c b4, .int .i64 1] w216 [id] X fun v20 w217 => ∃ a11 n10, ∃ c10 x32, ∃ x33 x34, hA w217 a #[.slice a11 n10 c10, .int .i64 x32, .int .i64 x33, .bool x34] 133 ∧ 4 = 4 ∧ fL w217 [a] fun w15 => hA w15 a #[.slice a11 n10 c10, .int .i64 (w64 (x32 - 1)), .int .i64 (w64 (x33 - 1)), .bool x34] 133 → R (.tuple #[]) w15))))) (dB (b0 == 20) (fL w [] fun w16 => id < w16.heap.size → cS 84 #[] w16 [a, id] X fun a12 n11 c11 w223 => iX (w64 (b1 - 1)) n11 a12 fun ad1 => lT w223 (Addr.add ad1 (Int.toNat (w64 (b1 - 1)) * 1)) fun x35 => hA w223 a #[.slice a0 a0l a0c, .int .i64 a1, .int .i64 a2, .bool a3] 133 → cU 113 #[.pointer (some ⟨a, 0, none⟩), .string x35] w223 [id] X fun v23 w224 => ∃ a13 n12, ∃ c12 x36, ∃ x37 x38, hA w224 a #[.slice a13 n12 c12, .int .i64 x36, .int .i64 x37, .bool x38] 133 ∧ 4 = 4 ∧ (hA w224 a #[.slice a13 n12 c12, .int .i64 x36, .int .i64 x37, .bool x38] 133 → cU 115 #[.pointer (some ⟨a, 0, none⟩), .string (ByteArray.mk #[40])] w224 [id] X fun v25 w225 => ∃ a14 n13, ∃ c13 x39, ∃ x40 x41, hA w225 a #[.slice a14 n13 c13, .int .i64 x39, .int .i64 x40, .bool x41] 133 ∧ 4 = 4 ∧ (hA w225 a #[.slice a14 n13 c13, .int .i64 x39, .int .i64 x40, .bool x41] 133 → cU 126 #[.pointer (some ⟨a, 0, none⟩), Ae b0 b1 b2 b3 b3l b3c b4] w225 [id] X fun v27 w226 => ∃ a15 n14, ∃ c14 x42, ∃ x43 x44, hA w226 a #[.slice a15 n14 c14, .int .i64 x42, .int .i64 x43, .bool x44] 133 ∧ 4 = 4 ∧ fL w226 [a] fun w17 => hA w17 a #[.slice a15 n14 c14, .int .i64 (w64 (x42 - 1)), .int .i64 x43, .bool x44] 133 → cU 113 #[.pointer (some ⟨a, 0, none⟩), .string (ByteArray.mk #[41])] w17 [id] X fun v29 w227 => ∃ a16 n15, ∃ c15 x45, ∃ x46 x47, hA w227 a #[.slice a16 n15 c15, .int .i64 x45, .int .i64 x46, .bool x47] 133 ∧ 4 = 4 ∧ (hA w227 a #[.slice a16 n15 c15, .int .i64 x45, .int .i64 x46, .bool x47] 133 → R (.tuple #[]) w227)))) (dB (b0 == 24) (fL w [] fun w18 => id < w18.heap.size → hA w18 a #[.slice a0 a0l a0c, .int .i64 a1, .int .i64 a2, .bool a3] 133 → cU 113 #[.pointer (some ⟨a, 0, none⟩), .string (ByteArray.mk #[97, 114, 111, 117, 110, 100])] w18 [id] X fun v31 w233 => ∃ a17 n16, ∃ c16 x48, ∃ x49 x50, hA w233 a #[.slice a17 n16 c16, .int .i64 x48, .int .i64 x49, .bool x50] 133 ∧ 4 = 4 ∧ (hA w233 a #[.slice a17 n16 c16, .int .i64 x48, .int .i64 x49, .bool x50] 133 → cU 115 #[.pointer (some ⟨a, 0, none⟩), .string (ByteArray.mk #[40])] w233 [id] X fun v33 w234 => ∃ a18 n17, ∃ c17 x51, ∃ x52 x53, hA w234 a #[.slice a18 n17 c17, .int .i64 x51, .int .i64 x52, .bool x53] 133 ∧ 4 = 4 ∧ (hA w234 a #[.slice a18 n17 c17, .int .i64 x51, .int .i64 x52, .bool x53] 133 → cU 126 #[.pointer (some ⟨a, 0, none⟩), Ae b0 b1 b2 b3 b3l b3c b4] w234 [id] X fun v35 w235 => ∃ a19 n18, ∃ c18 x54, ∃ x55 x56, hA w235 a #[.slice a19 n18 c18, .int .i64 x54, .int .i64 x55, .bool x56] 133 ∧ 4 = 4 ∧ fL w235 [a] fun w19 => hA w19 a #[.slice a19 n18 c18, .int .i64 (w64 (x54 - 1)), .int .i64 x55, .bool x56] 133 → cU 113 #[.pointer (some ⟨a, 0, none⟩), .string (ByteArray.mk #[41])] w19 [id] X fun v37 w236 => ∃ a20 n19, ∃ c19 x57, ∃ x58 x59, hA w236 a #[.slice a20 n19 c19, .int .i64 x57, .int .i64 x58, .bool x59] 133 ∧ 4 = 4 ∧ (hA w236 a #[.slice a20 n19 c19, .int .i64 x57, .int .i64 x58, .bool x59] 133 → R (.tuple #[]) w236)))) (fL w [] fun w110 => id < w110.heap.size → hA w110 a #[.slice a0 a0l a0c, .int .i64 a1, .int .i64 a2, .bool a3] 133 → cU 115 #[.pointer (some ⟨a, 0, none⟩), .string (ByteArray.mk #[123])] w110 [id] X fun v39 w241 => ∃ a21 n20, ∃ c20 x60, ∃ x61 x62, hA w241 a #[.slice a21 n20 c20, .int .i64 x60, .int .i64 x61, .bool x62] 133 ∧ 4 = 4 ∧ (hA w241 a #[.slice a21 n20 c20, .int .i64 x60, .int .i64 x61, .bool x62] 133 → cU 126 #[.pointer (some ⟨a, 0, none⟩), Ae b0 b1 b2 b3 b3l b3c b4] w241 [id] X fun v41 w242 => ∃ a22 n21, ∃ c21 x63, ∃ x64 x65, hA w242 a #[.slice a22 n21 c21, .int .i64 x63, .int .i64 x64, .bool x65] 133 ∧ 4 = 4 ∧ fL w242 [a] fun w111 => hA w111 a #[.slice a22 n21 c21, .int .i64 (w64 (x63 - 1)), .int .i64 x64, .bool x65] 133 → cU 113 #[.pointer (some ⟨a, 0, none⟩), .string (ByteArray.mk #[125])] w111 [id] X fun v43 w243 => ∃ a23 n22, ∃ c22 x66, ∃ x67 x68, hA w243 a #[.slice a23 n22 c22, .int .i64 x66, .int .i64 x67, .bool x68] 133 ∧ 4 = 4 ∧ (hA w243 a #[.slice a23 n22 c22, .int .i64 x66, .int .i64 x67, .bool x68] 133 → R (.tuple #[]) w243))))))
 ) : CallsX E.P 117 #[.pointer (some ⟨a, 0, none⟩), Ae b0 b1 b2 b3 b3l b3c b4] w R X :=
  calls_vc E_ok ⟨[], [(18, ⟨[], [(0, 3, .bool)]⟩)]⟩ (f := 117) Tryz.func117 rfl [(.pointer (some ⟨a, 0, none⟩), .ptr 0 0), (Ae b0 b1 b2 b3 b3l b3c b4, .no)] [⟨a, 133, false, [⟨.slice a0 a0l a0c, .no, 0⟩, ⟨.int .i64 a1, .no, 0⟩, ⟨.int .i64 a2, .no, 0⟩, ⟨.bool a3, .no, 0⟩]⟩] (bls1 ha) nod1 (plain_of rfl) (shs_of ⟨rfl, trivial, trivial⟩) h (by kernel_rfl)
end Go.Vx.Tryz
namespace Go.Vx
open Go
section
structure PS where
  n : Nat
  open_ : Int
  quants : Int
  ok : Bool
def PS.bad (s : PS) : PS := { s with ok := false }
def PS.shut (s : PS) : PS := { s with open_ := w64 (s.open_ - 1) }
def putsW (sz : Nat) (s : PS) : PS := if decide (w64 ((s.n : Int) + (sz : Int)) > 2000) then s.bad else { s with n := s.n + sz }
def opensW (sz : Nat) (s : PS) : PS := putsW sz { s with open_ := w64 (s.open_ + 1), ok := if decide (w64 (s.open_ + 1) > 64) then false else s.ok }
def digN : Nat → Int → Nat
  | 0, _ => 1
  | f + 1, n => if decide (n < 10) then 1 else digN f (w64 (Int.tdiv n 10)) + 1
def digF (n : Int) : Nat := if decide (n < 10) then 1 else digN 20 (w64 (Int.tdiv n 10)) + 1
def signIdx (k : Int) : List Int → List ByteArray → Option ByteArray
  | [], _ => none
  | z :: l, g => if z == k then some (g.headD (ByteArray.mk #[])) else signIdx k l g.tail
def signR (k : Int) : List Int → ByteArray
  | [] => ByteArray.mk #[]
  | r :: l => if r == 3 then signR k l else match signIdx k (kindsL r) (signsL r) with | some s => s | none => signR k l
def signSz (k : Int) : Nat := (signR k [1, 2, 3, 4, 5, 6]).size
def rowF (k : Int) : Int := if k == 19 || k == 21 then 0 else if k == 18 then 1 else if k == 17 then 2 else if k == 7 then 3 else if k == 13 || k == 14 || k == 15 || k == 16 then 4 else if k == 8 || k == 9 then 5 else if k == 10 || k == 11 || k == 12 then 6 else if k == 6 then 7 else 8
def askedF (k i : Int) : Int := if rowF k == 3 || rowF k == 7 then rowF k else if rowF k == 4 then 5 else if rowF k == 0 || rowF k == 8 then 0 else w64 (rowF k + i)
def kidsN (k n : Int) : Int :=
  if k == 1 || k == 2 || k == 3 || k == 4 || k == 22 || k == 23 then 0 else if k == 6 || k == 7 || k == 24 then 1
  else if k == 8 || k == 9 || k == 10 || k == 11 || k == 12 || k == 13 || k == 14 || k == 15 || k == 16 || k == 17 || k == 18 || k == 21 then 2
  else if k == 19 then 3 else if k == 25 then -1 else if k == 20 then (if decide (n ≥ 1) && decide (n ≤ 3) then 2 else 1) else -2
def fieldsF (k n : Int) (s : ByteArray) : Bool :=
  if k == 1 || k == 3 then decide (n ≥ 0) && strEq s (ByteArray.mk #[]) else if k == 2 then (n == 0 || n == 1) && strEq s (ByteArray.mk #[])
  else if k == 4 || k == 23 then n == 0 && isNameB s else if k == 20 then decide (n ≥ 1) && decide (n ≤ 10) && strEq s (ByteArray.mk #[]) else if k == 21 then decide (n ≥ 1) && decide (n ≤ 6) && isNameB s
  else n == 0 && strEq s (ByteArray.mk #[])
def isSetF (k : Int) : Bool := decide (k ≥ 22) && decide (k ≤ 25)
def guardW (s : PS) (e : Ex) (set : Bool) : Bool := !s.ok || !fieldsF e.k e.n e.s || decide (kidsN e.k e.n < -1) || (decide (kidsN e.k e.n ≥ 0) && ((e.kids.length : Int) != kidsN e.k e.n)) || !(isSetF e.k == set)
def kidW (pf : PS → Ex → Bool → PS) (s : PS) (e : Ex) (i : Nat) : PS :=
  if decide (rowF (e.kids.getD i ex0).k ≥ askedF e.k i) then pf s (e.kids.getD i ex0) (e.k == 21 && (i : Int) == 0) else putsW 1 (pf (opensW 1 s) (e.kids.getD i ex0) false).shut
def listW (pf : PS → Ex → Bool → PS) (e : Ex) : Nat → PS → List Ex → PS
  | _, s, [] => s
  | i, s, _ :: l => if s.ok then listW pf e (i + 1) (kidW pf (if decide ((i : Int) > 0) then putsW 2 s else s) e i) l else s
def strAt (l : List ByteArray) (i : Int) : ByteArray := l.getD i.toNat (ByteArray.mk #[])
def quantsW (s : PS) : PS := { s with quants := w64 (s.quants + 1), ok := if decide (w64 (s.quants + 1) > 4) then false else s.ok }
def greatW (pf : PS → Ex → Bool → PS) (s : PS) (e : Ex) : PS :=
  if e.k == 19 then (kidW pf (putsW 6 (kidW pf (putsW 6 (kidW pf (opensW 3 s) e 0)) e 1)) e 2).shut
  else if e.k == 21 then
    let r := kidW pf (putsW 2 (kidW pf (opensW ((strAt quantsL (w64 (e.n - 1))).size + 1 + e.s.size + 4) (quantsW s)) e 0)) e 1
    { r.shut with quants := w64 (r.quants - 1) }
  else if e.k == 20 then putsW 1 (listW pf e 0 (opensW 1 (putsW (strAt callsL (w64 (e.n - 1))).size s)) e.kids).shut
  else if e.k == 24 then putsW 1 (listW pf e 0 (opensW 1 (putsW 6 s)) e.kids).shut
  else putsW 1 (listW pf e 0 (opensW 1 s) e.kids).shut
def bodyW (pf : PS → Ex → Bool → PS) (s : PS) (e : Ex) : PS :=
  if e.k == 1 then putsW (digF e.n) s else if e.k == 2 then putsW (strAt truthL e.n).size s else if e.k == 3 then putsW (1 + digF e.n) s
  else if e.k == 4 then putsW e.s.size s else if e.k == 23 then putsW e.s.size s else if e.k == 22 then putsW 8 s
  else if e.k == 6 then (kidW pf (opensW 1 s) e 0).shut else if e.k == 7 then (kidW pf (opensW 4 s) e 0).shut
  else if e.k == 19 || e.k == 21 || e.k == 20 || e.k == 24 || e.k == 25 then greatW pf s e
  else kidW pf (putsW (1 + signSz e.k + 1) (kidW pf s e 0)) e 1
def partW : Nat → PS → Ex → Bool → PS
  | 0, s, _, _ => s
  | f + 1, s, e, set => if guardW s e set then s.bad else bodyW (partW f) s e
def rightE (e : Ex) : Bool := (partW e.size ⟨0, 0, 0, true⟩ e false).ok
end
end Go.Vx
namespace Go.Vx.Tryz
open Go Go.Vx Go.Proofs Go.Lib
theorem cu_of {w w' : World} {b : Nat} {A A2 : Option Addr} (h : Upd w w' (fun x => x = b ∨ blkOf A x)) (h2 : ∀ x, blkOf A2 x → blkOf A x ∨ w.heap.size ≤ x) : CU w w' b A A2 := ⟨h, h2⟩
theorem append_str {w : World} {lo : Nat} {A : Option Addr} {l c : Nat} {xs : List Value} (own : w.ownsRow lo 5 1 (.slice A l c) l xs) (s : ByteArray) (hl : l + s.size ≤ 2 ^ 40) (hlo : lo ≤ w.heap.size) :
    RunsTo E.P (Builtin.append_ #[131, 9] 131 #[.slice A l c, .string s]) w (fun v w' => ∃ A' c', v = .slice A' (l + s.size) c' ∧ w'.ownsRow lo 5 1 (.slice A' (l + s.size) c') (l + s.size) (xs ++ strCells s) ∧ Upd w w' (blkOf A) ∧ ∀ x, blkOf A' x → blkOf A x ∨ x = w.heap.size) := by
  have ht : E.P.underlying 131 = some (.slice 5) := Tryz.underlying131
  have hu : E.P.underlying 9 = some .string := Tryz.underlying9
  obtain ⟨_, ⟨i, zv, hi, hz, hsz, hby, hzs⟩, _, _⟩ : SlT E.P 131 5 1 1 := SlT.of (by kernel_rfl) (by omega) (by omega)
  have hz0 : ((E.P.info? 5).bind (·.zero)) = some (.int .u8 0) := by kernel_rfl
  rw [hi] at hz0
  have hz0 : i.zero = some (.int .u8 0) := hz0
  obtain ⟨v', w', hr, ho, hg, hn⟩ := run_append_own_string (P := E.P) w lo 131 9 131 5 i ht hu hi hz0 hsz hby (.slice A l c) l xs own s (by simp only [maxLen]; omega) (by omega) hlo
  have hU : Upd w w' (blkOf A) := ⟨hg.os, hg.tape, hg.output, hg.size, fun k hk hA => hg.block k hk (fun e => by
    cases A with
    | none => simp [Value.ownBlock] at e
    | some a => simp [Value.ownBlock] at e; exact hA e.symm)⟩
  rcases own.2 with ⟨e, rfl⟩ | ⟨g, cap, cur, e, hbg, hgh, hnc, hcm, hcs, htk⟩
  · cases e
    by_cases h0 : s.size = 0
    · have := hn.2 ⟨rfl, h0⟩
      subst this
      rw [h0] at ho ⊢
      exact ⟨_, w', hr, none, 0, rfl, ho, hU, fun x hx => hx.elim⟩
    · have hr2 := run_append_nil_string (P := E.P) w 131 9 131 5 i (.int .u8 0) ht hu hi hz0 s (by omega) (by omega) (by rw [hby]; omega)
      rw [hr2] at hr
      simp only [Result.ok.injEq] at hr
      obtain ⟨rfl, rfl⟩ := hr
      rw [Nat.zero_add] at ho ⊢
      exact ⟨_, _, hr2, _, _, rfl, ho, hU, fun x hx => .inr hx.symm⟩
  · cases e
    have hcs' : cur.size = c := by simpa using hcs
    by_cases hroom : l + s.size ≤ c
    · have hr2 := run_append_room_string (P := E.P) w 131 9 131 5 i ht hu hi hsz g l c cur hgh s hroom (by omega)
      rw [hr2] at hr
      simp only [Result.ok.injEq] at hr
      obtain ⟨rfl, rfl⟩ := hr
      exact ⟨_, _, hr2, _, _, rfl, ho, hU, fun x hx => .inl hx⟩
    · have hxl : xs.length = l := by simpa using own.1
      have hr2 := run_append_grow_string (P := E.P) w 131 9 131 5 i (.int .u8 0) ht hu hi hz0 ⟨g, 0, none⟩ l c xs (by rw [hsz]; simpa using hxl) (own.cells (g := g) rfl) s (by omega) (by omega) (by rw [hby]; exact growslice_fits (by omega) (by omega))
      rw [hr2] at hr
      simp only [Result.ok.injEq] at hr
      obtain ⟨rfl, rfl⟩ := hr
      exact ⟨_, _, hr2, _, _, rfl, ho, hU, fun x hx => .inr hx.symm⟩
structure WrAt (w : World) (b : Nat) (A : Option Addr) (c : Nat) (st : PS) : Prop where
  hh : w.heap[b]? = some (.cells #[.slice A st.n c, .int .i64 st.open_, .int .i64 st.quants, .bool st.ok] 133 (0, 0))
  ho : ∃ xs : List Int, w.ownsRow (b + 1) 5 1 (.slice A st.n c) st.n (xs.map (Value.int .u8))
  hn : st.n ≤ 2000
def WrU (b : Nat) (A : Option Addr) (w : World) (s : PS) : Value → World → Prop := fun v w' => v = .tuple #[] ∧ ∃ A' c', WrAt w' b A' c' s ∧ CU w w' b A A'
section
variable {w w' : World} {b : Nat} {A : Option Addr} {c : Nat} {st st' : PS}
theorem WrAt.blt (q : WrAt w b A c st) : b < w.heap.size := lt_of_get q.hh
theorem WrAt.blk (q : WrAt w b A c st) {x : Nat} (hx : blkOf A x) : b < x ∧ x < w.heap.size := by
  obtain ⟨xs, h⟩ := q.ho
  have := owns_blk h hx
  omega
theorem WrAt.ext (q : WrAt w b A c st) (k : Ext w w') : WrAt w' b A c st := by
  obtain ⟨h1, ⟨xs, h2⟩, h3⟩ := q
  exact ⟨by rw [k.keep b (lt_of_get h1) (fun h => h)]; exact h1, ⟨xs, owns_upd h2 k (fun _ h => h.elim)⟩, h3⟩
theorem WrAt.put (q : WrAt w b A c st) (k : Upd w w' (setOf [b])) (hh : w'.heap[b]? = some (.cells #[.slice A st'.n c, .int .i64 st'.open_, .int .i64 st'.quants, .bool st'.ok] 133 (0, 0))) (hn : st'.n = st.n) : WrAt w' b A c st' := by
  obtain ⟨xs, h2⟩ := q.ho
  refine ⟨hh, ⟨xs, ?_⟩, by rw [hn]; exact q.hn⟩
  rw [hn]
  exact owns_upd h2 k fun x hx hS => by simp only [setOf, no, or_false] at hx; omega
theorem cu_put (k : Upd w w' (setOf [b])) : CU w w' b A A := cu_of (Upd.mono k fun x hx => by simp only [setOf, no, or_false] at hx; exact .inl hx) fun _ h => .inl h
end
theorem callWU {f : Nat} {args : Array Value} {w : World} {ids : List Nat} {b : Nat} {A : Option Addr} {X : ContX} {s : PS} (hc : CallsX E.P f args w (WrU b A w s) never) (haw : ∀ i ∈ ids, i ≠ b ∧ ¬ blkOf A i) {K : Option Addr → Nat → Nat → Int → Int → Bool → World → Prop}
    (k : ∀ A' c' w2, WrAt w2 b A' c' s → CU w w2 b A A' → K A' s.n c' s.open_ s.quants s.ok w2) :
    ∃ (R : Value → World → Prop) (X' : ContX), CallsX E.P f args w R X' ∧ (∀ v w2, R v w2 → ∃ y : Value, v = y ∧ ∃ S, Upd w w2 S ∧ Away ids S ∧ ∃ a1 n c1 x x1 x2,
      w2.heap[b]? = some (Obj.cells #[.slice a1 n c1, .int .i64 x, .int .i64 x1, .bool x2] 133) ∧ 4 = 4 ∧ K a1 n c1 x x1 x2 w2) ∧ ∀ ch w2, X' ch w2 → X ch w2 :=
  ⟨_, _, hc, fun v w2 ⟨_, A', c', hw, hU⟩ => ⟨v, rfl, _, hU.1, away_of (fun i hi hS => by rcases hS with h | h; exact (haw i hi).1 h; exact (haw i hi).2 h), _, _, _, _, _, _, hw.hh, rfl, k A' c' w2 hw hU⟩, never_any⟩
theorem puts_c (s : ByteArray) (hs : s.size ≤ 2 ^ 39) {w : World} {b : Nat} {A : Option Addr} {c : Nat} {st : PS} (hw : WrAt w b A c st) : CallsX E.P 113 #[.pointer (some ⟨b, 0, none⟩), .string s] w (WrU b A w (putsW s.size st)) never := by
  have hnn := hw.hn
  refine vc143 hw.hh ⟨fun h1 w1 hU1 hh1 => ?_, fun h1 => ?_⟩
  · rw [putsW, if_pos h1]
    exact ⟨rfl, A, c, hw.put (st' := st.bad) hU1 hh1 rfl, cu_put hU1⟩
  · obtain ⟨xs, hown⟩ := hw.ho
    have hsm : st.n + s.size ≤ 2000 := by
      have : w64 ((st.n : Int) + (s.size : Int)) = ((st.n + s.size : Nat) : Int) := by rw [w64_id (by omega) (by omega)]; omega
      rw [this] at h1
      simp at h1; omega
    refine ⟨_, append_str hown s (by omega) (by have := hw.blt; omega), ?_⟩
    rintro v w2 ⟨A', c', rfl, ho2, hU2, hA2⟩
    have hb2 : ∀ x, blkOf A' x → b < x := fun x hx => by have := owns_blk ho2 hx; omega
    refine ⟨_, _, _, rfl, _, hU2, away_of (fun i hi hS => by simp only [List.mem_cons, List.not_mem_nil, or_false] at hi; have := hw.blk hS; omega), fun w3 hU3 hh3 => ?_⟩
    rw [putsW, if_neg (by rw [h1]; exact Bool.false_ne_true)]
    refine ⟨rfl, A', c', ⟨hh3, ⟨xs ++ bytesL s, ?_⟩, hsm⟩, cu_of ?_ fun x hx => ?_⟩
    · have e : (xs ++ bytesL s).map (Value.int .u8) = xs.map (Value.int .u8) ++ strCells s := by
        rw [List.map_append]; simp [bytesL, strCells]
      rw [e]
      exact owns_upd ho2 hU3 fun x hx hS => by simp only [setOf, no, or_false] at hx; omega
    · exact (Upd.mono hU2 fun x hx => .inr hx).trans (Upd.mono hU3 fun x hx => by simp only [setOf, no, or_false] at hx; exact .inl hx)
    · rcases hA2 x hx with h | h
      · exact .inl h
      · exact .inr (by omega)
theorem wopens_c (s : ByteArray) (hs : s.size ≤ 2 ^ 39) {w : World} {b : Nat} {A : Option Addr} {c : Nat} {st : PS} (hw : WrAt w b A c st) : CallsX E.P 115 #[.pointer (some ⟨b, 0, none⟩), .string s] w (WrU b A w (opensW s.size st)) never := by
  refine vc145 hw.hh ⟨fun h1 w1 hU1 hh1 => ?_, fun h1 w1 hU1 hh1 => ?_⟩
  · have hw1 : WrAt w1 b A c { st with open_ := w64 (st.open_ + 1), ok := if decide (w64 (st.open_ + 1) > 64) then false else st.ok } := hw.put hU1 (by rw [if_pos h1]; exact hh1) rfl
    refine callWU (puts_c s hs hw1) (by simp) fun A' c' w2 hw2 hU2 hh2 => ⟨rfl, A', c', hw2, (cu_put hU1).trans hU2⟩
  · have hw1 : WrAt w1 b A c { st with open_ := w64 (st.open_ + 1), ok := if decide (w64 (st.open_ + 1) > 64) then false else st.ok } := hw.put hU1 (by rw [if_neg (by rw [h1]; exact Bool.false_ne_true)]; exact hh1) rfl
    refine callWU (puts_c s hs hw1) (by simp) fun A' c' w2 hw2 hU2 hh2 => ⟨rfl, A', c', hw2, (cu_put hU1).trans hU2⟩
end Go.Vx.Tryz
namespace Go.Vx.Tryz
open Go Go.Vx Go.Proofs Go.Lib
def DgR (w : World) (z : Nat) : Value → World → Prop := fun v w' => ∃ s : ByteArray, v = .string s ∧ s.size = z ∧ Ext w w'
theorem callD {f : Nat} {args : Array Value} {w : World} {ids : List Nat} {X : ContX} {z : Nat} (hc : CallsX E.P f args w (DgR w z) never) {K : ByteArray → World → Prop} (k : ∀ s w2, s.size = z → Ext w w2 → K s w2) :
    ∃ (R : Value → World → Prop) (X' : ContX), CallsX E.P f args w R X' ∧ (∀ v w2, R v w2 → ∃ y, v = .string y ∧ ∃ S, Upd w w2 S ∧ Away ids S ∧ K y w2) ∧ ∀ ch w2, X' ch w2 → X ch w2 :=
  ⟨_, _, hc, fun _ w2 ⟨s, hv, hz, hE⟩ => ⟨s, hv, no, hE, Away.no _, k s w2 hz hE⟩, never_any⟩
theorem add_run (o1 o2 : Operand) (x y : ByteArray) (h : x.size + y.size ≤ 2 ^ 60) {w : World} : Sem.run E.P (binSem .add 9 o1 o2 (.string x) (.string y)) w = .ok (.string (x ++ y)) w := by
  have h2 : ¬ (IntKind.i64.max < ((x.size : Int) + (y.size : Int))) := by
    have : IntKind.i64.max = 9223372036854775807 := rfl
    omega
  simp [binSem, eqGuard, binOp, Op.stringOp, h2]
  omega
theorem conv1 {w : World} {id : Nat} {x : Int} (h : w.heap[id]? = some (.cells #[.int .u8 x] 5 (0, 0))) : RunsTo E.P (convert 131 9 (.slice (some ⟨id, 0, none⟩) 1 1)) w (fun v w' => ∃ s : ByteArray, v = .string s ∧ s.size = 1 ∧ w' = w) := by
  have hr := run_convert_bytes_arg (P := E.P) w 131 5 Tryz.underlying131 Tryz.underlying5 id 0 1 1 [x] rfl (fun i hi => by
    have : i = 0 := by omega
    subst this
    simp only [World.cell?, h]; rfl) 9 Tryz.underlying9
  exact ⟨_, w, hr, _, rfl, rfl, rfl⟩
theorem digits_step (n : Int) (z : Nat) (hz : z ≤ 2 ^ 40) (hrec : decide (n < 10) = false → ∀ w : World, CallsX E.P 114 #[.int .i64 (w64 (Int.tdiv n 10))] w (DgR w z) never) {w : World} : CallsX E.P 114 #[.int .i64 n] w (DgR w (if decide (n < 10) then 1 else z + 1)) never := by
  refine vc144 ⟨fun h1 id hid w1 hE1 hi1 hh1 => ?_, fun h1 => ⟨fun w1 hE1 => ?_, fun id2 hid2 => ⟨fun w1 hE1 hi1 hh1 => ?_, fun w1 hE1 hi1 hh1 => ?_⟩⟩⟩
  · refine ⟨_, conv1 hh1, ?_⟩
    rintro v w2 ⟨s, rfl, hs, rfl⟩
    exact ⟨s, rfl, no, Upd.refl _ _, Away.no _, fun _ => ⟨s, rfl, by rw [if_pos h1]; exact hs, hE1⟩⟩
  · refine callD (hrec h1 w1) fun s1 w2 hs1 hE2 id1 hid1 w3 hE3 hi3 hh3 => ⟨_, conv1 hh3, ?_⟩
    rintro v w4 ⟨s, rfl, hs, rfl⟩
    refine ⟨s, rfl, no, Upd.refl _ _, Away.no _, fun _ => ⟨_, add_run _ _ s1 s (by omega), fun _ => ⟨_, rfl, by rw [if_neg (by rw [h1]; exact Bool.false_ne_true), ByteArray.size_append]; omega, Ext.trans (Ext.trans hE1 hE2) hE3⟩⟩⟩
  · refine callD (hrec h1 w1) fun s1 w2 hs1 hE2 hh2 => ⟨_, conv1 hh2, ?_⟩
    rintro v w4 ⟨s, rfl, hs, rfl⟩
    refine ⟨s, rfl, no, Upd.refl _ _, Away.no _, fun _ => ⟨_, add_run _ _ s1 s (by omega), fun _ => ⟨_, rfl, by rw [if_neg (by rw [h1]; exact Bool.false_ne_true), ByteArray.size_append]; omega, Ext.trans hE1 hE2⟩⟩⟩
  · refine ⟨_, conv1 hh1, ?_⟩
    rintro v w4 ⟨s, rfl, hs, rfl⟩
    refine ⟨s, rfl, no, Upd.refl _ _, Away.no _, fun _ => callD (hrec h1 w4) fun s1 w2 hs1 hE2 hh2 => ⟨_, add_run _ _ s1 s (by omega), fun _ => ⟨_, rfl, by rw [if_neg (by rw [h1]; exact Bool.false_ne_true), ByteArray.size_append]; omega, Ext.trans hE1 hE2⟩⟩⟩
theorem digN_le : ∀ (f : Nat) (n : Int), digN f n ≤ f + 1
  | 0, _ => Nat.le_refl _
  | f + 1, n => by
    rw [digN]
    split
    · omega
    · have := digN_le f (w64 (Int.tdiv n 10)); omega
theorem w64_le {x : Int} (h : 0 ≤ x) : w64 x ≤ x := by rw [show w64 x = IntKind.wrap .i64 x from rfl, IntKind.wrap_i64]; omega
theorem digits_k : ∀ (k : Nat) (n : Int), k ≤ 1000 → n < 10 ^ (k + 1) → ∀ w : World, CallsX E.P 114 #[.int .i64 n] w (DgR w (digN k n)) never
  | 0, n, _, h, w => by
    have h1 : decide (n < 10) = true := by simpa using h
    have := digits_step n 0 (by omega) (fun e => by rw [h1] at e; cases e) (w := w)
    rw [if_pos h1] at this
    exact this
  | k + 1, n, hk, h, w => by
    rw [digN]
    refine digits_step n _ (by have := digN_le k (w64 (Int.tdiv n 10)); omega) fun e => digits_k k _ (by omega) ?_
    have h10 : 10 ≤ n := by simpa using e
    have h2 : Int.tdiv n 10 = n / 10 := Int.tdiv_eq_ediv_of_nonneg (by omega)
    have h3 : w64 (Int.tdiv n 10) ≤ n / 10 := by rw [h2]; exact w64_le (by omega)
    have h4 : n / 10 < 10 ^ (k + 1) := Int.ediv_lt_of_lt_mul (by omega) (by rw [Int.pow_succ] at h; exact h)
    omega
theorem digits_c (n : Int) {w : World} : CallsX E.P 114 #[.int .i64 n] w (DgR w (digF n)) never := by
  unfold digF
  refine digits_step n _ (by have := digN_le 20 (w64 (Int.tdiv n 10)); omega) fun _ => digits_k 20 _ (by omega) ?_
  rw [show w64 (Int.tdiv n 10) = IntKind.wrap .i64 (Int.tdiv n 10) from rfl, IntKind.wrap_i64]
  omega
theorem row_c' (k : Int) {w : World} : CallsX E.P 124 #[.int .i64 k] w (IsV (.int .i64 (rowF k)) w) never := by
  have r := Upd.refl w no
  refine vc153 ?_
  refine ⟨fun e => ⟨by rw [eq_of_beq e]; rfl, r⟩, fun c19 => ?_⟩
  refine ⟨fun e => ⟨by rw [eq_of_beq e]; rfl, r⟩, fun c21 => ?_⟩
  refine ⟨fun e => ⟨by rw [eq_of_beq e]; rfl, r⟩, fun c18 => ?_⟩
  refine ⟨fun e => ⟨by rw [eq_of_beq e]; rfl, r⟩, fun c17 => ?_⟩
  refine ⟨fun e => ⟨by rw [eq_of_beq e]; rfl, r⟩, fun c7 => ?_⟩
  refine ⟨fun e => ⟨by rw [eq_of_beq e]; rfl, r⟩, fun c13 => ?_⟩
  refine ⟨fun e => ⟨by rw [eq_of_beq e]; rfl, r⟩, fun c14 => ?_⟩
  refine ⟨fun e => ⟨by rw [eq_of_beq e]; rfl, r⟩, fun c15 => ?_⟩
  refine ⟨fun e => ⟨by rw [eq_of_beq e]; rfl, r⟩, fun c16 => ?_⟩
  refine ⟨fun e => ⟨by rw [eq_of_beq e]; rfl, r⟩, fun c8 => ?_⟩
  refine ⟨fun e => ⟨by rw [eq_of_beq e]; rfl, r⟩, fun c9 => ?_⟩
  refine ⟨fun e => ⟨by rw [eq_of_beq e]; rfl, r⟩, fun c10 => ?_⟩
  refine ⟨fun e => ⟨by rw [eq_of_beq e]; rfl, r⟩, fun c11 => ?_⟩
  refine ⟨fun e => ⟨by rw [eq_of_beq e]; rfl, r⟩, fun c12 => ?_⟩
  refine ⟨fun e => ⟨by rw [eq_of_beq e]; rfl, r⟩, fun c6 => ?_⟩
  exact ⟨by unfold rowF; rw [c19, c21, c18, c17, c7, c13, c14, c15, c16, c8, c9, c10, c11, c12, c6]; rfl, r⟩
theorem asked_c (k i : Int) {w : World} : CallsX E.P 125 #[.int .i64 k, .int .i64 i] w (IsV (.int .i64 (askedF k i)) w) never := by
  refine vc154 (callI (row_c' k) fun w2 hE => ⟨fun c3 => ⟨by unfold askedF; rw [c3]; rfl, hE⟩, fun c3 => ⟨fun c7 => ⟨by unfold askedF; rw [c3, c7]; rfl, hE⟩, fun c7 => ⟨fun c4 => ⟨by unfold askedF; rw [c3, c7, c4]; rfl, hE⟩, fun c4 => ⟨fun c0 => ⟨by unfold askedF; rw [c3, c7, c4, c0]; rfl, hE⟩, fun c0 => ⟨fun c8 => ⟨by unfold askedF; rw [c3, c7, c4, c0, c8]; rfl, hE⟩, fun c8 => ⟨by unfold askedF; rw [c3, c7, c4, c0, c8]; rfl, hE⟩⟩⟩⟩⟩⟩)
theorem isSet_c (k : Int) {w : World} : CallsX E.P 112 #[.int .i64 k] w (IsV (.bool (isSetF k)) w) never :=
  vc142 ⟨fun h => ⟨by unfold isSetF; rw [h]; rfl, Upd.refl _ _⟩, fun h => ⟨by unfold isSetF; rw [h]; rfl, Upd.refl _ _⟩⟩
theorem kidsN_c (e : Ex) {w : World} {A : Option Addr} {l c : Nat} : CallsX E.P 110 #[exA e A l c] w (IsV (.int .i64 (kidsN e.k e.n)) w) never := by
  refine vc140 ?_
  intro id hid
  generalize e.k = k at *
  generalize e.n = n at *
  refine ⟨fun e w1 hE _ => ⟨by rw [eq_of_beq e]; rfl, hE⟩, fun c1 => ?_⟩
  refine ⟨fun e w1 hE _ => ⟨by rw [eq_of_beq e]; rfl, hE⟩, fun c2 => ?_⟩
  refine ⟨fun e w1 hE _ => ⟨by rw [eq_of_beq e]; rfl, hE⟩, fun c3 => ?_⟩
  refine ⟨fun e w1 hE _ => ⟨by rw [eq_of_beq e]; rfl, hE⟩, fun c4 => ?_⟩
  refine ⟨fun e w1 hE _ => ⟨by rw [eq_of_beq e]; rfl, hE⟩, fun c22 => ?_⟩
  refine ⟨fun e w1 hE _ => ⟨by rw [eq_of_beq e]; rfl, hE⟩, fun c23 => ?_⟩
  refine ⟨fun e w1 hE _ => ⟨by rw [eq_of_beq e]; rfl, hE⟩, fun c6 => ?_⟩
  refine ⟨fun e w1 hE _ => ⟨by rw [eq_of_beq e]; rfl, hE⟩, fun c7 => ?_⟩
  refine ⟨fun e w1 hE _ => ⟨by rw [eq_of_beq e]; rfl, hE⟩, fun c24 => ?_⟩
  refine ⟨fun e w1 hE _ => ⟨by rw [eq_of_beq e]; rfl, hE⟩, fun c8 => ?_⟩
  refine ⟨fun e w1 hE _ => ⟨by rw [eq_of_beq e]; rfl, hE⟩, fun c9 => ?_⟩
  refine ⟨fun e w1 hE _ => ⟨by rw [eq_of_beq e]; rfl, hE⟩, fun c10 => ?_⟩
  refine ⟨fun e w1 hE _ => ⟨by rw [eq_of_beq e]; rfl, hE⟩, fun c11 => ?_⟩
  refine ⟨fun e w1 hE _ => ⟨by rw [eq_of_beq e]; rfl, hE⟩, fun c12 => ?_⟩
  refine ⟨fun e w1 hE _ => ⟨by rw [eq_of_beq e]; rfl, hE⟩, fun c13 => ?_⟩
  refine ⟨fun e w1 hE _ => ⟨by rw [eq_of_beq e]; rfl, hE⟩, fun c14 => ?_⟩
  refine ⟨fun e w1 hE _ => ⟨by rw [eq_of_beq e]; rfl, hE⟩, fun c15 => ?_⟩
  refine ⟨fun e w1 hE _ => ⟨by rw [eq_of_beq e]; rfl, hE⟩, fun c16 => ?_⟩
  refine ⟨fun e w1 hE _ => ⟨by rw [eq_of_beq e]; rfl, hE⟩, fun c17 => ?_⟩
  refine ⟨fun e w1 hE _ => ⟨by rw [eq_of_beq e]; rfl, hE⟩, fun c18 => ?_⟩
  refine ⟨fun e w1 hE _ => ⟨by rw [eq_of_beq e]; rfl, hE⟩, fun c21 => ?_⟩
  refine ⟨fun e w1 hE _ => ⟨by rw [eq_of_beq e]; rfl, hE⟩, fun c19 => ?_⟩
  refine ⟨fun e w1 hE _ => ⟨by rw [eq_of_beq e]; rfl, hE⟩, fun c25 => ?_⟩
  refine ⟨fun e => ?_, fun c20 w1 hE _ => ⟨by unfold kidsN; rw [c1, c2, c3, c4, c22, c23, c6, c7, c24, c8, c9, c10, c11, c12, c13, c14, c15, c16, c17, c18, c21, c19, c25, c20]; rfl, hE⟩⟩
  obtain rfl : k = 20 := eq_of_beq e
  refine ⟨fun h1 => ⟨fun h2 w1 hE _ => ⟨?_, hE⟩, fun h2 w1 hE _ => ⟨?_, hE⟩⟩, fun h1 w1 hE _ => ⟨?_, hE⟩⟩
  · show _ = Value.int .i64 (if decide (n ≥ 1) && decide (n ≤ 3) then 2 else 1); rw [h1, h2]; rfl
  · show _ = Value.int .i64 (if decide (n ≥ 1) && decide (n ≤ 3) then 2 else 1); rw [h1, h2]; rfl
  · show _ = Value.int .i64 (if decide (n ≥ 1) && decide (n ≤ 3) then 2 else 1); rw [h1]; rfl
theorem fields_c (e : Ex) {w : World} {A : Option Addr} {l c : Nat} : CallsX E.P 111 #[exA e A l c] w (IsV (.bool (fieldsF e.k e.n e.s)) w) never := by
  refine vc141 ?_
  intro id hid w1 hE1 hi1
  refine callB (isName_c _) fun w2 hE2 => ?_
  have r : Ext w w2 := Ext.trans hE1 hE2
  generalize e.k = k at *
  generalize e.n = n at *
  generalize e.s = s at *
  refine ⟨fun e => ?_, fun c1 => ⟨fun e => ?_, fun c3 => ⟨fun e => ?_, fun c2 => ⟨fun e => ?_, fun c4 => ⟨fun e => ?_, fun c23 => ⟨fun e => ?_, fun c20 => ⟨fun e => ?_, fun c21 => ⟨fun h => ?_, fun h => ?_⟩⟩⟩⟩⟩⟩⟩⟩
  · obtain rfl : k = 1 := eq_of_beq e
    exact ⟨fun h => ⟨by show _ = Value.bool (decide (n ≥ 0) && strEq s (ByteArray.mk #[])); rw [h]; rfl, r⟩, fun h => ⟨by show _ = Value.bool (decide (n ≥ 0) && strEq s (ByteArray.mk #[])); rw [h]; rfl, r⟩⟩
  · obtain rfl : k = 3 := eq_of_beq e
    exact ⟨fun h => ⟨by show _ = Value.bool (decide (n ≥ 0) && strEq s (ByteArray.mk #[])); rw [h]; rfl, r⟩, fun h => ⟨by show _ = Value.bool (decide (n ≥ 0) && strEq s (ByteArray.mk #[])); rw [h]; rfl, r⟩⟩
  · obtain rfl : k = 2 := eq_of_beq e
    exact ⟨fun h => ⟨by show _ = Value.bool ((n == 0 || n == 1) && strEq s (ByteArray.mk #[])); rw [h]; rfl, r⟩, fun h => ⟨fun h2 => ⟨by show _ = Value.bool ((n == 0 || n == 1) && strEq s (ByteArray.mk #[])); rw [h, h2]; rfl, r⟩, fun h2 => ⟨by show _ = Value.bool ((n == 0 || n == 1) && strEq s (ByteArray.mk #[])); rw [h, h2]; rfl, r⟩⟩⟩
  · obtain rfl : k = 4 := eq_of_beq e
    exact ⟨fun h => ⟨by show _ = Value.bool (n == 0 && isNameB s); rw [h]; rfl, r⟩, fun h => ⟨by show _ = Value.bool (n == 0 && isNameB s); rw [h]; rfl, r⟩⟩
  · obtain rfl : k = 23 := eq_of_beq e
    exact ⟨fun h => ⟨by show _ = Value.bool (n == 0 && isNameB s); rw [h]; rfl, r⟩, fun h => ⟨by show _ = Value.bool (n == 0 && isNameB s); rw [h]; rfl, r⟩⟩
  · obtain rfl : k = 20 := eq_of_beq e
    exact ⟨fun h => ⟨fun h2 => ⟨by show _ = Value.bool (decide (n ≥ 1) && decide (n ≤ 10) && strEq s (ByteArray.mk #[])); rw [h, h2]; rfl, r⟩, fun h2 => ⟨by show _ = Value.bool (decide (n ≥ 1) && decide (n ≤ 10) && strEq s (ByteArray.mk #[])); rw [h, h2]; rfl, r⟩⟩, fun h => ⟨by show _ = Value.bool (decide (n ≥ 1) && decide (n ≤ 10) && strEq s (ByteArray.mk #[])); rw [h]; rfl, r⟩⟩
  · obtain rfl : k = 21 := eq_of_beq e
    exact ⟨fun h => ⟨fun h2 => ⟨by show _ = Value.bool (decide (n ≥ 1) && decide (n ≤ 6) && isNameB s); rw [h, h2]; rfl, r⟩, fun h2 => ⟨by show _ = Value.bool (decide (n ≥ 1) && decide (n ≤ 6) && isNameB s); rw [h, h2]; rfl, r⟩⟩, fun h => ⟨by show _ = Value.bool (decide (n ≥ 1) && decide (n ≤ 6) && isNameB s); rw [h]; rfl, r⟩⟩
  · exact ⟨by unfold fieldsF; rw [c1, c3, c2, c4, c23, c20, c21, h]; rfl, r⟩
  · exact ⟨by unfold fieldsF; rw [c1, c3, c2, c4, c23, c20, c21, h]; rfl, r⟩
theorem sign_str (k : Int) {w : World} : CallsX E.P 118 #[.int .i64 k] w (IsV (.string (signR k [1, 2, 3, 4, 5, 6])) w) never := by
  refine vc148 ⟨fun x w2 => ∃ j : Nat, x = ((j + 1 : Nat) : Int) ∧ j ≤ 6 ∧ signR k (([1, 2, 3, 4, 5, 6] : List Int).drop j) = signR k [1, 2, 3, 4, 5, 6] ∧ Ext w w2, fun x => (7 - x).toNat, ⟨0, rfl, by omega, rfl, Upd.refl _ _⟩, ?_⟩
  rintro _ x w2 ⟨j, rfl, hj, hg, hE2⟩
  refine ⟨fun hlt => ?_, fun hlt => ?_⟩
  · have hj6 : j < 6 := by simp at hlt; omega
    have hw : w64 (((j + 1 : Nat) : Int) + 1) = ((j + 1 + 1 : Nat) : Int) := w64_succ (by omega)
    have hlj : ([1, 2, 3, 4, 5, 6] : List Int)[j]? = some (((j + 1 : Nat) : Int)) := by
      match j, hj6 with
      | 0, _ => rfl
      | 1, _ => rfl
      | 2, _ => rfl
      | 3, _ => rfl
      | 4, _ => rfl
      | 5, _ => rfl
    have hd : ([1, 2, 3, 4, 5, 6] : List Int).drop j = (((j + 1 : Nat) : Int)) :: ([1, 2, 3, 4, 5, 6] : List Int).drop (j + 1) := by
      have hl : j < ([1, 2, 3, 4, 5, 6] : List Int).length := hj6
      rw [drop_cons hl]
      rw [List.getElem?_eq_getElem hl] at hlj
      rw [Option.some.inj hlj]
    rw [hd, signR] at hg
    generalize hr : ((j + 1 : Nat) : Int) = r at hg hw ⊢
    refine ⟨fun h3 => ?_, fun h3 => ?_⟩
    · rw [if_pos h3] at hg
      exact ⟨⟨j + 1, hw, hj6, hg, hE2⟩, by rw [hw]; dsimp only; omega⟩
    · rw [if_neg (by rw [h3]; exact Bool.false_ne_true)] at hg
      refine ⟨_, _, signs_c r, ?_, never_any⟩
      rintro v w3 ⟨B, bl, bc, D, dl, dc, rfl, hB, hD, hE3⟩
      refine ⟨_, _, _, _, _, _, rfl, no, hE3, Away.no _, ?_⟩
      have hbl : bl = (signsL r).length := by simpa using RowIn.len hB
      have hdl := hD.len
      have hbs := RowIn.lt hB
      refine ⟨fun y w4 => ∃ i : Nat, y = i ∧ i ≤ (kindsL r).length ∧ signIdx k ((kindsL r).drop i) ((signsL r).drop i) = signIdx k (kindsL r) (signsL r) ∧ Ext w3 w4, fun y => ((kindsL r).length - y).toNat, ⟨0, rfl, by omega, rfl, Upd.refl _ _⟩, ?_⟩
      rintro _ y w4 ⟨i, rfl, hi, hg2, hE4⟩
      have hkl := kinds_len r
      refine ⟨fun hlt2 => ?_, fun hlt2 => ?_⟩
      · have hik : i < (kindsL r).length := by simp at hlt2; omega
        have his : i < (signsL r).length := by omega
        rw [drop_cons hik, drop_cons his, signIdx] at hg2
        refine (hD.ext hE4).idx hik fun ad ha => (hD.ext hE4).cell ha hik ⟨fun hk => ?_, fun hk => ?_⟩
        · rw [if_pos hk] at hg2
          obtain ⟨ad2, r2, e2, hr2, _, hc2⟩ := (RowIn.upd' hB hE4 (fun _ _ _ h => h)).get (i : Int) (by omega) (by omega)
          have hn : Int.toNat (i : Int) = i := by omega
          rw [hn, List.getElem?_map, List.getElem?_eq_getElem his] at hr2
          cases hr2
          refine ⟨⟨by omega, by omega⟩, ad2, e2, _, hc2, ?_, (hE2.trans hE3).trans hE4⟩
          rw [← hg, ← hg2]; rfl
        · rw [if_neg (by rw [hk]; exact Bool.false_ne_true)] at hg2
          refine ⟨⟨i + 1, w64_succ (by omega), hik, by rw [← hg2]; simp, hE4⟩, ?_⟩
          rw [w64_succ (by omega)]; exact mea_succ hik
      · have hik : ¬ i < (kindsL r).length := by simp at hlt2; omega
        rw [List.drop_eq_nil_of_le (by omega), signIdx] at hg2
        rw [← hg2] at hg
        exact ⟨⟨j + 1, hw, hj6, hg, (hE2.trans hE3).trans hE4⟩, by rw [hw]; dsimp only; omega⟩
  · have hj6 : j = 6 := by simp at hlt; omega
    subst hj6
    exact ⟨by rw [← hg]; rfl, hE2⟩
end Go.Vx.Tryz
namespace Go.Vx.Tryz
open Go Go.Vx Go.Proofs Go.Lib
variable {b : Nat}
theorem tree_cu {w w' : World} {A A' : Option Addr} {kids : List Ex} {B : Option Addr} {l c : Nat} (h : ExsR w (NB b) kids B l c) (k : CU w w' b A A') (hA : ∀ x, blkOf A x → b < x) : ExsR w' (NB b) kids B l c :=
  h.upd' k.1 fun x hx _ hs => by
    have hx : x < b := hx
    rcases hs with h | h
    · omega
    · have := hA x h; omega
def PK (b : Nat) (pf : PS → Ex → Bool → PS) (n : Ex) : Prop :=
  ∀ {w : World} {A : Option Addr} {c : Nat} {B : Option Addr} {l cc : Nat} (st : PS) (set : Bool), WrAt w b A c st → ExsR w (NB b) n.kids B l cc → CallsX E.P 91 #[.pointer (some ⟨b, 0, none⟩), exA n B l cc, .bool set] w (WrU b A w (pf st n set)) never
theorem aw_cu {w w1 : World} {A A' : Option Addr} {ids : List Nat} (hb : b < w.heap.size) (hA : ∀ x, blkOf A x → x < w.heap.size) (hi : ∀ i ∈ ids, w.heap.size ≤ i ∧ i < w1.heap.size) (h : ∀ x, blkOf A' x → blkOf A x ∨ w1.heap.size ≤ x) : ∀ i ∈ ids, i ≠ b ∧ ¬ blkOf A' i := fun i hm => by
  have := hi i hm
  refine ⟨by omega, fun hx => ?_⟩
  rcases h i hx with h | h
  · have := hA i h; omega
  · omega
theorem kid_c {pf : PS → Ex → Bool → PS} {e : Ex} {i : Nat} (hi : i < e.kids.length) (hk : PK b pf (e.kids.getD i ex0)) {w : World} {A : Option Addr} {c : Nat} {B : Option Addr} {l cc : Nat} {st : PS} (hw : WrAt w b A c st) (hr : ExsR w (NB b) e.kids B l cc) :
    CallsX E.P 116 #[.pointer (some ⟨b, 0, none⟩), exA e B l cc, .int .i64 (i : Int)] w (WrU b A w (kidW pf st e i)) never := by
  have hx : e.kids.getD i ex0 = e.kids[i] := by rw [List.getD_eq_getElem?_getD, List.getElem?_eq_getElem hi]; rfl
  unfold kidW
  rw [hx] at hk ⊢
  have hb := hw.blt
  have hA : ∀ x, blkOf A x → b < x ∧ x < w.heap.size := fun x hx => hw.blk hx
  refine vc146 hw.hh ?_
  intro id hid
  refine hr.idx hi fun ad ha w1 hE1 hi1 => (hr.ext hE1).cell ha hi fun B1 l1 c1 q1 id1 hid1 w2 hE2 hi2 => ?_
  have hs1 : w.heap.size ≤ w1.heap.size := Upd.size hE1
  have hs2 : w1.heap.size ≤ w2.heap.size := Upd.size hE2
  refine callI (row_c' _) fun w3 hE3 => callI (asked_c _ _) fun w4 hE4 => ?_
  have hE24 : Ext w2 w4 := hE3.trans hE4
  have hE04 : Ext w w4 := (Ext.trans hE1 hE2).trans hE24
  have hs4 := hE24.size
  have hw4 := hw.ext hE04
  have hq4 : ExsR w4 (NB b) e.kids[i].kids B1 l1 c1 := (q1.ext hE2).ext hE24
  have aw : ∀ {A' : Option Addr}, (∀ x, blkOf A' x → blkOf A x ∨ w2.heap.size ≤ x) → ∀ j ∈ [id, id1], j ≠ b ∧ ¬ blkOf A' j := fun h => aw_cu hb (fun x hx => (hA x hx).2) (by simp; omega) h
  refine ⟨fun hge => ⟨fun h21 hh4 => ?_, fun h21 hh4 => ?_⟩, fun hge hh4 => ?_⟩
  · rw [if_pos hge, h21, Bool.true_and]
    exact callWU (hk st _ hw4 hq4) (aw (fun x hx => .inl hx)) fun A' c' w5 hw5 hU5 hh5 => ⟨rfl, A', c', hw5, (CU.ext hE04).trans hU5⟩
  · rw [if_pos hge, h21, Bool.false_and]
    exact callWU (hk st _ hw4 hq4) (aw (fun x hx => .inl hx)) fun A' c' w5 hw5 hU5 hh5 => ⟨rfl, A', c', hw5, (CU.ext hE04).trans hU5⟩
  · rw [if_neg (by rw [hge]; exact Bool.false_ne_true)]
    refine callWU (wopens_c (ByteArray.mk #[40]) (by decide) hw4) (aw (fun x hx => .inl hx)) fun A1 c1' w5 hw5 hU5 hh5 => ?_
    have a1 : ∀ x, blkOf A1 x → blkOf A x ∨ w2.heap.size ≤ x := fun x hx => by rcases hU5.2 x hx with h | h; exact .inl h; exact .inr (by omega)
    have hs5 := hU5.1.size
    refine callWU (hk _ _ hw5 (tree_cu hq4 hU5 (fun x hx => (hA x hx).1))) (aw a1) fun A2 c2' w6 hw6 hU6 w7 hU7 hh7 => ?_
    have a2 : ∀ x, blkOf A2 x → blkOf A x ∨ w2.heap.size ≤ x := fun x hx => by rcases hU6.2 x hx with h | h; exact a1 x h; exact .inr (by omega)
    have hs6 := hU6.1.size
    have hs7 := hU7.size
    have hw7 := hw6.put (st' := (pf (opensW 1 st) e.kids[i] false).shut) hU7 hh7 rfl
    refine callWU (puts_c (ByteArray.mk #[41]) (by decide) hw7) (aw a2) fun A3 c3' w8 hw8 hU8 hh8 => ⟨rfl, A3, c3', hw8, ((((CU.ext hE04).trans hU5).trans hU6).trans (cu_put hU7)).trans hU8⟩
theorem list_c' {pf : PS → Ex → Bool → PS} {e : Ex} (hk : ∀ i, i < e.kids.length → PK b pf (e.kids.getD i ex0)) {w : World} {A : Option Addr} {c : Nat} {B : Option Addr} {l cc : Nat} {st : PS} (hw : WrAt w b A c st) (hr : ExsR w (NB b) e.kids B l cc) :
    CallsX E.P 126 #[.pointer (some ⟨b, 0, none⟩), exA e B l cc] w (WrU b A w (listW pf e 0 st e.kids)) never := by
  have hb := hw.blt
  have hA : ∀ x, blkOf A x → b < x ∧ x < w.heap.size := fun x hx => hw.blk hx
  have hlen := hr.len
  have hlt := hr.lt
  refine vc155 hw.hh ?_
  intro id hid w1 hE1 hi1
  have hs1 : w.heap.size ≤ w1.heap.size := Upd.size hE1
  have aw : ∀ {A' : Option Addr}, (∀ x, blkOf A' x → blkOf A x ∨ w1.heap.size ≤ x) → ∀ j ∈ [id], j ≠ b ∧ ¬ blkOf A' j := fun h => aw_cu hb (fun x hx => (hA x hx).2) (by simp; omega) h
  refine ⟨fun x a1 n c1 x1 x2 x3 w2 => ∃ (j : Nat) (s2 : PS), x = j ∧ j ≤ e.kids.length ∧ (n = s2.n ∧ x1 = s2.open_ ∧ x2 = s2.quants ∧ x3 = s2.ok) ∧ listW pf e j s2 (e.kids.drop j) = listW pf e 0 st e.kids ∧ WrAt w2 b a1 c1 s2 ∧ CU w w2 b A a1 ∧ (∀ x, blkOf a1 x → blkOf A x ∨ w1.heap.size ≤ x) ∧ w1.heap.size ≤ w2.heap.size,
    fun x _ _ _ _ _ _ => ((e.kids.length : Int) - x).toNat, ⟨0, st, rfl, by omega, ⟨rfl, rfl, rfl, rfl⟩, rfl, hw.ext hE1, CU.ext hE1, fun x hx => .inl hx, Nat.le_refl _⟩, ?_⟩
  rintro _ x a1 _ c1 _ _ _ w2 ⟨j, s2, rfl, hj, ⟨rfl, rfl, rfl, rfl⟩, hg, hw2, hU2, ha1, hs2⟩
  have hr2 : ExsR w2 (NB b) e.kids B l cc := tree_cu hr hU2 (fun x hx => (hA x hx).1)
  refine ⟨fun hlt2 => ⟨fun hok => ⟨fun h0 hh2 => ?_, fun h0 hh2 => ?_⟩, fun hok hh2 => ?_⟩, fun hlt2 hh2 => ?_⟩
  · have hjl : j < e.kids.length := by simp at hlt2; omega
    rw [drop_cons hjl, listW, if_pos hok, if_pos h0] at hg
    refine callWU (puts_c (ByteArray.mk #[44, 32]) (by decide) hw2) (aw ha1) fun A1 c1' w3 hw3 hU3 hh3 => ?_
    have hb2 : ∀ x, blkOf a1 x → b < x := fun x hx => (hw2.blk hx).1
    have a2 : ∀ x, blkOf A1 x → blkOf A x ∨ w1.heap.size ≤ x := fun x hx => by rcases hU3.2 x hx with h | h; exact ha1 x h; exact .inr (by omega)
    have hs3 := hU3.1.size
    refine callWU (kid_c hjl (hk j hjl) hw3 (tree_cu hr2 hU3 hb2)) (aw a2) fun A2 c2' w4 hw4 hU4 => ?_
    have hs4 := hU4.1.size
    refine ⟨⟨j + 1, _, w64_succ (by omega), hjl, ⟨rfl, rfl, rfl, rfl⟩, hg, hw4, (hU2.trans hU3).trans hU4, fun x hx => by rcases hU4.2 x hx with h | h; exact a2 x h; exact .inr (by omega), by omega⟩, ?_⟩
    dsimp only
    rw [w64_succ (by omega)]; exact mea_succ hjl
  · have hjl : j < e.kids.length := by simp at hlt2; omega
    rw [drop_cons hjl, listW, if_pos hok, if_neg (by rw [h0]; exact Bool.false_ne_true)] at hg
    refine callWU (kid_c hjl (hk j hjl) hw2 hr2) (aw ha1) fun A2 c2' w4 hw4 hU4 => ?_
    have hs4 := hU4.1.size
    refine ⟨⟨j + 1, _, w64_succ (by omega), hjl, ⟨rfl, rfl, rfl, rfl⟩, hg, hw4, hU2.trans hU4, fun x hx => by rcases hU4.2 x hx with h | h; exact ha1 x h; exact .inr (by omega), by omega⟩, ?_⟩
    dsimp only
    rw [w64_succ (by omega)]; exact mea_succ hjl
  · have hjl : j < e.kids.length := by simp at hlt2; omega
    rw [drop_cons hjl, listW, if_neg (by rw [hok]; exact Bool.false_ne_true)] at hg
    rw [← hg]
    exact ⟨rfl, a1, c1, hw2, hU2⟩
  · have hjl : ¬ j < e.kids.length := by simp at hlt2; omega
    rw [List.drop_eq_nil_of_le (by omega), listW] at hg
    rw [← hg]
    exact ⟨rfl, a1, c1, hw2, hU2⟩
end Go.Vx.Tryz
namespace Go.Vx.Tryz
open Go Go.Vx Go.Proofs Go.Lib
variable {b : Nat}
theorem str_cell {w : World} {F : Nat → Prop} {l : List ByteArray} {B : Option Addr} {bl bc : Nat} (h : StrsR w F l B bl bc) {n : Int} (h0 : 0 ≤ n) (h1 : n < (l.length : Int)) {K : ByteArray → Prop} (k : K (strAt l n)) :
    ((0 : Int) ≤ n ∧ n < (bl : Int)) ∧ ∃ ad, B = some ad ∧ ∃ x, CellsIn w (ad.add (Int.toNat n * 1)) [.string x] ∧ K x := by
  have hl : bl = l.length := by simpa using RowIn.len h
  obtain ⟨ad, r, e, hr, _, hc⟩ := RowIn.get h n h0 (by omega)
  have hi : n.toNat < l.length := by omega
  rw [List.getElem?_map, List.getElem?_eq_getElem hi] at hr
  cases hr
  have hx : strAt l n = l[n.toNat] := by rw [strAt, List.getD_eq_getElem?_getD, List.getElem?_eq_getElem hi]; rfl
  exact ⟨⟨h0, by omega⟩, ad, e, _, hc, by rw [← hx]; exact k⟩
theorem name_size {s : ByteArray} (h : isNameB s = true) : s.size ≤ 12 := by
  unfold isNameB at h
  split at h
  · cases h
  · split at h
    · cases h
    · rename_i h2; simp at h2; omega
theorem strAt_size {l : List ByteArray} (hl : ∀ x ∈ l, x.size ≤ 100) (n : Int) : (strAt l n).size ≤ 100 := by
  unfold strAt
  rw [List.getD_eq_getElem?_getD]
  cases h : l[n.toNat]? with
  | none => exact Nat.zero_le _
  | some x => exact hl x (List.mem_of_getElem? h)
structure GoodE (e : Ex) : Prop where
  k19 : e.k = 19 → 3 ≤ e.kids.length
  k21 : e.k = 21 → 2 ≤ e.kids.length ∧ 1 ≤ e.n ∧ e.n ≤ 6 ∧ e.s.size ≤ 12
  k20 : e.k = 20 → 1 ≤ e.n ∧ e.n ≤ 10
theorem great_c' {pf : PS → Ex → Bool → PS} {e : Ex} (hge : GoodE e) (hk : ∀ i, i < e.kids.length → PK b pf (e.kids.getD i ex0)) {w : World} {A : Option Addr} {c : Nat} {B : Option Addr} {l cc : Nat} {st : PS} (hw : WrAt w b A c st) (hr : ExsR w (NB b) e.kids B l cc) :
    CallsX E.P 117 #[.pointer (some ⟨b, 0, none⟩), exA e B l cc] w (WrU b A w (greatW pf st e)) never := by
  have hb := hw.blt
  have hA : ∀ x, blkOf A x → b < x ∧ x < w.heap.size := fun x hx => hw.blk hx
  refine vc147 hw.hh ?_
  intro id hid
  unfold greatW
  -- a chain of calls, from a place where the block id is there
  have aw : ∀ {w1 : World} {A' : Option Addr}, id < w1.heap.size → (∀ x, blkOf A' x → blkOf A x ∨ w1.heap.size ≤ x) → ∀ j ∈ [id], j ≠ b ∧ ¬ blkOf A' j := fun h1 h => aw_cu hb (fun x hx => (hA x hx).2) (by simp; omega) h
  have nx : ∀ {w1 w2 w3 : World} {A1 A2 : Option Addr}, (∀ x, blkOf A1 x → blkOf A x ∨ w1.heap.size ≤ x) → w1.heap.size ≤ w2.heap.size → CU w2 w3 b A1 A2 → ∀ x, blkOf A2 x → blkOf A x ∨ w1.heap.size ≤ x := fun h1 h2 h3 x hx => by
    rcases h3.2 x hx with h | h
    · exact h1 x h
    · exact .inr (by omega)
  refine ⟨fun h19 w1 hE1 hi1 hh1 => ?_, fun h19 => ⟨fun h21 => ?_, fun h21 => ⟨fun h20 w1 hE1 hi1 => ?_, fun h20 => ⟨fun h24 w1 hE1 hi1 hh1 => ?_, fun h24 w1 hE1 hi1 hh1 => ?_⟩⟩⟩⟩
  · rw [if_pos h19]
    have hl := hge.k19 (eq_of_beq h19)
    have hs1 : w.heap.size ≤ w1.heap.size := Upd.size hE1
    have hw1 := hw.ext hE1
    have hr1 := hr.ext hE1
    refine callWU (wopens_c (ByteArray.mk #[105, 102, 32]) (by decide) hw1) (aw hi1 (fun x hx => .inl hx)) fun A2 c2 w2 hw2 hU2 hh2 => ?_
    have hr2 := tree_cu hr1 hU2 (fun x hx => (hA x hx).1)
    have a2 := nx (w1 := w1) (fun x hx => .inl hx) (Nat.le_refl _) hU2
    have s2 := hU2.1.size
    refine callWU (kid_c (i := 0) (by omega) (hk 0 (by omega)) hw2 hr2) (aw hi1 a2) fun A3 c3 w3 hw3 hU3 hh3 => ?_
    have hr3 := tree_cu hr2 hU3 (fun x hx => (hw2.blk hx).1)
    have a3 := nx a2 s2 hU3
    have s3 := hU3.1.size
    refine callWU (puts_c (ByteArray.mk #[32, 116, 104, 101, 110, 32]) (by decide) hw3) (aw hi1 a3) fun A4 c4 w4 hw4 hU4 hh4 => ?_
    have hr4 := tree_cu hr3 hU4 (fun x hx => (hw3.blk hx).1)
    have a4 := nx a3 (by omega) hU4
    have s4 := hU4.1.size
    refine callWU (kid_c (i := 1) (by omega) (hk 1 (by omega)) hw4 hr4) (aw hi1 a4) fun A5 c5 w5 hw5 hU5 hh5 => ?_
    have hr5 := tree_cu hr4 hU5 (fun x hx => (hw4.blk hx).1)
    have a5 := nx a4 (by omega) hU5
    have s5 := hU5.1.size
    refine callWU (puts_c (ByteArray.mk #[32, 101, 108, 115, 101, 32]) (by decide) hw5) (aw hi1 a5) fun A6 c6 w6 hw6 hU6 hh6 => ?_
    have hr6 := tree_cu hr5 hU6 (fun x hx => (hw5.blk hx).1)
    have a6 := nx a5 (by omega) hU6
    have s6 := hU6.1.size
    refine callWU (kid_c (i := 2) (by omega) (hk 2 (by omega)) hw6 hr6) (aw hi1 a6) fun A7 c7 w7 hw7 hU7 w8 hU8 hh8 => ?_
    exact ⟨rfl, A7, c7, hw7.put hU8 hh8 rfl, (((((((CU.ext hE1).trans hU2).trans hU3).trans hU4).trans hU5).trans hU6).trans hU7).trans (cu_put hU8)⟩
  · rw [if_neg (by rw [h19]; exact Bool.false_ne_true), if_pos h21]
    obtain ⟨hl, hn1, hn6, hsz⟩ := hge.k21 (eq_of_beq h21)
    refine ⟨fun x w1 => x = (quantsW st).ok ∧ Upd w w1 (setOf [b]) ∧ id < w1.heap.size, ⟨fun hq w1 hU1 hi1 => ⟨by unfold quantsW; rw [if_pos hq], hU1, hi1⟩, fun hq w1 hU1 hi1 => ⟨by unfold quantsW; rw [if_neg (by rw [hq]; exact Bool.false_ne_true)], hU1, hi1⟩⟩, ?_⟩
    rintro _ x w1 ⟨rfl, hU1, hi1⟩ w2 hE2
    have s1 := hU1.size
    have s2 : w1.heap.size ≤ w2.heap.size := Upd.size hE2
    refine ⟨_, _, quants_c, ?_, never_any⟩
    rintro v w3 ⟨Q, ql, qc, rfl, hQ, hE3⟩
    have hw6 : w64 (e.n - 1) = e.n - 1 := w64_id (by omega) (by omega)
    refine ⟨_, _, _, rfl, no, hE3, Away.no _, str_cell hQ (n := w64 (e.n - 1)) (by omega) (by rw [hw6]; show e.n - 1 < 6; omega) ⟨_, add_run _ _ _ _ ?_, _, add_run _ _ _ _ ?_, _, add_run _ _ _ _ ?_, fun hh3 => ?_⟩⟩
    · have := strAt_size (l := quantsL) (by decide) (w64 (e.n - 1)); have : (ByteArray.mk #[32]).size = 1 := rfl; omega
    · have := strAt_size (l := quantsL) (by decide) (w64 (e.n - 1)); have : (ByteArray.mk #[32]).size = 1 := rfl; rw [ByteArray.size_append]; omega
    · have := strAt_size (l := quantsL) (by decide) (w64 (e.n - 1)); have : (ByteArray.mk #[32]).size = 1 := rfl; have : (ByteArray.mk #[32, 105, 110, 32]).size = 4 := rfl; rw [ByteArray.size_append, ByteArray.size_append]; omega
    have hE13 : Ext w1 w3 := Ext.trans hE2 hE3
    have s3 := hE13.size
    have hU03 : Upd w w3 (setOf [b]) := hU1.trans (Upd.mono hE13 fun x hx => hx.elim)
    have hw3 : WrAt w3 b A c (quantsW st) := hw.put hU03 hh3 rfl
    have hr3 := tree_cu hr (cu_put (A := A) hU03) (fun x hx => (hA x hx).1)
    have hi3 : id < w3.heap.size := by omega
    have hss : (((strAt quantsL (w64 (e.n - 1)) ++ ByteArray.mk #[32]) ++ e.s) ++ ByteArray.mk #[32, 105, 110, 32]).size = (strAt quantsL (w64 (e.n - 1))).size + 1 + e.s.size + 4 := by
      rw [ByteArray.size_append, ByteArray.size_append, ByteArray.size_append]; rfl
    rw [← hss]
    refine callWU (wopens_c _ (by have := strAt_size (l := quantsL) (by decide) (w64 (e.n - 1)); omega) hw3) (aw hi3 (fun x hx => .inl hx)) fun A4 c4 w4 hw4 hU4 hh4 => ?_
    have hr4 := tree_cu hr3 hU4 (fun x hx => (hA x hx).1)
    have a4 := nx (w1 := w3) (fun x hx => .inl hx) (Nat.le_refl _) hU4
    have s4 := hU4.1.size
    refine callWU (kid_c (i := 0) (by omega) (hk 0 (by omega)) hw4 hr4) (aw hi3 a4) fun A5 c5 w5 hw5 hU5 hh5 => ?_
    have hr5 := tree_cu hr4 hU5 (fun x hx => (hw4.blk hx).1)
    have a5 := nx a4 s4 hU5
    have s5 := hU5.1.size
    refine callWU (puts_c (ByteArray.mk #[58, 32]) (by decide) hw5) (aw hi3 a5) fun A6 c6 w6 hw6 hU6 hh6 => ?_
    have hr6 := tree_cu hr5 hU6 (fun x hx => (hw5.blk hx).1)
    have a6 := nx a5 (by omega) hU6
    have s6 := hU6.1.size
    refine callWU (kid_c (i := 1) (by omega) (hk 1 (by omega)) hw6 hr6) (aw hi3 a6) fun A7 c7 w7 hw7 hU7 w8 hU8 hh8 => ?_
    exact ⟨rfl, A7, c7, hw7.put hU8 hh8 rfl, (((((cu_put hU03).trans hU4).trans hU5).trans hU6).trans hU7).trans (cu_put hU8)⟩
  · rw [if_neg (by rw [h19]; exact Bool.false_ne_true), if_neg (by rw [h21]; exact Bool.false_ne_true), if_pos h20]
    obtain ⟨hn1, hn10⟩ := hge.k20 (eq_of_beq h20)
    have s1 : w.heap.size ≤ w1.heap.size := Upd.size hE1
    refine ⟨_, _, calls_c, ?_, never_any⟩
    rintro v w2 ⟨Q, ql, qc, rfl, hQ, hE2⟩
    have s2 := hE2.size
    have hw6 : w64 (e.n - 1) = e.n - 1 := w64_id (by omega) (by omega)
    refine ⟨_, _, _, rfl, no, hE2, Away.no _, str_cell hQ (n := w64 (e.n - 1)) (by omega) (by rw [hw6]; show e.n - 1 < 10; omega) fun hh2 => ?_⟩
    have hE02 : Ext w w2 := Ext.trans hE1 hE2
    have hw2 := hw.ext hE02
    have hr2 := hr.ext hE02
    have hi2 : id < w2.heap.size := by omega
    refine callWU (puts_c _ (by have := strAt_size (l := callsL) (by decide) (w64 (e.n - 1)); omega) hw2) (aw hi2 (fun x hx => .inl hx)) fun A3 c3 w3 hw3 hU3 hh3 => ?_
    have hr3 := tree_cu hr2 hU3 (fun x hx => (hA x hx).1)
    have a3 := nx (w1 := w2) (fun x hx => .inl hx) (Nat.le_refl _) hU3
    have s3 := hU3.1.size
    refine callWU (wopens_c (ByteArray.mk #[40]) (by decide) hw3) (aw hi2 a3) fun A4 c4 w4 hw4 hU4 hh4 => ?_
    have hr4 := tree_cu hr3 hU4 (fun x hx => (hw3.blk hx).1)
    have a4 := nx a3 s3 hU4
    have s4 := hU4.1.size
    refine callWU (list_c' hk hw4 hr4) (aw hi2 a4) fun A5 c5 w5 hw5 hU5 w6 hU6 hh6 => ?_
    have a5 := nx a4 (by omega) hU5
    have s5 := hU5.1.size
    have s6 := hU6.size
    have hw6' := hw5.put (st' := (listW pf e 0 (opensW 1 (putsW (strAt callsL (w64 (e.n - 1))).size st)) e.kids).shut) hU6 hh6 rfl
    refine callWU (puts_c (ByteArray.mk #[41]) (by decide) hw6') (aw hi2 a5) fun A7 c7 w7 hw7 hU7 hh7 => ?_
    exact ⟨rfl, A7, c7, hw7, (((((CU.ext hE02).trans hU3).trans hU4).trans hU5).trans (cu_put hU6)).trans hU7⟩
  · rw [if_neg (by rw [h19]; exact Bool.false_ne_true), if_neg (by rw [h21]; exact Bool.false_ne_true), if_neg (by rw [h20]; exact Bool.false_ne_true), if_pos h24]
    have s1 : w.heap.size ≤ w1.heap.size := Upd.size hE1
    have hr1 := hr.ext hE1
    refine callWU (puts_c (ByteArray.mk #[97, 114, 111, 117, 110, 100]) (by decide) (hw.ext hE1)) (aw hi1 (fun x hx => .inl hx)) fun A3 c3 w3 hw3 hU3 hh3 => ?_
    have hr3 := tree_cu hr1 hU3 (fun x hx => (hA x hx).1)
    have a3 := nx (w1 := w1) (fun x hx => .inl hx) (Nat.le_refl _) hU3
    have s3 := hU3.1.size
    refine callWU (wopens_c (ByteArray.mk #[40]) (by decide) hw3) (aw hi1 a3) fun A4 c4 w4 hw4 hU4 hh4 => ?_
    have hr4 := tree_cu hr3 hU4 (fun x hx => (hw3.blk hx).1)
    have a4 := nx a3 s3 hU4
    have s4 := hU4.1.size
    refine callWU (list_c' hk hw4 hr4) (aw hi1 a4) fun A5 c5 w5 hw5 hU5 w6 hU6 hh6 => ?_
    have a5 := nx a4 (by omega) hU5
    have hw6' := hw5.put (st' := (listW pf e 0 (opensW 1 (putsW 6 st)) e.kids).shut) hU6 hh6 rfl
    refine callWU (puts_c (ByteArray.mk #[41]) (by decide) hw6') (aw hi1 a5) fun A7 c7 w7 hw7 hU7 hh7 => ?_
    exact ⟨rfl, A7, c7, hw7, (((((CU.ext hE1).trans hU3).trans hU4).trans hU5).trans (cu_put hU6)).trans hU7⟩
  · rw [if_neg (by rw [h19]; exact Bool.false_ne_true), if_neg (by rw [h21]; exact Bool.false_ne_true), if_neg (by rw [h20]; exact Bool.false_ne_true), if_neg (by rw [h24]; exact Bool.false_ne_true)]
    have s1 : w.heap.size ≤ w1.heap.size := Upd.size hE1
    have hr1 := hr.ext hE1
    refine callWU (wopens_c (ByteArray.mk #[123]) (by decide) (hw.ext hE1)) (aw hi1 (fun x hx => .inl hx)) fun A4 c4 w4 hw4 hU4 hh4 => ?_
    have hr4 := tree_cu hr1 hU4 (fun x hx => (hA x hx).1)
    have a4 := nx (w1 := w1) (fun x hx => .inl hx) (Nat.le_refl _) hU4
    have s4 := hU4.1.size
    refine callWU (list_c' hk hw4 hr4) (aw hi1 a4) fun A5 c5 w5 hw5 hU5 w6 hU6 hh6 => ?_
    have a5 := nx a4 (by omega) hU5
    have hw6' := hw5.put (st' := (listW pf e 0 (opensW 1 st) e.kids).shut) hU6 hh6 rfl
    refine callWU (puts_c (ByteArray.mk #[125]) (by decide) hw6') (aw hi1 a5) fun A7 c7 w7 hw7 hU7 hh7 => ?_
    exact ⟨rfl, A7, c7, hw7, ((((CU.ext hE1).trans hU4).trans hU5).trans (cu_put hU6)).trans hU7⟩
end Go.Vx.Tryz
namespace Go.Vx.Tryz
open Go Go.Vx Go.Proofs Go.Lib
variable {b : Nat}
theorem guard_parts {s : PS} {e : Ex} {set : Bool} (h : guardW s e set = false) : s.ok = true ∧ fieldsF e.k e.n e.s = true ∧ ¬ (kidsN e.k e.n < -1) ∧ (kidsN e.k e.n ≥ 0 → (e.kids.length : Int) = kidsN e.k e.n) ∧ isSetF e.k = set := by
  unfold guardW at h
  simp only [Bool.or_eq_false_iff, Bool.not_eq_false', Bool.and_eq_false_iff, decide_eq_false_iff_not, bne_eq_false_iff_eq, beq_iff_eq] at h
  obtain ⟨⟨⟨⟨h1, h2⟩, h3⟩, h4⟩, h5⟩ := h
  exact ⟨h1, h2, h3, fun hk => by rcases h4 with h4 | h4; exact absurd hk h4; exact h4, h5⟩
theorem good_of {e : Ex} (hf : fieldsF e.k e.n e.s = true) (hl : kidsN e.k e.n ≥ 0 → (e.kids.length : Int) = kidsN e.k e.n) : GoodE e := by
  refine ⟨fun h => ?_, fun h => ?_, fun h => ?_⟩
  · rw [h] at hl
    have := hl (show (3 : Int) ≥ 0 by decide)
    have e3 : kidsN 19 e.n = 3 := rfl
    omega
  · rw [h] at hl hf
    have := hl (show (2 : Int) ≥ 0 by decide)
    have e3 : kidsN 21 e.n = 2 := rfl
    have hf : (decide (e.n ≥ 1) && decide (e.n ≤ 6) && isNameB e.s) = true := hf
    simp only [Bool.and_eq_true, decide_eq_true_eq] at hf
    have := name_size hf.2
    omega
  · rw [h] at hf
    have hf : (decide (e.n ≥ 1) && decide (e.n ≤ 10) && strEq e.s (ByteArray.mk #[])) = true := hf
    simp only [Bool.and_eq_true, decide_eq_true_eq] at hf
    omega
theorem wpart_c : ∀ (f : Nat) (n : Ex), n.size ≤ f → PK b (partW f) n := by
  intro f
  induction f with
  | zero => intro n hn; cases n with | mk k v s l t => simp only [Ex.size] at hn; omega
  | succ f ih =>
    intro e hn w A c B l cc st set hw hr
    have hb := hw.blt
    have hA : ∀ x, blkOf A x → b < x ∧ x < w.heap.size := fun x hx => hw.blk hx
    have hsz : ∀ i, i < e.kids.length → PK b (partW f) (e.kids.getD i ex0) := fun i hi => by
      rw [List.getD_eq_getElem?_getD, List.getElem?_eq_getElem hi]
      refine ih _ ?_
      show e.kids[i].size ≤ f
      have := Ex.size_lt (List.getElem_mem hi)
      cases e with | mk k v s l t => simp only [Ex.size, Ex.kids] at hn this ⊢; omega
    have hlen : l = e.kids.length := hr.len
    rw [partW]
    refine vc120 hw.hh ?_
    intro id hid w1 hE1 hi1
    have s1 : w.heap.size ≤ w1.heap.size := Upd.size hE1
    refine callI (kidsN_c e) fun w2 hE2 => callB (fields_c e) fun w3 hE3 => ?_
    have hE03 : Ext w w3 := (Ext.trans hE1 hE2).trans hE3
    have s3 := (hE2.trans hE3).size
    have bad : ∀ {w4 w5 : World}, Ext w w4 → guardW st e set = true → Upd w4 w5 (setOf [b]) → w5.heap[b]? = some (Obj.cells #[.slice A st.n c, .int .i64 st.open_, .int .i64 st.quants, .bool false] 133) → WrU b A w (if guardW st e set = true then st.bad else bodyW (partW f) st e) (.tuple #[]) w5 := fun {w4 w5} hE4 hg hU5 hh5 => by
      rw [if_pos hg]
      exact ⟨rfl, A, c, (hw.ext hE4).put (st' := st.bad) hU5 hh5 rfl, (CU.ext hE4).trans (cu_put hU5)⟩
    refine ⟨fun x w4 => x = st.ok ∧ guardW st e set = false ∧ Ext w w4 ∧ w1.heap.size ≤ w4.heap.size, ⟨fun g1 w4 hU4 hh4 => bad hE03 (by unfold guardW; rw [g1]; rfl) hU4 hh4, fun g1 => ⟨fun g2 w4 hU4 hh4 => bad hE03 (by unfold guardW; rw [g1, g2]; rfl) hU4 hh4, fun g2 => ⟨fun g3 w4 hU4 hh4 => bad hE03 (by unfold guardW; rw [g1, g2, g3]; rfl) hU4 hh4, fun g3 => ⟨fun g4 => ⟨fun g5 w4 hU4 hh4 => bad hE03 (by unfold guardW; rw [hlen] at g5; rw [g1, g2, g3, g4, g5]; rfl) hU4 hh4, fun g5 => ?_⟩, fun g4 => ?_⟩⟩⟩⟩, ?_⟩
    · rw [hlen] at g5
      refine callB (isSet_c _) fun w4 hE4 => ⟨fun g6 w5 hU5 hh5 => bad (hE03.trans hE4) (by unfold guardW; rw [g1, g2, g3, g4, g5, g6]; rfl) hU5 hh5, fun g6 => ⟨rfl, by unfold guardW; rw [g1, g2, g3, g4, g5, g6]; rfl, hE03.trans hE4, by have := hE4.size; omega⟩⟩
    · refine callB (isSet_c _) fun w4 hE4 => ⟨fun g6 w5 hU5 hh5 => bad (hE03.trans hE4) (by unfold guardW; rw [g1, g2, g3, g4, g6]; rfl) hU5 hh5, fun g6 => ⟨rfl, by unfold guardW; rw [g1, g2, g3, g4, g6]; rfl, hE03.trans hE4, by have := hE4.size; omega⟩⟩
    clear bad
    rintro _ x w4 ⟨rfl, hg, hE4, s4⟩
    rw [if_neg (by rw [hg]; exact Bool.false_ne_true)]
    obtain ⟨hok, hf, hkn, hkl, hset⟩ := guard_parts hg
    have hw4 := hw.ext hE4
    have hr4 := hr.ext hE4
    have hi4 : id < w4.heap.size := by omega
    have aw : ∀ {A' : Option Addr}, (∀ x, blkOf A' x → blkOf A x ∨ w4.heap.size ≤ x) → ∀ j ∈ [id], j ≠ b ∧ ¬ blkOf A' j := fun h => aw_cu hb (fun x hx => (hA x hx).2) (by simp; omega) h
    have nx : ∀ {w2 w3 : World} {A1 A2 : Option Addr}, (∀ x, blkOf A1 x → blkOf A x ∨ w4.heap.size ≤ x) → w4.heap.size ≤ w2.heap.size → CU w2 w3 b A1 A2 → ∀ x, blkOf A2 x → blkOf A x ∨ w4.heap.size ≤ x := fun h1 h2 h3 x hx => by
      rcases h3.2 x hx with h | h
      · exact h1 x h
      · exact .inr (by omega)
    have a0 : ∀ x, blkOf A x → blkOf A x ∨ w4.heap.size ≤ x := fun x hx => .inl hx
    have nf : ∀ {c : Bool}, c = false → ¬ c = true := fun h => by rw [h]; exact Bool.false_ne_true
    unfold bodyW
    refine ⟨fun c1 => ?_, fun c1 => ⟨fun c2 id1 hid1 => ?_, fun c2 => ⟨fun c3 => ?_, fun c3 => ⟨fun c4 hh4 => ?_, fun c4 => ⟨fun c23 hh4 => ?_, fun c23 => ⟨fun c22 hh4 => ?_, fun c22 => ⟨fun c6 hh4 => ?_, fun c6 => ⟨fun c7 hh4 => ?_, fun c7 => ?_⟩⟩⟩⟩⟩⟩⟩⟩
    · rw [if_pos c1]
      refine callD (digits_c _) fun s w5 hs5 hE5 hh5 => ?_
      have : digF e.n ≤ 22 := by unfold digF; split; omega; have := digN_le 20 (w64 (Int.tdiv e.n 10)); omega
      rw [← hs5]
      exact callWU (puts_c s (by omega) (hw4.ext hE5)) (aw a0) fun A6 c6 w6 hw6 hU6 hh6 => ⟨rfl, A6, c6, hw6, (CU.ext (hE4.trans hE5)).trans hU6⟩
    · rw [if_neg (nf c1), if_pos c2]
      have hn : e.n = 0 ∨ e.n = 1 := by
        have hk : e.k = 2 := eq_of_beq c2
        rw [hk] at hf
        have hf : ((e.n == 0 || e.n == 1) && strEq e.s (ByteArray.mk #[])) = true := hf
        simp only [Bool.and_eq_true, Bool.or_eq_true, beq_iff_eq] at hf
        exact hf.1
      refine ⟨by omega, ⟨_, rfl, fun w5 hE5 hi5 hl5 => ?_⟩⟩
      obtain ⟨_, ad, had, x, hc, hK⟩ := str_cell (K := fun x => x = strAt truthL e.n) (lit_strs (l := truthL) (F := fun _ => True) hl5 trivial (by decide)) (n := e.n) (by omega) (by show e.n < 2; omega) rfl
      cases had
      refine ⟨x, hc, fun hh5 _ => ?_⟩
      subst hK
      have s5 : w4.heap.size ≤ w5.heap.size := Upd.size hE5
      exact callWU (puts_c _ (by have := strAt_size (l := truthL) (by decide) e.n; omega) (hw4.ext hE5)) (fun j hj => by
        simp only [List.mem_cons, List.not_mem_nil, or_false] at hj
        rcases hj with rfl | rfl
        · exact aw a0 _ (by simp)
        · exact ⟨by have := hw4.blt; omega, fun hx => by have := (hw4.blk hx).2; omega⟩) fun A6 c6 w6 hw6 hU6 hh6 _ => ⟨rfl, A6, c6, hw6, (CU.ext (Ext.trans hE4 hE5)).trans hU6⟩
    · rw [if_neg (nf c1), if_neg (nf c2), if_pos c3]
      have hd : digF e.n ≤ 22 := by unfold digF; split; omega; have := digN_le 20 (w64 (Int.tdiv e.n 10)); omega
      refine callD (digits_c _) fun s w5 hs5 hE5 => ⟨_, add_run _ _ _ s (by have : (ByteArray.mk #[64]).size = 1 := rfl; omega), fun hh5 => ?_⟩
      have hss : (ByteArray.mk #[64] ++ s).size = 1 + digF e.n := by rw [ByteArray.size_append, hs5]; rfl
      rw [← hss]
      exact callWU (puts_c _ (by omega) (hw4.ext hE5)) (aw a0) fun A6 c6 w6 hw6 hU6 hh6 => ⟨rfl, A6, c6, hw6, (CU.ext (hE4.trans hE5)).trans hU6⟩
    · rw [if_neg (nf c1), if_neg (nf c2), if_neg (nf c3), if_pos c4]
      have hs : e.s.size ≤ 12 := by
        have hk : e.k = 4 := eq_of_beq c4
        rw [hk] at hf
        have hf : (e.n == 0 && isNameB e.s) = true := hf
        simp only [Bool.and_eq_true] at hf
        exact name_size hf.2
      exact callWU (puts_c _ (by omega) hw4) (aw a0) fun A6 c6 w6 hw6 hU6 hh6 => ⟨rfl, A6, c6, hw6, (CU.ext hE4).trans hU6⟩
    · rw [if_neg (nf c1), if_neg (nf c2), if_neg (nf c3), if_neg (nf c4), if_pos c23]
      have hs : e.s.size ≤ 12 := by
        have hk : e.k = 23 := eq_of_beq c23
        rw [hk] at hf
        have hf : (e.n == 0 && isNameB e.s) = true := hf
        simp only [Bool.and_eq_true] at hf
        exact name_size hf.2
      exact callWU (puts_c _ (by omega) hw4) (aw a0) fun A6 c6 w6 hw6 hU6 hh6 => ⟨rfl, A6, c6, hw6, (CU.ext hE4).trans hU6⟩
    · rw [if_neg (nf c1), if_neg (nf c2), if_neg (nf c3), if_neg (nf c4), if_neg (nf c23), if_pos c22]
      exact callWU (puts_c (ByteArray.mk #[118, 101, 114, 116, 105, 99, 101, 115]) (by decide) hw4) (aw a0) fun A6 c6 w6 hw6 hU6 hh6 => ⟨rfl, A6, c6, hw6, (CU.ext hE4).trans hU6⟩
    · rw [if_neg (nf c1), if_neg (nf c2), if_neg (nf c3), if_neg (nf c4), if_neg (nf c23), if_neg (nf c22), if_pos c6]
      have hl0 : 0 < e.kids.length := by
        have hk : e.k = 6 := eq_of_beq c6
        rw [hk] at hkl
        have := hkl (show (1 : Int) ≥ 0 by decide)
        have e1 : kidsN 6 e.n = 1 := rfl
        omega
      refine callWU (wopens_c (ByteArray.mk #[45]) (by decide) hw4) (aw a0) fun A5 c5 w5 hw5 hU5 hh5 => ?_
      have s5 := hU5.1.size
      refine callWU (kid_c (i := 0) hl0 (hsz 0 hl0) hw5 (tree_cu hr4 hU5 (fun x hx => (hA x hx).1))) (aw (nx a0 (Nat.le_refl _) hU5)) fun A6 c6 w6 hw6 hU6 w7 hU7 hh7 => ?_
      exact ⟨rfl, A6, c6, hw6.put hU7 hh7 rfl, (((CU.ext hE4).trans hU5).trans hU6).trans (cu_put hU7)⟩
    · rw [if_neg (nf c1), if_neg (nf c2), if_neg (nf c3), if_neg (nf c4), if_neg (nf c23), if_neg (nf c22), if_neg (nf c6), if_pos c7]
      have hl0 : 0 < e.kids.length := by
        have hk : e.k = 7 := eq_of_beq c7
        rw [hk] at hkl
        have := hkl (show (1 : Int) ≥ 0 by decide)
        have e1 : kidsN 7 e.n = 1 := rfl
        omega
      refine callWU (wopens_c (ByteArray.mk #[110, 111, 116, 32]) (by decide) hw4) (aw a0) fun A5 c5 w5 hw5 hU5 hh5 => ?_
      have s5 := hU5.1.size
      refine callWU (kid_c (i := 0) hl0 (hsz 0 hl0) hw5 (tree_cu hr4 hU5 (fun x hx => (hA x hx).1))) (aw (nx a0 (Nat.le_refl _) hU5)) fun A6 c6 w6 hw6 hU6 w7 hU7 hh7 => ?_
      exact ⟨rfl, A6, c6, hw6.put hU7 hh7 rfl, (((CU.ext hE4).trans hU5).trans hU6).trans (cu_put hU7)⟩
    rw [if_neg (nf c1), if_neg (nf c2), if_neg (nf c3), if_neg (nf c4), if_neg (nf c23), if_neg (nf c22), if_neg (nf c6), if_neg (nf c7)]
    refine ⟨fun x w5 => x = (e.k == 19 || e.k == 21 || e.k == 20 || e.k == 24 || e.k == 25) ∧ w5 = w4, ⟨fun d1 => ⟨by rw [d1]; rfl, rfl⟩, fun d1 => ⟨fun d2 => ⟨by rw [d1, d2]; rfl, rfl⟩, fun d2 => ⟨fun d3 => ⟨by rw [d1, d2, d3]; rfl, rfl⟩, fun d3 => ⟨fun d4 => ⟨by rw [d1, d2, d3, d4]; rfl, rfl⟩, fun d4 => ⟨by rw [d1, d2, d3, d4]; rfl, rfl⟩⟩⟩⟩⟩, ?_⟩
    rintro _ x w5 ⟨rfl, rfl⟩
    refine ⟨fun d hh5 => ?_, fun d hh5 => ?_⟩
    · rw [if_pos d]
      exact callWU (great_c' (good_of hf hkl) hsz hw4 hr4) (aw a0) fun A6 c6 w6 hw6 hU6 hh6 => ⟨rfl, A6, c6, hw6, (CU.ext hE4).trans hU6⟩
    · rw [if_neg (nf d)]
      simp only [Bool.or_eq_false_iff] at d
      have hl2 : e.kids.length = 2 := by
        have hz : kidsN e.k e.n = 2 := by
          have h1 : (e.k == 1 || e.k == 2 || e.k == 3 || e.k == 4 || e.k == 22 || e.k == 23) = false := by rw [c1, c2, c3, c4, c22, c23]; rfl
          have h2 : (e.k == 6 || e.k == 7 || e.k == 24) = false := by rw [c6, c7, d.1.2]; rfl
          unfold kidsN at hkn ⊢
          rw [iff0 h1, iff0 h2] at hkn ⊢
          cases h3 : (e.k == 8 || e.k == 9 || e.k == 10 || e.k == 11 || e.k == 12 || e.k == 13 || e.k == 14 || e.k == 15 || e.k == 16 || e.k == 17 || e.k == 18 || e.k == 21) with
          | true => rfl
          | false =>
            rw [h3, iff0 rfl, iff0 d.1.1.1.1, iff0 d.2, iff0 d.1.1.2] at hkn
            exact absurd (by decide) hkn
        rw [hz] at hkl
        have := hkl (by decide)
        omega
      refine callWU (kid_c (i := 0) (by omega) (hsz 0 (by omega)) hw4 hr4) (aw a0) fun A6 c6 w6 hw6 hU6 => ?_
      have s6 := hU6.1.size
      have hr6 := tree_cu hr4 hU6 (fun x hx => (hA x hx).1)
      have a6 := nx a0 (Nat.le_refl _) hU6
      refine ⟨_, _, sign_str e.k, ?_, never_any⟩
      rintro v w7 ⟨rfl, hE7⟩
      have hsg : (signR e.k [1, 2, 3, 4, 5, 6]).size ≤ 1000 := by
        have hidx : ∀ (l : List Int) (g : List ByteArray), (∀ x ∈ g, x.size ≤ 1000) → ∀ s, signIdx e.k l g = some s → s.size ≤ 1000 := fun l => by
          induction l with
          | nil => intro g _ s h; cases h
          | cons z l ih =>
            intro g hg s h
            rw [signIdx] at h
            split at h
            · cases h
              cases g with
              | nil => decide
              | cons x g => exact hg x (by simp)
            · exact ih g.tail (fun x hx => hg x (List.mem_of_mem_tail hx)) s h
        have hsl : ∀ (r : Int) (x : ByteArray), x ∈ signsL r → x.size ≤ 1000 := fun r => by
          unfold signsL
          split
          · decide
          · split
            · decide
            · split
              · decide
              · split <;> decide
        have hR : ∀ (l : List Int), (signR e.k l).size ≤ 1000 := fun l => by
          induction l with
          | nil => exact Nat.zero_le _
          | cons r l ih =>
            rw [signR]
            split
            · exact ih
            · cases h : signIdx e.k (kindsL r) (signsL r) with
              | none => exact ih
              | some s => exact hidx _ _ (hsl r) s h
        exact hR _
      have e1 : (ByteArray.mk #[32]).size = 1 := rfl
      refine ⟨_, rfl, no, hE7, Away.no _, _, add_run _ _ _ _ (by omega), _, add_run _ _ _ _ (by rw [ByteArray.size_append]; omega), fun hh7 => ?_⟩
      have hss : (ByteArray.mk #[32] ++ signR e.k [1, 2, 3, 4, 5, 6] ++ ByteArray.mk #[32]).size = 1 + signSz e.k + 1 := by rw [ByteArray.size_append, ByteArray.size_append]; rfl
      rw [← hss]
      have s7 := hE7.size
      refine callWU (puts_c _ (by rw [hss]; unfold signSz; omega) (hw6.ext hE7)) (aw a6) fun A8 c8 w8 hw8 hU8 hh8 => ?_
      have s8 := hU8.1.size
      have hr8 := tree_cu (hr6.ext hE7) hU8 (fun x hx => (hw6.blk hx).1)
      refine callWU (kid_c (i := 1) (by omega) (hsz 1 (by omega)) hw8 hr8) (aw (nx a6 (by omega) hU8)) fun A9 c9 w9 hw9 hU9 hh9 => ?_
      exact ⟨rfl, A9, c9, hw9, ((((CU.ext hE4).trans hU6).trans (CU.ext hE7)).trans hU8).trans hU9⟩
theorem rightE_c (e : Ex) {w : World} {F : Nat → Prop} {B : Option Addr} {l cc : Nat} (hr : ExsR w F e.kids B l cc) (hF : ∀ x, F x → x < w.heap.size) : CallsX E.P 49 #[exA e B l cc] w (IsV (.bool (rightE e)) w) never := by
  refine vc60 ?_
  intro id hid w1 hE1 hi1
  have hE1' : Ext w w1 := hE1
  have s1 := hE1'.size
  refine ⟨fun v w' => ∃ (s : ByteArray), v = .tuple #[.string s, .int .i64 (if rightE e then 0 else 122)] ∧ Ext w1 w', never, vc91 ?_, ?_, never_any⟩
  · intro id2 hid2 b hb hd w2 hE2 hi2 hb2 hh2
    have hne : id2 ≠ b := by unfold distL at hd; simpa using hd
    have hE2' : Ext w1 w2 := hE2
    have s2 := hE2'.size
    have hw2 : WrAt w2 b none 0 ⟨0, 0, 0, true⟩ := ⟨hh2, ⟨[], by simpa using World.ownsRow_nil w2 (b + 1) 5 1⟩, by decide⟩
    have hr2 : ExsR w2 (NB b) e.kids B l cc := ((hr.ext hE1').ext hE2').mono fun x hx => by have := hF x hx; show x < b; omega
    refine callWU (wpart_c e.size e (Nat.le_refl _) ⟨0, 0, 0, true⟩ false hw2 hr2) (fun j hj => by simp only [List.mem_cons, List.not_mem_nil, or_false] at hj; subst hj; exact ⟨hne, fun h => h.elim⟩) fun A' c' w3 hw3 hU3 => ⟨fun hok => ?_, fun hok => ?_⟩
    · exact ⟨ByteArray.mk #[], by unfold rightE; rw [if_neg (by simpa using hok)], Upd.step hE2' hU3.1 fun x hx => by rcases hx with h | h; omega; exact h.elim⟩
    · have hE3 : Ext w1 w3 := Upd.step hE2' hU3.1 fun x hx => by rcases hx with h | h; omega; exact h.elim
      obtain ⟨xs, hown⟩ := hw3.ho
      have hr4 : ∃ s : ByteArray, (convert 131 9 (.slice A' (partW e.size ⟨0, 0, 0, true⟩ e false).n c')).run E.P w3 = .ok (.string s) w3 := by
        generalize (partW e.size ⟨0, 0, 0, true⟩ e false).n = m at hown
        rcases hown.2 with ⟨e1, h0⟩ | ⟨g, cap, cur, e1, hbg, hgh, hnc, hcm, hcs, htk⟩
        · cases e1
          exact ⟨_, run_convert_bytes_nil (P := E.P) w3 131 5 Tryz.underlying131 Tryz.underlying5 _ _ 9 Tryz.underlying9⟩
        · cases e1
          refine ⟨_, run_convert_bytes_arg (P := E.P) w3 131 5 Tryz.underlying131 Tryz.underlying5 g 0 _ c' xs (by simpa using hown.1) (fun i hi => ?_) 9 Tryz.underlying9⟩
          have hxl : xs.length = m := by simpa using hown.1
          have hc := hown.cells (g := g) rfl i (.int .u8 (xs.getD i 0)) (by rw [List.getElem?_map, List.getD_eq_getElem?_getD, List.getElem?_eq_getElem (by omega)]; rfl)
          rw [add_plain] at hc
          exact hc
      obtain ⟨s, hr4⟩ := hr4
      refine ⟨fun v w' => v = .string s ∧ w' = w3, ⟨_, w3, hr4, rfl, rfl⟩, ?_⟩
      rintro v w4 ⟨rfl, rfl⟩
      exact ⟨s, rfl, no, Upd.refl _ _, Away.no _, s, by unfold rightE; rw [if_pos (by simpa using hok)], hE3⟩
  · rintro v w2 ⟨s, rfl, hE2⟩
    refine ⟨s, _, rfl, no, hE2, Away.no _, ?_, hE1'.trans hE2⟩
    cases rightE e <;> rfl
end Go.Vx.Tryz
namespace Go.Vx.Tryz
open Go Go.Vx Go.Proofs
set_option maxRecDepth 100000
variable {w : World} {R : Value → World → Prop} {X : ContX}
theorem vc121 {a : Nat} {a0 : Option Addr} {a0l a0c : Nat} {a1 a2 b c : Int} (ha : w.heap[a]? = some (.cells #[.slice a0 a0l a0c, .int .i64 a1, .int .i64 a2] 93 (0, 0))) (h : 
 dB (a1 == 0) (fL w [a] fun w1 => hA w1 a #[.slice a0 a0l a0c, .int .i64 b, .int .i64 c] 93 → R (.tuple #[]) w1) (hA w a #[.slice a0 a0l a0c, .int .i64 a1, .int .i64 a2] 93 → R (.tuple #[]) w)
 ) : CallsX E.P 92 #[.pointer (some ⟨a, 0, none⟩), .int .i64 b, .int .i64 c] w R X :=
  calls_vc E_ok ⟨[], []⟩ (f := 92) Tryz.func92 rfl [(.pointer (some ⟨a, 0, none⟩), .ptr 0 0), (.int .i64 b, .no), (.int .i64 c, .no)] [⟨a, 93, false, [⟨.slice a0 a0l a0c, .no, 0⟩, ⟨.int .i64 a1, .no, 0⟩, ⟨.int .i64 a2, .no, 0⟩]⟩] (bls1 ha) nod1 (plain_of rfl) (shs_of ⟨rfl, trivial, trivial, trivial⟩) h (by kernel_rfl)
theorem vc92 {a : Nat} {a0 : Option Addr} {a0l a0c : Nat} {a1 a2 b0 b1 : Int} {b2 : ByteArray} {b3 : Option Addr} {b3l b3c : Nat} {b4 : Int} (ha : w.heap[a]? = some (.cells #[.slice a0 a0l a0c, .int .i64 a1, .int .i64 a2] 93 (0, 0))) (h : 
 nB w fun id => fL w [] fun w1 => id < w1.heap.size → ∃ (I : Int → World → Prop), ∃ (m : Int → Nat), I 0 w1 ∧ ∀ (jk : Nat → Value) (x : Int) (w2 : World), I x w2 → dB (decide (x < (↑a0l : Int))) (iX x a0l a0 fun ad => fL w2 [] fun w11 => lT w11 (Addr.add ad (Int.toNat x * 1)) fun x1 => dB (strEq x1 b2) (hA w11 a #[.slice a0 a0l a0c, .int .i64 a1, .int .i64 a2] 93 → R (.int .i64 3) w11) (I (w64 (x + 1)) w11 ∧ m (w64 (x + 1)) < m x)) (hA w2 a #[.slice a0 a0l a0c, .int .i64 a1, .int .i64 a2] 93 → cU 92 #[.pointer (some ⟨a, 0, none⟩), .int .i64 130, .int .i64 b4] w2 [id] X fun v1 w21 => ∃ a1 n, ∃ c x2 x3, hA w21 a #[.slice a1 n c, .int .i64 x2, .int .i64 x3] 93 ∧ 3 = 3 ∧ (hA w21 a #[.slice a1 n c, .int .i64 x2, .int .i64 x3] 93 → R (.int .i64 0) w21))
 ) : CallsX E.P 72 #[.pointer (some ⟨a, 0, none⟩), Ae b0 b1 b2 b3 b3l b3c b4] w R X :=
  calls_vc E_ok ⟨[(2, ⟨[(5, .int .i64)], []⟩)], []⟩ (f := 72) Tryz.func72 rfl [(.pointer (some ⟨a, 0, none⟩), .ptr 0 0), (Ae b0 b1 b2 b3 b3l b3c b4, .no)] [⟨a, 93, false, [⟨.slice a0 a0l a0c, .no, 0⟩, ⟨.int .i64 a1, .no, 0⟩, ⟨.int .i64 a2, .no, 0⟩]⟩] (bls1 ha) nod1 (plain_of rfl) (shs_of ⟨rfl, trivial, trivial⟩) h (by kernel_rfl)
theorem vc93 {a : Nat} {a0 : Option Addr} {a0l a0c : Nat} {a1 a2 b0 b1 : Int} {b2 : ByteArray} {b3 : Option Addr} {b3l b3c : Nat} {b4 c : Int} (ha : w.heap[a]? = some (.cells #[.slice a0 a0l a0c, .int .i64 a1, .int .i64 a2] 93 (0, 0))) (h : 
 nB w fun id => dB (a1 != 0) (fL w [] fun w1 => id < w1.heap.size → hA w1 a #[.slice a0 a0l a0c, .int .i64 a1, .int .i64 a2] 93 → R (.tuple #[]) w1) (fL w [] fun w11 => id < w11.heap.size → hA w11 a #[.slice a0 a0l a0c, .int .i64 a1, .int .i64 a2] 93 → cI 50 #[.pointer (some ⟨a, 0, none⟩), Ae b0 b1 b2 b3 b3l b3c b4] w11 [id] X fun x w2 => ∃ a1 n, ∃ c1 x1 x2, hA w2 a #[.slice a1 n c1, .int .i64 x1, .int .i64 x2] 93 ∧ 3 = 3 ∧ dB (x1 == 0) (dB (x != c) (hA w2 a #[.slice a1 n c1, .int .i64 x1, .int .i64 x2] 93 → cU 92 #[.pointer (some ⟨a, 0, none⟩), .int .i64 131, .int .i64 b4] w2 [id] X fun v2 w21 => ∃ a2 n1, ∃ c2 x3 x4, hA w21 a #[.slice a2 n1 c2, .int .i64 x3, .int .i64 x4] 93 ∧ 3 = 3 ∧ (hA w21 a #[.slice a2 n1 c2, .int .i64 x3, .int .i64 x4] 93 → R (.tuple #[]) w21)) (hA w2 a #[.slice a1 n c1, .int .i64 x1, .int .i64 x2] 93 → R (.tuple #[]) w2)) (hA w2 a #[.slice a1 n c1, .int .i64 x1, .int .i64 x2] 93 → R (.tuple #[]) w2))
 ) : CallsX E.P 73 #[.pointer (some ⟨a, 0, none⟩), Ae b0 b1 b2 b3 b3l b3c b4, .int .i64 c] w R X :=
  calls_vc E_ok ⟨[], []⟩ (f := 73) Tryz.func73 rfl [(.pointer (some ⟨a, 0, none⟩), .ptr 0 0), (Ae b0 b1 b2 b3 b3l b3c b4, .no), (.int .i64 c, .no)] [⟨a, 93, false, [⟨.slice a0 a0l a0c, .no, 0⟩, ⟨.int .i64 a1, .no, 0⟩, ⟨.int .i64 a2, .no, 0⟩]⟩] (bls1 ha) nod1 (plain_of rfl) (shs_of ⟨rfl, trivial, trivial, trivial⟩) h (by kernel_rfl)
theorem vc94 {a : Nat} {a0 : Option Addr} {a0l a0c : Nat} {a1 a2 b0 b1 : Int} {b2 : ByteArray} {b3 : Option Addr} {b3l b3c : Nat} {b4 c d : Int} (ha : w.heap[a]? = some (.cells #[.slice a0 a0l a0c, .int .i64 a1, .int .i64 a2] 93 (0, 0))) (h : 
 nB w fun id => iX 0 b3l b3 fun ad => fL w [] fun w1 => id < w1.heap.size → lE w1 (Addr.add ad 0) fun x x1 x2 a1_1 n c1 x3 => hA w1 a #[.slice a0 a0l a0c, .int .i64 a1, .int .i64 a2] 93 → cU 73 #[.pointer (some ⟨a, 0, none⟩), Ae x x1 x2 a1_1 n c1 x3, .int .i64 c] w1 [id] X fun v1 w2 => ∃ a2 n1, ∃ c2 x4 x5, hA w2 a #[.slice a2 n1 c2, .int .i64 x4, .int .i64 x5] 93 ∧ 3 = 3 ∧ iX 1 b3l b3 fun ad1 => lE w2 (Addr.add ad1 5) fun x6 x7 x8 a3 n2 c3 x9 => hA w2 a #[.slice a2 n1 c2, .int .i64 x4, .int .i64 x5] 93 → cU 73 #[.pointer (some ⟨a, 0, none⟩), Ae x6 x7 x8 a3 n2 c3 x9, .int .i64 c] w2 [id] X fun v3 w21 => ∃ a4 n3, ∃ c4 x10 x11, hA w21 a #[.slice a4 n3 c4, .int .i64 x10, .int .i64 x11] 93 ∧ 3 = 3 ∧ (hA w21 a #[.slice a4 n3 c4, .int .i64 x10, .int .i64 x11] 93 → R (.int .i64 d) w21)
 ) : CallsX E.P 74 #[.pointer (some ⟨a, 0, none⟩), Ae b0 b1 b2 b3 b3l b3c b4, .int .i64 c, .int .i64 d] w R X :=
  calls_vc E_ok ⟨[], []⟩ (f := 74) Tryz.func74 rfl [(.pointer (some ⟨a, 0, none⟩), .ptr 0 0), (Ae b0 b1 b2 b3 b3l b3c b4, .no), (.int .i64 c, .no), (.int .i64 d, .no)] [⟨a, 93, false, [⟨.slice a0 a0l a0c, .no, 0⟩, ⟨.int .i64 a1, .no, 0⟩, ⟨.int .i64 a2, .no, 0⟩]⟩] (bls1 ha) nod1 (plain_of rfl) (shs_of ⟨rfl, trivial, trivial, trivial, trivial⟩) h (by kernel_rfl)
theorem vc96 {a : Nat} {a0 : Option Addr} {a0l a0c : Nat} {a1 a2 b0 b1 : Int} {b2 : ByteArray} {b3 : Option Addr} {b3l b3c : Nat} {b4 : Int} (ha : w.heap[a]? = some (.cells #[.slice a0 a0l a0c, .int .i64 a1, .int .i64 a2] 93 (0, 0))) (h : 
 nB w fun id => iX 0 b3l b3 fun ad => fL w [] fun w1 => id < w1.heap.size → lE w1 (Addr.add ad 0) fun x x1 x2 a1_1 n c x3 => nB w1 fun id1 => fL w1 [] fun w11 => id1 < w11.heap.size → ∃ (I : Int → Option Addr → Nat → Nat → Int → Int → World → Prop), ∃ (m : Int → Option Addr → Nat → Nat → Int → Int → Nat), I 0 a0 a0l a0c a1 a2 w11 ∧ ∀ (jk : Nat → Value) (x4 : Int) (a2 : Option Addr) (n1 c1 : Nat) (x5 x6 : Int) (w2 : World), I x4 a2 n1 c1 x5 x6 w2 → dB (decide (x4 < (↑n : Int))) (iX x4 n a1_1 fun ad1 => lE w2 (Addr.add ad1 (Int.toNat x4 * 5)) fun x7 x8 x9 a3 n2 c2 x10 => hA w2 a #[.slice a2 n1 c1, .int .i64 x5, .int .i64 x6] 93 → cU 73 #[.pointer (some ⟨a, 0, none⟩), Ae x7 x8 x9 a3 n2 c2 x10, .int .i64 3] w2 [id, id1] X fun v1 w21 => ∃ a4 n3, ∃ c3 x11 x12, hA w21 a #[.slice a4 n3 c3, .int .i64 x11, .int .i64 x12] 93 ∧ 3 = 3 ∧ I (w64 (x4 + 1)) a4 n3 c3 x11 x12 w21 ∧ m (w64 (x4 + 1)) a4 n3 c3 x11 x12 < m x4 a2 n1 c1 x5 x6) (∃ R2, RunsTo E.P (Builtin.append_ #[85, 85] 85 #[.slice none 0 0, .slice a2 n1 c1]) w2 R2 ∧ ∀ v2 w23, R2 v2 w23 → ∃ a5 n4 c4, v2 = .slice a5 n4 c4 ∧ ∃ S1, Upd w2 w23 S1 ∧ Away [a, id, id1] S1 ∧ nB w23 fun id2 => fL w23 [] fun w12 => id2 < w12.heap.size → hA w12 id2 #[.string b2] 9 → ∃ R3, RunsTo E.P (Builtin.append_ #[85, 85] 85 #[.slice a5 n4 c4, .slice (some ⟨id2, 0, none⟩) 1 1]) w12 R3 ∧ ∀ v3 w24, R3 v3 w24 → ∃ a6 n5 c5, v3 = .slice a6 n5 c5 ∧ ∃ S2, Upd w12 w24 S2 ∧ Away [a, id, id1, id2] S2 ∧ iX 1 b3l b3 fun ad2 => (fL w24 [a] fun w13 => hA w13 id2 #[.string b2] 9 → lE w13 (Addr.add ad2 5) fun x13 x14 x15 a7 n6 c6 x16 => hA w13 id2 #[.string b2] 9 → cI 93 #[.int .i64 b1] w13 [a, id, id1, id2] X fun x17 w25 => hA w25 a #[.slice a6 n5 c5, .int .i64 x5, .int .i64 x6] 93 → hA w25 id2 #[.string b2] 9 → cU 73 #[.pointer (some ⟨a, 0, none⟩), Ae x13 x14 x15 a7 n6 c6 x16, .int .i64 x17] w25 [id, id1, id2] X fun v6 w26 => ∃ a8 n7, ∃ c7 x18 x19, hA w26 a #[.slice a8 n7 c7, .int .i64 x18, .int .i64 x19] 93 ∧ 3 = 3 ∧ fL w26 [a] fun w14 => hA w14 id2 #[.string b2] 9 → cI 94 #[.int .i64 b1] w14 [a, id, id1, id2] X fun x20 w27 => hA w27 a #[.slice a2 n1 c1, .int .i64 x18, .int .i64 x19] 93 → hA w27 id2 #[.string b2] 9 → R (.int .i64 x20) w27) ∧ fL w24 [a] fun w15 => hA w15 id2 #[.string b2] 9 → cI 93 #[.int .i64 b1] w15 [a, id, id1, id2] X fun x21 w211 => hA w211 id2 #[.string b2] 9 → lE w211 (Addr.add ad2 5) fun x22 x23 x24 a9 n8 c8 x25 => hA w211 a #[.slice a6 n5 c5, .int .i64 x5, .int .i64 x6] 93 → hA w211 id2 #[.string b2] 9 → cU 73 #[.pointer (some ⟨a, 0, none⟩), Ae x22 x23 x24 a9 n8 c8 x25, .int .i64 x21] w211 [id, id1, id2] X fun v10 w212 => ∃ a10 n9, ∃ c9 x26 x27, hA w212 a #[.slice a10 n9 c9, .int .i64 x26, .int .i64 x27] 93 ∧ 3 = 3 ∧ fL w212 [a] fun w16 => hA w16 id2 #[.string b2] 9 → cI 94 #[.int .i64 b1] w16 [a, id, id1, id2] X fun x28 w213 => hA w213 a #[.slice a2 n1 c1, .int .i64 x26, .int .i64 x27] 93 → hA w213 id2 #[.string b2] 9 → R (.int .i64 x28) w213)
 ) : CallsX E.P 76 #[.pointer (some ⟨a, 0, none⟩), Ae b0 b1 b2 b3 b3l b3c b4] w R X :=
  calls_vc E_ok ⟨[(3, ⟨[(6, .int .i64)], [(0, 0, .slc), (0, 1, .int .i64), (0, 2, .int .i64)]⟩)], []⟩ (f := 76) Tryz.func76 rfl [(.pointer (some ⟨a, 0, none⟩), .ptr 0 0), (Ae b0 b1 b2 b3 b3l b3c b4, .no)] [⟨a, 93, false, [⟨.slice a0 a0l a0c, .no, 0⟩, ⟨.int .i64 a1, .no, 0⟩, ⟨.int .i64 a2, .no, 0⟩]⟩] (bls1 ha) nod1 (plain_of rfl) (shs_of ⟨rfl, trivial, trivial⟩) h (by kernel_rfl)
theorem vc61 {a : Nat} {a0 : Option Addr} {a0l a0c : Nat} {a1 a2 b0 b1 : Int} {b2 : ByteArray} {b3 : Option Addr} {b3l b3c : Nat} {b4 : Int} (ha : w.heap[a]? = some (.cells #[.slice a0 a0l a0c, .int .i64 a1, .int .i64 a2] 93 (0, 0))) (h : 
 nB w fun id => dB (b0 == 1) (fL w [] fun w1 => id < w1.heap.size → hA w1 a #[.slice a0 a0l a0c, .int .i64 a1, .int .i64 a2] 93 → R (.int .i64 1) w1) (dB (b0 == 2) (fL w [] fun w11 => id < w11.heap.size → hA w11 a #[.slice a0 a0l a0c, .int .i64 a1, .int .i64 a2] 93 → R (.int .i64 2) w11) (dB (b0 == 3) (fL w [] fun w12 => id < w12.heap.size → hA w12 a #[.slice a0 a0l a0c, .int .i64 a1, .int .i64 a2] 93 → R (.int .i64 3) w12) (dB (b0 == 4) (fL w [] fun w13 => id < w13.heap.size → hA w13 a #[.slice a0 a0l a0c, .int .i64 a1, .int .i64 a2] 93 → cI 72 #[.pointer (some ⟨a, 0, none⟩), Ae b0 b1 b2 b3 b3l b3c b4] w13 [id] X fun x w2 => ∃ a1 n, ∃ c x1 x2, hA w2 a #[.slice a1 n c, .int .i64 x1, .int .i64 x2] 93 ∧ 3 = 3 ∧ (hA w2 a #[.slice a1 n c, .int .i64 x1, .int .i64 x2] 93 → R (.int .i64 x) w2)) (dB (b0 == 6) (iX 0 b3l b3 fun ad => fL w [] fun w14 => id < w14.heap.size → lE w14 (Addr.add ad 0) fun x3 x4 x5 a2_1 n1 c1 x6 => hA w14 a #[.slice a0 a0l a0c, .int .i64 a1, .int .i64 a2] 93 → cU 73 #[.pointer (some ⟨a, 0, none⟩), Ae x3 x4 x5 a2_1 n1 c1 x6, .int .i64 1] w14 [id] X fun v2 w22 => ∃ a3 n2, ∃ c2 x7 x8, hA w22 a #[.slice a3 n2 c2, .int .i64 x7, .int .i64 x8] 93 ∧ 3 = 3 ∧ (hA w22 a #[.slice a3 n2 c2, .int .i64 x7, .int .i64 x8] 93 → R (.int .i64 1) w22)) (dB (b0 == 7) (iX 0 b3l b3 fun ad1 => fL w [] fun w15 => id < w15.heap.size → lE w15 (Addr.add ad1 0) fun x9 x10 x11 a4 n3 c3 x12 => hA w15 a #[.slice a0 a0l a0c, .int .i64 a1, .int .i64 a2] 93 → cU 73 #[.pointer (some ⟨a, 0, none⟩), Ae x9 x10 x11 a4 n3 c3 x12, .int .i64 2] w15 [id] X fun v4 w24 => ∃ a5 n4, ∃ c4 x13 x14, hA w24 a #[.slice a5 n4 c4, .int .i64 x13, .int .i64 x14] 93 ∧ 3 = 3 ∧ (hA w24 a #[.slice a5 n4 c4, .int .i64 x13, .int .i64 x14] 93 → R (.int .i64 2) w24)) (dB (b0 == 8) (fL w [] fun w16 => id < w16.heap.size → hA w16 a #[.slice a0 a0l a0c, .int .i64 a1, .int .i64 a2] 93 → cI 74 #[.pointer (some ⟨a, 0, none⟩), Ae b0 b1 b2 b3 b3l b3c b4, .int .i64 1, .int .i64 1] w16 [id] X fun x15 w26 => ∃ a6 n5, ∃ c5 x16 x17, hA w26 a #[.slice a6 n5 c5, .int .i64 x16, .int .i64 x17] 93 ∧ 3 = 3 ∧ (hA w26 a #[.slice a6 n5 c5, .int .i64 x16, .int .i64 x17] 93 → R (.int .i64 x15) w26)) (dB (b0 == 9) (fL w [] fun w17 => id < w17.heap.size → hA w17 a #[.slice a0 a0l a0c, .int .i64 a1, .int .i64 a2] 93 → cI 74 #[.pointer (some ⟨a, 0, none⟩), Ae b0 b1 b2 b3 b3l b3c b4, .int .i64 1, .int .i64 1] w17 [id] X fun x18 w28 => ∃ a7 n6, ∃ c6 x19 x20, hA w28 a #[.slice a7 n6 c6, .int .i64 x19, .int .i64 x20] 93 ∧ 3 = 3 ∧ (hA w28 a #[.slice a7 n6 c6, .int .i64 x19, .int .i64 x20] 93 → R (.int .i64 x18) w28)) (dB (b0 == 10) (fL w [] fun w18 => id < w18.heap.size → hA w18 a #[.slice a0 a0l a0c, .int .i64 a1, .int .i64 a2] 93 → cI 74 #[.pointer (some ⟨a, 0, none⟩), Ae b0 b1 b2 b3 b3l b3c b4, .int .i64 1, .int .i64 1] w18 [id] X fun x21 w210 => ∃ a8 n7, ∃ c7 x22 x23, hA w210 a #[.slice a8 n7 c7, .int .i64 x22, .int .i64 x23] 93 ∧ 3 = 3 ∧ (hA w210 a #[.slice a8 n7 c7, .int .i64 x22, .int .i64 x23] 93 → R (.int .i64 x21) w210)) (dB (b0 == 11) (fL w [] fun w19 => id < w19.heap.size → hA w19 a #[.slice a0 a0l a0c, .int .i64 a1, .int .i64 a2] 93 → cI 74 #[.pointer (some ⟨a, 0, none⟩), Ae b0 b1 b2 b3 b3l b3c b4, .int .i64 1, .int .i64 1] w19 [id] X fun x24 w212 => ∃ a9 n8, ∃ c8 x25 x26, hA w212 a #[.slice a9 n8 c8, .int .i64 x25, .int .i64 x26] 93 ∧ 3 = 3 ∧ (hA w212 a #[.slice a9 n8 c8, .int .i64 x25, .int .i64 x26] 93 → R (.int .i64 x24) w212)) (dB (b0 == 12) (fL w [] fun w110 => id < w110.heap.size → hA w110 a #[.slice a0 a0l a0c, .int .i64 a1, .int .i64 a2] 93 → cI 74 #[.pointer (some ⟨a, 0, none⟩), Ae b0 b1 b2 b3 b3l b3c b4, .int .i64 1, .int .i64 1] w110 [id] X fun x27 w214 => ∃ a10 n9, ∃ c9 x28 x29, hA w214 a #[.slice a10 n9 c9, .int .i64 x28, .int .i64 x29] 93 ∧ 3 = 3 ∧ (hA w214 a #[.slice a10 n9 c9, .int .i64 x28, .int .i64 x29] 93 → R (.int .i64 x27) w214)) (dB (b0 == 15) (fL w [] fun w111 => id < w111.heap.size → hA w111 a #[.slice a0 a0l a0c, .int .i64 a1, .int .i64 a2] 93 → cI 74 #[.pointer (some ⟨a, 0, none⟩), Ae b0 b1 b2 b3 b3l b3c b4, .int .i64 1, .int .i64 2] w111 [id] X fun x30 w216 => ∃ a11 n10, ∃ c10 x31 x32, hA w216 a #[.slice a11 n10 c10, .int .i64 x31, .int .i64 x32] 93 ∧ 3 = 3 ∧ (hA w216 a #[.slice a11 n10 c10, .int .i64 x31, .int .i64 x32] 93 → R (.int .i64 x30) w216)) (dB (b0 == 16) (fL w [] fun w112 => id < w112.heap.size → hA w112 a #[.slice a0 a0l a0c, .int .i64 a1, .int .i64 a2] 93 → cI 74 #[.pointer (some ⟨a, 0, none⟩), Ae b0 b1 b2 b3 b3l b3c b4, .int .i64 1, .int .i64 2] w112 [id] X fun x33 w218 => ∃ a12 n11, ∃ c11 x34 x35, hA w218 a #[.slice a12 n11 c11, .int .i64 x34, .int .i64 x35] 93 ∧ 3 = 3 ∧ (hA w218 a #[.slice a12 n11 c11, .int .i64 x34, .int .i64 x35] 93 → R (.int .i64 x33) w218)) (dB (b0 == 17) (fL w [] fun w113 => id < w113.heap.size → hA w113 a #[.slice a0 a0l a0c, .int .i64 a1, .int .i64 a2] 93 → cI 74 #[.pointer (some ⟨a, 0, none⟩), Ae b0 b1 b2 b3 b3l b3c b4, .int .i64 2, .int .i64 2] w113 [id] X fun x36 w220 => ∃ a13 n12, ∃ c12 x37 x38, hA w220 a #[.slice a13 n12 c12, .int .i64 x37, .int .i64 x38] 93 ∧ 3 = 3 ∧ (hA w220 a #[.slice a13 n12 c12, .int .i64 x37, .int .i64 x38] 93 → R (.int .i64 x36) w220)) (dB (b0 == 18) (fL w [] fun w114 => id < w114.heap.size → hA w114 a #[.slice a0 a0l a0c, .int .i64 a1, .int .i64 a2] 93 → cI 74 #[.pointer (some ⟨a, 0, none⟩), Ae b0 b1 b2 b3 b3l b3c b4, .int .i64 2, .int .i64 2] w114 [id] X fun x39 w222 => ∃ a14 n13, ∃ c13 x40 x41, hA w222 a #[.slice a14 n13 c13, .int .i64 x40, .int .i64 x41] 93 ∧ 3 = 3 ∧ (hA w222 a #[.slice a14 n13 c13, .int .i64 x40, .int .i64 x41] 93 → R (.int .i64 x39) w222)) (dB (b0 == 13) (iX 0 b3l b3 fun ad2 => fL w [] fun w115 => id < w115.heap.size → lE w115 (Addr.add ad2 0) fun x42 x43 x44 a15 n14 c14 x45 => hA w115 a #[.slice a0 a0l a0c, .int .i64 a1, .int .i64 a2] 93 → cI 50 #[.pointer (some ⟨a, 0, none⟩), Ae x42 x43 x44 a15 n14 c14 x45] w115 [id] X fun x46 w224 => ∃ a16 n15, ∃ c15 x47 x48, hA w224 a #[.slice a16 n15 c15, .int .i64 x47, .int .i64 x48] 93 ∧ 3 = 3 ∧ iX 1 b3l b3 fun ad3 => lE w224 (Addr.add ad3 5) fun x49 x50 x51 a17 n16 c16 x52 => hA w224 a #[.slice a16 n15 c15, .int .i64 x47, .int .i64 x48] 93 → cU 73 #[.pointer (some ⟨a, 0, none⟩), Ae x49 x50 x51 a17 n16 c16 x52, .int .i64 x46] w224 [id] X fun v16 w225 => ∃ a18 n17, ∃ c17 x53 x54, hA w225 a #[.slice a18 n17 c17, .int .i64 x53, .int .i64 x54] 93 ∧ 3 = 3 ∧ (hA w225 a #[.slice a18 n17 c17, .int .i64 x53, .int .i64 x54] 93 → R (.int .i64 2) w225)) (dB (b0 == 14) (iX 0 b3l b3 fun ad4 => fL w [] fun w116 => id < w116.heap.size → lE w116 (Addr.add ad4 0) fun x55 x56 x57 a19 n18 c18 x58 => hA w116 a #[.slice a0 a0l a0c, .int .i64 a1, .int .i64 a2] 93 → cI 50 #[.pointer (some ⟨a, 0, none⟩), Ae x55 x56 x57 a19 n18 c18 x58] w116 [id] X fun x59 w228 => ∃ a20 n19, ∃ c19 x60 x61, hA w228 a #[.slice a20 n19 c19, .int .i64 x60, .int .i64 x61] 93 ∧ 3 = 3 ∧ iX 1 b3l b3 fun ad5 => lE w228 (Addr.add ad5 5) fun x62 x63 x64 a21 n20 c20 x65 => hA w228 a #[.slice a20 n19 c19, .int .i64 x60, .int .i64 x61] 93 → cU 73 #[.pointer (some ⟨a, 0, none⟩), Ae x62 x63 x64 a21 n20 c20 x65, .int .i64 x59] w228 [id] X fun v19 w229 => ∃ a22 n21, ∃ c21 x66 x67, hA w229 a #[.slice a22 n21 c21, .int .i64 x66, .int .i64 x67] 93 ∧ 3 = 3 ∧ (hA w229 a #[.slice a22 n21 c21, .int .i64 x66, .int .i64 x67] 93 → R (.int .i64 2) w229)) (dB (b0 == 19) (iX 0 b3l b3 fun ad6 => fL w [] fun w117 => id < w117.heap.size → lE w117 (Addr.add ad6 0) fun x68 x69 x70 a23 n22 c22 x71 => hA w117 a #[.slice a0 a0l a0c, .int .i64 a1, .int .i64 a2] 93 → cU 73 #[.pointer (some ⟨a, 0, none⟩), Ae x68 x69 x70 a23 n22 c22 x71, .int .i64 2] w117 [id] X fun v21 w232 => ∃ a24 n23, ∃ c23 x72 x73, hA w232 a #[.slice a24 n23 c23, .int .i64 x72, .int .i64 x73] 93 ∧ 3 = 3 ∧ dB (x72 != 0) (hA w232 a #[.slice a24 n23 c23, .int .i64 x72, .int .i64 x73] 93 → R (.int .i64 0) w232) (iX 1 b3l b3 fun ad7 => lE w232 (Addr.add ad7 5) fun x74 x75 x76 a25 n24 c24 x77 => hA w232 a #[.slice a24 n23 c23, .int .i64 x72, .int .i64 x73] 93 → cI 50 #[.pointer (some ⟨a, 0, none⟩), Ae x74 x75 x76 a25 n24 c24 x77] w232 [id] X fun x78 w233 => ∃ a26 n25, ∃ c25 x79 x80, hA w233 a #[.slice a26 n25 c25, .int .i64 x79, .int .i64 x80] 93 ∧ 3 = 3 ∧ iX 2 b3l b3 fun ad8 => lE w233 (Addr.add ad8 10) fun x81 x82 x83 a27 n26 c26 x84 => hA w233 a #[.slice a26 n25 c25, .int .i64 x79, .int .i64 x80] 93 → cU 73 #[.pointer (some ⟨a, 0, none⟩), Ae x81 x82 x83 a27 n26 c26 x84, .int .i64 x78] w233 [id] X fun v24 w234 => ∃ a28 n27, ∃ c27 x85 x86, hA w234 a #[.slice a28 n27 c27, .int .i64 x85, .int .i64 x86] 93 ∧ 3 = 3 ∧ (hA w234 a #[.slice a28 n27 c27, .int .i64 x85, .int .i64 x86] 93 → R (.int .i64 x78) w234))) (dB (b0 == 20) (fL w [] fun w118 => id < w118.heap.size → ∃ (I : Int → Option Addr → Nat → Nat → Int → Int → World → Prop), ∃ (m : Int → Option Addr → Nat → Nat → Int → Int → Nat), I 0 a0 a0l a0c a1 a2 w118 ∧ ∀ (jk : Nat → Value) (x87 : Int) (a29 : Option Addr) (n28 c28 : Nat) (x88 x89 : Int) (w238 : World), I x87 a29 n28 c28 x88 x89 w238 → dB (decide (x87 < (↑b3l : Int))) (iX x87 b3l b3 fun ad9 => lE w238 (Addr.add ad9 (Int.toNat x87 * 5)) fun x90 x91 x92 a30 n29 c29 x93 => hA w238 a #[.slice a29 n28 c28, .int .i64 x88, .int .i64 x89] 93 → cU 73 #[.pointer (some ⟨a, 0, none⟩), Ae x90 x91 x92 a30 n29 c29 x93, .int .i64 3] w238 [id] X fun v26 w239 => ∃ a31 n30, ∃ c30 x94 x95, hA w239 a #[.slice a31 n30 c30, .int .i64 x94, .int .i64 x95] 93 ∧ 3 = 3 ∧ I (w64 (x87 + 1)) a31 n30 c30 x94 x95 w239 ∧ m (w64 (x87 + 1)) a31 n30 c30 x94 x95 < m x87 a29 n28 c28 x88 x89) (cI 75 #[.int .i64 b1] w238 [a, id] X fun x96 w241 => hA w241 a #[.slice a29 n28 c28, .int .i64 x88, .int .i64 x89] 93 → R (.int .i64 x96) w241)) (fL w [] fun w119 => id < w119.heap.size → hA w119 a #[.slice a0 a0l a0c, .int .i64 a1, .int .i64 a2] 93 → cI 76 #[.pointer (some ⟨a, 0, none⟩), Ae b0 b1 b2 b3 b3l b3c b4] w119 [id] X fun x97 w243 => ∃ a32 n31, ∃ c31 x98 x99, hA w243 a #[.slice a32 n31 c31, .int .i64 x98, .int .i64 x99] 93 ∧ 3 = 3 ∧ (hA w243 a #[.slice a32 n31 c31, .int .i64 x98, .int .i64 x99] 93 → R (.int .i64 x97) w243))))))))))))))))))))
 ) : CallsX E.P 50 #[.pointer (some ⟨a, 0, none⟩), Ae b0 b1 b2 b3 b3l b3c b4] w R X :=
  calls_vc E_ok ⟨[(42, ⟨[(7, .int .i64)], [(0, 0, .slc), (0, 1, .int .i64), (0, 2, .int .i64)]⟩)], []⟩ (f := 50) Tryz.func50 rfl [(.pointer (some ⟨a, 0, none⟩), .ptr 0 0), (Ae b0 b1 b2 b3 b3l b3c b4, .no)] [⟨a, 93, false, [⟨.slice a0 a0l a0c, .no, 0⟩, ⟨.int .i64 a1, .no, 0⟩, ⟨.int .i64 a2, .no, 0⟩]⟩] (bls1 ha) nod1 (plain_of rfl) (shs_of ⟨rfl, trivial, trivial⟩) h (by kernel_rfl)
theorem vc40 {a0 a1 : Int} {a2 : ByteArray} {a3 : Option Addr} {a3l a3c : Nat} {a4 : Int}  (h : 
 nB w fun id => fL w [] fun w1 => id < w1.heap.size → cB 49 #[Ae a0 a1 a2 a3 a3l a3c a4] w1 [id] X fun x w2 => dB (!x) (R (.tuple #[.int .i64 0, .int .i64 122, .int .i64 0]) w2) (nB w2 fun id1 => fL w2 [] fun w11 => id1 < w11.heap.size → hA w11 id1 #[.slice none 0 0, .int .i64 0, .int .i64 0] 93 → cI 50 #[.pointer (some ⟨id1, 0, none⟩), Ae a0 a1 a2 a3 a3l a3c a4] w11 [id] X fun x1 w21 => ∃ a n, ∃ c x2 x3, hA w21 id1 #[.slice a n c, .int .i64 x2, .int .i64 x3] 93 ∧ 3 = 3 ∧ dB (x2 != 0) (fL w21 [] fun w12 => R (.tuple #[.int .i64 0, .int .i64 x2, .int .i64 x3]) w12) (R (.tuple #[.int .i64 x1, .int .i64 0, .int .i64 0]) w21))
 ) : CallsX E.P 30 #[Ae a0 a1 a2 a3 a3l a3c a4] w R X :=
  calls_vc E_ok ⟨[], []⟩ (f := 30) Tryz.func30 rfl [(Ae a0 a1 a2 a3 a3l a3c a4, .no)] [] (bls0) nod0 (plain_of rfl) (shs_of ⟨trivial, trivial⟩) h (by kernel_rfl)
theorem vc41 {a0 a1 : Int} {a2 : ByteArray} {a3 : Option Addr} {a3l a3c : Nat} {a4 : Int} {b : Option Addr} {bl bc : Nat}  (h : 
 nB w fun id => nB w fun id1 => nB w fun id2 => ∃ (I : Int → Int → ByteArray → Option Addr → Nat → Nat → Int → Int → ByteArray → World → Prop), dB (a0 == 4) (fL w [] fun w1 => id < w1.heap.size → id1 < w1.heap.size → id2 < w1.heap.size → ∃ (I1 : Int → Int → World → Prop), ∃ (m : Int → Int → Nat), I1 0 a1 w1 ∧ ∀ (jk : Nat → Value) (x x1 : Int) (w2 : World), I1 x x1 w2 → dB (decide (x < (↑bl : Int))) (iX x bl b fun ad => fL w2 [] fun w11 => lT w11 (Addr.add ad (Int.toNat x * 1)) fun x2 => dB (strEq x2 a2) (fL w11 [id2] fun w12 => I1 (w64 (x + 1)) x w12 ∧ m (w64 (x + 1)) x < m x x1) (I1 (w64 (x + 1)) x1 w11 ∧ m (w64 (x + 1)) x1 < m x x1)) (fL w2 [id1] fun w13 => R (Av 5 x1 (ByteArray.mk #[]) none 0 0) w13)) (dB (a0 == 23) (fL w [] fun w14 => id < w14.heap.size → id1 < w14.heap.size → id2 < w14.heap.size → I 0 0 (ByteArray.mk #[]) none 0 0 a0 a1 a2 w14) (fL w [] fun w15 => id < w15.heap.size → id1 < w15.heap.size → id2 < w15.heap.size → I 0 0 (ByteArray.mk #[]) none 0 0 a0 a1 (ByteArray.mk #[]) w15)) ∧ ∀ (jk1 : Nat → Value) (x3 x4 : Int) (x5 : ByteArray) (a : Option Addr) (n c : Nat) (x6 x7 : Int) (x8 : ByteArray) (w21 : World), I x3 x4 x5 a n c x6 x7 x8 w21 → ∃ (I2 : Int → Option Addr → Nat → Nat → World → Prop), ∃ (m1 : Int → Option Addr → Nat → Nat → Nat), I2 0 none 0 0 w21 ∧ ∀ (jk2 : Nat → Value) (x9 : Int) (a1 : Option Addr) (n1 c1 : Nat) (w22 : World), I2 x9 a1 n1 c1 w22 → dB (decide (x9 < (↑a3l : Int))) (∃ (I3 : Option Addr → Nat → Nat → World → Prop), dB (a0 == 21) (dB (x9 == 1) (∃ R1, RunsTo E.P (Builtin.append_ #[85, 85] 85 #[.slice none 0 0, .slice b bl bc]) w22 R1 ∧ ∀ v w23, R1 v w23 → ∃ a2_1 n2 c2, v = .slice a2_1 n2 c2 ∧ ∃ S, Upd w22 w23 S ∧ Away [id, id1, id2] S ∧ nB w23 fun id3 => fL w23 [] fun w16 => id3 < w16.heap.size → hA w16 id3 #[.string a2] 9 → ∃ R2, RunsTo E.P (Builtin.append_ #[85, 85] 85 #[.slice a2_1 n2 c2, .slice (some ⟨id3, 0, none⟩) 1 1]) w16 R2 ∧ ∀ v1 w24, R2 v1 w24 → ∃ a3 n3 c3, v1 = .slice a3 n3 c3 ∧ ∃ S1, Upd w16 w24 S1 ∧ Away [id, id1, id2, id3] S1 ∧ (hA w24 id3 #[.string a2] 9 → I3 a3 n3 c3 w24)) (I3 b bl bc w22)) (I3 b bl bc w22) ∧ ∀ (jk3 : Nat → Value) (a4 : Option Addr) (n4 c4 : Nat) (w25 : World), I3 a4 n4 c4 w25 → iX x9 a3l a3 fun ad1 => lE w25 (Addr.add ad1 (Int.toNat x9 * 5)) fun x10 x11 x12 a5 n5 c5 x13 => cA 31 #[Ae x10 x11 x12 a5 n5 c5 x13, .slice a4 n4 c4] w25 [id, id1, id2] X fun x14 x15 x16 a6 n6 c6 w26 => nB w26 fun id4 => nB w26 fun id5 => fL w26 [] fun w17 => id4 < w17.heap.size → id5 < w17.heap.size → hA w17 id5 #[.int .i64 x14, .int .i64 x15, .string x16, .slice a6 n6 c6] 24 → ∃ R4, RunsTo E.P (Builtin.append_ #[22, 22] 22 #[.slice a1 n1 c1, .slice (some ⟨id5, 0, none⟩) 1 1]) w17 R4 ∧ ∀ v3 w27, R4 v3 w27 → ∃ a7 n7 c7, v3 = .slice a7 n7 c7 ∧ ∃ S3, Upd w17 w27 S3 ∧ Away [id, id1, id2, id4, id5] S3 ∧ fL w27 [id2] fun w18 => hA w18 id5 #[.int .i64 x14, .int .i64 x15, .string x16, .slice a6 n6 c6] 24 → I2 (w64 (x9 + 1)) a7 n7 c7 w18 ∧ m1 (w64 (x9 + 1)) a7 n7 c7 < m1 x9 a1 n1 c1) (fL w22 [id1] fun w19 => R (Av x6 x7 x8 a1 n1 c1) w19)
 ) : CallsX E.P 31 #[Ae a0 a1 a2 a3 a3l a3c a4, .slice b bl bc] w R X :=
  calls_vc E_ok ⟨[(6, ⟨[(6, .int .i64)], [(2, 1, .int .i64)]⟩), (14, ⟨[(7, .int .i64)], [(2, 3, .slc)]⟩)], [(13, ⟨[], [(1, 0, .int .i64), (1, 1, .int .i64), (1, 2, .str), (1, 3, .slc), (2, 0, .int .i64), (2, 1, .int .i64), (2, 2, .str)]⟩), (21, ⟨[(8, .slc)], []⟩)]⟩ (f := 31) Tryz.func31 rfl [(Ae a0 a1 a2 a3 a3l a3c a4, .no), (.slice b bl bc, .no)] [] (bls0) nod0 (plain_of rfl) (shs_of ⟨trivial, trivial, trivial⟩) h (by kernel_rfl)
theorem vc17 {a0 a1 : Int} {a2 : ByteArray} {a3 : Option Addr} {a3l a3c : Nat} {a4 : Int}  (h : 
 nB w fun id => nB w fun id1 => fL w [] fun w1 => id < w1.heap.size → id1 < w1.heap.size → ∃ R1 X', CallsX E.P 30 #[Ae a0 a1 a2 a3 a3l a3c a4] w1 R1 X' ∧ (∀ v w2, R1 v w2 → ∃ x x1 x2, v = .tuple #[.int .i64 x, .int .i64 x1, .int .i64 x2] ∧ ∃ S, Upd w1 w2 S ∧ Away [id, id1] S ∧ dB (x1 != 0) (fL w2 [id1] fun w11 => R (.tuple #[Ap 0 0 (ByteArray.mk #[]) none 0 0 none 0 0, .int .i64 140]) w11) (cA 31 #[Ae a0 a1 a2 a3 a3l a3c a4, .slice none 0 0] w2 [id, id1] X fun x3 x4 x5 a n c w21 => fL w21 [id1] fun w12 => R (.tuple #[Ap x3 x4 x5 a n c none 0 0, .int .i64 0]) w12)) ∧ PX X' X
 ) : CallsX E.P 16 #[Ae a0 a1 a2 a3 a3l a3c a4] w R X :=
  calls_vc E_ok ⟨[], []⟩ (f := 16) Tryz.func16 rfl [(Ae a0 a1 a2 a3 a3l a3c a4, .no)] [] (bls0) nod0 (plain_of rfl) (shs_of ⟨trivial, trivial⟩) h (by kernel_rfl)
end Go.Vx.Tryz
namespace Go.Vx
open Go
section
structure CS where
  bound : List ByteArray
  e : Int
  at_ : Int
def failsC (e t : Int) (s : CS) : CS := if s.e == 0 then { s with e := e, at_ := t } else s
def Ex.kid (e : Ex) (i : Nat) : Ex := e.kids.getD i ex0
def mustC (kf : CS → Ex → Int × CS) (s : CS) (e : Ex) (k : Int) : CS :=
  if s.e != 0 then s else if (kf s e).2.e == 0 then if (kf s e).1 != k then failsC 131 e.at_ (kf s e).2 else (kf s e).2 else (kf s e).2
def binC (kf : CS → Ex → Int × CS) (s : CS) (e : Ex) (k g : Int) : Int × CS := (g, mustC kf (mustC kf s (e.kid 0) k) (e.kid 1) k)
def boundIn (a : ByteArray) : List ByteArray → Bool
  | [] => false
  | x :: l => if strEq x a then true else boundIn a l
def nameC (s : CS) (e : Ex) : Int × CS := if boundIn e.s s.bound then (3, s) else (0, failsC 130 e.at_ s)
def allC (kf : CS → Ex → Int × CS) (k : Int) : CS → List Ex → CS
  | s, [] => s
  | s, x :: l => allC kf k (mustC kf s x k) l
def quantC (kf : CS → Ex → Int × CS) (s : CS) (e : Ex) : Int × CS :=
  let s1 := allC kf 3 s (e.kid 0).kids
  (wholeI e.n, { mustC kf { s1 with bound := s1.bound ++ [e.s] } (e.kid 1) (bodyI e.n) with bound := s1.bound })
def ifC (kf : CS → Ex → Int × CS) (s : CS) (e : Ex) : Int × CS :=
  let s1 := mustC kf s (e.kid 0) 2
  if s1.e != 0 then (0, s1) else ((kf s1 (e.kid 1)).1, mustC kf (kf s1 (e.kid 1)).2 (e.kid 2) (kf s1 (e.kid 1)).1)
def bodyC (kf : CS → Ex → Int × CS) (s : CS) (e : Ex) : Int × CS :=
  if e.k == 1 then (1, s) else if e.k == 2 then (2, s) else if e.k == 3 then (3, s) else if e.k == 4 then nameC s e
  else if e.k == 6 then (1, mustC kf s (e.kid 0) 1) else if e.k == 7 then (2, mustC kf s (e.kid 0) 2)
  else if e.k == 8 || e.k == 9 || e.k == 10 || e.k == 11 || e.k == 12 then binC kf s e 1 1
  else if e.k == 15 || e.k == 16 then binC kf s e 1 2 else if e.k == 17 || e.k == 18 then binC kf s e 2 2
  else if e.k == 13 || e.k == 14 then (2, mustC kf (kf s (e.kid 0)).2 (e.kid 1) (kf s (e.kid 0)).1)
  else if e.k == 19 then ifC kf s e else if e.k == 20 then (givesI e.n, allC kf 3 s e.kids) else quantC kf s e
def kindC : Nat → CS → Ex → Int × CS
  | 0, s, _ => (0, s)
  | f + 1, s, e => bodyC (kindC f) s e
def checkF (e : Ex) : Int × Int × Int :=
  if !rightE e then (0, 122, 0) else
  let r := kindC e.size ⟨[], 0, 0⟩ e
  if r.2.e != 0 then (0, r.2.e, r.2.at_) else (r.1, 0, 0)
/-! Right trees. -/
mutual
def wfE : Ex → Bool → Bool
  | .mk k n s l _, set => fieldsF k n s && !decide (kidsN k n < -1) && (!decide (kidsN k n ≥ 0) || (l.length : Int) == kidsN k n) && (isSetF k == set) && wfL k 0 l
def wfL (k : Int) : Nat → List Ex → Bool
  | _, [] => true
  | i, x :: l => wfE x (k == 21 && (i : Int) == 0) && wfL k (i + 1) l
end
theorem puts_ok {sz : Nat} {s : PS} (h : (putsW sz s).ok = true) : s.ok = true := by
  unfold putsW at h
  split at h
  · simp [PS.bad] at h
  · exact h
theorem opens_ok {sz : Nat} {s : PS} (h : (opensW sz s).ok = true) : s.ok = true := by
  have := puts_ok h
  dsimp only at this
  split at this
  · cases this
  · exact this
theorem part_ok {f : Nat} {s : PS} {e : Ex} {set : Bool} (h : (partW (f + 1) s e set).ok = true) : guardW s e set = false ∧ (bodyW (partW f) s e).ok = true := by
  rw [partW] at h
  split at h
  · simp [PS.bad] at h
  · rename_i hg; exact ⟨by simpa using hg, h⟩
theorem part_mono : ∀ (f : Nat) (s : PS) (e : Ex) (set : Bool), (partW f s e set).ok = true → s.ok = true
  | 0, _, _, _, h => h
  | f + 1, s, e, set, h => by
    rw [partW] at h
    split at h
    · simp [PS.bad] at h
    · rename_i hg
      have : guardW s e set = false := by simpa using hg
      unfold guardW at this
      simp only [Bool.or_eq_false_iff, Bool.not_eq_false'] at this
      exact this.1.1.1.1
theorem rowF_ge (k : Int) : 0 ≤ rowF k := by
  unfold rowF
  repeat' split
  all_goals decide
theorem kid_ok {f : Nat} {s : PS} {e : Ex} {i : Nat} (h : (kidW (partW f) s e i).ok = true) : s.ok = true ∧ ∃ s2, (partW f s2 (e.kids.getD i ex0) (e.k == 21 && (i : Int) == 0)).ok = true := by
  unfold kidW at h
  split at h
  · exact ⟨part_mono _ _ _ _ h, s, h⟩
  · rename_i hlt
    have h1 : (partW f (opensW 1 s) (e.kids.getD i ex0) false).ok = true := puts_ok (s := (partW f (opensW 1 s) (e.kids.getD i ex0) false).shut) h
    have h2 : (e.k == 21 && (i : Int) == 0) = false := by
      by_cases h21 : e.k = 21
      · have ha : askedF e.k i = 0 := by rw [h21]; rfl
        rw [ha] at hlt
        have := rowF_ge (e.kids.getD i ex0).k
        have hlt : ¬ (rowF (e.kids.getD i ex0).k ≥ 0) := fun h => hlt (decide_eq_true h)
        omega
      · have : (e.k == 21) = false := by simpa using h21
        rw [this]; rfl
    rw [h2]
    exact ⟨opens_ok (part_mono _ _ _ _ h1), _, h1⟩
theorem list_ok {f : Nat} {e : Ex} : ∀ (l : List Ex) (i : Nat) (s : PS), (listW (partW f) e i s l).ok = true → s.ok = true ∧ ∀ j, j < l.length → ∃ s2, (partW f s2 (e.kids.getD (i + j) ex0) (e.k == 21 && ((i + j : Nat) : Int) == 0)).ok = true
  | [], i, s, h => ⟨h, fun j hj => by simp at hj⟩
  | x :: l, i, s, h => by
    rw [listW] at h
    by_cases hs : s.ok = true
    · rw [if_pos hs] at h
      obtain ⟨h1, h2⟩ := list_ok l (i + 1) _ h
      obtain ⟨h3, h4⟩ := kid_ok h1
      refine ⟨hs, fun j hj => ?_⟩
      cases j with
      | zero => exact h4
      | succ j =>
        have := h2 j (by simp at hj; omega)
        rw [show i + 1 + j = i + (j + 1) by omega] at this
        exact this
    · rw [if_neg hs] at h; exact absurd h hs
theorem wfL_of {k : Int} : ∀ (l : List Ex) (i : Nat), (∀ j (hj : j < l.length), wfE l[j] (k == 21 && ((i + j : Nat) : Int) == 0) = true) → wfL k i l = true
  | [], _, _ => by rw [wfL]
  | x :: l, i, h => by
    rw [wfL, Bool.and_eq_true]
    refine ⟨h 0 (by simp), wfL_of l (i + 1) fun j hj => ?_⟩
    have := h (j + 1) (by simp; omega)
    rw [show i + (j + 1) = i + 1 + j by omega] at this
    simpa using this
theorem wf_of : ∀ (f : Nat) (e : Ex) (set : Bool) (s : PS), e.size ≤ f → (partW f s e set).ok = true → wfE e set = true := by
  intro f
  induction f with
  | zero => intro e _ _ hn; cases e with | mk k n s l t => simp only [Ex.size] at hn; omega
  | succ f ih =>
    intro e set s hn h
    obtain ⟨hg, hb⟩ := part_ok h
    have each : (∀ j, j < e.kids.length → ∃ s2, (partW f s2 (e.kids.getD j ex0) (e.k == 21 && (j : Int) == 0)).ok = true) → wfE e set = true := fun hall => by
      unfold guardW at hg
      simp only [Bool.or_eq_false_iff, Bool.not_eq_false', Bool.and_eq_false_iff, decide_eq_false_iff_not, bne_eq_false_iff_eq, beq_iff_eq] at hg
      obtain ⟨⟨⟨⟨h1, h2⟩, h3⟩, h4⟩, h5⟩ := hg
      obtain ⟨k, n, s', l, t⟩ := e
      have h2 : fieldsF k n s' = true := h2
      have h3 : ¬ (kidsN k n < -1) := h3
      have h4 : ¬ (kidsN k n ≥ 0) ∨ (l.length : Int) = kidsN k n := h4
      have h5 : isSetF k = set := h5
      rw [wfE, h2, h5, wfL_of l 0 fun j hj => ?_]
      · simp only [Bool.true_and, Bool.and_true, BEq.rfl, Bool.and_eq_true, Bool.not_eq_true', decide_eq_false_iff_not, Bool.or_eq_true, beq_iff_eq]
        exact ⟨h3, h4⟩
      · obtain ⟨s2, hs2⟩ := hall j hj
        have hx : (Ex.mk k n s' l t).kids.getD j ex0 = l[j] := by
          show l.getD j ex0 = _
          rw [List.getD_eq_getElem?_getD, List.getElem?_eq_getElem hj]; rfl
        rw [hx] at hs2
        rw [Nat.zero_add]
        refine ih _ _ s2 ?_ hs2
        have := Ex.size_lt (List.getElem_mem hj)
        simp only [Ex.size] at hn; omega
    unfold guardW at hg
    simp only [Bool.or_eq_false_iff, Bool.not_eq_false', Bool.and_eq_false_iff, decide_eq_false_iff_not, bne_eq_false_iff_eq, beq_iff_eq] at hg
    obtain ⟨⟨⟨⟨_, _⟩, h3⟩, h4⟩, _⟩ := hg
    have cnt : ∀ {m : Int}, 0 ≤ m → kidsN e.k e.n = m → (e.kids.length : Int) = m := fun hm hk => by
      rcases h4 with h4 | h4
      · rw [hk] at h4; exact absurd hm h4
      · rw [hk] at h4; exact h4
    have few : ∀ {m : Nat}, (e.kids.length : Int) = m → (∀ j, j < m → ∃ s2, (partW f s2 (e.kids.getD j ex0) (e.k == 21 && (j : Int) == 0)).ok = true) → wfE e set = true := fun hl ha => each fun j hj => ha j (by omega)
    have n0 : ∀ {k : Int}, e.k = k → kidsN k e.n = 0 → wfE e set = true := fun hk hz => few (m := 0) (cnt (by omega) (by rw [hk]; exact hz)) fun j hj => by omega
    have l2 : ∀ {P : Nat → Prop}, P 0 → P 1 → ∀ j, j < 2 → P j := fun h0 h1 j hj => by
      match j, hj with
      | 0, _ => exact h0
      | 1, _ => exact h1
    unfold bodyW at hb
    by_cases c1 : e.k = 1
    · exact n0 c1 rfl
    by_cases c2 : e.k = 2
    · exact n0 c2 rfl
    by_cases c3 : e.k = 3
    · exact n0 c3 rfl
    by_cases c4 : e.k = 4
    · exact n0 c4 rfl
    by_cases c23 : e.k = 23
    · exact n0 c23 rfl
    by_cases c22 : e.k = 22
    · exact n0 c22 rfl
    have b1 : (e.k == 1) = false := by simpa using c1
    have b2 : (e.k == 2) = false := by simpa using c2
    have b3 : (e.k == 3) = false := by simpa using c3
    have b4 : (e.k == 4) = false := by simpa using c4
    have b23 : (e.k == 23) = false := by simpa using c23
    have b22 : (e.k == 22) = false := by simpa using c22
    rw [iff0 b1, iff0 b2, iff0 b3, iff0 b4, iff0 b23, iff0 b22] at hb
    by_cases c6 : e.k = 6
    · rw [if_pos (by rw [c6]; rfl)] at hb
      have := kid_ok hb
      exact few (m := 1) (cnt (by omega) (by rw [c6]; rfl)) fun j hj => by
        obtain rfl : j = 0 := by omega
        exact this.2
    have b6 : (e.k == 6) = false := by simpa using c6
    rw [iff0 b6] at hb
    by_cases c7 : e.k = 7
    · rw [if_pos (by rw [c7]; rfl)] at hb
      have := kid_ok hb
      exact few (m := 1) (cnt (by omega) (by rw [c7]; rfl)) fun j hj => by
        obtain rfl : j = 0 := by omega
        exact this.2
    have b7 : (e.k == 7) = false := by simpa using c7
    rw [iff0 b7] at hb
    by_cases cg : e.k = 19 ∨ e.k = 21 ∨ e.k = 20 ∨ e.k = 24 ∨ e.k = 25
    · have bg : (e.k == 19 || e.k == 21 || e.k == 20 || e.k == 24 || e.k == 25) = true := by
        rcases cg with h | h | h | h | h <;> rw [h] <;> rfl
      rw [if_pos bg] at hb
      unfold greatW at hb
      by_cases c19 : e.k = 19
      · rw [if_pos (by rw [c19]; rfl)] at hb
        obtain ⟨h1, k2⟩ := kid_ok hb
        obtain ⟨h2, k1⟩ := kid_ok (puts_ok h1)
        obtain ⟨h3, k0⟩ := kid_ok (puts_ok h2)
        exact few (m := 3) (cnt (by omega) (by rw [c19]; rfl)) fun j hj => by
          match j, hj with
          | 0, _ => exact k0
          | 1, _ => exact k1
          | 2, _ => exact k2
      have b19 : (e.k == 19) = false := by simpa using c19
      rw [iff0 b19] at hb
      by_cases c21 : e.k = 21
      · rw [if_pos (by rw [c21]; rfl)] at hb
        obtain ⟨h1, k1⟩ := kid_ok hb
        obtain ⟨h2, k0⟩ := kid_ok (puts_ok h1)
        exact few (m := 2) (cnt (by omega) (by rw [c21]; rfl)) (l2 k0 k1)
      have b21 : (e.k == 21) = false := by simpa using c21
      rw [iff0 b21] at hb
      have lst : ∀ {s0 : PS}, (listW (partW f) e 0 s0 e.kids).ok = true → wfE e set = true := fun h0 => each fun j hj => by
        have := (list_ok e.kids 0 _ h0).2 j hj
        rw [Nat.zero_add] at this
        exact this
      split at hb
      · exact lst (s0 := _) (puts_ok (s := PS.shut _) hb)
      · split at hb
        · exact lst (s0 := _) (puts_ok (s := PS.shut _) hb)
        · exact lst (s0 := _) (puts_ok (s := PS.shut _) hb)
    · have bg : (e.k == 19 || e.k == 21 || e.k == 20 || e.k == 24 || e.k == 25) = false := by
        simp only [not_or] at cg
        simp [cg.1, cg.2.1, cg.2.2.1, cg.2.2.2.1, cg.2.2.2.2]
      rw [iff0 bg] at hb
      obtain ⟨h1, k1⟩ := kid_ok hb
      obtain ⟨h2, k0⟩ := kid_ok (puts_ok h1)
      simp only [Bool.or_eq_false_iff] at bg
      have hz : kidsN e.k e.n = 2 := by
        have q1 : (e.k == 1 || e.k == 2 || e.k == 3 || e.k == 4 || e.k == 22 || e.k == 23) = false := by rw [b1, b2, b3, b4, b22, b23]; rfl
        have q2 : (e.k == 6 || e.k == 7 || e.k == 24) = false := by rw [b6, b7, bg.1.2]; rfl
        unfold kidsN at h3 ⊢
        rw [iff0 q1, iff0 q2] at h3 ⊢
        cases q3 : (e.k == 8 || e.k == 9 || e.k == 10 || e.k == 11 || e.k == 12 || e.k == 13 || e.k == 14 || e.k == 15 || e.k == 16 || e.k == 17 || e.k == 18 || e.k == 21) with
        | true => rfl
        | false =>
          rw [q3, iff0 rfl, iff0 bg.1.1.1.1, iff0 bg.2, iff0 bg.1.1.2] at h3
          exact absurd (by decide) h3
      exact few (m := 2) (cnt (by omega) hz) (l2 k0 k1)
theorem right_wf {e : Ex} (h : rightE e = true) : wfE e false = true := wf_of e.size e false _ (Nat.le_refl _) h
/-! The plan of a tree. -/
def lastIn (a : ByteArray) : Nat → Int → List ByteArray → Int
  | _, n, [] => n
  | i, n, x :: l => lastIn a (i + 1) (if strEq x a then i else n) l
mutual
def nodeF : Ex → List ByteArray → Nd
  | .mk k n s l _, bd => if k == 4 then .mk 5 (lastIn s 0 n bd) (ByteArray.mk #[]) [] else .mk k n (if k == 23 then s else ByteArray.mk #[]) (nodesF k s 0 l bd)
def nodesF (k : Int) (s : ByteArray) : Nat → List Ex → List ByteArray → List Nd
  | _, [], _ => []
  | i, x :: l, bd => nodeF x (if k == 21 && (i : Int) == 1 then bd ++ [s] else bd) :: nodesF k s (i + 1) l bd
end
def ofF (e : Ex) : Pl × Int := if (checkF e).2.1 != 0 then (⟨.mk 0 0 (ByteArray.mk #[]) [], []⟩, 140) else (⟨nodeF e [], []⟩, 0)
end
end Go.Vx
namespace Go.Vx.Tryz
open Go Go.Vx Go.Proofs
structure CkW (w : World) (b : Nat) (A : Option Addr) (c : Nat) (st : CS) : Prop where
  hh : w.heap[b]? = some (.cells #[.slice A st.bound.length c, .int .i64 st.e, .int .i64 st.at_] 93 (0, 0))
  hs : StrsR w (fun x => x ≠ b) st.bound A st.bound.length c
def CkI (b : Nat) (w : World) (r : Int × CS) : Value → World → Prop := fun v w' => v = .int .i64 r.1 ∧ ∃ A c, CkW w' b A c r.2 ∧ Upd w w' (OB b)
def CkU (b : Nat) (w : World) (s : CS) : Value → World → Prop := fun v w' => v = .tuple #[] ∧ ∃ A c, CkW w' b A c s ∧ Upd w w' (OB b)
section
variable {w w' : World} {b : Nat} {A : Option Addr} {c : Nat} {st st' : CS}
theorem CkW.blt (q : CkW w b A c st) : b < w.heap.size := lt_of_get q.hh
theorem CkW.ext (q : CkW w b A c st) (k : Ext w w') : CkW w' b A c st :=
  ⟨by rw [k.keep b q.blt (fun h => h)]; exact q.hh, RowIn.upd' q.hs k fun _ _ _ h => h⟩
theorem CkW.put (q : CkW w b A c st) (k : Upd w w' (OB b)) (hh : w'.heap[b]? = some (.cells #[.slice A st'.bound.length c, .int .i64 st'.e, .int .i64 st'.at_] 93 (0, 0))) (hb : st'.bound = st.bound) : CkW w' b A c st' := by
  refine ⟨hh, ?_⟩
  rw [hb]
  exact RowIn.upd' q.hs k fun x hx _ hS => hx hS
end
section
variable {P : Program} {f : Nat} {args : Array Value} {w : World} {ids : List Nat} {b : Nat} {X : ContX}
theorem callCU {s : CS} (hc : CallsX P f args w (CkU b w s) never) (haw : Away ids (OB b)) {K : Option Addr → Nat → Nat → Int → Int → World → Prop}
    (k : ∀ A c w2, CkW w2 b A c s → Upd w w2 (OB b) → K A s.bound.length c s.e s.at_ w2) :
    ∃ (R : Value → World → Prop) (X' : ContX), CallsX P f args w R X' ∧ (∀ v w2, R v w2 → ∃ y : Value, v = y ∧ ∃ S, Upd w w2 S ∧ Away ids S ∧ ∃ a1 n, ∃ c1 x x1,
      w2.heap[b]? = some (Obj.cells #[.slice a1 n c1, .int .i64 x, .int .i64 x1] 93) ∧ 3 = 3 ∧ K a1 n c1 x x1 w2) ∧ ∀ ch w2, X' ch w2 → X ch w2 :=
  ⟨_, _, hc, fun v w2 ⟨_, A, c, hw, hU⟩ => ⟨v, rfl, _, hU, haw, _, _, _, _, _, hw.hh, rfl, k A c w2 hw hU⟩, never_any⟩
theorem callCI {r : Int × CS} (hc : CallsX P f args w (CkI b w r) never) (haw : Away ids (OB b)) {K : Int → Option Addr → Nat → Nat → Int → Int → World → Prop}
    (k : ∀ A c w2, CkW w2 b A c r.2 → Upd w w2 (OB b) → K r.1 A r.2.bound.length c r.2.e r.2.at_ w2) :
    ∃ (R : Value → World → Prop) (X' : ContX), CallsX P f args w R X' ∧ (∀ v w2, R v w2 → ∃ y, v = .int .i64 y ∧ ∃ S, Upd w w2 S ∧ Away ids S ∧ ∃ a1 n, ∃ c1 x x1,
      w2.heap[b]? = some (Obj.cells #[.slice a1 n c1, .int .i64 x, .int .i64 x1] 93) ∧ 3 = 3 ∧ K y a1 n c1 x x1 w2) ∧ ∀ ch w2, X' ch w2 → X ch w2 :=
  ⟨_, _, hc, fun v w2 ⟨hv, A, c, hw, hU⟩ => ⟨_, hv, _, hU, haw, _, _, _, _, _, hw.hh, rfl, k A c w2 hw hU⟩, never_any⟩
end
section
variable {b : Nat}
theorem failsC_c (e t : Int) {w : World} {A : Option Addr} {c : Nat} {st : CS} (hw : CkW w b A c st) : CallsX E.P 92 #[.pointer (some ⟨b, 0, none⟩), .int .i64 e, .int .i64 t] w (CkU b w (failsC e t st)) never := by
  refine vc121 hw.hh ⟨fun h1 w1 hU1 hh1 => ?_, fun h1 hh1 => ?_⟩
  · rw [failsC, if_pos h1]
    exact ⟨rfl, A, c, hw.put (st' := { st with e := e, at_ := t }) (upd_ob hU1) hh1 rfl, upd_ob hU1⟩
  · rw [failsC, if_neg (by rw [h1]; exact Bool.false_ne_true)]
    exact ⟨rfl, A, c, hw, Upd.refl _ _⟩
def KCk (b : Nat) (kf : CS → Ex → Int × CS) (e : Ex) : Prop := ∀ {w : World} {A : Option Addr} {c : Nat} {B : Option Addr} {l cc : Nat} {st : CS}, CkW w b A c st → ExsR w (NB b) e.kids B l cc → st.bound.length + e.size ≤ 2 ^ 30 →
  CallsX E.P 50 #[.pointer (some ⟨b, 0, none⟩), exA e B l cc] w (CkI b w (kf st e)) never
def BKc (kf : CS → Ex → Int × CS) : Prop := ∀ s e, (kf s e).2.bound = s.bound
theorem failsC_b (e t : Int) (s : CS) : (failsC e t s).bound = s.bound := by unfold failsC; split <;> rfl
theorem mustC_b {kf : CS → Ex → Int × CS} (hb : BKc kf) (s : CS) (e : Ex) (k : Int) : (mustC kf s e k).bound = s.bound := by
  unfold mustC
  split
  · rfl
  · split
    · split
      · rw [failsC_b, hb]
      · exact hb _ _
    · exact hb _ _
theorem allC_b {kf : CS → Ex → Int × CS} (hb : BKc kf) (k : Int) : ∀ (l : List Ex) (s : CS), (allC kf k s l).bound = s.bound
  | [], _ => rfl
  | x :: l, s => by rw [allC, allC_b hb k l, mustC_b hb]
theorem ite_bound {c : Prop} [Decidable c] {x y : Int × CS} {l : List ByteArray} (h1 : x.2.bound = l) (h2 : y.2.bound = l) : (if c then x else y).2.bound = l := by split <;> assumption
theorem kind_b : ∀ (f : Nat), BKc (kindC f)
  | 0 => fun _ _ => rfl
  | f + 1 => fun s e => by
    have hb := kind_b f
    rw [kindC]
    unfold bodyC binC nameC ifC quantC
    repeat' refine ite_bound ?_ ?_
    all_goals first | rfl | (dsimp only; simp only [mustC_b hb, allC_b hb, failsC_b, hb _ _])
theorem nfc {c : Bool} (h : c = false) : ¬ c = true := by rw [h]; exact Bool.false_ne_true
theorem cmust_c {kf : CS → Ex → Int × CS} {e : Ex} (hk : KCk b kf e) (k : Int) {w : World} {A : Option Addr} {c : Nat} {B : Option Addr} {l cc : Nat} {st : CS} (hw : CkW w b A c st) (hr : ExsR w (NB b) e.kids B l cc) (hs : st.bound.length + e.size ≤ 2 ^ 30) :
    CallsX E.P 73 #[.pointer (some ⟨b, 0, none⟩), exA e B l cc, .int .i64 k] w (CkU b w (mustC kf st e k)) never := by
  refine vc93 hw.hh ?_
  intro id hid
  have hb := hw.blt
  refine ⟨fun h1 w1 hU1 hi1 hh1 => ?_, fun h1 w1 hU1 hi1 hh1 => ?_⟩
  · rw [mustC, if_pos h1]
    exact ⟨rfl, A, c, hw.ext hU1, ext_ob hU1⟩
  · have hw1 : CkW w1 b A c st := hw.ext hU1
    have hr1 : ExsR w1 (NB b) e.kids B l cc := hr.ext hU1
    have aw : Away [id] (OB b) := away_ob hb (by simp; omega)
    rw [mustC, if_neg (nfc h1)]
    refine callCI (hk hw1 hr1 hs) aw fun A2 c2 w2 hw2 hU2 => ⟨fun h2 => ⟨fun h3 hh2 => ?_, fun h3 hh2 => ?_⟩, fun h2 hh2 => ?_⟩
    · rw [if_pos h2, if_pos h3]
      exact callCU (failsC_c _ _ hw2) aw fun A3 c3 w3 hw3 hU3 hh3 => ⟨rfl, A3, c3, hw3, ((ext_ob hU1).tb hU2).tb hU3⟩
    · rw [if_pos h2, if_neg (nfc h3)]
      exact ⟨rfl, A2, c2, hw2, (ext_ob hU1).tb hU2⟩
    · rw [if_neg (nfc h2)]
      exact ⟨rfl, A2, c2, hw2, (ext_ob hU1).tb hU2⟩
theorem kid_eq {e : Ex} {j : Nat} (hj : j < e.kids.length) : e.kid j = e.kids[j] := by
  rw [Ex.kid, List.getD_eq_getElem?_getD, List.getElem?_eq_getElem hj]; rfl
theorem kid_sz {e : Ex} {j : Nat} (hj : j < e.kids.length) : (e.kid j).size < e.size := by
  rw [kid_eq hj]
  have := Ex.size_lt (List.getElem_mem hj)
  cases e with | mk k v s l t => simp only [Ex.size, Ex.kids] at this ⊢; omega
theorem kid_cell {w : World} {F : Nat → Prop} {e : Ex} {B : Option Addr} {l cc : Nat} (h : ExsR w F e.kids B l cc) {j : Nat} (hj : j < e.kids.length) {ad : Addr} (ha : B = some ad)
    {K : Int → Int → ByteArray → Option Addr → Nat → Nat → Int → Prop} (k : ∀ A1 l1 c1, ExsR w F (e.kid j).kids A1 l1 c1 → K (e.kid j).k (e.kid j).n (e.kid j).s A1 l1 c1 (e.kid j).at_) :
    ∃ x2 x3, ∃ x4 a, ∃ n c, ∃ x5, CellsIn w (ad.add (Int.toNat (j : Int) * 5)) [.int .i64 x2, .int .i64 x3, .string x4, .slice a n c, .int .i64 x5] ∧ K x2 x3 x4 a n c x5 := by
  refine h.cell ha hj fun A1 l1 c1 q => ?_
  rw [← kid_eq hj] at q ⊢
  exact k A1 l1 c1 q
theorem bin_c {kf : CS → Ex → Int × CS} {e : Ex} (hb : BKc kf) (hl : 2 ≤ e.kids.length) (hk : ∀ i, i < e.kids.length → KCk b kf (e.kid i)) (k g : Int) {w : World} {A : Option Addr} {c : Nat} {B : Option Addr} {l cc : Nat} {st : CS} (hw : CkW w b A c st) (hr : ExsR w (NB b) e.kids B l cc) (hs : st.bound.length + e.size ≤ 2 ^ 30) :
    CallsX E.P 74 #[.pointer (some ⟨b, 0, none⟩), exA e B l cc, .int .i64 k, .int .i64 g] w (CkI b w (binC kf st e k g)) never := by
  refine vc94 hw.hh ?_
  intro id hid
  have hlt := hw.blt
  have aw : Away [id] (OB b) := away_ob hlt (by simp; omega)
  have s0 := kid_sz (e := e) (j := 0) (by omega)
  have s1 := kid_sz (e := e) (j := 1) (by omega)
  refine hr.idx (j := 0) (by omega) fun ad ha w1 hE1 hi1 => ?_
  have hE1' : Ext w w1 := hE1
  refine kid_cell (hr.ext hE1') (j := 0) (by omega) ha fun A1 l1 c1 q1 hh1 => ?_
  refine callCU (cmust_c (hk 0 (by omega)) k (hw.ext hE1') q1 (by omega)) aw fun A2 c2 w2 hw2 hU2 => ?_
  have hr2 : ExsR w2 (NB b) e.kids B l cc := (hr.ext hE1').upd' hU2 fun x hx _ hS => by have hx : x < b := hx; have hS : x = b := hS; omega
  refine hr2.idx (j := 1) (by omega) fun ad ha => ?_
  refine kid_cell hr2 (j := 1) (by omega) ha fun A3 l3 c3 q3 hh2 => ?_
  refine callCU (cmust_c (hk 1 (by omega)) k hw2 q3 (by rw [mustC_b hb]; omega)) aw fun A4 c4 w4 hw4 hU4 hh4 => ?_
  exact ⟨rfl, A4, c4, hw4, ((ext_ob hE1').tb hU2).tb hU4⟩
theorem nameC_c (e : Ex) {w : World} {A : Option Addr} {c : Nat} {B : Option Addr} {l cc : Nat} {st : CS} (hw : CkW w b A c st) :
    CallsX E.P 72 #[.pointer (some ⟨b, 0, none⟩), exA e B l cc] w (CkI b w (nameC st e)) never := by
  refine vc92 hw.hh ?_
  intro id hid w1 hE1 hi1
  have hE1' : Ext w w1 := hE1
  have hb := hw.blt
  refine ⟨fun x w2 => ∃ j : Nat, x = j ∧ j ≤ st.bound.length ∧ boundIn e.s (st.bound.drop j) = boundIn e.s st.bound ∧ CkW w2 b A c st ∧ Ext w w2, fun x => ((st.bound.length : Int) - x).toNat, ⟨0, rfl, Nat.zero_le _, rfl, hw.ext hE1', hE1'⟩, ?_⟩
  rintro _ x w2 ⟨j, rfl, hj, hg, hw2, hE2⟩
  have hlt := RowIn.lt hw2.hs
  refine ⟨fun hlt2 => ?_, fun hlt2 hh2 => ?_⟩
  · have hjl : j < st.bound.length := by simpa using hlt2
    rw [drop_cons hjl, boundIn] at hg
    obtain ⟨ad, r, e1, hr, _, hc⟩ := RowIn.get hw2.hs (j : Int) (by omega) (by omega)
    have hn : Int.toNat (j : Int) = j := by omega
    rw [hn, List.getElem?_map, List.getElem?_eq_getElem hjl] at hr
    cases hr
    refine ⟨⟨by omega, by omega⟩, ad, e1, fun w3 hE3 => ?_⟩
    have hE3' : Ext w2 w3 := hE3
    refine ⟨_, hc.ext hE3' (fun h => h), fun hx hh3 => ?_, fun hx => ?_⟩
    · rw [if_pos hx] at hg
      unfold nameC
      rw [if_pos hg.symm]
      exact ⟨rfl, A, c, hw2.ext hE3', ext_ob (hE2.trans hE3')⟩
    · rw [if_neg (nfc hx)] at hg
      refine ⟨⟨j + 1, w64_succ (by omega), hjl, hg, hw2.ext hE3', hE2.trans hE3'⟩, ?_⟩
      dsimp only
      rw [w64_succ (by omega)]; exact mea_succ hjl
  · have hjl : ¬ j < st.bound.length := by simpa using hlt2
    rw [List.drop_eq_nil_of_le (by omega), boundIn] at hg
    unfold nameC
    rw [if_neg (nfc hg.symm)]
    exact callCU (failsC_c _ _ hw2) (away_ob hb (by simp; omega)) fun A3 c3 w3 hw3 hU3 hh3 => ⟨rfl, A3, c3, hw3, (ext_ob hE2).tb hU3⟩
end
end Go.Vx.Tryz
namespace Go.Vx.Tryz
open Go Go.Vx Go.Proofs
theorem sl76 : SlT E.P 85 9 1 16 := SlT.of (by kernel_rfl) (by omega) (by omega)
def strRel : Rel ByteArray 1 := flatRel strE (fun _ => rfl) (fun x u hu => by cases List.mem_singleton.1 hu; rfl)
theorem strs_done {w : World} {lo top : Nat} {l : List ByteArray} {A : Option Addr} {n c : Nat} {F : Nat → Prop} (h : RowB strRel 9 w false lo top no no l A n c) (hl : n < 2 ^ 48) (hF : ∀ x, lo ≤ x → F x) : StrsR w F l A n c :=
  (flat_of (RowB.done h hl (.inr ⟨rfl, rfl⟩))).mono fun x hx => by
    rcases hx with h | h
    · exact h.2.elim
    · exact hF x h.1
theorem names_nil {l : List ByteArray} {w : World} {G : Nat → Prop} {B : Option Addr} {bl bc : Nat} (h2 : StrsR w G l B bl bc) (hs : bl ≤ 2 ^ 34) :
    RunsTo E.P (Builtin.append_ #[85, 85] 85 #[.slice none 0 0, .slice B bl bc]) w (fun v w' => ∃ A' c', v = .slice A' bl c' ∧ RowB strRel 9 w' false w.heap.size w'.heap.size no no l A' bl c' ∧ Upd w w' (blkOf none)) := by
  have hB1 : RowB strRel 9 w false w.heap.size w.heap.size no no [] none 0 0 := RowB.nil (fun _ h => h.elim) (Nat.le_refl _)
  obtain ⟨v, w', hr, A', c', rfl, ⟨hB, _⟩, hU⟩ := RowB.app (tx := 76) (F := G) (ys := l) (B := B) (bl := bl) (bc := bc) sl76 hB1 h2 (by omega) (fun _ h => h.elim)
  rw [Nat.zero_add] at hr hB
  exact ⟨_, w', hr, A', c', rfl, hB, hU⟩
theorem names_push {l : List ByteArray} {s : ByteArray} {w1 w2 : World} {lo top : Nat} {A : Option Addr} {n c id : Nat} (h : RowB strRel 9 w1 false lo top no no l A n c) (hE : Ext w1 w2) (hcell : w2.heap[id]? = some (.cells #[.string s] 9 (0, 0))) (hl : n < 2 ^ 33) :
    RunsTo E.P (Builtin.append_ #[85, 85] 85 #[.slice A n c, .slice (some ⟨id, 0, none⟩) 1 1]) w2 (fun v w' => ∃ A' c', v = .slice A' (n + 1) c' ∧ RowB strRel 9 w' false lo w'.heap.size no no (l ++ [s]) A' (n + 1) c' ∧ Upd w2 w' (blkOf A)) := by
  obtain ⟨v, w', hr, A', c', rfl, ⟨hB, _⟩, hU⟩ := RowB.push (tx := 76) (x := s) (cs := strE s) (Fk := no) sl76 h rfl (fun _ h => h.elim) hE (fun _ h => h.elim) hcell hl
  exact ⟨_, w', hr, A', c', rfl, hB, hU⟩
variable {b : Nat}
theorem quantC_c {kf : CS → Ex → Int × CS} {e : Ex} (hb : BKc kf) (hl : 2 ≤ e.kids.length) (hk0 : ∀ i, i < (e.kid 0).kids.length → KCk b kf ((e.kid 0).kid i)) (hk1 : KCk b kf (e.kid 1)) {w : World} {A : Option Addr} {c : Nat} {B : Option Addr} {l cc : Nat} {st : CS} (hw : CkW w b A c st) (hr : ExsR w (NB b) e.kids B l cc) (hs : st.bound.length + e.size ≤ 2 ^ 30) :
    CallsX E.P 76 #[.pointer (some ⟨b, 0, none⟩), exA e B l cc] w (CkI b w (quantC kf st e)) never := by
  refine vc96 hw.hh ?_
  intro id hid
  have hlt := hw.blt
  have s0 := kid_sz (e := e) (j := 0) (by omega)
  have s1 := kid_sz (e := e) (j := 1) (by omega)
  refine hr.idx (j := 0) (by omega) fun ad ha w1 hE1 hi1 => ?_
  have hE1' : Ext w w1 := hE1
  have t1 := hE1'.size
  refine kid_cell (hr.ext hE1') (j := 0) (by omega) ha fun A1 l1 c1 q1 id1 hid1 w11 hE11 hi11 => ?_
  have hE11' : Ext w1 w11 := hE11
  have t11 := hE11'.size
  have hE0 : Ext w w11 := hE1'.trans hE11'
  have q1 := q1.ext hE11'
  have hr11 := hr.ext hE0
  obtain rfl := q1.len
  have hsm := q1.lt
  generalize hks : (e.kid 0).kids = ks at *
  have kidq : ∀ {w' : World} {kk : List Ex} {D : Option Addr} {m d : Nat}, ExsR w11 (NB b) kk D m d → Upd w11 w' (OB b) → ExsR w' (NB b) kk D m d := fun q k => q.upd' k fun x hx _ hS => by have hx : x < b := hx; have hS : x = b := hS; omega
  refine ⟨fun x a2 n1 c1 x5 x6 w2 => ∃ (j : Nat) (s : CS), x = j ∧ j ≤ ks.length ∧ allC kf 3 s (ks.drop j) = allC kf 3 st ks ∧ s.bound = st.bound ∧ (n1 = s.bound.length ∧ x5 = s.e ∧ x6 = s.at_) ∧ CkW w2 b a2 c1 s ∧ Upd w11 w2 (OB b), fun x _ _ _ _ _ => ((ks.length : Int) - x).toNat,
    ⟨0, st, rfl, Nat.zero_le _, rfl, rfl, ⟨rfl, rfl, rfl⟩, hw.ext hE0, Upd.refl _ _⟩, ?_⟩
  rintro _ x A2 n1 c2 x5 x6 w2 ⟨j, s, rfl, hj, hg, hbs, ⟨rfl, rfl, rfl⟩, hw2, hU2⟩
  have t2 := hU2.size
  refine ⟨fun hx => ?_, fun hx => ?_⟩
  · have hjl : j < ks.length := by simpa using hx
    rw [drop_cons hjl, allC] at hg
    have q2 := kidq q1 hU2
    have hki : (e.kid 0).kid j = ks[j] := by
      rw [kid_eq (by rw [hks]; exact hjl)]
      simp only [hks]
    have hsz : ks[j].size ≤ e.size := by
      have := kid_sz (e := e.kid 0) (j := j) (by rw [hks]; exact hjl)
      rw [hki] at this; omega
    refine q2.idx hjl fun ad1 ha1 => q2.cell ha1 hjl fun A3 l3 c3 q3 hh2 => ?_
    have hkj : KCk b kf ks[j] := hki ▸ hk0 j hjl
    refine callCU (cmust_c hkj 3 hw2 q3 (by rw [hbs]; omega)) (away_ob (top := w.heap.size) hlt (by simp; omega)) fun A4 c4 w4 hw4 hU4 => ?_
    refine ⟨⟨j + 1, _, w64_succ (by omega), hjl, hg, by rw [mustC_b hb, hbs], ⟨rfl, rfl, rfl⟩, hw4, hU2.tb hU4⟩, ?_⟩
    dsimp only
    rw [w64_succ (by omega)]; exact mea_succ hjl
  · have hjl : ¬ j < ks.length := by simpa using hx
    rw [List.drop_eq_nil_of_le (by omega), allC] at hg
    have hn : s.bound.length ≤ 2 ^ 30 := by rw [hbs]; omega
    refine pushVC (names_nil hw2.hs (by omega)) (away_of fun _ _ h => h) fun A5 c5 w5 hB5 hU5 => ?_
    have hE5 : Ext w2 w5 := Upd.mono hU5 fun _ h => h
    have t5 := hE5.size
    intro id2 hid2 w12 hE12 hi12 hh12
    have hE12' : Ext w5 w12 := hE12
    have t12 := hE12'.size
    refine pushVC (names_push hB5 hE12' hh12 (by omega)) (away_of fun i hi hS => ?_) fun A6 c6 w6 hB6 hU6 => ?_
    · have := (hB5.blk hS); have := (hw2.blt); simp only [List.mem_cons, List.not_mem_nil, or_false] at hi; omega
    have t6 := hU6.size
    have hE6 : Ext w2 w6 := Upd.step (hE5.trans hE12') hU6 fun x hx => (hB5.blk hx).1
    have hb2 := hw2.blt
    have ids : ∀ i ∈ [id, id1, id2], w.heap.size ≤ i := by simp; omega
    have ab : Away [id, id1, id2] (OB b) := away_ob hlt ids
    refine hr.idx (j := 1) (by omega) fun ad2 ha2 => ?_
    have hw6 : ∀ {w7 : World}, Upd w6 w7 (OB b) → w7.heap[b]? = some (.cells #[.slice A6 (s.bound.length + 1) c6, .int .i64 s.e, .int .i64 s.at_] 93 (0, 0)) → CkW w7 b A6 c6 { s with bound := s.bound ++ [e.s] } := fun {w7} hU7 hh7 => by
      refine ⟨by rw [hh7]; simp, ?_⟩
      have := strs_done (F := fun x => x ≠ b) hB6 (by omega) (fun x hx => by omega)
      rw [show ({ s with bound := s.bound ++ [e.s] } : CS).bound.length = s.bound.length + 1 by simp]
      exact RowIn.upd' this hU7 fun x hx _ hS => hx hS
    have hr6 := fun {w7 : World} (hU7 : Upd w6 w7 (OB b)) => kidq hr11 (hU2.tb ((ext_ob hE6).tb hU7))
    have fin : ∀ {w7 w8 w9 : World} {A8 : Option Addr} {c8 : Nat} {s8 : CS}, mustC kf { s with bound := s.bound ++ [e.s] } (e.kid 1) (bodyI e.n) = s8 → CkW w8 b A8 c8 s8 → Upd w6 w7 (OB b) → Upd w7 w8 (OB b) → Upd w8 w9 (OB b) → w9.heap[b]? = some (.cells #[.slice A2 s.bound.length c2, .int .i64 s8.e, .int .i64 s8.at_] 93 (0, 0)) → CkI b w (quantC kf st e) (.int .i64 (wholeI e.n)) w9 := fun {w7 w8 w9 A8 c8 s8} h8 hw8 hU7 hU8 hU9 hh9 => by
      have hU : Upd w2 w9 (OB b) := (((ext_ob hE6).tb hU7).tb hU8).tb hU9
      unfold quantC
      dsimp only
      rw [hks, ← hg, h8]
      refine ⟨rfl, A2, c2, hw2.put hU ?_ rfl, ((ext_ob hE0).tb hU2).tb hU⟩
      exact hh9
    have hsz : ({ s with bound := s.bound ++ [e.s] } : CS).bound.length + (e.kid 1).size ≤ 2 ^ 30 := by
      have : s.bound.length = st.bound.length := by rw [hbs]
      simp only [List.length_append, List.length_cons, List.length_nil]
      omega
    refine ⟨fun w7 hU7 hh7 => ?_, fun w7 hU7 hh7 => ?_⟩
    · have hU7' := upd_ob hU7
      refine kid_cell (hr6 hU7') (j := 1) (by omega) ha2 fun A7 l7 c7 q7 hhb => callI (body_c _) fun w8 hE8 hhb8 hh8 => ?_
      have hU8 := hU7'.tb (ext_ob hE8)
      refine callCU (cmust_c hk1 (bodyI e.n) (hw6 hU8 hhb8) (q7.ext hE8) hsz) ab fun A9 c9 w9 hw9 hU9 w10 hU10 hh10 => callI (whole_c _) fun w13 hE13 hhb13 hh13 => ?_
      exact fin rfl hw9 hU8 hU9 ((upd_ob hU10).tb (ext_ob hE13)) hhb13
    · have hU7' := upd_ob hU7
      refine callI (body_c _) fun w8 hE8 hh8 => ?_
      have hU8 := hU7'.tb (ext_ob hE8)
      refine kid_cell (hr6 hU8) (j := 1) (by omega) ha2 fun A7 l7 c7 q7 hhb8 hh8' => ?_
      refine callCU (cmust_c hk1 (bodyI e.n) (hw6 hU8 hhb8) q7 hsz) ab fun A9 c9 w9 hw9 hU9 w10 hU10 hh10 => callI (whole_c _) fun w13 hE13 hhb13 hh13 => ?_
      exact fin rfl hw9 hU8 hU9 ((upd_ob hU10).tb (ext_ob hE13)) hhb13
end Go.Vx.Tryz
