/- Texts of the walk, gathered. -/
import Derived.Test.YtingeadhfbcacaaGreatMa3
import Derived.Test.YtingeadhfbcacaaGreatMa6
set_option linter.unusedSimpArgs false
set_option linter.unusedVariables false
namespace Go.Vx
open Go
section
theorem tok_in {ts : List Tok} {i : Nat} (h : (tokAt ts i).kind ≠ 0) : i < ts.length := by
  refine Classical.byContradiction fun hn => h ?_
  rw [tokAt, List.getD_eq_getElem?_getD, List.getElem?_eq_none (by omega)]; rfl
def wS (N : Nat) (st : RS) : Nat := if st.e == 0 then N - st.at_ else 0
section
variable {ts : List Tok} {st : RS}
theorem w_le_next : wS ts.length st.next ≤ wS ts.length st := by
  unfold wS RS.next
  dsimp only
  split <;> omega
theorem w_lt_next (h : 1 ≤ wS ts.length st) : wS ts.length st.next + 1 ≤ wS ts.length st := by
  unfold wS RS.next at *
  dsimp only
  split at h
  · rename_i he; rw [if_pos he, if_pos he]; omega
  · omega
theorem w_fail (c : Int) (hc : c ≠ 0) : wS ts.length (failsF ts st c) = 0 := by
  unfold failsF
  split
  · unfold wS; rw [if_neg (by simpa using hc)]
  · rename_i he; unfold wS; rw [if_neg he]
theorem w_takes (s : ByteArray) : wS ts.length (takesF ts st s) ≤ wS ts.length st := by
  unfold takesF
  split
  · exact w_le_next
  · rw [w_fail 120 (by decide)]; exact Nat.zero_le _
theorem w_opens : wS ts.length (opensF ts st) ≤ wS ts.length st := by
  unfold opensF
  split
  · rw [w_fail 121 (by decide)]; exact Nat.zero_le _
  · exact w_le_next (st := st)
theorem w_lt_opens (h : 1 ≤ wS ts.length st) : wS ts.length (opensF ts st) + 1 ≤ wS ts.length st := by
  unfold opensF
  split
  · rw [w_fail 121 (by decide)]; exact h
  · exact w_lt_next (st := st) h
theorem w_bracket (s : ByteArray) : wS ts.length (bracketF ts st s) ≤ wS ts.length st := by
  unfold bracketF
  split
  · exact w_opens
  · rw [w_fail 120 (by decide)]; exact Nat.zero_le _
theorem w_lt_bracket (s : ByteArray) (h : 1 ≤ wS ts.length st) : wS ts.length (bracketF ts st s) + 1 ≤ wS ts.length st := by
  unfold bracketF
  split
  · exact w_lt_opens h
  · rw [w_fail 120 (by decide)]; exact h
theorem w_closes (s : ByteArray) : wS ts.length (closesF ts st s) ≤ wS ts.length st := w_takes s
theorem w_pos (he : st.e = 0) (hk : (tokAt ts st.at_).kind ≠ 0) : 1 ≤ wS ts.length st := by
  have := tok_in hk
  unfold wS
  rw [if_pos (by rw [he]; rfl)]; omega
theorem isF_pos {s : ByteArray} (h : isF ts st s = true) : 1 ≤ wS ts.length st := by
  simp only [isF, Bool.and_eq_true, Bool.or_eq_true, beq_iff_eq] at h
  refine w_pos h.1.1 ?_
  rcases h.1.2 with h | h <;> rw [h] <;> decide
theorem among_pos : ∀ (l : List ByteArray) (i : Nat), amongL ts st i l ≥ 0 → 1 ≤ wS ts.length st
  | [], i, h => by simp [amongL] at h
  | x :: l, i, h => by
    rw [amongL] at h
    split at h
    · rename_i hx; exact isF_pos hx
    · exact among_pos l (i + 1) h
end
def okC (N : Nat) : Cl → RS → Prop
  | .row r, _ => 1 ≤ r ∧ r ≤ 7
  | .loop r k _, st => (r = 1 ∨ r = 2 ∨ r = 4 ∨ r = 5 ∨ r = 6) ∧ (k ≥ 0 → 1 ≤ wS N st)
  | .choice _, st => 1 ≤ wS N st
  | .call _ _, st => 1 ≤ wS N st
  | .quant _ _, st => 1 ≤ wS N st
  | .list _, st => 1 ≤ wS N st
  | _, _ => True
def rankC : Cl → RS → Nat
  | .row r, _ => 2 * (10 - r.toNat)
  | .loop _ _ _, _ => 2
  | .not, _ => 13
  | .unary, _ => 5
  | .atom, _ => 4
  | .choice _, _ => 3
  | .call _ _, _ => 3
  | .quant _ _, _ => 3
  | .set, _ => 4
  | .list _, _ => 3
  | .more _ en _, st => if !en && st.e == 0 then 20 else 1
def sizeC : Cl → RS → Nat
  | .loop _ _ a, _ => a.size
  | .more _ en acc, st => if !en && st.e == 0 then 2 + Ex.sizes acc else 1 + Ex.sizes acc
  | _, _ => 1
theorem sizes_app : ∀ (l : List Ex) (x : Ex), Ex.sizes (l ++ [x]) = Ex.sizes l + x.size
  | [], x => by simp [Ex.sizes]
  | y :: l, x => by rw [List.cons_append, Ex.sizes, Ex.sizes, sizes_app l x]; omega
theorem ex0_size : ex0.size = 1 := by simp [ex0, Ex.size, Ex.sizes]
def EndsC (ts : List Tok) (f : Nat) (cl : Cl) (st : RS) : Prop := ∃ r, rd ts f cl st = some r ∧ wS ts.length r.2 ≤ wS ts.length st ∧ r.1.size + 3 * wS ts.length r.2 ≤ sizeC cl st + 3 * wS ts.length st
def IhC (ts : List Tok) (f : Nat) : Prop := ∀ cl st, okC ts.length cl st → 32 * wS ts.length st + rankC cl st ≤ f → EndsC ts f cl st
section
variable {ts : List Tok} {f : Nat} {st : RS}
theorem row1_at (ih : IhC ts f) {s : RS} (h : 32 * wS ts.length s + 18 ≤ f) : ∃ r, rd ts f (.row 1) s = some r ∧ wS ts.length r.2 ≤ wS ts.length s ∧ r.1.size + 3 * wS ts.length r.2 ≤ 1 + 3 * wS ts.length s := ih (.row 1) s ⟨by decide, by decide⟩ h
theorem nfB {c : Bool} (h : c = false) : ¬ c = true := by rw [h]; exact Bool.false_ne_true
theorem ends_row (ih : IhC ts f) (r : Int) (h1 : 1 ≤ r) (h7 : r ≤ 7) (hm : 32 * wS ts.length st + 2 * (10 - r.toNat) ≤ f + 1) : EndsC ts (f + 1) (.row r) st := by
  unfold EndsC
  rw [rd]
  show ∃ x, _ ∧ _ ∧ _ ≤ 1 + _
  by_cases he : (st.e != 0) = true
  · rw [if_pos he]; exact ⟨_, rfl, Nat.le_refl _, by dsimp only; rw [ex0_size]; omega⟩
  rw [if_neg he]
  by_cases h3 : (r == 3) = true
  · rw [if_pos h3]
    have : r = 3 := by simpa using h3
    subst this
    exact ih .not st trivial (by show _ + 13 ≤ f; simp at hm; omega)
  rw [if_neg h3]
  by_cases h7' : (r == 7) = true
  · rw [if_pos h7']
    have : r = 7 := by simpa using h7'
    subst this
    exact ih .unary st trivial (by show _ + 5 ≤ f; simp at hm; omega)
  rw [if_neg h7']
  have n3 : r ≠ 3 := by simpa using h3
  have n7 : r ≠ 7 := by simpa using h7'
  have hw : w64 (r + 1) = r + 1 := w64_id (by omega) (by omega)
  rw [hw]
  obtain ⟨p, hp, wp, sp⟩ := ih (.row (r + 1)) st ⟨by omega, by omega⟩ (by show _ + 2 * (10 - (r + 1).toNat) ≤ f; omega)
  rw [hp, Option.bind_some]
  obtain ⟨q, hq, wq, sq⟩ := ih (.loop r (amongF ts p.2 (signsL r)) p.1) p.2 ⟨by omega, among_pos _ 0⟩ (by show _ + 2 ≤ f; omega)
  have sp : p.1.size + 3 * wS ts.length p.2 ≤ 1 + 3 * wS ts.length st := sp
  have sq : q.1.size + 3 * wS ts.length q.2 ≤ p.1.size + 3 * wS ts.length p.2 := sq
  exact ⟨q, hq, by omega, by omega⟩
theorem ends_loop (ih : IhC ts f) (r k : Int) (a : Ex) (hr : r = 1 ∨ r = 2 ∨ r = 4 ∨ r = 5 ∨ r = 6) (hk : k ≥ 0 → 1 ≤ wS ts.length st) (hm : 32 * wS ts.length st + 2 ≤ f + 1) : EndsC ts (f + 1) (.loop r k a) st := by
  unfold EndsC
  rw [rd]
  show ∃ x, _ ∧ _ ∧ _ ≤ a.size + _
  by_cases hc : (decide (k ≥ 0) && st.e == 0) = true
  · rw [if_pos hc]
    simp only [Bool.and_eq_true, decide_eq_true_eq] at hc
    have w1 := hk hc.1
    have w2 := w_lt_next (st := st) w1
    have hw : w64 (r + 1) = r + 1 := w64_id (by omega) (by omega)
    rw [hw]
    obtain ⟨p, hp, wp, sp⟩ := ih (.row (r + 1)) st.next ⟨by omega, by omega⟩ (by show _ + 2 * (10 - (r + 1).toNat) ≤ f; omega)
    have sp : p.1.size + 3 * wS ts.length p.2 ≤ 1 + 3 * wS ts.length st.next := sp
    rw [hp, Option.bind_some]
    have hsz : ∀ {kd t : Int} {s : ByteArray}, (Ex.mk kd 0 s [a, p.1] t).size = 1 + (a.size + p.1.size) := by intros; simp [Ex.size, Ex.sizes]
    split
    · exact ⟨_, rfl, by show wS ts.length p.2 ≤ _; omega, by show (Ex.mk _ 0 _ [a, p.1] _).size + 3 * wS ts.length p.2 ≤ _; rw [hsz]; omega⟩
    · obtain ⟨q, hq, wq, sq⟩ := ih (.loop r (amongF ts p.2 (signsL r)) (.mk ((kindsL r).getD k.toNat 0) 0 (ByteArray.mk #[]) [a, p.1] (tokAt ts st.at_).at_)) p.2 ⟨hr, among_pos _ 0⟩ (by show _ + 2 ≤ f; omega)
      have sq : q.1.size + 3 * wS ts.length q.2 ≤ (Ex.mk ((kindsL r).getD k.toNat 0) 0 (ByteArray.mk #[]) [a, p.1] (tokAt ts st.at_).at_).size + 3 * wS ts.length p.2 := sq
      rw [hsz] at sq
      exact ⟨q, hq, by omega, by omega⟩
  · rw [if_neg hc]
    exact ⟨_, rfl, Nat.le_refl _, Nat.le_refl _⟩
theorem one_size {k n t : Int} {s : ByteArray} {x : Ex} : (Ex.mk k n s [x] t).size = 1 + x.size := by simp [Ex.size, Ex.sizes]
theorem two_size {k n t : Int} {s : ByteArray} {x y : Ex} : (Ex.mk k n s [x, y] t).size = 1 + (x.size + y.size) := by simp [Ex.size, Ex.sizes]
theorem leaf_size {k n t : Int} {s : ByteArray} : (Ex.mk k n s [] t).size = 1 := by simp [Ex.size, Ex.sizes]
theorem ends_not (ih : IhC ts f) (hm : 32 * wS ts.length st + 13 ≤ f + 1) : EndsC ts (f + 1) .not st := by
  unfold EndsC
  rw [rd]
  show ∃ x, _ ∧ _ ∧ _ ≤ 1 + _
  split
  · exact ih (.row 4) st ⟨by decide, by decide⟩ (by show _ + 12 ≤ f; omega)
  · rename_i h
    have w1 := w_lt_opens (isF_pos (by simpa using h))
    obtain ⟨p, hp, wp, sp⟩ := ih (.row 3) (opensF ts st) ⟨by decide, by decide⟩ (by show _ + 14 ≤ f; omega)
    have sp : p.1.size + 3 * wS ts.length p.2 ≤ 1 + 3 * wS ts.length (opensF ts st) := sp
    rw [hp, Option.map_some]
    exact ⟨_, rfl, by show wS ts.length p.2 ≤ _; omega, by show (Ex.mk _ _ _ [p.1] _).size + 3 * wS ts.length p.2 ≤ _; rw [one_size]; omega⟩
theorem ends_unary (ih : IhC ts f) (hm : 32 * wS ts.length st + 5 ≤ f + 1) : EndsC ts (f + 1) .unary st := by
  unfold EndsC
  rw [rd]
  show ∃ x, _ ∧ _ ∧ _ ≤ 1 + _
  split
  · exact ih .atom st trivial (by show _ + 4 ≤ f; omega)
  · rename_i h
    have w1 := w_lt_opens (isF_pos (by simpa using h))
    obtain ⟨p, hp, wp, sp⟩ := ih (.row 7) (opensF ts st) ⟨by decide, by decide⟩ (by show _ + 6 ≤ f; omega)
    have sp : p.1.size + 3 * wS ts.length p.2 ≤ 1 + 3 * wS ts.length (opensF ts st) := sp
    rw [hp, Option.map_some]
    exact ⟨_, rfl, by show wS ts.length p.2 ≤ _; omega, by show (Ex.mk _ _ _ [p.1] _).size + 3 * wS ts.length p.2 ≤ _; rw [one_size]; omega⟩
theorem leaf_ends {k n t : Int} {s : ByteArray} {s2 : RS} (h : wS ts.length s2 ≤ wS ts.length st) : ∃ r, some ((Ex.mk k n s [] t), s2) = some r ∧ wS ts.length r.2 ≤ wS ts.length st ∧ r.1.size + 3 * wS ts.length r.2 ≤ 1 + 3 * wS ts.length st :=
  ⟨_, rfl, h, by dsimp only; rw [leaf_size]; omega⟩
theorem fail_ends (c : Int) {s2 : RS} (hc : c ≠ 0) : ∃ r, some (ex0, failsF ts s2 c) = some r ∧ wS ts.length r.2 ≤ wS ts.length st ∧ r.1.size + 3 * wS ts.length r.2 ≤ 1 + 3 * wS ts.length st := by
  refine ⟨_, rfl, ?_, ?_⟩
  · dsimp only; rw [w_fail c hc]; exact Nat.zero_le _
  · dsimp only; rw [w_fail c hc, ex0_size]; omega
theorem ends_atom (ih : IhC ts f) (hm : 32 * wS ts.length st + 4 ≤ f + 1) : EndsC ts (f + 1) .atom st := by
  unfold EndsC
  rw [rd]
  show ∃ x, _ ∧ _ ∧ _ ≤ 1 + _
  split
  · exact ⟨_, rfl, Nat.le_refl _, by dsimp only; rw [ex0_size]; omega⟩
  split
  · exact leaf_ends w_le_next
  split
  · exact leaf_ends w_le_next
  split
  · exact leaf_ends w_le_next
  split
  · split
    · exact fail_ends 120 (by decide)
    · exact leaf_ends (Nat.le_trans w_le_next w_le_next)
  split
  · rename_i h
    have h : amongF ts st whichL = 1 := by simpa using h
    have w0 := among_pos (ts := ts) (st := st) whichL 0 (by show amongF ts st whichL ≥ 0; omega)
    have w1 := w_lt_bracket (ByteArray.mk #[40]) w0
    obtain ⟨p, hp, wp, sp⟩ := row1_at ih (s := bracketF ts st (ByteArray.mk #[40])) (by omega)
    rw [hp, Option.map_some]
    have w2 := w_closes (ts := ts) (st := p.2) (ByteArray.mk #[41])
    exact ⟨_, rfl, by dsimp only; omega, by dsimp only; omega⟩
  split
  · rename_i h
    have h : amongF ts st whichL = 2 := by simpa using h
    exact ih (.choice _) st (among_pos (ts := ts) (st := st) whichL 0 (by show amongF ts st whichL ≥ 0; omega)) (by show _ + 3 ≤ f; omega)
  split
  · rename_i h
    exact ih (.call _ _) st (among_pos (ts := ts) (st := st) callsL 0 (of_decide_eq_true h)) (by show _ + 3 ≤ f; omega)
  split
  · rename_i h
    exact ih (.quant _ _) st (among_pos (ts := ts) (st := st) quantsL 0 (of_decide_eq_true h)) (by show _ + 3 ≤ f; omega)
  · exact fail_ends 120 (by decide)
theorem ends_choice (ih : IhC ts f) (t : Int) (h1 : 1 ≤ wS ts.length st) (hm : 32 * wS ts.length st + 3 ≤ f + 1) : EndsC ts (f + 1) (.choice t) st := by
  unfold EndsC
  rw [rd]
  show ∃ x, _ ∧ _ ∧ _ ≤ 1 + _
  have w1 := w_lt_opens h1
  obtain ⟨a, ha, wa, sa⟩ := row1_at ih (s := opensF ts st) (by omega)
  rw [ha, Option.bind_some]
  have w2 := w_takes (ts := ts) (st := a.2) (ByteArray.mk #[116, 104, 101, 110])
  obtain ⟨b, hb, wb, sb⟩ := row1_at ih (s := takesF ts a.2 (ByteArray.mk #[116, 104, 101, 110])) (by omega)
  rw [hb, Option.bind_some]
  have w3 := w_takes (ts := ts) (st := b.2) (ByteArray.mk #[101, 108, 115, 101])
  obtain ⟨c, hc, wc, sc⟩ := row1_at ih (s := takesF ts b.2 (ByteArray.mk #[101, 108, 115, 101])) (by omega)
  rw [hc, Option.map_some]
  refine ⟨_, rfl, by show wS ts.length c.2 ≤ _; omega, ?_⟩
  show (Ex.mk _ _ _ [a.1, b.1, c.1] _).size + 3 * wS ts.length c.2 ≤ _
  simp only [Ex.size, Ex.sizes]
  omega
theorem ends_call (ih : IhC ts f) (i t : Int) (h1 : 1 ≤ wS ts.length st) (hm : 32 * wS ts.length st + 3 ≤ f + 1) : EndsC ts (f + 1) (.call i t) st := by
  unfold EndsC
  rw [rd]
  show ∃ x, _ ∧ _ ∧ _ ≤ 1 + _
  have w0 := w_lt_next (st := st) h1
  have w1 := w_bracket (ts := ts) (st := st.next) (ByteArray.mk #[40])
  obtain ⟨a, ha, wa, sa⟩ := row1_at ih (s := bracketF ts st.next (ByteArray.mk #[40])) (by omega)
  rw [ha, Option.bind_some]
  split
  · have w2 := w_takes (ts := ts) (st := a.2) (ByteArray.mk #[44])
    obtain ⟨b, hb, wb, sb⟩ := row1_at ih (s := takesF ts a.2 (ByteArray.mk #[44])) (by omega)
    rw [hb, Option.map_some]
    have w3 := w_closes (ts := ts) (st := b.2) (ByteArray.mk #[41])
    exact ⟨_, rfl, by dsimp only; omega, by dsimp only; rw [two_size]; omega⟩
  · have w3 := w_closes (ts := ts) (st := a.2) (ByteArray.mk #[41])
    exact ⟨_, rfl, by dsimp only; omega, by dsimp only; rw [one_size]; omega⟩
theorem ends_quant (ih : IhC ts f) (i t : Int) (h1 : 1 ≤ wS ts.length st) (hm : 32 * wS ts.length st + 3 ≤ f + 1) : EndsC ts (f + 1) (.quant i t) st := by
  unfold EndsC
  rw [rd]
  show ∃ x, _ ∧ _ ∧ _ ≤ 1 + _
  split
  · exact fail_ends 121 (by decide)
  split
  · exact fail_ends 121 (by decide)
  have w0 : wS ts.length (opensF ts { st with quants := w64 (st.quants + 1) }) + 1 ≤ wS ts.length st := w_lt_opens (st := { st with quants := w64 (st.quants + 1) }) h1
  generalize opensF ts { st with quants := w64 (st.quants + 1) } = q at w0 ⊢
  split
  · exact fail_ends 120 (by decide)
  have w1 := w_le_next (ts := ts) (st := q)
  have w2 := w_takes (ts := ts) (st := q.next) (ByteArray.mk #[105, 110])
  obtain ⟨s, hs, ws, ss⟩ := ih .set (takesF ts q.next (ByteArray.mk #[105, 110])) trivial (by show _ + 4 ≤ f; omega)
  have ss : s.1.size + 3 * wS ts.length s.2 ≤ 1 + 3 * wS ts.length (takesF ts q.next (ByteArray.mk #[105, 110])) := ss
  rw [hs, Option.bind_some]
  have w3 := w_takes (ts := ts) (st := s.2) (ByteArray.mk #[58])
  obtain ⟨b, hb, wb, sb⟩ := row1_at ih (s := takesF ts s.2 (ByteArray.mk #[58])) (by omega)
  rw [hb, Option.map_some]
  exact ⟨_, rfl, by show wS ts.length b.2 ≤ _; omega, by show (Ex.mk _ _ _ [s.1, b.1] _).size + 3 * wS ts.length b.2 ≤ _; rw [two_size]; omega⟩
theorem ends_set (ih : IhC ts f) (hm : 32 * wS ts.length st + 4 ≤ f + 1) : EndsC ts (f + 1) .set st := by
  unfold EndsC
  rw [rd]
  show ∃ x, _ ∧ _ ∧ _ ≤ 1 + _
  split
  · exact ⟨_, rfl, Nat.le_refl _, by dsimp only; rw [ex0_size]; omega⟩
  split
  · exact leaf_ends w_le_next
  split
  · rename_i h
    have h : amongF ts st setsL = 1 := by simpa using h
    have w0 := w_lt_next (st := st) (among_pos (ts := ts) (st := st) setsL 0 (by show amongF ts st setsL ≥ 0; omega))
    have w1 := w_bracket (ts := ts) (st := st.next) (ByteArray.mk #[40])
    obtain ⟨a, ha, wa, sa⟩ := row1_at ih (s := bracketF ts st.next (ByteArray.mk #[40])) (by omega)
    rw [ha, Option.map_some]
    have w3 := w_closes (ts := ts) (st := a.2) (ByteArray.mk #[41])
    exact ⟨_, rfl, by dsimp only; omega, by dsimp only; rw [one_size]; omega⟩
  split
  · rename_i h
    have h : amongF ts st setsL = 2 := by simpa using h
    exact ih (.list _) st (among_pos (ts := ts) (st := st) setsL 0 (by show amongF ts st setsL ≥ 0; omega)) (by show _ + 3 ≤ f; omega)
  split
  · exact leaf_ends w_le_next
  · exact fail_ends 120 (by decide)
theorem rank_more {t : Int} {en : Bool} {acc : List Ex} {s : RS} : rankC (.more t en acc) s ≤ 20 := by
  show (if !en && s.e == 0 then 20 else 1) ≤ 20
  split <;> decide
theorem size_more {t : Int} {en : Bool} {acc : List Ex} {s : RS} : sizeC (.more t en acc) s ≤ 2 + Ex.sizes acc := by
  show (if !en && s.e == 0 then 2 + Ex.sizes acc else 1 + Ex.sizes acc) ≤ _
  split <;> omega
theorem ends_list (ih : IhC ts f) (t : Int) (h1 : 1 ≤ wS ts.length st) (hm : 32 * wS ts.length st + 3 ≤ f + 1) : EndsC ts (f + 1) (.list t) st := by
  unfold EndsC
  rw [rd]
  show ∃ x, _ ∧ _ ∧ _ ≤ 1 + _
  have w1 := w_lt_bracket (ByteArray.mk #[123]) h1
  obtain ⟨q, hq, wq, sq⟩ := ih (.more t (isF ts (bracketF ts st (ByteArray.mk #[123])) (ByteArray.mk #[125])) []) (bracketF ts st (ByteArray.mk #[123])) trivial (by have := rank_more (t := t) (en := isF ts (bracketF ts st (ByteArray.mk #[123])) (ByteArray.mk #[125])) (acc := []) (s := bracketF ts st (ByteArray.mk #[123])); omega)
  have := size_more (t := t) (en := isF ts (bracketF ts st (ByteArray.mk #[123])) (ByteArray.mk #[125])) (acc := []) (s := bracketF ts st (ByteArray.mk #[123]))
  have e0 : Ex.sizes [] = 0 := by simp [Ex.sizes]
  rw [e0] at this
  exact ⟨q, hq, by omega, by omega⟩
theorem ends_more (ih : IhC ts f) (t : Int) (en : Bool) (acc : List Ex) (hm : 32 * wS ts.length st + rankC (.more t en acc) st ≤ f + 1) : EndsC ts (f + 1) (.more t en acc) st := by
  unfold EndsC
  rw [rd]
  by_cases hc : (!en && st.e == 0) = true
  · have e1 : sizeC (.more t en acc) st = 2 + Ex.sizes acc := if_pos hc
    have e2 : rankC (.more t en acc) st = 20 := if_pos hc
    rw [e2] at hm
    rw [e1, if_pos hc]
    obtain ⟨p, hp, wp, sp⟩ := row1_at ih (s := st) (by omega)
    rw [hp, Option.bind_some]
    by_cases hb : isF ts p.2 (ByteArray.mk #[125]) = true
    · rw [if_pos hb, hb]
      have e3 : sizeC (.more t true (acc ++ [p.1])) p.2 = 1 + (Ex.sizes acc + p.1.size) := by rw [← sizes_app]; rfl
      obtain ⟨q, hq, wq, sq⟩ := ih (.more t true (acc ++ [p.1])) p.2 trivial (by show _ + 1 ≤ f; omega)
      exact ⟨q, hq, by omega, by omega⟩
    · have hb0 : isF ts p.2 (ByteArray.mk #[125]) = false := by simpa using hb
      rw [if_neg hb, hb0]
      by_cases hf : isF ts p.2 (ByteArray.mk #[44]) = true
      · have w2 : wS ts.length (takesF ts p.2 (ByteArray.mk #[44])) + 1 ≤ wS ts.length p.2 := by unfold takesF; rw [if_pos hf]; exact w_lt_next (isF_pos hf)
        obtain ⟨q, hq, wq, sq⟩ := ih (.more t false (acc ++ [p.1])) (takesF ts p.2 (ByteArray.mk #[44])) trivial (by have := rank_more (t := t) (en := false) (acc := acc ++ [p.1]) (s := takesF ts p.2 (ByteArray.mk #[44])); omega)
        have := size_more (t := t) (en := false) (acc := acc ++ [p.1]) (s := takesF ts p.2 (ByteArray.mk #[44]))
        rw [sizes_app] at this
        exact ⟨q, hq, by omega, by omega⟩
      · have e4 : takesF ts p.2 (ByteArray.mk #[44]) = failsF ts p.2 120 := by unfold takesF; rw [if_neg hf]
        rw [e4]
        have w2 := w_fail (ts := ts) (st := p.2) 120 (by decide)
        have e5 : ((failsF ts p.2 120).e == 0) = false := by
          unfold failsF
          split
          · rfl
          · rename_i h; simpa using h
        have e6 : (!false && (failsF ts p.2 120).e == 0) = false := by rw [e5]; rfl
        have e7 : sizeC (.more t false (acc ++ [p.1])) (failsF ts p.2 120) = 1 + (Ex.sizes acc + p.1.size) := by rw [← sizes_app]; exact if_neg (nfB e6)
        have e8 : rankC (.more t false (acc ++ [p.1])) (failsF ts p.2 120) = 1 := if_neg (nfB e6)
        obtain ⟨q, hq, wq, sq⟩ := ih (.more t false (acc ++ [p.1])) (failsF ts p.2 120) trivial (by rw [e8]; omega)
        exact ⟨q, hq, by omega, by omega⟩
  · have e1 : sizeC (.more t en acc) st = 1 + Ex.sizes acc := if_neg hc
    rw [e1, if_neg hc]
    have w3 := w_closes (ts := ts) (st := st) (ByteArray.mk #[125])
    exact ⟨_, rfl, w3, by show (Ex.mk _ _ _ acc _).size + _ ≤ _; rw [Ex.size]; dsimp only; omega⟩
end
theorem rd_ends (ts : List Tok) : ∀ f, IhC ts f
  | 0, cl, st, hok, hm => by
    exfalso
    cases cl with
    | row r => have h : 32 * wS ts.length st + 2 * (10 - r.toNat) ≤ 0 := hm; have := hok.2; omega
    | loop r k a => have h : 32 * wS ts.length st + 2 ≤ 0 := hm; omega
    | not => have h : 32 * wS ts.length st + 13 ≤ 0 := hm; omega
    | unary => have h : 32 * wS ts.length st + 5 ≤ 0 := hm; omega
    | atom => have h : 32 * wS ts.length st + 4 ≤ 0 := hm; omega
    | choice t => have h : 32 * wS ts.length st + 3 ≤ 0 := hm; omega
    | call i t => have h : 32 * wS ts.length st + 3 ≤ 0 := hm; omega
    | quant i t => have h : 32 * wS ts.length st + 3 ≤ 0 := hm; omega
    | set => have h : 32 * wS ts.length st + 4 ≤ 0 := hm; omega
    | list t => have h : 32 * wS ts.length st + 3 ≤ 0 := hm; omega
    | more t en acc => have h : 32 * wS ts.length st + (if !en && st.e == 0 then 20 else 1) ≤ 0 := hm; split at h <;> omega
  | f + 1, cl, st, hok, hm => by
    have ih := rd_ends ts f
    cases cl with
    | row r => exact ends_row ih r hok.1 hok.2 hm
    | loop r k a => exact ends_loop ih r k a hok.1 hok.2 hm
    | not => exact ends_not ih hm
    | unary => exact ends_unary ih hm
    | atom => exact ends_atom ih hm
    | choice t => exact ends_choice ih t hok hm
    | call i t => exact ends_call ih i t hok hm
    | quant i t => exact ends_quant ih i t hok hm
    | set => exact ends_set ih hm
    | list t => exact ends_list ih t hok hm
    | more t en acc => exact ends_more ih t en acc hm
theorem scanL_len (s : ByteArray) : ∀ (f i : Nat) (acc : List Tok), (scanL s f i acc).1.length ≤ acc.length + f + 1
  | 0, i, acc => by simp [scanL]
  | f + 1, i, acc => by
    rw [scanL]
    split
    · split
      · have := scanL_len s f (i + 1) acc; omega
      · split
        · simp
        · have := scanL_len s f (tokF s i).2.1 (acc ++ [(tokF s i).1])
          rw [List.length_append] at this
          simp only [List.length_cons, List.length_nil] at this
          omega
    · simp
theorem scan_len (s : ByteArray) : (scanF s).1.length ≤ 2001 := by
  unfold scanF
  split
  · simp
  · rename_i h
    have h : s.size ≤ 2000 := by simp at h; omega
    have := scanL_len s s.size 0 []
    simp at this; omega
theorem parse_ends (s : ByteArray) : ∃ f r, f < 2 ^ 30 ∧ parseF s f = some r ∧ r.1.size ≤ 10000 := by
  refine ⟨100000, ?_⟩
  unfold parseF
  split
  · exact ⟨_, by decide, rfl, by dsimp only; rw [ex0_size]; decide⟩
  · have hl := scan_len s
    generalize (scanF s).1 = ts at hl
    obtain ⟨p, hp, wp, sp⟩ := row1_at (rd_ends ts 100000) (s := ⟨0, 0, 0, 0, 0⟩) (by show 32 * (ts.length - 0) + 18 ≤ _; omega)
    have hs : wS ts.length ⟨0, 0, 0, 0, 0⟩ = ts.length := rfl
    unfold parseL
    rw [hp, Option.map_some]
    refine ⟨_, by decide, rfl, ?_⟩
    dsimp only
    generalize (if p.2.e == 0 then if (tokAt ts p.2.at_).kind != 0 then failsF ts p.2 120 else p.2 else p.2) = s2
    split
    · dsimp only; rw [ex0_size]; decide
    · dsimp only; omega
end
end Go.Vx
namespace Go.Vx.Tryz
open Go Go.Vx Go.Proofs
section
theorem hoistTexts (s : ByteArray) {w : World} : CallsX E.P 4 #[.string s] w (IsV (.bool true) w) never := by
  obtain ⟨f, r, hf, hr, hz⟩ := parse_ends s
  refine vc4 ?_
  refine ⟨_, _, parse_c s f hf r hr, ?_, never_any⟩
  rintro v w2 ⟨A, l, c, rfl, hx, hE2⟩
  refine ⟨_, _, _, _, _, _, _, _, _, rfl, no, hE2, Away.no _, fun id hid w3 hE3 hi3 => ?_⟩
  have hE3' : Ext w2 w3 := hE3
  have t3 := hE3'.size
  refine ⟨_, _, of_c r.1 (hx.ext hE3') (fun x hx => by have := hx.2; omega) (by omega), ?_, never_any⟩
  rintro v w4 ⟨A4, l4, c4, rfl, hN4, hcells, hE4⟩
  have hE04 : Ext w w4 := (hE2.trans hE3').trans hE4
  refine ⟨_, _, _, _, _, _, _, _, _, _, rfl, no, hE4, Away.no _, fun id1 hid1 => ⟨fun _ w5 hE5 hi5 => callB (awake_c w5) fun w6 hE6 => ⟨rfl, (Ext.trans hE04 hE5).trans hE6⟩, fun _ => ⟨fun _ w5 hE5 hi5 => callB (awake_c w5) fun w6 hE6 => ⟨rfl, (Ext.trans hE04 hE5).trans hE6⟩, fun _ w5 hE5 hi5 => ?_⟩⟩⟩
  have hE5' : Ext w4 w5 := hE5
  have t5 := hE5'.size
  have hI : IntsR w5 no (ofF r.1).1.cells none 0 0 := by rw [hcells]; exact ⟨rfl, Nat.le_refl _, by decide, by simp, fun h => absurd rfl h⟩
  exact callB (hoistPlans (ofF r.1).1 (hN4.ext hE5') hI (fun x hx => by rcases hx with hx | hx; have := hx.2; omega; exact hx.elim)) fun w6 hE6 => ⟨rfl, (hE04.trans hE5').trans hE6⟩
end
end Go.Vx.Tryz
