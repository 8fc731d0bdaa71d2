/- Texts of the walk, gathered. -/
import Derived.Test.YtingeadhfbcacaaGreatDoorMs5
import Derived.Test.YtingeadhfbcacaaGreatDoorMs2
import Derived.Test.YtingeadhfbcacaaGreatDoorMs1
set_option linter.unusedSimpArgs false
set_option linter.unusedVariables false
namespace Go.Vx
open Go
section
mutual
def cin (b : Nat) : Nd → Bool
  | .mk k v _ l => (k != 26 || decide (v < (b : Int))) && cinL b l
def cinL (b : Nat) : List Nd → Bool
  | [] => true
  | x :: l => cin b x && cinL b l
end
theorem cinL_of {b : Nat} {l : List Nd} (h : ∀ x ∈ l, cin b x = true) : cinL b l = true := by
  induction l with
  | nil => rfl
  | cons x l ih => rw [cinL, h x (by simp), ih (fun y hy => h y (by simp [hy]))]; rfl
theorem look_cin (cells : List Int) : ∀ (f : Nat) (n : Nd) (a q : Int) (st : WS) (r : Int × WS), lookK cells f a q st n = some r → cin cells.length n = true := by
  intro f
  induction f with
  | zero => intro n a q st r h; simp [lookK] at h
  | succ f ih =>
    intro n a q st r h
    obtain ⟨k, v, s, l⟩ := n
    rw [lookK] at h
    split at h
    · cases h
    have fin : (k ≠ 26 ∨ v < cells.length) → (∀ x ∈ l, cin cells.length x = true) → cin cells.length (.mk k v s l) = true := fun h1 h2 => by
      rw [cin, cinL_of h2]
      rcases h1 with h1 | h1 <;> simp [h1]
    by_cases h21 : k = 21
    · subst h21
      have h : (if (l.length : Int) == 2 && strEq s (ByteArray.mk #[]) then quantL (lookK cells f) st.inc v (l.getD 0 nd0) (l.getD 1 nd0) a q else none) = some r := h
      split at h
      · rename_i hc
        simp only [Bool.and_eq_true, beq_iff_eq] at hc
        have hl : l.length = 2 := by omega
        refine fin (.inl (by decide)) fun x hx => ?_
        rw [quantL] at h
        split at h
        · obtain ⟨s1, e1, h⟩ := bind_some' h
          obtain ⟨s2, e2, h⟩ := map_some' h
          rcases list2 (d := nd0) hl x hx with rfl | rfl
          · generalize l.getD 0 nd0 = y at e1
            obtain ⟨k2, v2, s2, l2⟩ := y
            rw [setLk] at e1
            split at e1
            · cases e1
            · split at e1
              · rename_i h23
                have : k2 = 23 := by simpa using h23
                subst this
                split at e1
                · rename_i hc2
                  simp only [Bool.and_eq_true, beq_iff_eq] at hc2
                  have : l2 = [] := List.length_eq_zero_iff.1 (by omega)
                  subst this; rfl
                · cases e1
              · rename_i h23
                have hne : k2 ≠ 21 := fun e => by subst e; simp at e1
                have hne6 : k2 ≠ 26 := fun e => by subst e; simp at e1
                rw [cin, cinL_of fun x hx => ?_]
                · simp [hne6]
                · obtain ⟨st2, r2, e3⟩ := lookAll_each (ite_some e1) x hx
                  exact ih _ _ _ _ _ e3
          · obtain ⟨r2, e3⟩ := ofL_some e2
            exact ih _ _ _ _ _ e3
        · cases h
      · cases h
    · have h26 : k ≠ 26 ∨ v < cells.length := by
        by_cases e26 : k = 26
        · subst e26
          have h : (if (l.length : Int) == 1 && strEq s (ByteArray.mk #[]) then cellL cells (lookK cells f a q) st.inc v (l.getD 0 nd0) a else none) = some r := h
          have h := ite_some h
          rw [cellL] at h
          split at h
          · rename_i hc
            simp only [Bool.and_eq_true, decide_eq_true_eq] at hc
            exact .inr hc.1.2
          · cases h
        · exact .inl e26
      refine fin h26 fun x hx => ?_
      cases hsh : shapeF k v with
      | none => rw [hsh] at h; cases h
      | plain kn of gives t =>
        rw [hsh] at h
        dsimp only at h
        rw [plainL] at h
        split at h
        · obtain ⟨s1, e1, _⟩ := map_some' h
          obtain ⟨st2, r2, e3⟩ := lookAll_each e1 x hx
          exact ih _ _ _ _ _ e3
        · cases h
      | other kn t =>
        rw [hsh] at h
        dsimp only at h
        split at h
        · rename_i hc
          simp only [Bool.and_eq_true, beq_iff_eq] at hc
          have hsg : (kn = 2 ∧ t = 100) ∨ (kn = 3 ∧ t = 101) ∨ (kn = 1 ∧ t = 104) ∨ k = 21 := by
            by_cases e13 : k = 13
            · subst e13; cases hsh; exact .inl ⟨rfl, rfl⟩
            by_cases e14 : k = 14
            · subst e14; cases hsh; exact .inl ⟨rfl, rfl⟩
            by_cases e19 : k = 19
            · subst e19; cases hsh; exact .inr (.inl ⟨rfl, rfl⟩)
            by_cases e26 : k = 26
            · subst e26; cases hsh; exact .inr (.inr (.inl ⟨rfl, rfl⟩))
            exfalso
            unfold shapeF at hsh
            have c13 : (k == 13) = false := by simpa using e13
            have c14 : (k == 14) = false := by simpa using e14
            have c19 : (k == 19) = false := by simpa using e19
            have c21 : (k == 21) = false := by simpa using h21
            have c26 : (k == 26) = false := by simpa using e26
            rw [iff0 c13, iff0 c14, iff0 c19, iff0 c21, iff0 c26] at hsh
            have hn := congrArg notOther hsh
            simp only [nother_if] at hn
            simp only [notOther, ite_self] at hn
            cases hn
          rcases hsg with ⟨rfl, rfl⟩ | ⟨rfl, rfl⟩ | ⟨rfl, rfl⟩ | rfl
          · have hl : l.length = 2 := by omega
            rw [if_pos rfl, alikeL] at h
            split at h
            · obtain ⟨p, e1, h⟩ := bind_some' h
              obtain ⟨s2, e2, _⟩ := map_some' h
              rcases list2 (d := nd0) hl x hx with rfl | rfl
              · exact ih _ _ _ _ _ e1
              · obtain ⟨r2, e3⟩ := ofL_some e2; exact ih _ _ _ _ _ e3
            · cases h
          · have hl : l.length = 3 := by omega
            rw [if_neg (by decide), if_pos rfl, choiceL] at h
            split at h
            · obtain ⟨p, e1, h⟩ := bind_some' h
              obtain ⟨p2, e2, h⟩ := bind_some' h
              obtain ⟨s2, e4, _⟩ := map_some' h
              rcases list3 (d := nd0) hl x hx with rfl | rfl | rfl
              · obtain ⟨r2, e3⟩ := ofL_some e1; exact ih _ _ _ _ _ e3
              · exact ih _ _ _ _ _ e2
              · obtain ⟨r2, e3⟩ := ofL_some e4; exact ih _ _ _ _ _ e3
            · cases h
          · have hl : l.length = 1 := by omega
            rw [if_neg (by decide), if_neg (by decide), if_neg (by decide), cellL] at h
            split at h
            · obtain ⟨p, e1, h⟩ := bind_some' h
              rw [list1 (d := nd0) hl x hx]
              exact ih _ _ _ _ _ e1
            · cases h
          · exact absurd rfl h21
        · cases h
theorem right_cin {p : Pl} (h : refKind p ≠ 0) : cin p.cells.length p.root = true := by
  rw [← planKind_eq] at h
  unfold planKind at h
  split at h
  · exact absurd rfl h
  · split at h
    · exact absurd rfl h
    · cases e : lookK p.cells p.root.size 0 0 ⟨0, List.replicate p.cells.length none, List.replicate p.cells.length 0, true⟩ p.root with
      | none => rw [e] at h; exact absurd rfl h
      | some r => exact look_cin _ _ _ _ _ _ _ e
mutual
def back (b : Nat) : Nd → Nd
  | .mk k v s l => if k == 26 then (if decide (v < (b : Int)) then .mk k v s l else l.getD 0 nd0) else .mk k v s (backL b l)
def backL (b : Nat) : List Nd → List Nd
  | [] => []
  | x :: l => back b x :: backL b l
end
def HvOk (b : Nat) (g : Sg) : Prop := b ≤ g.2.length ∧ ∀ k c, g.1 k = some c → (b : Int) ≤ c
theorem cellF_ok {b : Nat} {st : Key → Option Int} {g : Sg} {k : Key} (h : HvOk b g) : HvOk b (cellF st g.1 g.2 k).2 ∧ ((cellF st g.1 g.2 k).1.2 = true → (b : Int) ≤ (cellF st g.1 g.2 k).1.1) ∧ g.2.length ≤ (cellF st g.1 g.2 k).2.2.length := by
  unfold cellF
  split
  · rename_i c hc
    exact ⟨h, fun _ => h.2 _ _ hc, Nat.le_refl _⟩
  · split
    · split
      · refine ⟨⟨by rw [List.length_append]; have := h.1; omega, fun k' c hc => ?_⟩, fun _ => by have := h.1; show (b : Int) ≤ (g.2.length : Int); omega, by rw [List.length_append]; omega⟩
        unfold setK at hc
        dsimp only at hc
        split at hc
        · cases hc; have := h.1; omega
        · exact h.2 _ _ hc
      · exact ⟨h, (fun h => by cases h), Nat.le_refl _⟩
    · exact ⟨h, (fun h => by cases h), Nat.le_refl _⟩
mutual
theorem sgone_ok {b : Nat} (st : Key → Option Int) : ∀ (n : Nd) (a : Int) (g : Sg), HvOk b g → HvOk b (sgoneN st n a g).2 ∧ g.2.length ≤ (sgoneN st n a g).2.2.length
  | .mk k v s l, a, g, h => by
    rw [sgoneN]
    split
    · exact ⟨h, Nat.le_refl _⟩
    · split
      · have q := cellF_ok (st := st) (k := keyN a (.mk k v s l)) h
        split
        · exact ⟨q.1, q.2.2⟩
        · have q2 := sgoneL_ok (b := b) st k a l 0 _ q.1
          exact ⟨q2.1, Nat.le_trans q.2.2 q2.2⟩
      · exact sgoneL_ok st k a l 0 g h
theorem sgoneL_ok {b : Nat} (st : Key → Option Int) (k a : Int) : ∀ (l : List Nd) (i : Int) (g : Sg), HvOk b g → HvOk b (sgoneL st k a i l g).2 ∧ g.2.length ≤ (sgoneL st k a i l g).2.2.length
  | [], i, g, h => by rw [sgoneL]; exact ⟨h, Nat.le_refl _⟩
  | x :: l, i, g, h => by
    rw [sgoneL]
    have q := sgone_ok (b := b) st x (innerI k i a) g h
    have q2 := sgoneL_ok (b := b) st k a l (w64 (i + 1)) _ q.1
    exact ⟨q2.1, Nat.le_trans q.2 q2.2⟩
end
mutual
theorem back_gone {b : Nat} (st : Key → Option Int) : ∀ (n : Nd) (a : Int) (g : Sg), HvOk b g → cin b n = true → back b (sgoneN st n a g).1 = n
  | .mk k v s l, a, g, h, hc => by
    rw [sgoneN]
    rw [cin, Bool.and_eq_true] at hc
    split
    · rename_i h26
      have hv : decide (v < (b : Int)) = true := by simp at h26; subst h26; simpa using hc.1
      dsimp only
      rw [back, if_pos h26, if_pos hv]
    · rename_i h26
      split
      · have q := cellF_ok (st := st) (k := keyN a (.mk k v s l)) h
        split
        · rename_i hx
          have := q.2.1 hx
          dsimp only
          rw [back, if_pos (by decide), if_neg (by simpa using this)]; rfl
        · dsimp only
          rw [back, if_neg h26, backL_gone st k a l 0 _ q.1 hc.2]
      · dsimp only
        rw [back, if_neg h26, backL_gone st k a l 0 _ h hc.2]
theorem backL_gone {b : Nat} (st : Key → Option Int) (k a : Int) : ∀ (l : List Nd) (i : Int) (g : Sg), HvOk b g → cinL b l = true → backL b (sgoneL st k a i l g).1 = l
  | [], i, g, h, hc => by rw [sgoneL]; rfl
  | x :: l, i, g, h, hc => by
    rw [cinL, Bool.and_eq_true] at hc
    rw [sgoneL, backL, back_gone st x _ g h hc.1, backL_gone st k a l _ _ (sgone_ok st x _ g h).1 hc.2]
end
theorem hangs_call {a v : Int} {s : ByteArray} {l : List Nd} : hangs a (.mk 20 v s l) = hangsL a 0 l := by rw [hangs]; rfl
theorem hangs_cell {a v c : Int} {s s2 : ByteArray} {l : List Nd} : hangs a (.mk 26 c s2 [.mk 20 v s l]) = hangs a (.mk 20 v s l) := by
  rw [hangs_call, hangs, hangsL, hangsL, hangs_call]
  have := hangsL_ge a l 0
  have e : ((26 : Int) == 5) = false := rfl
  rw [e]
  simp only [Bool.false_eq_true, if_false]
  split <;> omega
mutual
theorem hangs_gone (st : Key → Option Int) (a' : Int) : ∀ (n : Nd) (a : Int) (g : Sg), hangs a' (sgoneN st n a g).1 = hangs a' n
  | .mk k v s l, a, g => by
    rw [sgoneN]
    split
    · rfl
    · split
      · rename_i h20
        have h20 : k = 20 := by simpa using h20
        subst h20
        split
        · exact hangs_cell
        · dsimp only
          rw [hangs, hangs, hangsL_gone st a' 20 a l 0 _ _]
      · dsimp only
        rw [hangs, hangs, hangsL_gone st a' k a l 0 _ _]
theorem hangsL_gone (st : Key → Option Int) (a' k a : Int) : ∀ (l : List Nd) (i : Int) (g : Sg) (h : Int), hangsL a' h (sgoneL st k a i l g).1 = hangsL a' h l
  | [], i, g, h => by rw [sgoneL]
  | x :: l, i, g, h => by rw [sgoneL, hangsL, hangsL, hangs_gone st a' x _ g, hangsL_gone st a' k a l _ _ _]
end
mutual
theorem rounds_gone (st : Key → Option Int) : ∀ (n : Nd) (a : Int) (g : Sg), roundsN (sgoneN st n a g).1 = roundsN n
  | .mk k v s l, a, g => by
    rw [sgoneN]
    split
    · rfl
    · split
      · rename_i h20
        have h20 : k = 20 := by simpa using h20
        subst h20
        split
        · rw [roundsN, if_neg (by decide), roundsL, roundsL]; simp
        · dsimp only
          rw [roundsN, roundsN, roundsL_gone st 20 a l 0 _]
      · dsimp only
        rw [roundsN, roundsN, roundsL_gone st k a l 0 _]
theorem roundsL_gone (st : Key → Option Int) (k a : Int) : ∀ (l : List Nd) (i : Int) (g : Sg), roundsL (sgoneL st k a i l g).1 = roundsL l
  | [], i, g => by rw [sgoneL]
  | x :: l, i, g => by rw [sgoneL, roundsL, roundsL, rounds_gone st x _ g, roundsL_gone st k a l _ _]
end
abbrev FrC := Nd × Int × Int
def frOf (a : Int) (n : Nd) : FrC := (n, hangs a n, if roundsN n then a else 0)
mutual
def freeN : Nd → Int → List FrC
  | .mk k v s l, a => if k == 26 then [] else (if k == 20 then [frOf a (.mk k v s l)] else []) ++ freeL k a 0 l
def freeL (k a : Int) : Int → List Nd → List FrC
  | _, [] => []
  | i, x :: l => freeN x (innerI k i a) ++ freeL k a (w64 (i + 1)) l
end
def keyF (b : Nat) (f : FrC) : Key := ⟨f.1.n, f.2.1, f.2.2, saidsF (ByteArray.mk #[]) (back b f.1).kids⟩
mutual
def keysN : Nd → Int → List Key
  | .mk k v s l, a => if k == 26 then [] else (if k == 20 then [keyN a (.mk k v s l)] else []) ++ keysL k a 0 l
def keysL (k a : Int) : Int → List Nd → List Key
  | _, [] => []
  | i, x :: l => keysN x (innerI k i a) ++ keysL k a (w64 (i + 1)) l
end
mutual
theorem keys_len : ∀ (n : Nd) (a : Int), (keysN n a).length ≤ n.size
  | .mk k v s l, a => by
    rw [keysN, Nd.size]
    have := keysL_len k a l 0
    split
    · simp
    · split <;> simp <;> omega
theorem keysL_len (k a : Int) : ∀ (l : List Nd) (i : Int), (keysL k a i l).length ≤ Nd.sizes l
  | [], i => by rw [keysL]; simp
  | x :: l, i => by
    rw [keysL, List.length_append, Nd.sizes]
    have := keys_len x (innerI k i a)
    have := keysL_len k a l (w64 (i + 1))
    omega
end
theorem bump_count {st : Key → Option Int} {k K : Key} {m : Nat} (h : (st k).getD 0 = (m : Int)) (hm : m < 2 ^ 40) : ((bumpK st k) K).getD 0 = (st K).getD 0 + if K = k then 1 else 0 := by
  unfold bumpK setK
  split
  · rename_i e
    subst e
    rw [h, w64_id (by omega) (by omega)]; rfl
  · omega
def Cnt (st : Key → Option Int) (m : Key → Nat) : Prop := ∀ K, (st K).getD 0 = (m K : Int)
mutual
theorem counts_keys : ∀ (n : Nd) (a : Int) (st : Key → Option Int) (m : Key → Nat) (b : Nat), Cnt st m → (∀ K, m K ≤ b) → b + n.size < 2 ^ 40 → Cnt (countsN n a st) fun K => m K + (keysN n a).count K
  | .mk k v s l, a, st, m, b, h, hb, hz => by
    rw [Nd.size] at hz
    rw [countsN, keysN]
    split
    · intro K; dsimp only; rw [h K]; simp
    · split
      · have h1 : Cnt (bumpK st (keyN a (.mk k v s l))) fun K => m K + if K = keyN a (.mk k v s l) then 1 else 0 := fun K => by
          rw [bump_count (h _) (by have := hb (keyN a (.mk k v s l)); omega), h K]
          dsimp only
          split <;> rfl
        have h2 := countsL_keys k a l 0 _ _ (b + 1) h1 (fun K => by have := hb K; split <;> omega) (by omega)
        intro K
        dsimp only
        rw [h2 K, List.count_append, List.count_singleton]
        have e : (keyN a (.mk k v s l) == K) = decide (K = keyN a (.mk k v s l)) := by
          by_cases h : K = keyN a (.mk k v s l)
          · subst h; simp
          · have h' : ¬ keyN a (.mk k v s l) = K := fun e => h e.symm
            simp [h, h']
        rw [e]
        dsimp only
        by_cases hK : K = keyN a (.mk k v s l)
        · simp only [hK, decide_true, if_true]; omega
        · simp only [hK, decide_false, if_false, Bool.false_eq_true]; omega
      · have h2 := countsL_keys k a l 0 st m b h hb (by omega)
        intro K
        rw [h2 K]; simp
theorem countsL_keys (k a : Int) : ∀ (l : List Nd) (i : Int) (st : Key → Option Int) (m : Key → Nat) (b : Nat), Cnt st m → (∀ K, m K ≤ b) → b + Nd.sizes l < 2 ^ 40 → Cnt (countsL k a i l st) fun K => m K + (keysL k a i l).count K
  | [], i, st, m, b, h, hb, hz => by rw [countsL, keysL]; intro K; rw [h K]; simp
  | x :: l, i, st, m, b, h, hb, hz => by
    rw [Nd.sizes] at hz
    rw [countsL, keysL]
    have h1 := counts_keys x (innerI k i a) st m b h hb (by omega)
    have hle : ∀ K, (keysN x (innerI k i a)).count K ≤ x.size := fun K => Nat.le_trans List.count_le_length (keys_len x _)
    have h2 := countsL_keys k a l (w64 (i + 1)) _ _ (b + x.size) h1 (fun K => by have := hb K; have := hle K; omega) (by omega)
    intro K
    dsimp only
    rw [h2 K, List.count_append]
    dsimp only
    rw [← Nat.add_assoc]
end
theorem keyF_gone {b : Nat} {st : Key → Option Int} {v a : Int} {s : ByteArray} {l : List Nd} {g : Sg} (h : HvOk b g) (hc : cinL b l = true) :
    keyF b (frOf a (.mk 20 v s (sgoneL st 20 a 0 l g).1)) = keyN a (.mk 20 v s l) := by
  unfold keyF frOf keyN
  have e1 : hangs a (.mk 20 v s (sgoneL st 20 a 0 l g).1) = hangs a (.mk 20 v s l) := by rw [hangs_call, hangs_call, hangsL_gone]
  have e2 : roundsN (.mk 20 v s (sgoneL st 20 a 0 l g).1) = roundsN (.mk 20 v s l) := by rw [roundsN, roundsN, roundsL_gone]
  dsimp only
  rw [e1, e2]
  have e3 : (back b (.mk 20 v s (sgoneL st 20 a 0 l g).1)).kids = (Nd.mk 20 v s l).kids := by
    rw [back, if_neg (by decide)]
    exact backL_gone st 20 a l 0 g h hc
  rw [e3]; rfl
mutual
theorem free_gone {b : Nat} (st : Key → Option Int) : ∀ (n : Nd) (a : Int) (g : Sg), HvOk b g → cin b n = true → (sgoneN st n a g).2.2.length < 256 →
    ((freeN (sgoneN st n a g).1 a).map (keyF b)).Sublist (keysN n a) ∧ ∀ K ∈ (freeN (sgoneN st n a g).1 a).map (keyF b), (st K).getD 0 ≤ 1
  | .mk k v s l, a, g, h, hc, hlen => by
    rw [sgoneN] at hlen ⊢
    rw [cin, Bool.and_eq_true] at hc
    rw [keysN]
    split at hlen
    · rename_i h26
      rw [if_pos h26]
      dsimp only
      rw [freeN, if_pos h26]
      simp
    · rename_i h26
      rw [if_neg h26]
      split at hlen
      · rename_i h20
        have h20 : k = 20 := by simpa using h20
        subst h20
        rw [if_pos (by decide)]
        have q := cellF_ok (st := st) (k := keyN a (.mk 20 v s l)) h
        split at hlen
        · rename_i hx
          rw [if_pos hx]
          dsimp only
          rw [freeN, if_pos (by decide)]
          simp
        · rename_i hx
          rw [if_neg hx]
          dsimp only at hlen ⊢
          rw [freeN, if_neg h26, if_pos (by decide)]
          have ih := freeL_gone st 20 a l 0 _ q.1 hc.2 hlen
          have hg := (sgoneL_ok (b := b) st 20 a l 0 _ q.1).2
          rw [List.map_append, List.map_singleton, keyF_gone q.1 hc.2]
          refine ⟨by simpa using ih.1, fun K hK => ?_⟩
          rcases List.mem_append.1 hK with hK | hK
          · cases List.mem_singleton.1 hK
            have hl2 : g.2.length < 256 := by have := q.2.2; omega
            unfold cellF at hx
            split at hx
            · exact absurd rfl hx
            · split at hx
              · rw [if_pos (by omega)] at hx; exact absurd rfl hx
              · omega
          · exact ih.2 K hK
      · rename_i h20
        dsimp only at hlen ⊢
        rw [if_neg h26, if_neg h20, freeN, if_neg h26, if_neg h20, if_neg h20, List.nil_append, List.nil_append]
        exact freeL_gone st k a l 0 g h hc.2 hlen
theorem freeL_gone {b : Nat} (st : Key → Option Int) (k a : Int) : ∀ (l : List Nd) (i : Int) (g : Sg), HvOk b g → cinL b l = true → (sgoneL st k a i l g).2.2.length < 256 →
    ((freeL k a i (sgoneL st k a i l g).1).map (keyF b)).Sublist (keysL k a i l) ∧ ∀ K ∈ (freeL k a i (sgoneL st k a i l g).1).map (keyF b), (st K).getD 0 ≤ 1
  | [], i, g, h, hc, hlen => by rw [sgoneL, freeL]; simp
  | x :: l, i, g, h, hc, hlen => by
    rw [sgoneL] at hlen ⊢
    rw [cinL, Bool.and_eq_true] at hc
    dsimp only at hlen ⊢
    rw [freeL, keysL, List.map_append]
    have q := sgone_ok (b := b) st x (innerI k i a) g h
    have q2 := sgoneL_ok (b := b) st k a l (w64 (i + 1)) _ q.1
    have i1 := free_gone st x (innerI k i a) g h hc.1 (by omega)
    have i2 := freeL_gone st k a l (w64 (i + 1)) _ q.1 hc.2 hlen
    refine ⟨i1.1.append i2.1, fun K hK => ?_⟩
    rcases List.mem_append.1 hK with hK | hK
    · exact i1.2 K hK
    · exact i2.2 K hK
end
mutual
theorem sameNd_eq : ∀ (x y : Nd), sameNd x y = true → x = y
  | .mk k v s l, .mk k2 v2 s2 l2, h => by
    rw [sameNd] at h
    split at h
    · cases h
    · rename_i h1
      split at h
      · cases h
      · rename_i h2
        split at h
        · cases h
        · rename_i h3
          split at h
          · cases h
          · rename_i h4
            have h1 : k = k2 := by simpa using h1
            have h2 : v = v2 := by simpa using h2
            have h3 : s = s2 := ByteArray.ext (Array.ext' (by
              have := strEq_toList (by simpa using h3 : strEq s s2 = true)
              rwa [ByteArray.toList_eq, ByteArray.toList_eq] at this))
            have h4 : (l.length : Int) = l2.length := by simpa using h4
            rw [h1, h2, h3, sameNds_eq l l2 (by omega) h]
theorem sameNds_eq : ∀ (l l2 : List Nd), l.length = l2.length → sameNds l l2 = true → l = l2
  | [], [], _, _ => rfl
  | [], _ :: _, h, _ => by simp at h
  | _ :: _, [], h, _ => by simp at h
  | x :: l, y :: l2, hl, h => by
    rw [sameNds] at h
    split at h
    · cases h
    · rename_i hx
      rw [sameNd_eq x y (by simpa using hx), sameNds_eq l l2 (by simpa using hl) h]
end
theorem two_count {α : Type} [DecidableEq α] {l : List α} {i k : Nat} {x : α} (hik : k < i) (h1 : l[i]? = some x) (h2 : l[k]? = some x) : 2 ≤ l.count x := by
  have hi : i < l.length := (List.getElem?_eq_some_iff.1 h1).1
  have e : l = l.take i ++ l.drop i := (List.take_append_drop i l).symm
  rw [e, List.count_append]
  have a1 : 1 ≤ (l.take i).count x := List.count_pos_iff.2 (List.mem_of_getElem? (i := k) (by rw [List.getElem?_take_of_lt hik]; exact h2))
  have a2 : 1 ≤ (l.drop i).count x := List.count_pos_iff.2 (List.mem_of_getElem? (i := 0) (by rw [List.getElem?_drop]; exact h1))
  omega
end
end Go.Vx
namespace Go.Vx.Tryz
open Go Go.Vx
theorem share_apart {p : Pl} (hr : rightB p = true) (hN : p.root.size < 2 ^ 30) (hlen : (shareR p).2.2.length < 256) {i k : Nat} (hik : k < i) {x y : FrC} (hx : (freeN (shareR p).1 0)[i]? = some x) (hy : (freeN (shareR p).1 0)[k]? = some y)
    (hs : sameNd x.1 y.1 = true) (h1 : x.2.1 = y.2.1) (h2 : x.2.2 = y.2.2) : False := by
  have hok : HvOk p.cells.length ((fun _ => none, p.cells) : Sg) := ⟨Nat.le_refl _, (fun _ _ h => by cases h)⟩
  have hc : cin p.cells.length p.root = true := right_cin (by unfold rightB at hr; simpa using hr)
  have hxy : x = y := by
    obtain ⟨x1, x2, x3⟩ := x
    obtain ⟨y1, y2, y3⟩ := y
    dsimp only at hs h1 h2
    rw [sameNd_eq _ _ hs, h1, h2]
  subst hxy
  have g := free_gone (b := p.cells.length) (stK p) p.root 0 (fun _ => none, p.cells) hok hc hlen
  have e1 : ((freeN (shareR p).1 0).map (keyF p.cells.length))[i]? = some (keyF p.cells.length x) := by rw [List.getElem?_map, hx]; rfl
  have e2 : ((freeN (shareR p).1 0).map (keyF p.cells.length))[k]? = some (keyF p.cells.length x) := by rw [List.getElem?_map, hy]; rfl
  have c1 := two_count hik e1 e2
  have c2 := g.1.count_le (keyF p.cells.length x)
  have c3 := g.2 _ (List.mem_of_getElem? e1)
  have c4 := counts_keys p.root 0 (fun _ => none) (fun _ => 0) 0 (fun _ => rfl) (fun _ => Nat.le_refl _) (by omega) (keyF p.cells.length x)
  have c5 : (stK p (keyF p.cells.length x)).getD 0 = ((0 + (keysN p.root 0).count (keyF p.cells.length x) : Nat) : Int) := c4
  have c6 : 2 ≤ (keysN p.root 0).count (keyF p.cells.length x) := Nat.le_trans c1 c2
  omega
theorem shareR_len {p : Pl} : p.cells.length ≤ (shareR p).2.2.length :=
  (sgone_ok (b := p.cells.length) (stK p) p.root 0 (fun _ => none, p.cells) ⟨Nat.le_refl _, (fun _ _ h => by cases h)⟩).2
end Go.Vx.Tryz
namespace Go.Vx
open Go
section
abbrev FE := Nd × Option Addr × Nat × Nat
def encE (e : FE) : List Value := ndV e.1 e.2.1 e.2.2.1 e.2.2.2
def encH (h : Int × Int) : List Value := [.int .i64 h.1, .int .i64 h.2]
theorem encE_len (e : FE) : (encE e).length = 4 := rfl
theorem encE_one (e : FE) : ∀ u ∈ encE e, u.oneCell' = true := fun u hu => by
  simp only [encE, ndV, List.mem_cons, List.not_mem_nil, or_false] at hu
  rcases hu with rfl | rfl | rfl | rfl <;> rfl
theorem encH_len (e : Int × Int) : (encH e).length = 2 := rfl
theorem encH_one (e : Int × Int) : ∀ u ∈ encH e, u.oneCell' = true := fun u hu => by
  simp only [encH, List.mem_cons, List.not_mem_nil, or_false] at hu
  rcases hu with rfl | rfl <;> rfl
abbrev relE : Rel FE 4 := flatRel encE encE_len encE_one
abbrev relH : Rel (Int × Int) 2 := flatRel encH encH_len encH_one
def FreeB (w0 : World) (id : Nat) (w : World) (F : Nat → Prop) (fs : List FrC) (A : Option Addr) (l c : Nat) (B : Option Addr) (m d : Nat) : Prop :=
  ∃ (es : List FE) (t1 t2 : Nat), es.map (·.1) = fs.map (·.1) ∧ (∀ e ∈ es, NdsR w F e.1.kids e.2.1 e.2.2.1 e.2.2.2) ∧
    RowB relE 24 w false w0.heap.size t1 no (fun b => b = id ∨ blkOf B b) es A l c ∧ RowB relH 38 w false w0.heap.size t2 no (fun b => b = id ∨ blkOf A b) (fs.map (·.2)) B m d ∧ Ext w0 w ∧ id < w.heap.size
theorem FreeB.nil {w0 w : World} {id : Nat} {F : Nat → Prop} (h : Ext w0 w) (hi : id < w.heap.size) : FreeB w0 id w F [] none 0 0 none 0 0 :=
  ⟨[], _, _, rfl, (fun _ h => by cases h), RowB.nil (fun _ h => h.elim) h.size, RowB.nil (fun _ h => h.elim) h.size, h, hi⟩
def FreeO (w0 w : World) (F : Nat → Prop) (fs : List FrC) (A : Option Addr) (l c : Nat) (B : Option Addr) (m d : Nat) : Prop :=
  ∃ es : List FE, es.map (·.1) = fs.map (·.1) ∧ (∀ e ∈ es, NdsR w F e.1.kids e.2.1 e.2.2.1 e.2.2.2) ∧
    RowIn w (Rng w0.heap.size w.heap.size) 4 A l c (es.map encE) ∧ RowIn w (Rng w0.heap.size w.heap.size) 2 B m d ((fs.map (·.2)).map encH)
theorem FreeB.out {w0 w : World} {id : Nat} {F : Nat → Prop} {fs : List FrC} {A : Option Addr} {l c : Nat} {B : Option Addr} {m d : Nat} (h : FreeB w0 id w F fs A l c B m d) (hl : fs.length < 2 ^ 48) : FreeO w0 w F fs A l c B m d := by
  obtain ⟨es, t1, t2, h1, h2, h3, h4, h5, h6⟩ := h
  have e1 := h3.len
  have e2 := h4.len
  have e3 := congrArg List.length h1
  simp only [List.length_map] at e3 e2
  have k3 := h3.los
  have k4 := h4.los
  refine ⟨es, h1, h2, (flat_of (h3.done (by omega) (.inr ⟨rfl, rfl⟩))).mono fun b hb => ?_, (flat_of (h4.done (by omega) (.inr ⟨rfl, rfl⟩))).mono fun b hb => ?_⟩
  · rcases hb with ⟨_, hb⟩ | hb
    · exact hb.elim
    · exact ⟨hb.1, by have := hb.2.1; omega⟩
  · rcases hb with ⟨_, hb⟩ | hb
    · exact hb.elim
    · exact ⟨hb.1, by have := hb.2.1; omega⟩
mutual
theorem free_len : ∀ (n : Nd) (a : Int), (freeN n a).length ≤ n.size
  | .mk k v s l, a => by
    rw [freeN, Nd.size]
    have := freeL_len k a l 0
    split
    · simp
    · split <;> simp <;> omega
theorem freeL_len (k a : Int) : ∀ (l : List Nd) (i : Int), (freeL k a i l).length ≤ Nd.sizes l
  | [], i => by rw [freeL]; simp
  | x :: l, i => by
    rw [freeL, List.length_append, Nd.sizes]
    have := free_len x (innerI k i a)
    have := freeL_len k a l (w64 (i + 1))
    omega
end
end
end Go.Vx
namespace Go.Vx.Tryz
open Go Go.Vx Go.Proofs
theorem slN : SlT E.P 22 24 4 56 := SlT.of (by kernel_rfl) (by omega) (by omega)
theorem slH : SlT E.P 34 38 2 16 := SlT.of (by kernel_rfl) (by omega) (by omega)
theorem eql38 (o1 o2 : Operand) (a b a' b' : Int) {w : World} : Sem.run E.P (binSem .eql 38 o1 o2 (.agg #[.int .i64 a, .int .i64 b]) (.agg #[.int .i64 a', .int .i64 b'])) w = .ok (.bool (a == a' && b == b')) w := by
  have g : E.P.eqGuardType E.P.depth 38 = false := by kernel_rfl
  have u : E.P.underlying 38 = some (.array 2 3) := by kernel_rfl
  have u3 : E.P.underlying 3 = some (.int .i64) := by kernel_rfl
  have a3 : ∀ w, (isAgg 3).run E.P w = .ok false w := fun w => Tryz.isAgg3 w
  have s3 : ∀ w, (Go.sizeOf 3).run E.P w = .ok 1 w := fun w => Tryz.sizeOf3 w
  have q : ∀ d (x y : Int) w, (Op.equalIn (d + 1) 3 (.int .i64 x) (.int .i64 y)).run E.P w = .ok (x == y) w := fun d x y w => by
    simp [Op.equalIn, run_underlying u3]
  have p : ∀ (i : Nat) (cs : Array Value) (v : Value), cs[i]? = some v → ∀ w, (Go.part 3 cs i).run E.P w = .ok v w := fun i cs v h w => by
    simp [Go.part, a3, h]
  have e : ∀ d w, (Op.equalIn (d + 2) 38 (.agg #[.int .i64 a, .int .i64 b]) (.agg #[.int .i64 a', .int .i64 b'])).run E.P w = .ok (a == a' && b == b') w := fun d w => by
    rw [Op.equalIn]
    have p0 := p 0 #[.int .i64 a, .int .i64 b] (.int .i64 a) rfl
    have p1 := p 1 #[.int .i64 a, .int .i64 b] (.int .i64 b) rfl
    have q0 := p 0 #[.int .i64 a', .int .i64 b'] (.int .i64 a') rfl
    have q1 := p 1 #[.int .i64 a', .int .i64 b'] (.int .i64 b') rfl
    cases h : a == a' <;> cases h2 : b == b' <;> simp [run_underlying u, s3, List.range', p0, p1, q0, q1, q, h, h2]
  have eg : (eqGuard .eql 38 o1 o2 (.agg #[.int .i64 a, .int .i64 b]) (.agg #[.int .i64 a', .int .i64 b'])).run E.P w = .ok () w := by
    have ps : ∀ w, (program).run E.P w = .ok E.P w := fun _ => rfl
    simp [eqGuard, ps, g]
  have eb : (binOp .eql 38 (.agg #[.int .i64 a, .int .i64 b]) (.agg #[.int .i64 a', .int .i64 b'])).run E.P w = .ok (.bool (a == a' && b == b')) w := by
    have := e 9998 w
    show (do pure (.bool (← Op.equal 38 _ _)) : Sem Value).run E.P w = _
    unfold Op.equal
    rw [show Op.maxDepth = 9998 + 2 from rfl]
    simp [this]
  unfold binSem
  simp [eg, eb]
theorem free_one {w w13 : World} {id id1 id2 : Nat} {F : Nat → Prop} {n : Nd} {A : Option Addr} {l c : Nat} {h : Int × Int} (hE : Ext w w13) (hi : id < w13.heap.size) (hm : NdsR w13 F n.kids A l c) (hF : ∀ x, F x → x < w.heap.size) (hlo : w.heap.size ≤ id2)
    (hc : w13.heap[id2]? = some (.cells #[.int .i64 n.k, .int .i64 n.n, .string n.s, .slice A l c] 24 (0, 0))) {K : Option Addr → Nat → Nat → Option Addr → Nat → Nat → World → Prop} (k : ∀ a n' c a1 n1 c1 w23, FreeB w id w23 F [(n, h)] a n' c a1 n1 c1 → K a n' c a1 n1 c1 w23) :
    ∃ R3, RunsTo E.P (Builtin.append_ #[22, 22] 22 #[.slice none 0 0, .slice (some ⟨id2, 0, none⟩) 1 1]) w13 R3 ∧ ∀ v2 w22, R3 v2 w22 → ∃ a n' c', v2 = .slice a n' c' ∧ ∃ S2, Upd w13 w22 S2 ∧ Away [id, id1, id2] S2 ∧ nB w22 fun id3 => fL w22 [] fun w14 => id3 < w14.heap.size → hA w14 id2 #[.int .i64 n.k, .int .i64 n.n, .string n.s, .slice A l c] 24 → hA w14 id3 #[.int .i64 h.1, .int .i64 h.2] 38 →
      ∃ R4, RunsTo E.P (Builtin.append_ #[34, 34] 34 #[.slice none 0 0, .slice (some ⟨id3, 0, none⟩) 1 1]) w14 R4 ∧ ∀ v3 w23, R4 v3 w23 → ∃ a1_1 n1 c1, v3 = .slice a1_1 n1 c1 ∧ ∃ S3, Upd w14 w23 S3 ∧ Away [id, id1, id2, id3] S3 ∧ (hA w23 id2 #[.int .i64 n.k, .int .i64 n.n, .string n.s, .slice A l c] 24 → hA w23 id3 #[.int .i64 h.1, .int .i64 h.2] 38 → K a n' c' a1_1 n1 c1 w23) := by
  have r0 : RowB relE 24 w13 false w.heap.size w.heap.size no (fun b => b = id ∨ blkOf none b) [] none 0 0 := RowB.nil (fun _ h => h.elim) hE.size
  refine ⟨_, RowB.push slN r0 (x := (n, A, l, c)) (cs := encE (n, A, l, c)) (Fk := no) rfl (fun _ h => h.elim) (Upd.refl _ _) (fun b hb => by rcases hb with rfl | hb; exact hi; exact hb.elim) hc (by decide), ?_⟩
  rintro _ w22 ⟨A1, c1, rfl, ⟨r1, hA1⟩, hU1⟩
  have hE1 : Ext w13 w22 := hU1.mono fun _ h => h.elim
  have s1 := hE1.size
  refine ⟨_, _, _, rfl, no, hE1, Away.no _, fun id3 hid3 w14 hE14 hi3 _ hc3 => ?_⟩
  have hE14 : Ext w22 w14 := hE14
  have s14 := hE14.size
  have q0 : RowB relH 38 w14 false w.heap.size w.heap.size no (fun b => b = id ∨ blkOf A1 b) [] none 0 0 := RowB.nil (fun _ h => h.elim) (by have := hE.size; omega)
  refine ⟨_, RowB.push slH q0 (x := h) (cs := encH h) (Fk := no) rfl (fun _ h => h.elim) (Upd.refl _ _) (fun b hb => by
    rcases hb with rfl | hb
    · omega
    · have := (r1.blk hb).2.1; omega) hc3 (by decide), ?_⟩
  rintro _ w23 ⟨B1, d1, rfl, ⟨q1, hB1⟩, hU2⟩
  have hE2 : Ext w14 w23 := hU2.mono fun _ h => h.elim
  have s2 := hE2.size
  refine ⟨_, _, _, rfl, no, hE2, Away.no _, fun _ _ => k _ _ _ _ _ _ _ ⟨[(n, A, l, c)], w22.heap.size, _, rfl, ?_, ?_, q1, ((hE.trans hE1).trans hE14).trans hE2, by omega⟩⟩
  · intro e he
    cases List.mem_singleton.1 he
    exact hm.ext ((hE1.trans hE14).trans hE2)
  · refine ((r1.ext hE14).ext hE2).re (Nat.le_refl _) (by omega) fun b hb => ?_
    rcases hb with rfl | hb
    · exact .inl (.inl rfl)
    · rcases hB1 b hb with hb | hb
      · exact hb.elim
      · exact .inr (by omega)
theorem inner_add {k i a : Int} (h : 0 ≤ a) (h2 : a < 2 ^ 61) : w64 (a + if k == 21 && i == 1 then 1 else 0) = innerI k i a := by
  unfold innerI
  cases k == 21 <;> cases i == 1 <;> simp [w64_id (show -9223372036854775808 ≤ a by omega) (show a ≤ 9223372036854775807 by omega)]
theorem inner_bound {k i a : Int} (h : 0 ≤ a) (h2 : a < 2 ^ 61) : 0 ≤ innerI k i a ∧ innerI k i a ≤ a + 1 := by
  rw [← inner_add h h2]
  split
  · rw [w64_id (by omega) (by omega)]; omega
  · rw [w64_id (by omega) (by omega)]; omega
theorem free_c (N : Nat) (hN : N < 2 ^ 30) : ∀ (n : Nd), n.size ≤ N → ∀ {w : World} {F : Nat → Prop} {A : Option Addr} {l c : Nat} (a : Int), 0 ≤ a → a + n.size < 2 ^ 61 → NdsR w F n.kids A l c → (∀ x, F x → x < w.heap.size) →
    CallsX E.P 9 #[ndA n A l c, .int .i64 a] w (fun v w' => ∃ A1 l1 c1 B m d, v = .tuple #[.slice A1 l1 c1, .slice B m d] ∧ FreeO w w' F (freeN n a) A1 l1 c1 B m d ∧ Ext w w') never := by
  induction N with
  | zero => intro n hn; cases n; simp [Nd.size] at hn
  | succ N ih =>
    intro n hn w F A l c a ha0 ha hm hF
    have hfl := free_len n a
    obtain ⟨k, v, s, kids⟩ := n
    have hm0 := hm
    dsimp only [ndA, Nd.k, Nd.n, Nd.s, Nd.kids] at *
    obtain rfl := hm.len
    have hkl := Nd.len_sizes kids
    simp only [Nd.size] at hn ha hfl
    refine vcD9 ?_
    intro id hid
    have e0 : freeN (.mk k v s kids) a = if k == 26 then [] else (if k == 20 then [frOf a (.mk k v s kids)] else []) ++ freeL k a 0 kids := by rw [freeN]
    refine ⟨fun h26 w1 hE1 hi => ?_, fun h26 => ?_⟩
    · rw [e0, if_pos h26]
      exact ⟨_, _, _, _, _, _, rfl, (FreeB.nil (id := id) hE1 hi).out (by simp), hE1⟩
    rw [if_neg (by rw [h26]; exact Bool.false_ne_true)] at e0
    refine ⟨fun a4 n4 c4 a5 n5 c5 w28 => FreeB w id w28 F (if k == 20 then [frOf a (.mk k v s kids)] else []) a4 n4 c4 a5 n5 c5, ⟨fun h20 w11 hE11 hi => ?_, fun h20 w17 hE17 hi => ?_⟩, ?_⟩
    · have hE11 : Ext w w11 := hE11
      rw [if_pos h20]
      refine callI (Hangs_c _ (.mk k v s kids) (Nat.le_refl _) a (hm0.ext hE11)) fun w2 hE2 id1 hid1 w12 hE12 hi1 => ?_
      have hE12 : Ext w2 w12 := hE12
      have s11 := hE11.size
      have s2 := hE2.size
      have s12 := hE12.size
      refine callB (Rounds_c _ (.mk k v s kids) (Nat.le_refl _) (((hm0.ext hE11).ext hE2).ext hE12)) fun w21 hE21 => ?_
      have s21 := hE21.size
      have hE021 := ((hE11.trans hE2).trans hE12).trans hE21
      refine ⟨fun hr id2 hid2 w13 hU13 hi2 hc2 => ?_, fun hr id2 hid2 w13 hU13 hi2 hc2 => ?_⟩
      · have hE13 := fl hE021 hU13 (show w.heap.size ≤ id1 by omega)
        have s13 := hU13.size
        have e1 : frOf a (.mk k v s kids) = (.mk k v s kids, (hangs a (.mk k v s kids), a)) := by unfold frOf; rw [hr]; rfl
        rw [e1]
        exact free_one (h := (_, _)) hE13 (by omega) (n := .mk k v s kids) (hm0.ext hE13) hF (by omega) hc2 fun _ _ _ _ _ _ _ q => q
      · have hE13 := hE021.trans (show Ext w21 w13 from hU13)
        have s13 := hU13.size
        have e1 : frOf a (.mk k v s kids) = (.mk k v s kids, (hangs a (.mk k v s kids), 0)) := by unfold frOf; rw [hr]; rfl
        rw [e1]
        exact free_one (h := (_, _)) hE13 (by omega) (n := .mk k v s kids) (hm0.ext hE13) hF (by omega) hc2 fun _ _ _ _ _ _ _ q => q
    · rw [if_neg (by rw [h20]; exact Bool.false_ne_true)]
      exact FreeB.nil hE17 hi
    intro _ a4 n4 c4 a5 n5 c5 w28 h28
    refine ⟨fun a6 n6 c6 a7 n7 c7 x w29 => ∃ (j : Nat) (fs : List FrC), x = j ∧ j ≤ kids.length ∧ fs ++ freeL k a j (kids.drop j) = freeN (.mk k v s kids) a ∧ FreeB w id w29 F fs a6 n6 c6 a7 n7 c7, fun _ _ _ _ _ _ x => ((kids.length : Int) - x).toNat,
      ⟨0, _, rfl, Nat.zero_le _, by rw [List.drop_zero, e0]; rfl, h28⟩, ?_⟩
    rintro _ a6 n6 c6 a7 n7 c7 _ w29 ⟨j, fs, rfl, hj, hg, hB⟩
    refine ⟨fun hlt => ?_, fun hge => ?_⟩
    · have hjl : j < kids.length := by simpa using hlt
      refine ⟨fun x w210 => x = (if k == 21 && (j : Int) == 1 then 1 else 0) ∧ w210 = w29, ?_, ?_⟩
      · refine ⟨fun h21 => ⟨fun h1 => ⟨by rw [h21, h1]; rfl, rfl⟩, fun h1 => ⟨by rw [h21, h1]; rfl, rfl⟩⟩, fun h21 => ⟨by rw [h21]; rfl, rfl⟩⟩
      rintro _ _ w210 ⟨rfl, hw⟩
      subst hw
      rw [inner_add ha0 (by omega)]
      have hib := inner_bound (k := k) (i := (j : Int)) ha0 (by omega)
      obtain ⟨es, t1, t2, b1, b2, b3, b4, b5, b6⟩ := hB
      have hks := kid_size hjl
      refine hm.idx hjl fun ad hadd => (hm.ext b5).cell hadd hjl fun A1 l1 c1 hk1 => ?_
      refine ⟨_, _, ih (by omega) kids[j] (by omega) (innerI k (j : Int) a) hib.1 (by omega) hk1 (fun x hx => by have := hF x hx; have := b5.size; omega), ?_, never_any⟩
      rintro _ w211 ⟨A9, l9, c9, A10, l10, c10, rfl, ⟨gs, g1, g2, g3, g4⟩, hE211⟩
      have s211 := hE211.size
      rw [drop_cons hjl, freeL] at hg
      have hlen := congrArg List.length hg
      simp only [List.length_append] at hlen
      have ln6 := b3.len
      have ln7 := b4.len
      have le1 := congrArg List.length b1
      have le2 := congrArg List.length g1
      have lg3 := g3.len
      have lg4 := g4.len
      simp only [List.length_map] at le1 le2 lg3 lg4 ln7
      refine ⟨_, _, _, _, _, _, rfl, no, hE211, Away.no _, _, RowB.app slN (b3.ext hE211) g3 (by omega) (fun b hb => ?_), ?_⟩
      · rcases hb with rfl | hb
        · omega
        · have := (b4.blk hb).2.1; have := b4.los; omega
      rintro _ w212 ⟨A11, c11, rfl, ⟨r1, hA11⟩, hU1⟩
      have s212 := hU1.size
      refine ⟨_, _, _, rfl, _, hU1, away_of fun i hi hS => ?_, ?_⟩
      · cases List.mem_singleton.1 hi
        exact (b3.blk hS).2.2 (.inl rfl)
      have q4 : RowB relH 38 w212 false w.heap.size t2 no (fun b => b = id ∨ blkOf A11 b) (fs.map (·.2)) a7 n7 c7 := by
        refine ((b4.ext hE211).upd hU1 fun b hb => ⟨fun h => h, .inl (.inr hb)⟩).re (Nat.le_refl _) (by have := b4.los; omega) fun b hb => ?_
        rcases hb with rfl | hb
        · exact .inl (.inl rfl)
        · rcases hA11 b hb with hb | hb
          · exact .inl (.inr hb)
          · exact .inr (by have := b4.los; omega)
      have g4' : RowIn w212 (Rng w210.heap.size w211.heap.size) 2 A10 l10 c10 (((freeN kids[j] (innerI k (j : Int) a)).map (·.2)).map encH) := g4.upd hU1 fun b hb hS => by
        have := (b3.blk hS).2.1
        have := b3.los
        have := hb.1
        omega
      refine ⟨_, RowB.app slH q4 g4' (by omega) (fun b hb => ?_), ?_⟩
      · rcases hb with rfl | hb
        · omega
        · have := (r1.blk hb).2.1; omega
      rintro _ w213 ⟨A12, c12, rfl, ⟨r2, hA12⟩, hU2⟩
      have s213 := hU2.size
      refine ⟨_, _, _, rfl, _, hU2, away_of fun i hi hS => ?_, ⟨j + 1, fs ++ freeN kids[j] (innerI k (j : Int) a), by rw [w64_succ (by omega)], hjl, ?_, es ++ gs, w212.heap.size, _, by rw [List.map_append, List.map_append, b1, g1], ?_, ?_, by rw [List.map_append]; exact r2, ?_, by omega⟩, ?_⟩
      · cases List.mem_singleton.1 hi
        exact (q4.blk hS).2.2 (.inl rfl)
      · rw [← hg, List.append_assoc, w64_succ (by omega)]
      · have hFx : ∀ b, F b → ¬ blkOf a6 b := fun b hb hS => by have := hF b hb; have := (b3.blk hS).1; omega
        have hFy : ∀ b, F b → ¬ blkOf a7 b := fun b hb hS => by have := hF b hb; have := (q4.blk hS).1; omega
        intro e he
        rcases List.mem_append.1 he with he | he
        · exact (((b2 e he).ext hE211).upd hU1 hFx).upd hU2 hFy
        · exact ((g2 e he).upd hU1 hFx).upd hU2 hFy
      · refine (r1.upd hU2 fun b hb => ⟨fun h => h, .inl (.inr hb)⟩).re (Nat.le_refl _) (by omega) fun b hb => ?_
        rcases hb with rfl | hb
        · exact .inl (.inl rfl)
        · rcases hA12 b hb with hb | hb
          · exact .inl (.inr hb)
          · exact .inr (by omega)
      · exact Upd.step (Upd.step (b5.trans hE211) hU1 fun b hb => (b3.blk hb).1) hU2 fun b hb => (q4.blk hb).1
      · rw [w64_succ (by omega)]; exact mea_succ hjl
    · have hje : j = kids.length := by simp at hge; omega
      subst hje
      rw [List.drop_length, freeL, List.append_nil] at hg
      rw [← hg]
      exact ⟨_, _, _, _, _, _, rfl, hB.out (by rw [hg]; omega), hB.choose_spec.choose_spec.choose_spec.2.2.2.2.1⟩
end Go.Vx.Tryz
namespace Go.Vx
open Go
section
mutual
theorem sgone_size (st : Key → Option Int) : ∀ (n : Nd) (a : Int) (g : Sg), (sgoneN st n a g).1.size ≤ 2 * n.size
  | .mk k v s l, a, g => by
    rw [sgoneN]
    split
    · simp only; omega
    · split
      · split
        · simp only [Nd.size, Nd.sizes]; omega
        · have := sgoneL_size st k a l 0 (cellF st g.1 g.2 (keyN a (.mk k v s l))).2
          simp only [Nd.size]; omega
      · have := sgoneL_size st k a l 0 g
        simp only [Nd.size]; omega
theorem sgoneL_size (st : Key → Option Int) (k a : Int) : ∀ (l : List Nd) (i : Int) (g : Sg), Nd.sizes (sgoneL st k a i l g).1 ≤ 2 * Nd.sizes l
  | [], i, g => by rw [sgoneL]; simp [Nd.sizes]
  | x :: l, i, g => by
    rw [sgoneL]
    have h1 := sgone_size st x (innerI k i a) g
    have h2 := sgoneL_size st k a l (w64 (i + 1)) (sgoneN st x (innerI k i a) g).2
    simp only [Nd.sizes]; omega
end
end
end Go.Vx
namespace Go.Vx.Tryz
open Go Go.Vx Go.Proofs
section
variable {f : Nat} {args : Array Value} {w : World} {X : ContX} {ids : List Nat}
end
theorem es_at {w : World} {F : Nat → Prop} {es : List FE} {A : Option Addr} {l c : Nat} (h : RowIn w F 4 A l c (es.map encE)) {i : Nat} (hi : i < es.length) {K : Addr → Prop} (k : ∀ ad, A = some ad → CellsIn w (ad.add (Int.toNat (i : Int) * 4)) (encE es[i]) → K ad) : iX (i : Int) l A K := by
  have hl := h.len
  simp only [List.length_map] at hl
  obtain ⟨ad, r, ha, hr, _, hc⟩ := h.get (i : Int) (by omega) (by omega)
  have e : Int.toNat (i : Int) = i := rfl
  rw [e, List.getElem?_map, List.getElem?_eq_getElem hi] at hr
  cases hr
  exact ⟨⟨by omega, by omega⟩, ad, ha, k ad ha hc⟩
theorem hs_at {w : World} {F : Nat → Prop} {hs : List (Int × Int)} {A : Option Addr} {l c : Nat} (h : RowIn w F 2 A l c (hs.map encH)) {i : Nat} (hi : i < hs.length) {K : Addr → Prop} (k : ∀ ad, A = some ad → CellsIn w (ad.add (Int.toNat (i : Int) * 2)) (encH hs[i]) → K ad) : iX (i : Int) l A K := by
  have hl := h.len
  simp only [List.length_map] at hl
  obtain ⟨ad, r, ha, hr, _, hc⟩ := h.get (i : Int) (by omega) (by omega)
  have e : Int.toNat (i : Int) = i := rfl
  rw [e, List.getElem?_map, List.getElem?_eq_getElem hi] at hr
  cases hr
  exact ⟨⟨by omega, by omega⟩, ad, ha, k ad ha hc⟩
theorem shareLeaves_c (p : Pl) (hin : inR p.root = true) {w : World} {F G : Nat → Prop} {A : Option Addr} {l c : Nat} {B : Option Addr} {bl bc : Nat} (ht : Tab w) (h : NdsR w F p.root.kids A l c) (h2 : IntsR w G p.cells B bl bc) (hF : ∀ x, F x ∨ G x → x < w.heap.size) :
    CallsX E.P 3 #[plA p A l c B bl bc] w (IsV (.bool true) w) never := by
  refine vcD3 ?_
  intro id hid w1 hE1 hi1
  have hE1 : Ext w w1 := hE1
  refine callB (heavy_c p (h.ext hE1) (h2.ext hE1)) fun w2 hE2 => ⟨fun hx => ⟨rfl, Ext.trans hE1 hE2⟩, fun hx => ?_⟩
  have hE02 : Ext w w2 := Ext.trans hE1 hE2
  obtain ⟨hsz, hcl⟩ := light hx
  refine callI (parts_c _ p.root (Nat.le_refl _) (h.ext hE02)) fun w21 hE21 => ⟨fun hx => ⟨rfl, hE02.trans hE21⟩, fun hx8 => ?_⟩
  have hE021 := hE02.trans hE21
  refine callB (awakeS_c (ht.ext hE021)) fun w3 hE3 => ?_
  have hE03 := hE021.trans hE3
  have s3 := hE03.size
  refine ⟨_, _, share_c p (by omega) hin (ht.ext hE03) (h.ext hE03) (h2.ext hE03) (fun x hx => by have := hF x hx; omega), ?_, never_any⟩
  rintro v w4 ⟨A4, l4, c4, B4, bl4, bc4, F4, G4, rfl, hO, hF4, hE4⟩
  have hE04 := hE03.trans hE4
  have hbl4 := (ints_of hO.2.1).len
  have hbl := h2.len
  refine ⟨_, _, _, _, _, _, _, _, _, _, rfl, no, hE4, Away.no _, fun id1 hid1 => ⟨(fun hh => by cases hh), fun _ => ?_⟩⟩
  cases hrt : rightB p with
  | false =>
    rw [hrt] at hbl4
    have e0 : bl4 = 0 := hbl4
    subst e0
    exact ⟨fun _ => ⟨fun _ => ⟨fun _ w5 hE5 _ => ⟨rfl, hE04.trans hE5⟩, (fun hh => by cases hh)⟩, (fun hh => by cases hh)⟩, (fun hh => by cases hh)⟩
  | true =>
    rw [hrt] at hbl4 hO
    have e0 : bl4 = (shareR p).2.2.length := hbl4
    have hge := shareR_len (p := p)
    have hle : (shareR p).2.2.length ≤ 256 := sgone_len (stK p) p.root 0 (fun _ => none, p.cells) (right_le hrt)
    refine ⟨(fun hh => by cases hh), fun _ => ⟨(fun hh => by simp at hh; omega), fun _ => ⟨(fun hh => by simp at hh; omega), fun _ => ⟨fun _ w5 hE5 _ => ⟨rfl, hE04.trans hE5⟩, fun hne w5 hE5 hi5 => ?_⟩⟩⟩⟩
    have hE5 : Ext w4 w5 := hE5
    have hE05 := hE04.trans hE5
    have hlt : (shareR p).2.2.length < 256 := by simp at hne; omega
    have hq : NdsR w5 F4 (shareR p).1.kids A4 l4 c4 := hO.1.plain.ext hE5
    have hz : (shareR p).1.size < 2 ^ 30 := by
      have := sgone_size (stK p) p.root 0 (fun _ => none, p.cells)
      unfold shareR
      omega
    refine ⟨_, _, free_c _ hz (shareR p).1 (Nat.le_refl _) 0 (Int.le_refl _) (by omega) hq (fun x hx => by have := hF4 x (.inl hx); have := hE5.size; omega), ?_, never_any⟩
    rintro _ w6 ⟨A6, l6, c6, B6, m6, d6, rfl, ⟨es, g1, g2, g3, g4⟩, hE6⟩
    have hE06 := hE05.trans hE6
    have ln1 := g3.len
    have ln2 := g4.len
    have le1 := congrArg List.length g1
    simp only [List.length_map] at ln1 ln2 le1
    have hfl := free_len (shareR p).1 0
    refine ⟨_, _, _, _, _, _, rfl, no, hE6, Away.no _, fun x w7 => ∃ i : Nat, x = i ∧ i ≤ es.length ∧ Ext w6 w7, fun x => ((es.length : Int) - x).toNat, ⟨0, rfl, Nat.zero_le _, Upd.refl _ _⟩, ?_⟩
    rintro _ _ w7 ⟨i, rfl, hi, hE7⟩
    refine ⟨fun hlt1 => ?_, fun _ => ⟨rfl, hE06.trans hE7⟩⟩
    have hil : i < es.length := by simp at hlt1; omega
    refine ⟨fun x w8 => ∃ k : Nat, x = k ∧ k ≤ i ∧ Ext w6 w8, fun x => ((i : Int) - x).toNat, ⟨0, rfl, Nat.zero_le _, hE7⟩, ?_⟩
    rintro _ _ w8 ⟨k, rfl, hk, hE8⟩
    refine ⟨fun hlt2 => ?_, fun hge2 => ⟨⟨i + 1, by rw [w64_succ (by omega)], by omega, hE8⟩, by rw [w64_succ (by omega)]; exact mea_succ hil⟩⟩
    have hki : k < i := by simpa using hlt2
    have hkl : k < es.length := by omega
    refine es_at (g3.upd hE8 fun _ _ h => h) hil fun ad ha hc w9 hE9 => ?_
    have hE9 : Ext w8 w9 := hE9
    have hE69 := hE8.trans hE9
    refine ⟨_, _, _, _, _, _, hc.ext hE9 (fun h => h), es_at (g3.upd hE69 fun _ _ h => h) hkl fun ad1 ha1 hc1 => ⟨_, _, _, _, _, _, hc1, ?_⟩⟩
    have next : ∀ {w' : World}, Ext w6 w' → (∃ k' : Nat, w64 ((k : Int) + 1) = (k' : Int) ∧ k' ≤ i ∧ Ext w6 w') ∧ ((i : Int) - w64 ((k : Int) + 1)).toNat < ((i : Int) - (k : Int)).toNat := fun {w'} hE => by
      rw [w64_succ (by omega)]
      exact ⟨⟨k + 1, rfl, hki, hE⟩, mea_succ hki⟩
    refine callB (same_c _ es[i].1 es[k].1 (Nat.le_refl _) ((g2 _ (List.getElem_mem hil)).ext hE69) ((g2 _ (List.getElem_mem hkl)).ext hE69)) fun w10 hE10 => ⟨fun hs => ?_, fun hs w11 hE11 => next ((hE69.trans hE10).trans hE11)⟩
    have hE610 := hE69.trans hE10
    refine hs_at (g4.upd hE610 fun _ _ h => h) (i := i) (by rw [List.length_map]; omega) fun ad2 ha2 hc2 w12 hE12 => ?_
    have hE12 : Ext w10 w12 := hE12
    have hE612 := hE610.trans hE12
    refine ⟨_, _, hc2.ext hE12 (fun h => h), hs_at (g4.upd hE612 fun _ _ h => h) (i := k) (by rw [List.length_map]; omega) fun ad3 ha3 hc3 => ⟨_, _, hc3, _, eql38 _ _ _ _ _ _, ?_⟩⟩
    refine ⟨fun heq => ?_, fun _ => next hE612⟩
    exfalso
    simp only [Bool.and_eq_true, beq_iff_eq, List.getElem_map] at heq
    have ei : ∀ {j : Nat} (hj : j < es.length), es[j].1 = ((freeN (shareR p).1 0)[j]'(by omega)).1 := fun {j} hj => by
      have := congrArg (fun l => l[j]?) g1
      simpa [List.getElem?_eq_getElem hj, List.getElem?_eq_getElem (show j < (freeN (shareR p).1 0).length by omega)] using this
    rw [ei hil, ei hkl] at hs
    exact share_apart hrt (by omega) hlt hki (List.getElem?_eq_getElem (by omega)) (List.getElem?_eq_getElem (by omega)) hs heq.1 heq.2
end Go.Vx.Tryz
