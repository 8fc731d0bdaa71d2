/- Texts of the walk, gathered. -/
import Derived.Test.YtingeadhfbcacaaGreatDoorMs0
import Derived.Scope
import Derived.StillTail
import Derived.Test.YtingeadhfbcacaaGreatDoorProg
import Derived.KernelRfl
import Derived.Maps.AppendAt
import Derived.ArgAppend
import Derived.Laws.Cover3
set_option linter.unusedSimpArgs false
set_option linter.unusedVariables false
namespace Go.Vx
open Go
section
section
variable {E : Env} {ops : Array Oper} {K : St → Prop} {X : ContX} {Q : Exit → Act → World → Prop}
theorem allP_mem {α : Type} {f : α → Prop} : ∀ {l : List α}, allP (l.map f) → ∀ {i : α}, i ∈ l → f i
  | [_], h, i, hi => by cases List.mem_singleton.1 hi; exact h
  | x :: y :: l, h, i, hi => by
    rcases List.mem_cons.1 hi with rfl | hi
    · exact h.1
    · exact allP_mem (l := y :: l) h.2 hi
theorem cand_use {x : Bool} {m : List Nat} {fr ok : Bool} {l : Array Bool} {s : St} {all : List Nat} : ∀ (rs : List Nat),
    (∀ i o v sh, candOf E x ops m fr ok l s all rs = .take i o v sh → i ∈ rs ∧ ops[i]? = some o ∧ ok = true ∧ i ∈ qsOf ops ∧ Region.free .any ops l i = true ∧
      ((guardOf ops s o = .off ∧ v = undef ∧ sh = .no) ∨ (guardOf ops s o = .yes ∧ readOk s m o.op = true ∧ quiet E.T s o.op = some (v, sh)))) ∧
    (∀ d b, candOf E x ops m fr ok l s all rs = .ask d b → ∃ (i : Nat) (o : Oper), ops[i]? = some o ∧ guardOf ops s o = .ask d b) ∧
    (∀ i o, candOf E x ops m fr ok l s all rs = .look i o → i ∈ rs ∧ ops[i]? = some o ∧ ok = true ∧ i ∈ qsOf ops ∧ Region.free .any ops l i = true ∧ guardOf ops s o = .yes ∧ lookOp E s (fr && (x || extOf ops)) o.op = true) := by
  intro rs
  induction rs with
  | nil => exact ⟨fun _ _ _ _ h => (nomatch h), fun _ _ h => (nomatch h), fun _ _ h => (nomatch h)⟩
  | cons j rs ih =>
    obtain ⟨i1, i2, i4⟩ := ih
    have keep : (∀ i o v sh, candOf E x ops m fr ok l s all rs = .take i o v sh → i ∈ j :: rs ∧ _) ∧ _ ∧ (∀ i o, candOf E x ops m fr ok l s all rs = .look i o → i ∈ j :: rs ∧ _) :=
      ⟨fun i o v sh h => ⟨List.mem_cons_of_mem _ (i1 i o v sh h).1, (i1 i o v sh h).2⟩, i2, fun i o h => ⟨List.mem_cons_of_mem _ (i4 i o h).1, (i4 i o h).2⟩⟩
    simp only [candOf]
    cases hj : ops[j]? with
    | none => exact keep
    | some o =>
      simp only
      cases hg : guardOf ops s o with
      | ask d b => exact ⟨fun _ _ _ _ h => (nomatch h), fun d' b' h => by cases h; exact ⟨j, o, hj, hg⟩, fun _ _ h => (nomatch h)⟩
      | bad => exact ⟨fun _ _ _ _ h => (nomatch h), fun _ _ h => (nomatch h), fun _ _ h => (nomatch h)⟩
      | off =>
        simp only
        split
        · rename_i hc
          simp only [Bool.and_eq_true] at hc
          refine ⟨fun i o' v sh h => ?_, fun _ _ h => (nomatch h), fun _ _ h => (nomatch h)⟩
          cases h
          exact ⟨List.mem_cons_self, hj, hc.1.1, by simpa using hc.1.2, hc.2, .inl ⟨hg, rfl, rfl⟩⟩
        · exact keep
      | yes =>
        simp only
        split
        · rename_i hc
          simp only [Bool.and_eq_true] at hc
          split
          · rename_i v0 sh0 hq
            refine ⟨fun i o' v sh h => ?_, fun _ _ h => (nomatch h), fun _ _ h => (nomatch h)⟩
            cases h
            exact ⟨List.mem_cons_self, hj, hc.1.1.1, by simpa using hc.1.1.2, hc.1.2, .inr ⟨hg, hc.2, hq⟩⟩
          · split
            · rename_i hl
              refine ⟨fun _ _ _ _ h => (nomatch h), fun _ _ h => (nomatch h), fun i o' h => ?_⟩
              cases h
              exact ⟨List.mem_cons_self, hj, hc.1.1.1, by simpa using hc.1.1.2, hc.1.2, hg, hl⟩
            · exact keep
        · exact keep
theorem look_sound (hE : E.Ok) {s : St} {a : Act} {w : World} (H : Holds s a w) {fr : Bool} {o : Oper} (hl : lookOp E s fr o.op = true) (h : loud E s o K X) :
    ∃ v s', (∀ w', (fr = true → Ext w w') → (execOp a.eval o).run E.P w' = .ok (.value v) w') ∧ Holds s' (a.put o.dst v) w ∧ Agree s s' ∧ s'.bl = s.bl ∧ K s' := by
  have hev := H.fr.ev
  obtain ⟨dst, op, ty, pos, after, guard⟩ := o
  unfold loud at h
  cases op with
  | indexAddr t x i =>
    simp only at h
    split at h
    · rename_i it A n cp kk j hi hx hj
      split at h
      · exact h.elim
      · rename_i e he
        split at h
        · exact h.elim
        · rename_i ie hie
          obtain ⟨⟨h1, h2⟩, ad, rfl, hk⟩ := h
          have hu : E.P.underlying t = some (.slice e) := by
            obtain ⟨x, d, hx, hd, hs, hz, hm, _⟩ := hE.T t it hi
            cases d <;> simp_all [TyI.shape]
          refine ⟨.pointer (some (ad.add (j.toNat * ie.zero.length))), _, fun w' _ => run_vv ?_, H.put (sh := .no) dst _ trivial, Agree.put _ _ _ _, put_bl _ _ _ _, hk⟩
          have hs := run_sizeOf (hE.T e ie hie) w'
          rw [hev, hev, hx, hj]
          simp only [Instr.indexAt, asIntOf, underlying, Sem.run_bind, run_program, Sem.run_pure, Result.andThen_ok, hu]
          rw [if_pos ⟨h1, h2⟩]
          simp only [Sem.run_bind, hs, Result.andThen_ok, Sem.run_pure]
    · exact h.elim
  | index t x i =>
    simp only [lookOp] at hl
    simp only at h
    split at h
    · rename_i it b kk j hi hx hj
      split at h
      · rename_i hkd
        obtain ⟨⟨h1, h2⟩, hk⟩ := h
        have hu := (underlying_of (hE.T t it hi)).2 hkd
        refine ⟨.int .u8 (byteAt b j), _, fun w' _ => run_vv ?_, H.put (sh := .no) dst _ trivial, Agree.put _ _ _ _, put_bl _ _ _ _, hk⟩
        rw [hev, hev, hx, hj]
        have hlt : j.toNat < b.size := by omega
        have hlt' : j.toNat < b.data.size := hlt
        have hg : b[j.toNat]? = some b[j.toNat] := by simp [getElem?_pos, hlt]
        simp only [Instr.index, asIntOf, underlying, Sem.run_bind, run_program, Sem.run_pure, Result.andThen_ok, hu]
        rw [if_pos h1, hg]
        have hby : byteAt b j = ((b[j.toNat]).toNat : Int) := by
          unfold byteAt
          rw [Array.getD_eq_getD_getElem?, Array.getElem?_eq_getElem hlt']; rfl
        rw [hby]; rfl
      · exact h.elim
    · rename_i hno
      split at hl
      · rename_i it b kk j hi hx hj
        exact (hno it b kk j hi hx hj).elim
      · cases hl
  | load t x =>
    simp only [lookOp, Bool.and_eq_true] at hl
    obtain ⟨hfr, hl⟩ := hl
    simp only at h
    split at hl
    · rename_i p i hx hi
      rw [hx] at h
      obtain ⟨u, s', h1, h2, h3, h4, h5⟩ := loadVC_look hE H hi h
      exact ⟨u, s', fun w' hw => run_vv (by rw [hev, hx]; exact h1 w' (hw hfr)), h2, h3, h4, h5⟩
    · cases hl
  | _ => simp [lookOp] at hl
theorem ext_still (h : extOf ops = true) {j : Nat} {o : Oper} (ho : ops[j]? = some o) (hn : needOf ops (qsOf ops) j = true) : stillOp o.op = true := by
  have hj : j < ops.size := (Array.getElem?_eq_some_iff.1 ho).1
  have := List.all_eq_true.1 h j (List.mem_range.2 hj)
  rw [ho] at this
  simp only [hn, Bool.not_true, Bool.or_false] at this
  exact this
def BlsOn (rb : List Nat) (B0 : List Blk) (w : World) : Prop := ∀ k, k ∈ rb → ∀ b, B0[k]? = some b → b.at w
theorem onBls {rb : List Nat} {B0 : List Blk} {s : St} {w : World} (h : Bls s.bl w) (hi : ∀ k, k ∈ rb → s.bl[k]? = B0[k]?) : BlsOn rb B0 w := fun k hk b hb => h.get (by rw [hi k hk]; exact hb)
theorem onKeeps {rb : List Nat} {B0 : List Blk} {s s' : St} (hrb : ∀ k, k ∈ rb → k < B0.length) (hi : ∀ k, k ∈ rb → s.bl[k]? = B0[k]?) (h : Keeps rb s s') : ∀ k, k ∈ rb → s'.bl[k]? = B0[k]? := fun k hk => by
  have h1 : B0[k]? = some (B0[k]'(hrb k hk)) := List.getElem?_eq_getElem (hrb k hk)
  rw [h1]; exact h k hk _ ((hi k hk).trans h1)
theorem pairOf_spec {ok : Bool} {l : Array Bool} {rs : List Nat} {i j di dj ti tj : Nat} (h : pairOf ops ok l rs = some (i, j, di, dj, ti, tj)) :
    rs = [i, j] ∧ (∃ oi, ops[i]? = some oi ∧ oi.op = .alloc ti ∧ oi.dst = some di ∧ oi.guard = none) ∧ (∃ oj, ops[j]? = some oj ∧ oj.op = .alloc tj ∧ oj.dst = some dj ∧ oj.guard = none) ∧
      di ≠ dj ∧ Region.ready .any ops (l.setIfInBounds i true) = [j] ∧ Region.ready .any ops (l.setIfInBounds j true) = [i] ∧ (ok || !(needOf ops (qsOf ops) i || needOf ops (qsOf ops) j)) = true := by
  unfold pairOf at h
  split at h
  · split at h
    · rename_i oi oj hi hj
      split at h
      · rename_i h1 h2 h3 h4 h5 h6
        split at h
        · rename_i hc
          simp only [Option.some.injEq, Prod.mk.injEq] at h
          obtain ⟨rfl, rfl, rfl, rfl, rfl, rfl⟩ := h
          exact ⟨rfl, ⟨oi, hi, h1, h3, h5⟩, ⟨oj, hj, h2, h4, h6⟩, hc⟩
        · cases h
      · cases h
    · cases h
  · cases h
theorem alloc_wp (hE : E.Ok) {o : Oper} {t : Nat} {i : TyI} (ho : o.op = .alloc t) (hi : E.T t = some i) {a : Act} {w : World} {K' : Act → World → Prop} {Q' : Exit → Act → World → Prop}
    (k : K' (a.put o.dst (.pointer (some ⟨w.heap.size, 0, none⟩))) { w with heap := w.heap.push (.cells i.zero.toArray t (0, 0)) }) : o.wp E.P a w K' Q' := by
  obtain ⟨dst, op, ty, pos, after, guard⟩ := o
  cases ho
  exact upon_val (run_vv (alloc_run (w := w) (hE.T t i hi) (.tuple #[]))) k
theorem Holds.add2 {s : St} {a : Act} {w w2 : World} (H : Holds s a w) {x y tx ty : Nat} {cx cy : List Ent} (hcx : ∀ e ∈ cx, e.st ≤ s.ck ∧ ShOk s.ids e) (hcy : ∀ e ∈ cy, e.st ≤ s.ck ∧ ShOk s.ids e) (hU : Ext w w2)
    (hx : (⟨x, tx, false, cx⟩ : Blk).at w2) (hy : (⟨y, ty, false, cy⟩ : Blk).at w2) (x0 : w.heap.size ≤ x) (y0 : w.heap.size ≤ y) (hxy : x ≠ y) : Holds ((s.addB ⟨x, tx, false, cx⟩).addB ⟨y, ty, false, cy⟩) a w2 := by
  have hids : ((s.addB ⟨x, tx, false, cx⟩).addB ⟨y, ty, false, cy⟩).ids = s.ids ++ [x, y] := by simp [St.addB, St.ids]
  have hbl : ((s.addB ⟨x, tx, false, cx⟩).addB ⟨y, ty, false, cy⟩).bl = s.bl ++ [⟨x, tx, false, cx⟩, ⟨y, ty, false, cy⟩] := by simp [St.addB]
  have hlt : ∀ b ∈ s.bl, b.id < w.heap.size := fun b hb => lt_of_at (H.bl b hb)
  have hmem : ∀ b, b ∈ s.bl ++ [(⟨x, tx, false, cx⟩ : Blk), ⟨y, ty, false, cy⟩] → b ∈ s.bl ∨ b = ⟨x, tx, false, cx⟩ ∨ b = ⟨y, ty, false, cy⟩ := fun b hb => by simpa using hb
  refine ⟨⟨H.fr.tm, H.fr.df, fun e he => ?_, fun b hb e he => ?_⟩, fun b hb => ?_, ?_, H.tk, fun b hb e he => ?_, ?_, fun h => absurd h Bool.false_ne_true, fun b hb => ?_⟩
  · rw [hids]; exact (H.fr.sh e he).more _
  · rw [hids]
    rw [hbl] at hb
    rcases hmem b hb with hb | rfl | rfl
    · exact (H.fr.sc b hb e he).more _
    · exact (hcx e he).2.more _
    · exact (hcy e he).2.more _
  · rw [hbl] at hb
    rcases hmem b hb with hb | rfl | rfl
    · have := H.bl b hb
      unfold Blk.at at this ⊢
      rw [hU.keep b.id (hlt b hb) (fun h => h)]; exact this
    · exact hx
    · exact hy
  · rw [hids]
    refine List.nodup_append.2 ⟨H.nd, by simp [hxy], fun i hi j hj => ?_⟩
    obtain ⟨b, hb, rfl⟩ := List.mem_map.1 hi
    have := hlt b hb
    simp only [List.mem_cons, List.not_mem_nil, or_false] at hj
    rcases hj with rfl | rfl <;> omega
  · rw [hbl] at hb
    rcases hmem b hb with hb | rfl | rfl
    · exact H.cb b hb e he
    · exact (hcx e he).1
    · exact (hcy e he).1
  · refine (Upd.trans H.up (hU.mono fun _ h => h.elim)).mono fun k hk => ?_
    rw [setOf_iff] at hk ⊢
    exact idsOf_append _ _ _ _ (idsOf_append _ _ _ _ hk)
  · rw [hbl] at hb
    have hb : b ∈ List.drop s.n0 (s.bl ++ [(⟨x, tx, false, cx⟩ : Blk), ⟨y, ty, false, cy⟩]) := hb
    rw [List.drop_append] at hb
    have hs := H.up.size
    rcases List.mem_append.1 hb with hb | hb
    · exact H.nb b hb
    · have hb := List.mem_of_mem_drop hb
      simp only [List.mem_cons, List.not_mem_nil, or_false] at hb
      rcases hb with rfl | rfl
      · exact Nat.le_trans hs x0
      · exact Nat.le_trans hs y0
theorem put_swap (a : Act) {d e : Nat} (h : d ≠ e) (u v : Value) : (a.put (some d) u).put (some e) v = (a.put (some e) v).put (some d) u := by
  simp only [Act.put]
  rw [Array.setIfInBounds_comm _ _ h]
def Fresh (fb : List Nat) (wS : World) (s : St) : Prop := ∀ k, k ∈ fb → ∃ b : Blk, s.bl[k]? = some b ∧ wS.heap.size ≤ b.id
theorem Fresh.after {fb : List Nat} {wS : World} {s s' : St} (h : Fresh fb wS s) (A : Agree s s') : Fresh fb wS s' := fun k hk => by
  obtain ⟨b, hb, hs⟩ := h k hk
  obtain ⟨b', hb', hi, _⟩ := A.bl k b hb
  exact ⟨b', hb', by rw [hi]; exact hs⟩
theorem Ext.trans' {wS w w' : World} {i : Nat} (h : Ext wS w) (k : Upd w w' (setOf [i])) (hi : wS.heap.size ≤ i) : Ext wS w' :=
  ⟨k.os.trans h.os, k.tape.trans h.tape, k.output.trans h.output, Nat.le_trans h.size k.size, fun j hj hn => (k.keep j (Nat.lt_of_lt_of_le hj h.size) (fun hs => by
    rw [setOf_iff] at hs
    have := List.mem_singleton.1 hs
    omega)).trans (h.keep j hj hn)⟩
theorem step_fresh (hE : E.Ok) {s : St} {a : Act} {w : World} (H : Holds s a w) {fb : List Nat} {wS : World} {o : Oper} {K' : Act → World → Prop} {Q' : Exit → Act → World → Prop} (hf : freshSt E s fb o.op = true) (hfb : Fresh fb wS s) (h : step E s o K X)
    (hK : ∀ s' a' w', Holds s' a' w' → Agree s s' → (Ext wS w → Ext wS w') → K s' → K' a' w') : o.wp E.P a w K' Q' := by
  obtain ⟨dst, op, ty, pos, after, guard⟩ := o
  cases op with
  | store t p x =>
    simp only [freshSt, Bool.and_eq_true] at hf
    obtain ⟨hf, hT⟩ := hf
    split at hf
    · rename_i k off hs
      obtain ⟨b, hb, hid⟩ := hfb k (by simpa using hf)
      unfold step at h
      simp only [quiet, loud] at h
      obtain ⟨w2, h1, h2⟩ := storeVC_soundU (K' := K') hE H hT hs hb h fun s' a' w' H' A' hU hk => hK s' a' w' H' A' (fun hx => hx.trans' hU hid) hk
      exact upon_skip (run_uu h1) h2
    · cases hf
  | _ => cases hf
theorem drawVC_sound {x y : Bool} (hE : E.Ok) (hsel : Region.noSelect ops = true) (hX : ∀ ch a' w', a'.defers = [] → X ch w' → Q (.panic ch) a' w') (hQ : ∀ c d v a w, Q (.panic c) (Act.put a d v) w → Q (.panic c) a w) (B0 : List Blk) (wS : World) (m : List Nat) (hm : ∀ k, k ∈ m → k < B0.length) :
    ∀ (n : Nat) (fb : List Nat) (fr ok : Bool) (l : Array Bool) (s : St) (a : Act) (w : World) (f : Nat), Holds s a w → cnt l ≤ f → ClosedL ops l → (fr = true → w = wS) → (ok = true → (∀ k, k ∈ m → s.bl[k]? = B0[k]?) ∧ (((x || y) || extOf ops) = true → Ext wS w)) → (ok = true → ((x || y) || extOf ops) = true → Fresh fb wS s) → drawVC E x y ops X K m n fb fr ok l s → Into K s (Q .normal) →
      wpN E.P ops Q (needOf ops (qsOf ops)) (fun w' => BlsOn m B0 w' ∧ (((x || y) || extOf ops) = true → Ext wS w')) f l a w := by
  intro n
  induction n with
  | zero => intro fb fr ok l s a w f _ _ _ _ _ _ h; exact h.elim
  | succ n ih =>
    intro fb fr ok l s a w f H hf hcl hfr hpre hfb h hK
    simp only [drawVC] at h
    split at h
    · rename_i hr
      exact wpN_done hr (hK s a w H (Agree.refl s) h) f
    · rename_i r rs hr
      have hready : ∀ i, i ∈ r :: rs → l.getD i true = false := fun i hi => (mem_ready.1 (by rw [hr]; exact hi)).1
      obtain ⟨c1, c2, c4⟩ := cand_use (E := E) (x := x || y) (ops := ops) (m := m) (fr := fr) (ok := ok) (l := l) (s := s) (all := r :: rs) (r :: rs)
      split at h
      · -- looked at first
        rename_i i o hc
        obtain ⟨hi, ho, hok, hqs, hfree, hg, hlk⟩ := c4 i o hc
        subst hok
        have hcnt := cnt_set (hready i hi)
        obtain ⟨f, rfl⟩ : ∃ f', f = f' + 1 := ⟨f - 1, by omega⟩
        obtain ⟨ht, hpe⟩ := hpre rfl
        have hS : BlsOn m B0 w := onBls H.bl ht
        obtain ⟨gy, _, _⟩ := guard_cases (ops := ops) (o := o) H
        obtain ⟨v, s', h1, h2, h3, h4, h5⟩ := look_sound hE H hlk h
        have hy : YieldsIf E.P ops (fun w' => BlsOn m B0 w' ∧ (((x || y) || extOf ops) = true → Ext wS w')) o v a := .inl ⟨gy hg, fun w2 hS2 => h1 w2 fun hf => by
          have hf2 := Bool.and_eq_true_iff.1 hf
          rw [hfr hf2.1]; exact hS2.2 hf2.2⟩
        exact wpN_take ho hsel (needOf_needs hqs) hcl hfree (by rw [hr]; simpa using hi) (fun c a w => hQ c o.dst v a w) hy ⟨hS, hpe⟩ (ih fb fr true _ _ _ _ f h2 (by omega) (hcl.set (by rw [hr]; exact hi)) hfr (fun _ => ⟨fun k hk => by rw [h4]; exact ht k hk, hpe⟩) (fun hk he => (hfb hk he).after h3) h5 (hK.after h3))
      · -- taken first
        rename_i i o v sh hc
        obtain ⟨hi, ho, hok, hqs, hfree, hcase⟩ := c1 i o v sh hc
        subst hok
        have hcnt := cnt_set (hready i hi)
        obtain ⟨f, rfl⟩ : ∃ f', f = f' + 1 := ⟨f - 1, by omega⟩
        obtain ⟨ht, hpe⟩ := hpre rfl
        have hS : BlsOn m B0 w := onBls H.bl ht
        obtain ⟨gy, gn, _⟩ := guard_cases (ops := ops) (o := o) H
        have hy : YieldsIf E.P ops (fun w' => BlsOn m B0 w' ∧ (((x || y) || extOf ops) = true → Ext wS w')) o v a ∧ ShOk s.ids ⟨v, sh, 0⟩ := by
          rcases hcase with ⟨hg, rfl, rfl⟩ | ⟨hg, hro, hq⟩
          · exact ⟨.inr ⟨gn hg, rfl⟩, trivial⟩
          · refine ⟨.inl ⟨gy hg, fun w2 hS2 => (quiet_run hE.T H.fr o (fun t' x k off b hop hsh hb => ?_) hq).1⟩, (quiet_run hE.T H.fr o (fun _ _ _ _ _ _ _ hb => H.bl.get hb) hq).2⟩
            simp only [readOk, hop, hsh, List.contains_iff_mem] at hro
            rw [ht k hro] at hb
            exact hS2.1 k hro b hb
        exact wpN_take ho hsel (needOf_needs hqs) hcl hfree (by rw [hr]; simpa using hi) (fun c a w => hQ c o.dst v a w) hy.1 ⟨hS, hpe⟩ (ih fb fr true _ _ _ _ f (H.put o.dst v hy.2) (by omega) (hcl.set (by rw [hr]; exact hi)) hfr (fun _ => ⟨fun k hk => by rw [put_bl]; exact ht k hk, hpe⟩) (fun hk he => (hfb hk he).after (Agree.put _ _ _ _)) h (hK.after (Agree.put _ _ _ _)))
      · -- a guard
        rename_i d b hc
        obtain ⟨i, o, ho, hg⟩ := c2 d b hc
        obtain ⟨_, _, gq⟩ := guard_cases (ops := ops) (o := o) H
        obtain ⟨e, he, hv, _⟩ := gq d b hg
        have hset := setSh_holds H he hv
        have hbl : ∀ sh, (s.setSh d sh).bl = s.bl := fun sh => by simp [St.setSh, he]
        cases b with
        | true => exact ih fb fr ok l _ a w f hset.1 hf hcl hfr (fun h => by rw [hbl]; exact hpre h) (fun hk he => (hfb hk he).after hset.2) (h.1 rfl) (hK.after hset.2)
        | false => exact ih fb fr ok l _ a w f hset.1 hf hcl hfr (fun h => by rw [hbl]; exact hpre h) (fun hk he => (hfb hk he).after hset.2) (h.2 rfl) (hK.after hset.2)
      · -- any of them
        split at h
        · rename_i i j di dj ti tj hp
          obtain ⟨hrs, ⟨oi, hoi, h1, h3, h5⟩, ⟨oj, hoj, h2, h4, h6⟩, hd, hri, hrj, hok⟩ := pairOf_spec hp
          rw [hrs] at hr hready
          have hi0 := hready i (by simp)
          have hj0 := hready j (by simp)
          have hij : i ≠ j := fun e => by
            subst e
            rw [hoi] at hoj; cases hoj
            rw [h3] at h4; cases h4
            exact hd rfl
          have hj1 : (l.setIfInBounds i true).getD j true = false := (mem_ready.1 (by rw [hri]; simp)).1
          have c1 := cnt_set hi0
          have c2 := cnt_set hj1
          obtain ⟨f, rfl⟩ : ∃ f', f = f' + 2 := ⟨f - 2, by omega⟩
          have hcl1 : ClosedL ops (l.setIfInBounds i true) := hcl.set (by rw [hr]; simp)
          have hcl2 : ClosedL ops ((l.setIfInBounds i true).setIfInBounds j true) := hcl1.set (by rw [hri]; simp)
          unfold pairVC allocVC at h
          split at h
          · exact h.elim
          rename_i ii hii
          cases hjj : E.T tj with
          | none =>
            have := h w.heap.size H.up.size
            rw [hjj] at this; exact this.elim
          | some ij =>
          rw [hjj] at h
          have key : ∀ (x1 y1 : Nat) (w2 : World), Ext w w2 → (⟨x1, ti, false, entsOf s.ck ii.zero⟩ : Blk).at w2 → (⟨y1, tj, false, entsOf s.ck ij.zero⟩ : Blk).at w2 → w.heap.size ≤ x1 → w.heap.size ≤ y1 → x1 ≠ y1 →
              wpN E.P ops Q (needOf ops (qsOf ops)) (fun w' => BlsOn m B0 w' ∧ (((x || y) || extOf ops) = true → Ext wS w')) f ((l.setIfInBounds i true).setIfInBounds j true) ((a.put (some di) (.pointer (some ⟨x1, 0, none⟩))).put (some dj) (.pointer (some ⟨y1, 0, none⟩))) w2 := by
            intro x1 y1 w2 hU hx hy x0 y0 hxy
            have hs := H.up.size
            have h' := h x1 (Nat.le_trans hs x0) y1 (by show s.w.heap.size ≤ y1; omega)
            have H2 := H.add2 (fun e he => ents_of e he) (fun e he => ents_of e he) hU hx hy x0 y0 hxy
            have hids : ((s.addB ⟨x1, ti, false, entsOf s.ck ii.zero⟩).addB ⟨y1, tj, false, entsOf s.ck ij.zero⟩).ids = s.ids ++ [x1, y1] := by simp [St.addB, St.ids]
            have H3 := (H2.put (some di) (.pointer (some ⟨x1, 0, none⟩)) (sh := .ptr s.bl.length 0) ⟨x1, by rw [hids]; simp [St.ids], rfl⟩).put (some dj) (.pointer (some ⟨y1, 0, none⟩)) (sh := .ptr (s.bl.length + 1) 0) ⟨y1, by rw [put_ids, hids]; simp [St.ids], rfl⟩
            refine ih (s.bl.length :: (s.bl.length + 1) :: fb) false ok _ _ _ w2 f H3 (by omega) hcl2 (fun h => absurd h Bool.false_ne_true) (fun hk => ?_) (fun hk he => ?_) ?_ (hK.after (((Agree.addB s _).trans (Agree.addB _ _)).trans ((Agree.put _ _ _ _).trans (Agree.put _ _ _ _))))
            · obtain ⟨p1, p2⟩ := hpre hk
              refine ⟨fun k hkm => ?_, fun he => (p2 he).trans hU⟩
              have e1 := p1 k hkm
              have hlt : k < s.bl.length := (List.getElem?_eq_some_iff.1 (e1.trans (List.getElem?_eq_getElem (hm k hkm)))).1
              rw [put_bl, put_bl]
              show (s.bl ++ [_] ++ [_])[k]? = _
              rw [List.append_assoc, List.getElem?_append_left hlt]; exact e1
            · have A3 := ((Agree.addB s ⟨x1, ti, false, entsOf s.ck ii.zero⟩).trans (Agree.addB _ ⟨y1, tj, false, entsOf s.ck ij.zero⟩)).trans ((Agree.put _ (some di) (.pointer (some ⟨x1, 0, none⟩)) (.ptr s.bl.length 0)).trans (Agree.put _ (some dj) (.pointer (some ⟨y1, 0, none⟩)) (.ptr (s.bl.length + 1) 0)))
              have hb3 : ((((s.addB ⟨x1, ti, false, entsOf s.ck ii.zero⟩).addB ⟨y1, tj, false, entsOf s.ck ij.zero⟩).put (some di) (.pointer (some ⟨x1, 0, none⟩)) (.ptr s.bl.length 0)).put (some dj) (.pointer (some ⟨y1, 0, none⟩)) (.ptr (s.bl.length + 1) 0)).bl = s.bl ++ [⟨x1, ti, false, entsOf s.ck ii.zero⟩, ⟨y1, tj, false, entsOf s.ck ij.zero⟩] := by rw [put_bl, put_bl]; simp [St.addB]
              have hws := ((hpre hk).2 he).size
              intro k hkm
              rcases List.mem_cons.1 hkm with rfl | hkm
              · exact ⟨⟨x1, ti, false, entsOf s.ck ii.zero⟩, by rw [hb3]; simp, Nat.le_trans hws x0⟩
              · rcases List.mem_cons.1 hkm with rfl | hkm
                · exact ⟨⟨y1, tj, false, entsOf s.ck ij.zero⟩, by rw [hb3]; simp, Nat.le_trans hws y0⟩
                · exact (hfb hk he).after A3 k hkm
            · simpa [St.addB, St.put] using h'
          have ext1 : ∀ (o : Obj), Ext w { w with heap := w.heap.push o } := fun o => (Upd.refl w no).push o
          have hat : ∀ (w0 : World) (t : Nat) (z : List Value), (⟨w0.heap.size, t, false, entsOf s.ck z⟩ : Blk).at { w0 with heap := w0.heap.push (.cells z.toArray t (0, 0)) } := fun w0 t z => by
            unfold Blk.at
            show (w0.heap.push _)[w0.heap.size]? = _
            rw [Array.getElem?_push, if_pos rfl]
            simp [entsOf, Function.comp_def]
          have hat2 : ∀ (w0 : World) (b : Blk) (o : Obj), b.at w0 → b.at { w0 with heap := w0.heap.push o } := fun w0 b o hb => by
            have := lt_of_at hb
            unfold Blk.at at hb ⊢
            show (w0.heap.push _)[b.id]? = _
            rw [Array.getElem?_push, if_neg (by omega)]; exact hb
          have hS : ∀ (k : Nat) (o : Obj), k = i ∨ k = j → needOf ops (qsOf ops) k = true → BlsOn m B0 { w with heap := w.heap.push o } ∧ (((x || y) || extOf ops) = true → Ext wS { w with heap := w.heap.push o }) := fun k o hk hn => by
            have hk2 : ok = true := by
              cases ok with
              | true => rfl
              | false => rcases hk with rfl | rfl <;> (rw [hn] at hok; simp at hok)
            obtain ⟨p1, p2⟩ := hpre hk2
            exact ⟨fun q hq b hb => hat2 _ _ _ (onBls H.bl p1 q hq b hb), fun he => (p2 he).trans (ext1 o)⟩
          have hS2 : ∀ (k : Nat) (o o2 : Obj), k = i ∨ k = j → needOf ops (qsOf ops) k = true → BlsOn m B0 { w with heap := (w.heap.push o).push o2 } ∧ (((x || y) || extOf ops) = true → Ext wS { w with heap := (w.heap.push o).push o2 }) := fun k o o2 hk hn => by
            obtain ⟨q1, q2⟩ := hS k o hk hn
            exact ⟨fun q hq b hb => hat2 { w with heap := w.heap.push o } _ _ (q1 q hq b hb), fun he => (q2 he).trans ((Upd.refl { w with heap := w.heap.push o } no).push _)⟩
          have wi : ∀ tm, Region.wanted oi tm = true := fun tm => by simp [Region.wanted, h5]
          have wj : ∀ tm, Region.wanted oj tm = true := fun tm => by simp [Region.wanted, h6]
          refine wpN_each (by rw [hr]; exact fun h => nomatch h) fun k hk => ?_
          rw [hr] at hk
          simp only [List.mem_cons, List.not_mem_nil, or_false] at hk
          rcases hk with rfl | rfl
          · unfold wpOp
            simp only [hoi]
            rw [if_pos (wi _)]
            refine .inl (alloc_wp hE h1 hii ⟨fun hn => hS _ _ (.inl rfl) hn, wpN_one hri ?_⟩)
            unfold wpOp
            simp only [hoj]
            rw [if_pos (wj _)]
            refine .inl (alloc_wp hE h2 hjj ⟨fun hn => hS2 _ _ _ (.inr rfl) hn, ?_⟩)
            rw [h3, h4]
            exact key _ _ _ ((ext1 _).trans ((Upd.refl _ _).push _)) (hat2 _ _ _ (hat w ti ii.zero)) (hat _ tj ij.zero) (Nat.le_refl _) (by simp) (by simp)
          · unfold wpOp
            simp only [hoj]
            rw [if_pos (wj _)]
            refine .inl (alloc_wp hE h2 hjj ⟨fun hn => hS _ _ (.inr rfl) hn, wpN_one hrj ?_⟩)
            unfold wpOp
            simp only [hoi]
            rw [if_pos (wi _)]
            refine .inl (alloc_wp hE h1 hii ⟨fun hn => hS2 _ _ _ (.inl rfl) hn, ?_⟩)
            rw [h3, h4, Array.setIfInBounds_comm _ _ (Ne.symm hij), put_swap a (Ne.symm hd)]
            exact key _ _ _ ((ext1 _).trans ((Upd.refl _ _).push _)) (hat _ ti ii.zero) (hat2 _ _ _ (hat w tj ij.zero)) (by simp) (Nat.le_refl _) (by simp)
        obtain ⟨f, rfl⟩ : ∃ f', f = f' + 1 := ⟨f - 1, by have := cnt_set (hready r List.mem_cons_self); omega⟩
        refine wpN_each (by rw [hr]; exact fun h => nomatch h) fun i hi => ?_
        rw [hr] at hi
        have hmem : i ∈ Region.ready .any ops l := by rw [hr]; exact hi
        have hcnt := cnt_set (hready i hi)
        replace h := allP_mem h hi
        unfold oneVC at h
        cases ho : ops[i]? with
        | none => rw [ho] at h; exact h.elim
        | some o =>
          rw [ho] at h
          simp only at h
          obtain ⟨gy, gn, _⟩ := guard_cases (ops := ops) (o := o) H
          unfold wpOp
          simp only [ho]
          split at h
          · rename_i hnd
            split at h
            · rename_i hcalm
              simp only [Bool.and_eq_true] at hcalm
              obtain ⟨rfl, hcalm⟩ := hcalm
              obtain ⟨ht, hpe⟩ := hpre rfl
              split at h
              · rename_i hg
                rw [if_pos (gy hg)]
                split at h
                · refine .inl (stepX_sound hE H (stepX_calm hcalm h) (fun s2 a2 w2 H2 A2 hx2 h2 => ?_) (fun ch w' hx => hX ch a w' H.fr.df hx))
                  obtain ⟨h2, ht2⟩ := h2
                  have hpre2 := onKeeps hm ht ht2
                  have hpe2 : ((x || y) || extOf ops) = true → Ext wS w2 := fun he => (hpe he).trans (hx2 rfl)
                  exact ⟨fun _ => ⟨onBls H2.bl hpre2, hpe2⟩, ih fb false true _ s2 a2 w2 f H2 (by omega) (hcl.set hmem) (fun h => absurd h Bool.false_ne_true) (fun _ => ⟨hpre2, hpe2⟩) (fun hk he => (hfb hk he).after A2) h2 (hK.after A2)⟩
                · rename_i hnx
                  split at h
                  · rename_i hst
                    split at h
                    · rename_i hfs
                      have hy : y = true := (Bool.and_eq_true_iff.1 hst).1
                      have hexy : ((x || y) || extOf ops) = true := by rw [hy]; simp
                      refine .inl (step_fresh hE H hfs (hfb rfl hexy) (step_calm hcalm h) fun s2 a2 w2 H2 A2 hx2 h2 => ?_)
                      obtain ⟨h2, ht2⟩ := h2
                      have hpre2 := onKeeps hm ht ht2
                      have hpe2 : ((x || y) || extOf ops) = true → Ext wS w2 := fun he => hx2 (hpe he)
                      exact ⟨fun _ => ⟨onBls H2.bl hpre2, hpe2⟩, ih fb false true _ s2 a2 w2 f H2 (by omega) (hcl.set hmem) (fun h => absurd h Bool.false_ne_true) (fun _ => ⟨hpre2, hpe2⟩) (fun hk he => (hfb hk he).after A2) h2 (hK.after A2)⟩
                    · exact h.elim
                  rename_i hst
                  refine .inl (step_sound hE H (step_calm hcalm h) (fun s2 a2 w2 H2 A2 hx2 h2 => ?_) (fun ch w' hx => hX ch a w' H.fr.df hx))
                  obtain ⟨h2, ht2⟩ := h2
                  have hpre2 := onKeeps hm ht ht2
                  have hpe2 : ((x || y) || extOf ops) = true → Ext wS w2 := fun he => (hpe he).trans (hx2 (by
                    cases hso : stillOp o.op with
                    | true => rfl
                    | false =>
                      exfalso
                      cases y with
                      | true => rw [hso] at hst; exact hst rfl
                      | false =>
                        cases x with
                        | true => exact hnx rfl
                        | false => exact absurd (ext_still he ho hnd) (by rw [hso]; exact Bool.false_ne_true)))
                  exact ⟨fun _ => ⟨onBls H2.bl hpre2, hpe2⟩, ih fb false true _ s2 a2 w2 f H2 (by omega) (hcl.set hmem) (fun h => absurd h Bool.false_ne_true) (fun _ => ⟨hpre2, hpe2⟩) (fun hk he => (hfb hk he).after A2) h2 (hK.after A2)⟩
              · rename_i hg
                rw [if_neg (by rw [gn hg]; exact Bool.false_ne_true)]
                exact ⟨fun _ => ⟨onBls H.bl ht, hpe⟩, ih fb fr true _ _ _ _ f (H.put (sh := .no) o.dst undef trivial) (by omega) (hcl.set hmem) hfr (fun _ => ⟨fun k hk => by rw [put_bl]; exact ht k hk, hpe⟩) (fun hk he => (hfb hk he).after (Agree.put _ _ _ _)) h (hK.after (Agree.put _ _ _ _))⟩
              · exact h.elim
            · exact h.elim
          · rename_i hnd
            split at h
            · rename_i hg
              rw [if_pos (gy hg)]
              cases hgood : (ok && calm s m o.op && (!((x || y) || extOf ops) || stillOp o.op)) with
              | true =>
                rw [hgood] at h
                simp only [Bool.and_eq_true] at hgood
                obtain ⟨⟨rfl, hcalm⟩, hstill⟩ := hgood
                obtain ⟨ht, hpe⟩ := hpre rfl
                refine .inl (step_sound hE H (step_calm hcalm h) (fun s2 a2 w2 H2 A2 hx2 h2 => ?_) (fun ch w' hx => hX ch a w' H.fr.df hx))
                obtain ⟨h2, ht2⟩ := h2
                have hpre2 := onKeeps hm ht ht2
                have hpe2 : ((x || y) || extOf ops) = true → Ext wS w2 := fun he => (hpe he).trans (hx2 (by rw [he] at hstill; simpa using hstill))
                exact ⟨fun hn => absurd hn hnd, ih fb false true _ s2 a2 w2 f H2 (by omega) (hcl.set hmem) (fun h => absurd h Bool.false_ne_true) (fun _ => ⟨hpre2, hpe2⟩) (fun hk he => (hfb hk he).after A2) h2 (hK.after A2)⟩
              | false =>
                rw [hgood] at h
                exact .inl (step_sound hE H h (fun s2 a2 w2 H2 A2 _ h2 => ⟨fun hn => absurd hn hnd, ih fb false false _ s2 a2 w2 f H2 (by omega) (hcl.set hmem) (fun h => absurd h Bool.false_ne_true) (fun h => absurd h Bool.false_ne_true) (fun h => absurd h Bool.false_ne_true) h2 (hK.after A2)⟩) (fun ch w' hx => hX ch a w' H.fr.df hx))
            · rename_i hg
              rw [if_neg (by rw [gn hg]; exact Bool.false_ne_true)]
              exact ⟨fun hn => absurd hn hnd, ih fb fr ok _ _ _ _ f (H.put (sh := .no) o.dst undef trivial) (by omega) (hcl.set hmem) hfr (fun hk => by obtain ⟨ht, hpe⟩ := hpre hk; exact ⟨fun k hk => by rw [put_bl]; exact ht k hk, hpe⟩) (fun hk he => (hfb hk he).after (Agree.put _ _ _ _)) h (hK.after (Agree.put _ _ _ _))⟩
            · exact h.elim
end
end
section
open Go
def IntoQ (Qe : Exit → St → Prop) (s : St) (Q : Exit → Act → World → Prop) : Prop := ∀ e s' a' w', Holds s' a' w' → Agree s s' → Qe e s' → Q e a' w'
theorem IntoQ.after {Qe : Exit → St → Prop} {s s1 : St} {Q : Exit → Act → World → Prop} (h : IntoQ Qe s Q) (k : Agree s s1) : IntoQ Qe s1 Q :=
  fun e s' a' w' H A q => h e s' a' w' H (k.trans A) q
structure PanicQ (X : ContX) (Q : Exit → Act → World → Prop) : Prop where
  x : ∀ ch a' w', a'.defers = [] → X ch w' → Q (.panic ch) a' w'
  put : ∀ c d v a w, Q (.panic c) (Act.put a d v) w → Q (.panic c) a w
theorem PanicQ.then {X : ContX} {Q : Exit → Act → World → Prop} (h : PanicQ X Q) (n : Act → World → Prop) : PanicQ X (Exit.then n Q) := ⟨h.x, h.put⟩
theorem PanicQ.inBlock {X : ContX} {Q : Exit → Act → World → Prop} (h : PanicQ X Q) (id : Nat) : PanicQ X (Exit.inBlock id Q) := ⟨h.x, h.put⟩
theorem PanicQ.noGoto {X : ContX} {Q : Exit → Act → World → Prop} (h : PanicQ X Q) : PanicQ X (Exit.noGoto Q) := ⟨h.x, h.put⟩
theorem stale {s : St} {a : Act} {w : World} (H : Holds s a w) : Holds { s with cl := false } a { w with drawn := w.drawn + 1 } :=
  ⟨⟨H.fr.tm, H.fr.df, H.fr.sh, H.fr.sc⟩, H.bl, H.nd, H.tk, H.cb, ⟨H.up.os, H.up.tape, H.up.output, H.up.size, H.up.keep⟩, fun h => absurd h Bool.false_ne_true, H.nb⟩
theorem clockUp {s : St} {a : Act} {w : World} (H : Holds s a w) : Holds { s with ck := s.ck + 1 } a w :=
  ⟨⟨H.fr.tm, H.fr.df, H.fr.sh, H.fr.sc⟩, H.bl, H.nd, fun e he => Nat.le_succ_of_le (H.tk e he), fun b hb e he => Nat.le_succ_of_le (H.cb b hb e he), H.up, H.cl, H.nb⟩
theorem Agree.clock (s : St) : Agree s { s with ck := s.ck + 1 } := ⟨Nat.le_succ _, rfl, Old.refl _ _, (Agree.refl s).bl⟩
theorem rbOf_lt {s : St} {ops : Array Oper} : ∀ k, k ∈ rbOf s ops → k < s.bl.length := by
  intro k hk
  simp only [rbOf, List.mem_filterMap] at hk
  obtain ⟨o, _, h⟩ := hk
  split at h
  · split at h
    · split at h
      · cases h; assumption
      · cases h
    · cases h
  · cases h
theorem cnt_replicate (n : Nat) : cnt (Array.replicate n false) = n := by simp [cnt]
theorem closed0 (ops : Array Oper) (n : Nat) : ClosedL ops (Array.replicate n false) := by
  intro j oj _ hl
  rw [getD_replicate_false] at hl; cases hl
theorem vals_show (s : St) (M : Mods) (w : World) : valsOf (s.show w) M = valsOf s M := rfl
theorem kn_holds {s : St} {a : Act} {w : World} (H : Holds s a w) {c : Operand} {b : Bool} (h : (s.ev c).v = .bool b) : Holds (s.kn c b) a w ∧ Agree s (s.kn c b) := by
  cases c with
  | tmp d =>
    simp only [St.kn]
    cases he : s.tm[d]? with
    | none => simp only [St.setSh, he]; exact ⟨H, Agree.refl s⟩
    | some e =>
      have hv : e.v = .bool b := by simpa [St.ev, List.getD_eq_getElem?_getD, he] using h
      exact setSh_holds H he hv
  | _ => exact ⟨H, Agree.refl s⟩
theorem distP_use {b : Bool} {l : List Nat} {p : Prop} (hl : l.Nodup) (h : distP b l p) : p := by
  unfold distP at h
  cases b with
  | true => exact h hl
  | false => exact h
theorem exec_sound {E : Env} (hE : E.Ok) (Hi : Hints) {X : ContX} : ∀ (c : Code) (Qe : Exit → St → Prop) (s : St) (a : Act) (w : World) (Q : Exit → Act → World → Prop),
    Holds s a w → exec E Hi X c Qe s → PanicQ X Q → IntoQ Qe s Q → c.wp E.P Q a w := by
  intro c
  induction c with
  | skip => intro Qe s a w Q H h _ hq; exact wp_skip (hq _ s a w H (Agree.refl s) h)
  | ret => intro Qe s a w Q H h _ hq; exact wp_ret (hq _ s a w H (Agree.refl s) h)
  | exit id => intro Qe s a w Q H h _ hq; exact wp_exit (hq _ s a w H (Agree.refl s) h)
  | region id ops draw =>
    intro Qe s a w Q H h hp hq
    simp only [exec] at h
    replace h := distP_use H.nd h
    cases draw with
    | true =>
      simp only [if_true] at h
      split at h
      · rename_i hsel
        refine wp_region_any hE.mx (wpN_any _ _ _ _ (drawVC_sound hE hsel hp.x hp.put s.bl { w with drawn := w.drawn + 1 } (rbOf s ops) rbOf_lt _ [] true true _ _ _ _ _ (stale H) (Nat.le_of_eq (cnt_replicate _)) (closed0 _ _) (fun _ => rfl) (fun _ => ⟨fun _ _ => rfl, fun _ => Upd.refl _ _⟩) (fun _ _ _ hk => nomatch hk) h ?_))
        intro s' a' w' H' A' h'
        exact hq _ s' a' w' H' ⟨A'.ck, A'.tl, A'.tm, A'.bl⟩ h'
      · exact h.elim
    | false =>
      simp only [Bool.false_eq_true, if_false] at h
      exact wp_region_list (execOps_sound hE hp.x _ s a w H h (fun s' a' w' H' A' h' => hq _ s' a' w' H' A' h'))
  | cond c x y ihx ihy =>
    intro Qe s a w Q H h hp hq
    simp only [exec] at h
    have hev := H.fr.ev c
    have hsh := H.fr.evSh c
    split at h
    · rename_i hs
      simp only [ShOk, hs] at hsh
      exact wp_cond_true (by rw [hev, hsh]) (ihx _ s a w Q H h hp hq)
    · rename_i hs
      simp only [ShOk, hs] at hsh
      exact wp_cond_false (by rw [hev, hsh]) (ihy _ s a w Q H h hp hq)
    · split at h
      · rename_i t ht
        refine wp_cond_split (by rw [hev, ht]) (fun htt => ?_) (fun htt => ?_)
        · obtain ⟨k1, k2⟩ := kn_holds H (c := c) (b := true) (by rw [ht, htt])
          exact ihx _ _ a w Q k1 (h.1 htt) hp (hq.after k2)
        · obtain ⟨k1, k2⟩ := kn_holds H (c := c) (b := false) (by rw [ht, htt])
          exact ihy _ _ a w Q k1 (h.2 htt) hp (hq.after k2)
      · exact h.elim
  | block id c ih =>
    intro Qe s a w Q H h hp hq
    simp only [exec] at h
    refine wp_block (ih _ s a w _ H h (hp.inBlock id) ?_)
    intro e s' a' w' H' A' h'
    cases e with
    | exit j =>
      simp only [Exit.inBlock]
      by_cases hj : j = id
      · simp only [hj, if_true] at h' ⊢; exact hq _ s' a' w' H' A' h'
      · simp only [hj, if_false] at h' ⊢; exact hq _ s' a' w' H' A' h'
    | _ => exact hq _ s' a' w' H' A' h'
  | scope c ih =>
    intro Qe s a w Q H h hp hq
    simp only [exec] at h
    refine wp_scope_straight (ih _ s a w _ H h hp.noGoto ?_)
    intro e s' a' w' H' A' h'
    cases e with
    | goto l => exact h'
    | _ => exact hq _ s' a' w' H' A' h'
  | seq x y ihx ihy =>
    intro Qe s a w Q H h hp hq
    simp only [exec] at h
    split at h
    · refine wp_seq (ihx _ s a w _ H h (hp.then _) ?_)
      intro e s' a' w' H' A' h'
      cases e with
      | normal => exact ihy _ s' a' w' Q H' h' hp (hq.after A')
      | _ => exact hq _ s' a' w' H' A' h'
    · rename_i M hM
      split at h
      · rename_i hm
        obtain ⟨I, h1, h2⟩ := h
        refine wp_seq (ihx _ _ a w _ (clockUp H) h1 (hp.then _) ?_)
        intro e s' a' w' H' A' h'
        cases e with
        | normal =>
          simp only at h'
          split at h'
          · rename_i hst
            have hI := H'.flush h'
            rw [vals_show] at hI
            obtain ⟨r1, r2, r3⟩ := round_ok (s := s) (sh := { s with ck := s.ck + 1 }) hst A' rfl rfl (fun _ _ => rfl) (fun k b hb => ⟨b, hb, rfl, rfl, rfl, fun _ _ => rfl⟩)
            have hh := head_holds H H' hm r1 r2 r3
            have hlen := (vals_get s' M).2.2.1
            have hy := allL_use M.cks I (valsOf s' M) w' _ hI hlen (h2 (fun j => (s'.tm.getD j undefE).v))
            exact ihy _ _ a' w' Q hh (hy w' hI) hp (hq.after (head_agree hm hlen))
          · exact h'.elim
        | _ => exact hq _ s' a' w' H' ((Agree.clock s).trans A') h'
      · exact h.elim
  | loop c ih =>
    intro Qe s a w Q H h hp hq
    simp only [exec] at h
    split at h
    · exact h.elim
    · rename_i M hM
      split at h
      · rename_i hm
        split at h
        · obtain ⟨I, m, hI0, hround⟩ := H.flush h
          have H1 := H.shown
          have hm1 : modsOk (s.show w) M (writes c) = true := hm
          have hlen0 := (vals_get (s.show w) M).2.2.1
          refine wp_loop_ghost (fun n a' w' => ∃ jk vs, vs.length = M.cks.length ∧ Inv.at M.cks I vs w' ∧ n = Mea.at M.cks m vs ∧ Holds (headSt (s.show w) M (writes c) jk vs w') a' w')
            (Mea.at M.cks m (valsOf (s.show w) M)) ?_ ?_
          · refine ⟨_, _, hlen0, hI0, rfl, head_holds H1 H1 hm1 rfl (fun j e' he' e he => ?_) (fun k b hb => ⟨b, hb, rfl, rfl, rfl, fun j e e' he he' => ?_⟩)⟩
            · rw [he] at he'; cases he'; exact .inl rfl
            · rw [he] at he'; cases he'; exact .inl rfl
          · rintro n a' w' ⟨jk, vs, hlen, hI, rfl, Hh⟩
            have hb := allL_use M.cks I vs w' _ hI hlen (hround jk) w' hI
            refine ih _ _ a' w' _ Hh hb (hp.then _) ?_
            intro e s' a2 w2 H2 A2 h2
            cases e with
            | normal =>
              simp only at h2
              split at h2
              · rename_i hst
                obtain ⟨hI2, hlt⟩ := H2.flush h2
                rw [vals_show] at hI2 hlt
                have hl2 : (vs.drop M.tm.length).length = M.ce.length := by simp [hlen, Mods.cks]
                obtain ⟨t1, t2, t3, t4⟩ := head_tm (s.show w) M (writes c) jk vs w' hm1
                obtain ⟨c1, c2, c3, c4, c5⟩ := putCells_get (s.show w).ck (fun _ _ => undef) M.ce (vs.drop M.tm.length) (s.show w).bl hl2
                obtain ⟨r1, r2, r3⟩ := round_ok (s := s.show w) hst A2 rfl t1 t2 (fun k b hb => by
                  obtain ⟨b', hb', i, t, _, l⟩ := c2 k b hb
                  exact ⟨b', hb', i, t, l, (c5 k b hb b' hb').2⟩)
                have hh := head_holds H1 H2 hm1 r1 r2 r3
                exact ⟨_, hlt, _, _, (vals_get s' M).2.2.1, hI2, rfl, hh⟩
              · exact h2.elim
            | _ => exact hq _ s' a2 w2 H2 ((Agree.shown s w).trans ((head_agree hm1 hlen).trans A2)) h2
        · obtain ⟨I, n0, hI0, hround⟩ := H.flush h
          have H1 := H.shown
          have hm1 : modsOk (s.show w) M (writes c) = true := hm
          have hlen0 := (vals_get (s.show w) M).2.2.1
          refine wp_loop_ghost (fun n a' w' => ∃ jk vs, vs.length = M.cks.length ∧ Inv.at M.cks (I n) vs w' ∧ Holds (headSt (s.show w) M (writes c) jk vs w') a' w')
            n0 ?_ ?_
          · refine ⟨_, _, hlen0, hI0, head_holds H1 H1 hm1 rfl (fun j e' he' e he => ?_) (fun k b hb => ⟨b, hb, rfl, rfl, rfl, fun j e e' he he' => ?_⟩)⟩
            · rw [he] at he'; cases he'; exact .inl rfl
            · rw [he] at he'; cases he'; exact .inl rfl
          · rintro n a' w' ⟨jk, vs, hlen, hI, Hh⟩
            have hb := allL_use M.cks (I n) vs w' _ hI hlen (hround n jk) w' hI
            refine ih _ _ a' w' _ Hh hb (hp.then _) ?_
            intro e s' a2 w2 H2 A2 h2
            cases e with
            | normal =>
              simp only at h2
              split at h2
              · rename_i hst
                obtain ⟨n2, hI2, hlt⟩ := H2.flush h2
                rw [vals_show] at hI2
                have hl2 : (vs.drop M.tm.length).length = M.ce.length := by simp [hlen, Mods.cks]
                obtain ⟨t1, t2, t3, t4⟩ := head_tm (s.show w) M (writes c) jk vs w' hm1
                obtain ⟨c1, c2, c3, c4, c5⟩ := putCells_get (s.show w).ck (fun _ _ => undef) M.ce (vs.drop M.tm.length) (s.show w).bl hl2
                obtain ⟨r1, r2, r3⟩ := round_ok (s := s.show w) hst A2 rfl t1 t2 (fun k b hb => by
                  obtain ⟨b', hb', i, t, _, l⟩ := c2 k b hb
                  exact ⟨b', hb', i, t, l, (c5 k b hb b' hb').2⟩)
                have hh := head_holds H1 H2 hm1 r1 r2 r3
                exact ⟨_, hlt, _, _, (vals_get s' M).2.2.1, hI2, hh⟩
              · exact h2.elim
            | _ => exact hq _ s' a2 w2 H2 ((Agree.shown s w).trans ((head_agree hm1 hlen).trans A2)) h2
      · exact h.elim
  | _ => intro Qe s a w Q H h; exact h.elim
end
section
open Go
def resSem (tm : Array Value) : ResultVar → Sem Value
  | .tmp t => pure (tm.getD t undef)
  | .cell x t => do loadVar t (← asAddr (tm.getD x undef))
theorem results_eq (fn : Func) (tm : Array Value) : results fn tm = (do let vs ← fn.results.mapM (resSem tm); pure (if h : vs.size = 1 then vs[0] else .tuple vs)) := by
  unfold results
  have : (fun (r : ResultVar) => (match r with | .tmp t => pure (tm.getD t undef) | .cell x t => do loadVar t (← asAddr (tm.getD x undef)) : Sem Value)) = resSem tm := by
    funext r; cases r <;> rfl
  rw [← this]
  rfl
theorem res_run {E : Env} (hE : E.Ok) {s : St} {a : Act} {w : World} (H : Holds s a w) {r : ResultVar} {v : Value} (h : resOf E s r = some v) :
    (resSem a.tmps r).run E.P w = .ok v w := by
  cases r with
  | tmp t =>
    simp only [resOf, Option.some.injEq] at h
    subst h
    have := H.fr.ev (.tmp t)
    simp only [Act.eval] at this
    simp only [resSem, this]; rfl
  | cell x t =>
    simp only [resOf] at h
    have hev : a.tmps.getD x undef = (s.ev (.tmp x)).v := H.fr.ev (.tmp x)
    split at h
    · rename_i i k off hi hs
      split at h
      · cases h
      · rename_i b hb
        have hx := H.fr.evSh (.tmp x)
        simp only [ShOk, hs] at hx
        obtain ⟨id, hid, hv⟩ := hx
        rw [ids_get hb] at hid
        cases hid
        have hl := run_loadAt (hE.T t i hi) (H.bl.get hb) off
        have hgo : ∀ u, (Instr.loadAt t (.pointer (some ⟨b.id, off, none⟩))).run E.P w = .ok u w → (resSem a.tmps (.cell x t)).run E.P w = .ok u w := fun u hu => by
          simp only [resSem, hev, hv]
          simp only [Instr.loadAt, Instr.sureAddr, Sem.run_bind, Sem.run_pure, Result.andThen_ok] at hu
          simp only [asAddr, Sem.run_bind, Sem.run_pure, Result.andThen_ok]
          exact hu
        split at h
        · rename_i ha
          split at h
          · rename_i hle
            cases h
            exact hgo _ (hl.1 ha hle)
          · cases h
        · rename_i ha
          obtain ⟨e, he, rfl⟩ := Option.map_eq_some_iff.1 h
          exact hgo _ (hl.2 (by simpa using ha) e he)
    · cases h
theorem resList_run {E : Env} (hE : E.Ok) {s : St} {a : Act} {w : World} (H : Holds s a w) : ∀ (rs : List ResultVar) (vs : List Value), resList E s rs = some vs →
    (rs.mapM (resSem a.tmps)).run E.P w = .ok vs w := by
  intro rs
  induction rs with
  | nil => intro vs h; simp only [resList, Option.some.injEq] at h; subst h; simp
  | cons r rs ih =>
    intro vs h
    simp only [resList] at h
    split at h
    · rename_i v vs' hv hvs
      simp only [Option.some.injEq] at h
      subst h
      have h1 := res_run hE H hv
      have h2 := ih vs' hvs
      rw [List.mapM_cons, Sem.run_bind]
      rw [h1, Result.andThen_ok, Sem.run_bind, h2]; rfl
    · cases h
theorem resAll_run {E : Env} (hE : E.Ok) {s : St} {a : Act} {w : World} (H : Holds s a w) (fn : Func) {v : Value} (h : resAll E s fn.results.toList = some v) : (results fn a.tmps).run E.P w = .ok v w := by
  unfold resAll at h
  have hr : ∀ vs, resList E s fn.results.toList = some vs → (results fn a.tmps).run E.P w = .ok (if h : vs.toArray.size = 1 then vs.toArray[0] else .tuple vs.toArray) w := fun vs hvs => by
    have := resList_run hE H fn.results.toList vs hvs
    rw [results_eq, Array.mapM_eq_mapM_toList, Sem.run_bind, Sem.run_map, this]; rfl
  split at h
  · rename_i u hu
    cases h
    rw [hr _ hu]; rfl
  · rename_i vs hno hvs
    cases h
    rw [hr _ hvs]
    have : ¬ vs.toArray.size = 1 := fun h1 => by
      match vs, h1 with
      | [u], _ => exact hno u rfl
    rw [dif_neg this]
  · cases h
def Plain (bl : List Blk) : Prop := ∀ b ∈ bl, ∀ e ∈ b.cs, e.sh = .no ∧ e.st = 0
theorem calls_of {E : Env} (hE : E.Ok) (Hi : Hints) {f : Nat} {fn : Func} {c : Code} (hf : E.P.funcs[f]? = some fn) (hb : fn.body = some c) (args : List (Value × Sh)) (bl : List Blk) {w : World}
    {R : Value → World → Prop} {X : ContX} (hbl : Bls bl w) (hnd : (bl.map Blk.id).Nodup) (hpl : Plain bl) (hsh : ∀ p ∈ args, ShOk (bl.map Blk.id) ⟨p.1, p.2, 0⟩)
    (h : fnVC E Hi c fn.results.toList fn.ntmps args bl w R X) : CallsX E.P f (args.map Prod.fst).toArray w R X := by
  refine ⟨calls_of_wp hf hb ?_⟩
  have H : Holds (startSt args fn.ntmps bl w) { tmps := (args.map Prod.fst).toArray ++ Array.replicate (fn.ntmps - (args.map Prod.fst).toArray.size) undef, defers := [] } w := by
    refine ⟨⟨?_, rfl, fun e he => ?_, fun b hb e he => ?_⟩, hbl, hnd, fun e he => ?_, fun b hb e he => ?_, Upd.refl _ _, fun _ => rfl, fun b hb => ?_⟩
    · simp only [startSt, List.map_append, List.map_map, List.map_replicate, List.size_toArray, List.length_map]
      rw [← List.toArray_replicate, List.append_toArray]
      rfl
    · rcases List.mem_append.1 he with he | he
      · obtain ⟨p, hp, rfl⟩ := List.mem_map.1 he
        exact hsh p hp
      · rw [(List.mem_replicate.1 he).2]; trivial
    · simp only [ShOk, (hpl b hb e he).1]
    · rcases List.mem_append.1 he with he | he
      · obtain ⟨p, hp, rfl⟩ := List.mem_map.1 he
        exact Nat.le_refl _
      · rw [(List.mem_replicate.1 he).2]; exact Nat.le_refl _
    · rw [(hpl b hb e he).2]; exact Nat.zero_le _
    · simp [startSt] at hb
  refine exec_sound hE Hi c _ _ _ w _ H h ⟨fun ch a' w' hd hx => ⟨hd, hx⟩, fun c d v a w' hq => ?_⟩ ?_
  · refine ⟨?_, hq.2⟩
    have := hq.1
    cases d <;> exact this
  · intro e s' a' w' H' A' h'
    have hend : (match resAll E s' fn.results.toList with | some v => flush s' (List.range bl.length ++ escOf Hi) fun _ w1 => R v w1 | none => False) → a'.defers = [] ∧ ∃ v, (results fn a'.tmps).run E.P w' = .ok v w' ∧ R v w' := fun h' => by
      split at h'
      · rename_i v hv
        exact ⟨H'.fr.df, v, resAll_run hE H' fn hv, H'.flush h'⟩
      · exact h'.elim
    cases e with
    | normal => exact hend h'
    | ret => exact hend h'
    | _ => exact h'.elim
theorem contains_use {l : List Nat} {f : Nat} (h : l.contains f = true) : f ∈ l := by simpa using h
def bodyOf (fn : Func) : Code := fn.body.getD .skip
theorem calls_fn {E : Env} (hE : E.Ok) (Hi : Hints) {f : Nat} {fn : Func} (hf : E.P.funcs[f]? = some fn) (hb : fn.body.isSome = true) (args : List (Value × Sh)) (bl : List Blk) {w : World}
    {R : Value → World → Prop} {X : ContX} (hbl : Bls bl w) (hnd : (bl.map Blk.id).Nodup) (hpl : Plain bl) (hsh : ∀ p ∈ args, ShOk (bl.map Blk.id) ⟨p.1, p.2, 0⟩)
    (h : fnVC E Hi (bodyOf fn) fn.results.toList fn.ntmps args bl w R X) : CallsX E.P f (args.map Prod.fst).toArray w R X :=
  calls_of hE Hi hf (by unfold bodyOf; cases h : fn.body with | none => rw [h] at hb; cases hb | some c => rfl) args bl hbl hnd hpl hsh h
theorem calls_vc {E : Env} (hE : E.Ok) (Hi : Hints) {f : Nat} {fn : Func} (hf : E.P.funcs[f]? = some fn) (hb : fn.body.isSome = true) (args : List (Value × Sh)) (bl : List Blk) {w : World}
    {R : Value → World → Prop} {X : ContX} (hbl : Bls bl w) (hnd : (bl.map Blk.id).Nodup) (hpl : Plain bl) (hsh : ∀ p ∈ args, ShOk (bl.map Blk.id) ⟨p.1, p.2, 0⟩) {V : Prop} (h : V)
    (e : fnVC E Hi (bodyOf fn) fn.results.toList fn.ntmps args bl w R X = V) : CallsX E.P f (args.map Prod.fst).toArray w R X :=
  calls_fn hE Hi hf hb args bl hbl hnd hpl hsh (by rw [e]; exact h)
def entersAll (P : Program) (fs : List Nat) : Bool := fs.all fun f => match P.funcs[f]? with | some fn => enterB fn | none => false
def tysOf (P : Program) (tab : List (Nat × TyI)) : List (Option (Bool × List Value × List (Nat × Nat) × Option Nat × Nat)) := tab.map fun p => tyOf P p.1
def tysIn (tab : List (Nat × TyI)) : List (Option (Bool × List Value × List (Nat × Nat) × Option Nat × Nat)) := tab.map fun p => some (p.2.agg, p.2.zero, p.2.offs, p.2.el, p.2.kd)
def lookT (tab : List (Nat × TyI)) (t : Nat) : Option TyI := (tab.find? fun p => p.1 == t).map (·.2)
theorem Env.ok_of {P : Program} {tab : List (Nat × TyI)} {U : Nat → List Nat} {F : Nat → Bool} {fs : List Nat}
    (h1 : tysOf P tab = tysIn tab) (h2 : P.follows .mixedOrders = true)
    (h3 : entersAll P fs = true) (h4 : ∀ f, F f = true → f ∈ fs) :
    Env.Ok ⟨P, lookT tab, U, F⟩ := by
  refine ⟨fun t i ht => ?_, fun f hf => ?_, h2⟩
  · unfold lookT at ht
    obtain ⟨p, hp, rfl⟩ := Option.map_eq_some_iff.1 ht
    have hmem := List.mem_of_find?_eq_some hp
    have heq : p.1 = t := by simpa using List.find?_some hp
    subst heq
    obtain ⟨k, hk⟩ := List.getElem?_of_mem hmem
    unfold tysOf tysIn at h1
    have := congrArg (fun l : List (Option (Bool × List Value × List (Nat × Nat) × Option Nat × Nat)) => l[k]?) h1
    simp only [List.getElem?_map, hk, Option.map_some, Option.some.injEq] at this
    exact tyOf_ok this
  · unfold entersAll at h3
    have := List.all_eq_true.1 h3 f (h4 f hf)
    split at this
    · rename_i fn hfn; exact ⟨fn, hfn, this⟩
    · cases this
end
end Go.Vx
namespace Go.Vx.Tryz
open Go Go.Vx Go.Proofs
def tab : List (Nat × TyI) := [
  (1, ⟨false, [.nilFunc], [], none, [.any], 0⟩),
  (2, ⟨false, [.int .i64 0], [], none, [.int .i64], 13⟩),
  (3, ⟨false, [.int .i64 0], [], none, [.int .i64], 13⟩),
  (4, ⟨false, [.bool false], [], none, [.bool], 2⟩),
  (5, ⟨false, [.int .u8 0], [], none, [.int .u8], 14⟩),
  (6, ⟨false, [.int .u8 0], [], none, [.int .u8], 14⟩),
  (7, ⟨true, [.int .i64 0, .int .i64 0, .bool false, .int .u8 0], [(0, 1), (1, 1), (2, 1), (3, 1)], none, [.int .i64, .int .i64, .bool, .int .u8], 0⟩),
  (8, ⟨true, [.int .i64 0, .int .i64 0, .bool false, .int .u8 0], [(0, 1), (1, 1), (2, 1), (3, 1)], none, [.int .i64, .int .i64, .bool, .int .u8], 0⟩),
  (9, ⟨false, [.string ⟨#[]⟩], [], none, [.str], 1⟩),
  (10, ⟨false, [.string ⟨#[]⟩], [], none, [.str], 1⟩),
  (11, ⟨false, [.string ⟨#[]⟩], [], none, [.str], 1⟩),
  (12, ⟨false, [.int .u64 0], [], none, [.int .u64], 17⟩),
  (13, ⟨true, [.string ⟨#[]⟩, .int .u64 0], [(0, 1), (1, 1)], none, [.str, .int .u64], 0⟩),
  (14, ⟨true, [.string ⟨#[]⟩, .int .u64 0], [(0, 1), (1, 1)], none, [.str, .int .u64], 0⟩),
  (15, ⟨false, [.pointer none], [], none, [.ptr], 0⟩),
  (16, ⟨false, [.pointer none], [], none, [.ptr], 0⟩),
  (17, ⟨false, [.pointer none], [], none, [.ptr], 0⟩),
  (18, ⟨true, [.pointer none], [(0, 1)], none, [.ptr], 0⟩),
  (19, ⟨true, [.pointer none], [(0, 1)], none, [.ptr], 0⟩),
  (20, ⟨false, [.nilIface], [], none, [.any], 4⟩),
  (21, ⟨false, [.int .i32 0], [], none, [.int .i32], 12⟩),
  (22, ⟨false, [.slice none 0 0], [], (some 24), [.slc], 0⟩),
  (23, ⟨true, [.int .i64 0, .int .i64 0, .string ⟨#[]⟩, .slice none 0 0], [(0, 1), (1, 1), (2, 1), (3, 1)], none, [.int .i64, .int .i64, .str, .slc], 0⟩),
  (24, ⟨true, [.int .i64 0, .int .i64 0, .string ⟨#[]⟩, .slice none 0 0], [(0, 1), (1, 1), (2, 1), (3, 1)], none, [.int .i64, .int .i64, .str, .slc], 0⟩),
  (25, ⟨false, [.slice none 0 0], [], (some 3), [.slc], 0⟩),
  (26, ⟨true, [.int .i64 0, .int .i64 0, .string ⟨#[]⟩, .slice none 0 0, .slice none 0 0], [(0, 4), (4, 1)], none, [.int .i64, .int .i64, .str, .slc, .slc], 0⟩),
  (27, ⟨true, [.int .i64 0, .int .i64 0, .string ⟨#[]⟩, .slice none 0 0, .slice none 0 0], [(0, 4), (4, 1)], none, [.int .i64, .int .i64, .str, .slc, .slc], 0⟩),
  (28, ⟨false, [.nilFunc], [], none, [.any], 0⟩),
  (29, ⟨false, [.nilFunc], [], none, [.any], 0⟩),
  (30, ⟨false, [.nilFunc], [], none, [.any], 0⟩),
  (31, ⟨false, [.int .i64 0], [], none, [.int .i64], 13⟩),
  (33, ⟨false, [.nilFunc], [], none, [.any], 0⟩),
  (34, ⟨false, [.slice none 0 0], [], (some 38), [.slc], 0⟩),
  (36, ⟨false, [.nilFunc], [], none, [.any], 0⟩),
  (37, ⟨false, [.nilFunc], [], none, [.any], 0⟩),
  (38, ⟨true, [.int .i64 0, .int .i64 0], [(0, 1), (1, 1)], none, [.int .i64, .int .i64], 5⟩),
  (39, ⟨false, [.nilFunc], [], none, [.any], 0⟩),
  (40, ⟨false, [.nilFunc], [], none, [.any], 0⟩),
  (41, ⟨false, [.nilFunc], [], none, [.any], 0⟩),
  (42, ⟨false, [.slice none 0 0], [], (some 44), [.slc], 0⟩),
  (43, ⟨true, [.int .i64 0, .int .i64 0, .string ⟨#[]⟩, .slice none 0 0, .int .i64 0], [(0, 1), (1, 1), (2, 1), (3, 1), (4, 1)], none, [.int .i64, .int .i64, .str, .slc, .int .i64], 0⟩),
  (44, ⟨true, [.int .i64 0, .int .i64 0, .string ⟨#[]⟩, .slice none 0 0, .int .i64 0], [(0, 1), (1, 1), (2, 1), (3, 1), (4, 1)], none, [.int .i64, .int .i64, .str, .slc, .int .i64], 0⟩),
  (46, ⟨false, [.nilFunc], [], none, [.any], 0⟩),
  (47, ⟨false, [.nilFunc], [], none, [.any], 0⟩),
  (48, ⟨false, [.pointer none], [], none, [.ptr], 0⟩),
  (49, ⟨false, [.map none], [], none, [.map], 0⟩),
  (50, ⟨false, [.nilFunc], [], none, [.any], 0⟩),
  (51, ⟨true, [.map none, .map none, .slice none 0 0], [(0, 1), (1, 1), (2, 1)], none, [.map, .map, .slc], 0⟩),
  (52, ⟨true, [.map none, .map none, .slice none 0 0], [(0, 1), (1, 1), (2, 1)], none, [.map, .map, .slc], 0⟩),
  (53, ⟨false, [.nilFunc], [], none, [.any], 0⟩),
  (54, ⟨false, [.nilFunc], [], none, [.any], 0⟩),
  (55, ⟨false, [.nilFunc], [], none, [.any], 0⟩),
  (56, ⟨false, [.nilFunc], [], none, [.any], 0⟩),
  (57, ⟨false, [.slice none 0 0], [], (some 65), [.slc], 0⟩),
  (59, ⟨false, [.nilFunc], [], none, [.any], 0⟩),
  (60, ⟨false, [.pointer none], [], none, [.ptr], 0⟩),
  (61, ⟨true, [.slice none 0 0, .int .i64 0, .int .i64 0, .int .i64 0, .int .i64 0, .int .i64 0], [(0, 1), (1, 1), (2, 1), (3, 1), (4, 1), (5, 1)], none, [.slc, .int .i64, .int .i64, .int .i64, .int .i64, .int .i64], 0⟩),
  (62, ⟨true, [.slice none 0 0, .int .i64 0, .int .i64 0, .int .i64 0, .int .i64 0, .int .i64 0], [(0, 1), (1, 1), (2, 1), (3, 1), (4, 1), (5, 1)], none, [.slc, .int .i64, .int .i64, .int .i64, .int .i64, .int .i64], 0⟩),
  (63, ⟨false, [.nilFunc], [], none, [.any], 0⟩),
  (64, ⟨true, [.int .i64 0, .int .i64 0, .string ⟨#[]⟩, .int .i64 0], [(0, 1), (1, 1), (2, 1), (3, 1)], none, [.int .i64, .int .i64, .str, .int .i64], 0⟩),
  (65, ⟨true, [.int .i64 0, .int .i64 0, .string ⟨#[]⟩, .int .i64 0], [(0, 1), (1, 1), (2, 1), (3, 1)], none, [.int .i64, .int .i64, .str, .int .i64], 0⟩),
  (66, ⟨false, [.nilFunc], [], none, [.any], 0⟩),
  (68, ⟨false, [.nilFunc], [], none, [.any], 0⟩),
  (69, ⟨false, [.nilFunc], [], none, [.any], 0⟩),
  (70, ⟨false, [.nilFunc], [], none, [.any], 0⟩),
  (71, ⟨true, [.int .i64 0, .int .i64 0, .int .i64 0, .string ⟨#[]⟩], [(0, 1), (1, 1), (2, 1), (3, 1)], none, [.int .i64, .int .i64, .int .i64, .str], 0⟩),
  (72, ⟨true, [.int .i64 0, .int .i64 0, .int .i64 0, .string ⟨#[]⟩], [(0, 1), (1, 1), (2, 1), (3, 1)], none, [.int .i64, .int .i64, .int .i64, .str], 0⟩),
  (73, ⟨false, [.nilFunc], [], none, [.any], 0⟩),
  (74, ⟨false, [.nilFunc], [], none, [.any], 0⟩),
  (75, ⟨false, [.nilFunc], [], none, [.any], 0⟩),
  (77, ⟨false, [.nilFunc], [], none, [.any], 0⟩),
  (78, ⟨false, [.nilFunc], [], none, [.any], 0⟩),
  (79, ⟨false, [.nilFunc], [], none, [.any], 0⟩),
  (80, ⟨false, [.nilFunc], [], none, [.any], 0⟩),
  (81, ⟨false, [.nilFunc], [], none, [.any], 0⟩),
  (83, ⟨false, [.nilFunc], [], none, [.any], 0⟩),
  (84, ⟨false, [.nilFunc], [], none, [.any], 0⟩),
  (85, ⟨false, [.slice none 0 0], [], (some 9), [.slc], 0⟩),
  (87, ⟨false, [.nilFunc], [], none, [.any], 0⟩),
  (88, ⟨false, [.nilFunc], [], none, [.any], 0⟩),
  (89, ⟨false, [.nilFunc], [], none, [.any], 0⟩),
  (90, ⟨false, [.nilFunc], [], none, [.any], 0⟩),
  (91, ⟨false, [.pointer none], [], none, [.ptr], 0⟩),
  (92, ⟨true, [.slice none 0 0, .int .i64 0, .int .i64 0], [(0, 1), (1, 1), (2, 1)], none, [.slc, .int .i64, .int .i64], 0⟩),
  (93, ⟨true, [.slice none 0 0, .int .i64 0, .int .i64 0], [(0, 1), (1, 1), (2, 1)], none, [.slc, .int .i64, .int .i64], 0⟩),
  (94, ⟨false, [.nilFunc], [], none, [.any], 0⟩),
  (95, ⟨false, [.nilFunc], [], none, [.any], 0⟩),
  (96, ⟨false, [.nilFunc], [], none, [.any], 0⟩),
  (97, ⟨true, [], [], none, [], 0⟩),
  (98, ⟨true, [], [], none, [], 0⟩),
  (99, ⟨false, [.pointer none], [], none, [.ptr], 0⟩),
  (100, ⟨false, [.map none], [], none, [.map], 0⟩),
  (101, ⟨false, [.map none], [], none, [.map], 0⟩),
  (102, ⟨true, [.slice none 0 0, .map none, .map none, .int .i64 0], [(0, 1), (1, 1), (2, 1), (3, 1)], none, [.slc, .map, .map, .int .i64], 0⟩),
  (103, ⟨true, [.slice none 0 0, .map none, .map none, .int .i64 0], [(0, 1), (1, 1), (2, 1), (3, 1)], none, [.slc, .map, .map, .int .i64], 0⟩),
  (104, ⟨false, [.nilFunc], [], none, [.any], 0⟩),
  (105, ⟨false, [.nilFunc], [], none, [.any], 0⟩),
  (106, ⟨false, [.nilFunc], [], none, [.any], 0⟩),
  (107, ⟨false, [.nilFunc], [], none, [.any], 0⟩),
  (108, ⟨false, [.nilFunc], [], none, [.any], 0⟩),
  (109, ⟨false, [.nilFunc], [], none, [.any], 0⟩),
  (111, ⟨false, [.nilFunc], [], none, [.any], 0⟩),
  (112, ⟨false, [.nilFunc], [], none, [.any], 0⟩),
  (113, ⟨false, [.nilFunc], [], none, [.any], 0⟩),
  (114, ⟨false, [.nilFunc], [], none, [.any], 0⟩),
  (115, ⟨false, [.nilFunc], [], none, [.any], 0⟩),
  (116, ⟨false, [.nilFunc], [], none, [.any], 0⟩),
  (117, ⟨false, [.nilIface], [], none, [.any], 4⟩),
  (118, ⟨false, [.nilIface], [], none, [.any], 4⟩),
  (119, ⟨false, [.nilFunc], [], none, [.any], 0⟩),
  (120, ⟨true, [.int .i64 0, .int .i64 0, .int .i64 0, .nilFunc], [(0, 1), (1, 1), (2, 1), (3, 1)], none, [.int .i64, .int .i64, .int .i64, .any], 0⟩),
  (121, ⟨true, [.int .i64 0, .int .i64 0, .int .i64 0, .nilFunc], [(0, 1), (1, 1), (2, 1), (3, 1)], none, [.int .i64, .int .i64, .int .i64, .any], 0⟩),
  (122, ⟨false, [.nilFunc], [], none, [.any], 0⟩),
  (123, ⟨true, [.int .i64 0, .nilFunc], [(0, 1), (1, 1)], none, [.int .i64, .any], 0⟩),
  (124, ⟨true, [.int .i64 0, .nilFunc], [(0, 1), (1, 1)], none, [.int .i64, .any], 0⟩),
  (125, ⟨false, [.nilFunc], [], none, [.any], 0⟩),
  (126, ⟨false, [.nilFunc], [], none, [.any], 0⟩),
  (127, ⟨false, [.nilFunc], [], none, [.any], 0⟩),
  (128, ⟨false, [.nilFunc], [], none, [.any], 0⟩),
  (129, ⟨false, [.nilFunc], [], none, [.any], 0⟩),
  (130, ⟨false, [.pointer none], [], none, [.ptr], 0⟩),
  (131, ⟨false, [.slice none 0 0], [], (some 5), [.slc], 0⟩),
  (132, ⟨true, [.slice none 0 0, .int .i64 0, .int .i64 0, .bool false], [(0, 1), (1, 1), (2, 1), (3, 1)], none, [.slc, .int .i64, .int .i64, .bool], 0⟩),
  (133, ⟨true, [.slice none 0 0, .int .i64 0, .int .i64 0, .bool false], [(0, 1), (1, 1), (2, 1), (3, 1)], none, [.slc, .int .i64, .int .i64, .bool], 0⟩),
  (134, ⟨false, [.nilFunc], [], none, [.any], 0⟩),
  (135, ⟨false, [.nilFunc], [], none, [.any], 0⟩),
  (136, ⟨false, [.nilFunc], [], none, [.any], 0⟩),
  (137, ⟨false, [.nilFunc], [], none, [.any], 0⟩),
  (138, ⟨false, [.nilFunc], [], none, [.any], 0⟩),
  (139, ⟨false, [.nilFunc], [], none, [.any], 0⟩),
  (141, ⟨false, [.nilFunc], [], none, [.any], 0⟩),
  (142, ⟨false, [.nilFunc], [], none, [.any], 0⟩),
  (143, ⟨true, [.int .u8 0, .int .u8 0, .int .u8 0, .int .u8 0, .int .u8 0, .int .u8 0, .int .u8 0, .int .u8 0, .int .u8 0, .int .u8 0, .int .u8 0, .int .u8 0, .int .u8 0, .int .u8 0, .int .u8 0, .int .u8 0, .int .u8 0, .int .u8 0, .int .u8 0, .int .u8 0, .int .u8 0, .int .u8 0, .int .u8 0, .int .u8 0], [(0, 1), (1, 1), (2, 1), (3, 1), (4, 1), (5, 1), (6, 1), (7, 1), (8, 1), (9, 1), (10, 1), (11, 1), (12, 1), (13, 1), (14, 1), (15, 1), (16, 1), (17, 1), (18, 1), (19, 1), (20, 1), (21, 1), (22, 1), (23, 1)], none, [.int .u8, .int .u8, .int .u8, .int .u8, .int .u8, .int .u8, .int .u8, .int .u8, .int .u8, .int .u8, .int .u8, .int .u8, .int .u8, .int .u8, .int .u8, .int .u8, .int .u8, .int .u8, .int .u8, .int .u8, .int .u8, .int .u8, .int .u8, .int .u8], 5⟩),
  (144, ⟨false, [.int .u64 0], [], none, [.int .u64], 17⟩),
  (145, ⟨false, [.nilFunc], [], none, [.any], 0⟩),
  (146, ⟨false, [.nilFunc], [], none, [.any], 0⟩),
  (148, ⟨false, [.nilFunc], [], none, [.any], 0⟩),
  (149, ⟨false, [.nilFunc], [], none, [.any], 0⟩),
  (150, ⟨false, [.nilFunc], [], none, [.any], 0⟩),
  (151, ⟨true, [.int .u64 0, .int .u64 0, .int .u64 0, .int .u64 0, .int .u64 0, .int .u64 0, .int .u64 0, .int .u64 0, .int .u64 0, .int .u64 0, .int .u64 0, .int .u64 0, .int .u64 0, .int .u64 0, .int .u64 0, .int .u64 0, .int .u64 0, .int .u64 0, .int .u64 0, .int .u64 0], [(0, 1), (1, 1), (2, 1), (3, 1), (4, 1), (5, 1), (6, 1), (7, 1), (8, 1), (9, 1), (10, 1), (11, 1), (12, 1), (13, 1), (14, 1), (15, 1), (16, 1), (17, 1), (18, 1), (19, 1)], none, [.int .u64, .int .u64, .int .u64, .int .u64, .int .u64, .int .u64, .int .u64, .int .u64, .int .u64, .int .u64, .int .u64, .int .u64, .int .u64, .int .u64, .int .u64, .int .u64, .int .u64, .int .u64, .int .u64, .int .u64], 5⟩),
  (152, ⟨false, [.int .u32 0], [], none, [.int .u32], 16⟩),
  (153, ⟨true, [.int .u8 0, .int .u8 0, .int .u8 0, .int .u8 0, .int .u8 0, .int .u8 0, .int .u8 0, .int .u8 0, .int .u8 0, .int .u8 0, .int .u8 0, .int .u8 0, .int .u8 0, .int .u8 0, .int .u8 0, .int .u8 0, .int .u8 0, .int .u8 0, .int .u8 0, .int .u8 0, .int .u8 0, .int .u8 0, .int .u8 0, .int .u8 0, .int .u8 0, .int .u8 0, .int .u8 0, .int .u8 0, .int .u8 0, .int .u8 0, .int .u8 0, .int .u8 0, .int .u8 0, .int .u8 0, .int .u8 0, .int .u8 0, .int .u8 0, .int .u8 0, .int .u8 0, .int .u8 0, .int .u8 0, .int .u8 0, .int .u8 0, .int .u8 0, .int .u8 0, .int .u8 0, .int .u8 0, .int .u8 0, .int .u8 0, .int .u8 0, .int .u8 0, .int .u8 0, .int .u8 0, .int .u8 0, .int .u8 0, .int .u8 0, .int .u8 0, .int .u8 0, .int .u8 0, .int .u8 0, .int .u8 0, .int .u8 0, .int .u8 0, .int .u8 0, .int .u8 0], [], none, [.int .u8, .int .u8, .int .u8, .int .u8, .int .u8, .int .u8, .int .u8, .int .u8, .int .u8, .int .u8, .int .u8, .int .u8, .int .u8, .int .u8, .int .u8, .int .u8, .int .u8, .int .u8, .int .u8, .int .u8, .int .u8, .int .u8, .int .u8, .int .u8, .int .u8, .int .u8, .int .u8, .int .u8, .int .u8, .int .u8, .int .u8, .int .u8, .int .u8, .int .u8, .int .u8, .int .u8, .int .u8, .int .u8, .int .u8, .int .u8, .int .u8, .int .u8, .int .u8, .int .u8, .int .u8, .int .u8, .int .u8, .int .u8, .int .u8, .int .u8, .int .u8, .int .u8, .int .u8, .int .u8, .int .u8, .int .u8, .int .u8, .int .u8, .int .u8, .int .u8, .int .u8, .int .u8, .int .u8, .int .u8, .int .u8], 5⟩),
  (154, ⟨false, [.int .u64 0], [], none, [.int .u64], 17⟩),
  (155, ⟨false, [.nilFunc], [], none, [.any], 0⟩),
  (156, ⟨false, [.nilFunc], [], none, [.any], 0⟩),
  (157, ⟨false, [.nilFunc], [], none, [.any], 0⟩),
  (158, ⟨false, [.nilFunc], [], none, [.any], 0⟩),
  (159, ⟨false, [.nilFunc], [], none, [.any], 0⟩),
  (160, ⟨false, [.nilFunc], [], none, [.any], 0⟩),
  (161, ⟨true, [.int .u8 0, .int .u8 0, .int .u8 0, .int .u8 0, .int .u8 0, .int .u8 0, .int .u8 0, .int .u8 0, .int .u8 0, .int .u8 0, .int .u8 0, .int .u8 0, .int .u8 0, .int .u8 0, .int .u8 0, .int .u8 0, .int .u8 0, .int .u8 0, .int .u8 0, .int .u8 0, .int .u8 0, .int .u8 0, .int .u8 0, .int .u8 0, .int .u8 0, .int .u8 0, .int .u8 0, .int .u8 0, .int .u8 0, .int .u8 0, .int .u8 0, .int .u8 0], [(0, 1), (1, 1), (2, 1), (3, 1), (4, 1), (5, 1), (6, 1), (7, 1), (8, 1), (9, 1), (10, 1), (11, 1), (12, 1), (13, 1), (14, 1), (15, 1), (16, 1), (17, 1), (18, 1), (19, 1), (20, 1), (21, 1), (22, 1), (23, 1), (24, 1), (25, 1), (26, 1), (27, 1), (28, 1), (29, 1), (30, 1), (31, 1)], none, [.int .u8, .int .u8, .int .u8, .int .u8, .int .u8, .int .u8, .int .u8, .int .u8, .int .u8, .int .u8, .int .u8, .int .u8, .int .u8, .int .u8, .int .u8, .int .u8, .int .u8, .int .u8, .int .u8, .int .u8, .int .u8, .int .u8, .int .u8, .int .u8, .int .u8, .int .u8, .int .u8, .int .u8, .int .u8, .int .u8, .int .u8, .int .u8], 5⟩),
  (162, ⟨true, [.int .u8 0, .int .u8 0, .int .u8 0, .int .u8 0, .int .u8 0, .int .u8 0, .int .u8 0, .int .u8 0, .int .u8 0, .int .u8 0, .int .u8 0, .int .u8 0, .int .u8 0, .int .u8 0, .int .u8 0, .int .u8 0, .int .u8 0, .int .u8 0, .int .u8 0, .int .u8 0, .int .u8 0, .int .u8 0, .int .u8 0, .int .u8 0, .int .u8 0, .int .u8 0, .int .u8 0, .int .u8 0, .int .u8 0, .int .u8 0, .int .u8 0, .int .u8 0, .int .u8 0, .int .u8 0, .int .u8 0, .int .u8 0, .int .u8 0, .int .u8 0, .int .u8 0, .int .u8 0, .int .u8 0, .int .u8 0, .int .u8 0, .int .u8 0, .int .u8 0, .int .u8 0, .int .u8 0, .int .u8 0, .int .u8 0, .int .u8 0, .int .u8 0, .int .u8 0, .int .u8 0, .int .u8 0, .int .u8 0, .int .u8 0, .int .u8 0, .int .u8 0, .int .u8 0, .int .u8 0, .int .u8 0, .int .u8 0, .int .u8 0, .int .u8 0], [(0, 1), (1, 1), (2, 1), (3, 1), (4, 1), (5, 1), (6, 1), (7, 1), (8, 1), (9, 1), (10, 1), (11, 1), (12, 1), (13, 1), (14, 1), (15, 1), (16, 1), (17, 1), (18, 1), (19, 1), (20, 1), (21, 1), (22, 1), (23, 1), (24, 1), (25, 1), (26, 1), (27, 1), (28, 1), (29, 1), (30, 1), (31, 1), (32, 1), (33, 1), (34, 1), (35, 1), (36, 1), (37, 1), (38, 1), (39, 1), (40, 1), (41, 1), (42, 1), (43, 1), (44, 1), (45, 1), (46, 1), (47, 1), (48, 1), (49, 1), (50, 1), (51, 1), (52, 1), (53, 1), (54, 1), (55, 1), (56, 1), (57, 1), (58, 1), (59, 1), (60, 1), (61, 1), (62, 1), (63, 1)], none, [.int .u8, .int .u8, .int .u8, .int .u8, .int .u8, .int .u8, .int .u8, .int .u8, .int .u8, .int .u8, .int .u8, .int .u8, .int .u8, .int .u8, .int .u8, .int .u8, .int .u8, .int .u8, .int .u8, .int .u8, .int .u8, .int .u8, .int .u8, .int .u8, .int .u8, .int .u8, .int .u8, .int .u8, .int .u8, .int .u8, .int .u8, .int .u8, .int .u8, .int .u8, .int .u8, .int .u8, .int .u8, .int .u8, .int .u8, .int .u8, .int .u8, .int .u8, .int .u8, .int .u8, .int .u8, .int .u8, .int .u8, .int .u8, .int .u8, .int .u8, .int .u8, .int .u8, .int .u8, .int .u8, .int .u8, .int .u8, .int .u8, .int .u8, .int .u8, .int .u8, .int .u8, .int .u8, .int .u8, .int .u8], 5⟩),
  (163, ⟨false, [.nilFunc], [], none, [.any], 0⟩),
  (164, ⟨false, [.nilFunc], [], none, [.any], 0⟩),
  (165, ⟨false, [.nilFunc], [], none, [.any], 0⟩),
  (166, ⟨false, [.nilFunc], [], none, [.any], 0⟩),
  (167, ⟨true, [.pointer none, .pointer none, .pointer none, .string ⟨#[]⟩], [(0, 1), (1, 1), (2, 1), (3, 1)], none, [.ptr, .ptr, .ptr, .str], 0⟩),
  (168, ⟨true, [.pointer none, .pointer none, .pointer none, .string ⟨#[]⟩], [(0, 1), (1, 1), (2, 1), (3, 1)], none, [.ptr, .ptr, .ptr, .str], 0⟩),
  (169, ⟨true, [], [], none, [], 5⟩),
  (170, ⟨true, [], [(0, 0)], none, [], 0⟩),
  (171, ⟨true, [], [(0, 0)], none, [], 0⟩),
  (172, ⟨false, [.nilFunc], [], none, [.any], 0⟩),
  (173, ⟨false, [.int .u8 0], [], none, [.int .u8], 14⟩),
  (174, ⟨false, [.int .u8 0], [], none, [.int .u8], 14⟩),
  (175, ⟨false, [.nilFunc], [], none, [.any], 0⟩),
  (176, ⟨false, [.pointer none], [], none, [.ptr], 0⟩),
  (177, ⟨false, [.int .i32 0], [], none, [.int .i32], 12⟩),
  (178, ⟨false, [.int .i32 0], [], none, [.int .i32], 12⟩),
  (179, ⟨true, [.int .u64 0, .int .u64 0, .int .u32 0, .int .u8 0, .int .u8 0, .int .u8 0, .int .u8 0, .nilFunc, .pointer none, .int .i32 0, .int .i32 0], [(0, 1), (1, 1), (2, 1), (3, 1), (4, 1), (5, 1), (6, 1), (7, 1), (8, 1), (9, 1), (10, 1)], none, [.int .u64, .int .u64, .int .u32, .int .u8, .int .u8, .int .u8, .int .u8, .any, .ptr, .int .i32, .int .i32], 0⟩),
  (180, ⟨true, [.int .u64 0, .int .u64 0, .int .u32 0, .int .u8 0, .int .u8 0, .int .u8 0, .int .u8 0, .nilFunc, .pointer none, .int .i32 0, .int .i32 0], [(0, 1), (1, 1), (2, 1), (3, 1), (4, 1), (5, 1), (6, 1), (7, 1), (8, 1), (9, 1), (10, 1)], none, [.int .u64, .int .u64, .int .u32, .int .u8, .int .u8, .int .u8, .int .u8, .any, .ptr, .int .i32, .int .i32], 0⟩),
  (181, ⟨false, [.pointer none], [], none, [.ptr], 0⟩)]
def T : Nat → Option TyI := lookT tab
def tups : List (Nat × List Nat) := [(32, [27, 31]), (35, [22, 34]), (45, [44, 31, 3]), (58, [57, 31, 3]), (67, [3, 31, 3]), (76, [3, 4]), (82, [65, 3, 31]), (86, [85, 25]), (110, [9, 31]), (140, [24, 4]), (147, [131, 9])]
def U (t : Nat) : List Nat := ((tups.find? fun p => p.1 == t).map (·.2)).getD []
def fs : List Nat := [2, 3, 4, 5, 6, 7, 8, 9, 10, 11, 12, 13, 14, 15, 16, 17, 18, 19, 20, 21, 22, 23, 24, 25, 26, 27, 28, 29, 30, 31, 32, 33, 34, 35, 36, 37, 38, 39, 40, 41, 42, 43, 44, 45, 46, 47, 48, 49, 50, 51, 52, 53, 54, 55, 56, 57, 58, 59, 60, 61, 62, 63, 64, 65, 66, 67, 68, 69, 70, 71, 72, 73, 74, 75, 76, 77, 78, 79, 80, 81, 82, 83, 84, 85, 86, 87, 88, 89, 90, 91, 92, 93, 94, 95, 96, 97, 98, 99, 100, 101, 102, 103, 104, 105, 106, 107, 108, 109, 110, 111, 112, 113, 114, 115, 116, 117, 118, 119, 120, 121, 122, 123, 124, 125, 126, 127, 128, 129, 130, 131, 132, 133, 134, 135, 136, 137, 138, 139, 140, 141, 142, 143, 144, 145, 146, 147, 148, 150, 151, 174]
def F (f : Nat) : Bool := fs.contains f
theorem tab_ok : tysOf Tryz.prog tab = tysIn tab := by kernel_rfl
theorem fun_ok : entersAll Tryz.prog fs = true := by kernel_rfl
noncomputable def E : Env := ⟨Tryz.prog, T, U, F⟩
theorem mix_ok : Tryz.prog.follows .mixedOrders = true := by kernel_rfl
theorem F_ok (f : Nat) (h : F f = true) : f ∈ fs := by
  unfold F at h
  exact contains_use h
theorem E_ok : E.Ok := Env.ok_of (tab := tab) (fs := fs) (F := F) (U := U) tab_ok mix_ok fun_ok F_ok
end Go.Vx.Tryz
namespace Go.Vx
open Go
section
abbrev w64 (x : Int) : Int := IntKind.wrap .i64 x
theorem bls0 {w : World} : Bls [] w := fun _ h => nomatch h
theorem nod0 : (([] : List Blk).map Blk.id).Nodup := .nil
theorem bls1 {w : World} {b : Blk} (h : b.at w) : Bls [b] w := fun c hc => by cases List.mem_singleton.1 hc; exact h
theorem nod1 {b : Blk} : ([b].map Blk.id).Nodup := by simp
def plainB (bl : List Blk) : Bool := bl.all fun b => b.cs.all fun e => (match e.sh with | .no => true | _ => false) && e.st == 0
theorem plain_of {bl : List Blk} (h : plainB bl = true) : Plain bl := by
  intro b hb e he
  have h1 := List.all_eq_true.1 (List.all_eq_true.1 h b hb) e he
  simp only [Bool.and_eq_true, beq_iff_eq] at h1
  refine ⟨?_, h1.2⟩
  cases hs : e.sh <;> simp_all
def shsP (bl : List Blk) : List (Value × Sh) → Prop
  | [] => True
  | p :: r => (match p.2 with
    | .no => True
    | .ptr k off => (match bl[k]? with | some b => p.1 = .pointer (some ⟨b.id, off, none⟩) | none => False)
    | .row _ => False
    | .lb _ => False
    | .clo _ => False) ∧ shsP bl r
theorem shs_of {bl : List Blk} : ∀ {args : List (Value × Sh)}, shsP bl args → ∀ p ∈ args, ShOk (bl.map Blk.id) ⟨p.1, p.2, 0⟩
  | q :: r, h, p, hp => by
    rcases List.mem_cons.1 hp with rfl | hp
    · have h1 := h.1
      unfold ShOk
      cases hs : p.2 with
      | no => trivial
      | ptr k off =>
        rw [hs] at h1
        simp only at h1 ⊢
        split at h1
        · rename_i b hb
          exact ⟨b.id, by simp [hb], h1⟩
        · exact h1.elim
      | row k => rw [hs] at h1; exact h1.elim
      | lb b => rw [hs] at h1; exact h1.elim
      | clo l => rw [hs] at h1; exact h1.elim
    · exact shs_of h.2 p hp
abbrev PX (X' X : ContX) : Prop := ∀ ch w, X' ch w → X ch w
end
end Go.Vx
namespace Go.Vx.Tryz
open Go Go.Vx Go.Proofs
theorem bls2 {w : World} {b c : Blk} (h : b.at w) (k : c.at w) : Bls [b, c] w := fun d hd => by
  simp only [List.mem_cons, List.not_mem_nil, or_false] at hd
  rcases hd with rfl | rfl <;> assumption
theorem bls3 {w : World} {b c e : Blk} (h : b.at w) (k : c.at w) (l : e.at w) : Bls [b, c, e] w := fun d hd => by
  simp only [List.mem_cons, List.not_mem_nil, or_false] at hd
  rcases hd with rfl | rfl | rfl <;> assumption
def ndB : List Nat → Bool
  | [] => true
  | a :: l => !l.contains a && ndB l
theorem nod_ty {w : World} : ∀ {bl : List Blk}, Bls bl w → ndB (bl.map Blk.ty) = true → (bl.map Blk.id).Nodup
  | [], _, _ => .nil
  | b :: bl, h, ht => by
    rw [List.map_cons, ndB, Bool.and_eq_true, Bool.not_eq_true', List.contains_eq_mem, decide_eq_false_iff_not] at ht
    rw [List.map_cons, List.nodup_cons]
    refine ⟨fun hm => ?_, nod_ty (fun c hc => h c (List.mem_cons_of_mem _ hc)) ht.2⟩
    obtain ⟨c, hc, he⟩ := List.mem_map.1 hm
    have h1 := h b List.mem_cons_self
    have h2 := h c (List.mem_cons_of_mem _ hc)
    unfold Blk.at at h1 h2
    rw [he, h1] at h2
    simp only [Option.some.injEq, Obj.cells.injEq] at h2
    exact ht.1 (List.mem_map.2 ⟨c, hc, h2.2.1.symm⟩)
abbrev Av (a b : Int) (s : ByteArray) (A : Option Addr) (l c : Nat) : Value := .agg #[.int .i64 a, .int .i64 b, .string s, .slice A l c]
abbrev Ae (a b : Int) (s : ByteArray) (A : Option Addr) (l c : Nat) (t : Int) : Value := .agg #[.int .i64 a, .int .i64 b, .string s, .slice A l c, .int .i64 t]
abbrev Ap (a b : Int) (s : ByteArray) (A : Option Addr) (l c : Nat) (B : Option Addr) (m d : Nat) : Value := .agg #[.int .i64 a, .int .i64 b, .string s, .slice A l c, .slice B m d]
abbrev dB (c : Bool) (P Q : Prop) : Prop := (c = true → P) ∧ (c = false → Q)
abbrev nB (w : World) (K : Nat → Prop) : Prop := ∀ id, w.heap.size ≤ id → K id
abbrev fL (w : World) (l : List Nat) (K : World → Prop) : Prop := ∀ w1, Upd w w1 (setOf l) → K w1
abbrev hA (w : World) (b : Nat) (cs : Array Value) (ty : Nat) : Prop := w.heap[b]? = some (.cells cs ty (0, 0))
abbrev iX (j : Int) (n : Nat) (A : Option Addr) (K : Addr → Prop) : Prop := (0 ≤ j ∧ j < (↑n : Int)) ∧ ∃ ad, A = some ad ∧ K ad
abbrev lA (w : World) (p : Addr) (K : Int → Int → ByteArray → Option Addr → Nat → Nat → Prop) : Prop := ∃ x x1, ∃ x2 a, ∃ n c, CellsIn w p [.int .i64 x, .int .i64 x1, .string x2, .slice a n c] ∧ K x x1 x2 a n c
abbrev lE (w : World) (p : Addr) (K : Int → Int → ByteArray → Option Addr → Nat → Nat → Int → Prop) : Prop := ∃ x x1, ∃ x2 a, ∃ n c, ∃ x3, CellsIn w p [.int .i64 x, .int .i64 x1, .string x2, .slice a n c, .int .i64 x3] ∧ K x x1 x2 a n c x3
abbrev lI (w : World) (p : Addr) (K : Int → Prop) : Prop := ∃ x, CellsIn w p [.int .i64 x] ∧ K x
abbrev lT (w : World) (p : Addr) (K : ByteArray → Prop) : Prop := ∃ x, CellsIn w p [.string x] ∧ K x
section
variable (f : Nat) (args : Array Value) (w : World) (ids : List Nat) (X : ContX)
abbrev cI (K : Int → World → Prop) : Prop := ∃ R X', CallsX E.P f args w R X' ∧ (∀ v w2, R v w2 → ∃ x, v = .int .i64 x ∧ ∃ S, Upd w w2 S ∧ Away ids S ∧ K x w2) ∧ PX X' X
abbrev cB (K : Bool → World → Prop) : Prop := ∃ R X', CallsX E.P f args w R X' ∧ (∀ v w2, R v w2 → ∃ x, v = .bool x ∧ ∃ S, Upd w w2 S ∧ Away ids S ∧ K x w2) ∧ PX X' X
abbrev cT (K : ByteArray → World → Prop) : Prop := ∃ R X', CallsX E.P f args w R X' ∧ (∀ v w2, R v w2 → ∃ x, v = .string x ∧ ∃ S, Upd w w2 S ∧ Away ids S ∧ K x w2) ∧ PX X' X
abbrev cU (K : Value → World → Prop) : Prop := ∃ R X', CallsX E.P f args w R X' ∧ (∀ v w2, R v w2 → ∃ x : Value, v = x ∧ ∃ S, Upd w w2 S ∧ Away ids S ∧ K x w2) ∧ PX X' X
abbrev cS (K : Option Addr → Nat → Nat → World → Prop) : Prop := ∃ R X', CallsX E.P f args w R X' ∧ (∀ v w2, R v w2 → ∃ a n c, v = .slice a n c ∧ ∃ S, Upd w w2 S ∧ Away ids S ∧ K a n c w2) ∧ PX X' X
abbrev cA (K : Int → Int → ByteArray → Option Addr → Nat → Nat → World → Prop) : Prop := ∃ R X', CallsX E.P f args w R X' ∧
  (∀ v w2, R v w2 → ∃ x x1, ∃ x2 a, ∃ n c, v = .agg #[.int .i64 x, .int .i64 x1, .string x2, .slice a n c] ∧ ∃ S, Upd w w2 S ∧ Away ids S ∧ K x x1 x2 a n c w2) ∧ PX X' X
abbrev cE (K : Int → Int → ByteArray → Option Addr → Nat → Nat → Int → World → Prop) : Prop := ∃ R X', CallsX E.P f args w R X' ∧
  (∀ v w2, R v w2 → ∃ x x1, ∃ x2 a, ∃ n c x3, v = .agg #[.int .i64 x, .int .i64 x1, .string x2, .slice a n c, .int .i64 x3] ∧ ∃ S, Upd w w2 S ∧ Away ids S ∧ K x x1 x2 a n c x3 w2) ∧ PX X' X
abbrev cQ (K : Int → Int → ByteArray → Option Addr → Nat → Nat → Option Addr → Nat → Nat → Int → World → Prop) : Prop := ∃ R X', CallsX E.P f args w R X' ∧
  (∀ v w2, R v w2 → ∃ x x1, ∃ x2 a, ∃ n c, ∃ b m, ∃ d e, v = .tuple #[.agg #[.int .i64 x, .int .i64 x1, .string x2, .slice a n c, .slice b m d], .int .i64 e] ∧ ∃ S, Upd w w2 S ∧ Away ids S ∧ K x x1 x2 a n c b m d e w2) ∧ PX X' X
end
end Go.Vx.Tryz
namespace Go.Vx.Tryz
open Go Go.Vx Go.Proofs
set_option maxRecDepth 100000
variable {w : World} {R : Value → World → Prop} {X : ContX}
theorem vc42 {a0 a1 : Int} {a2 : ByteArray} {a3 : Option Addr} {a3l a3c : Nat} {b : Int}  (h : 
 nB w fun id => ∃ (I : Int → World → Prop), dB (a0 == 5) (dB (decide (a1 < b)) (fL w [] fun w1 => id < w1.heap.size → I (w64 (a1 + 1)) w1) (fL w [] fun w11 => id < w11.heap.size → I 0 w11)) (fL w [] fun w12 => id < w12.heap.size → I 0 w12) ∧ ∀ (jk : Nat → Value) (x : Int) (w2 : World), I x w2 → ∃ (I1 : Int → Int → World → Prop), ∃ (m : Int → Int → Nat), I1 x 0 w2 ∧ ∀ (jk1 : Nat → Value) (x1 x2 : Int) (w21 : World), I1 x1 x2 w21 → dB (decide (x2 < (↑a3l : Int))) (iX x2 a3l a3 fun ad => lA w21 (Addr.add ad (Int.toNat x2 * 4)) fun x3 x4 x5 a n c => cI 22 #[Av x3 x4 x5 a n c, .int .i64 b] w21 [id] X fun x6 w22 => I1 (if x6 > x1 then x6 else x1) (w64 (x2 + 1)) w22 ∧ m (if x6 > x1 then x6 else x1) (w64 (x2 + 1)) < m x1 x2) (R (.int .i64 x1) w21)
 ) : CallsX E.P 22 #[Av a0 a1 a2 a3 a3l a3c, .int .i64 b] w R X :=
  calls_vc E_ok ⟨[(5, ⟨[(5, .int .i64), (6, .int .i64)], []⟩)], [(4, ⟨[(5, .int .i64)], []⟩)]⟩ (f := 22) Tryz.func22 rfl [(Av a0 a1 a2 a3 a3l a3c, .no), (.int .i64 b, .no)] [] (bls0) nod0 (plain_of rfl) (shs_of ⟨trivial, trivial, trivial⟩) h (by kernel_rfl)
theorem vc44 {a0 a1 : Int} {a2 : ByteArray} {a3 : Option Addr} {a3l a3c : Nat} {b0 b1 : Int} {b2 : ByteArray} {b3 : Option Addr} {b3l b3c : Nat}  (h : 
 nB w fun id => nB w fun id1 => dB (a0 == b0) (dB (a1 == b1) (dB (strEq a2 b2) (fL w [] fun w1 => id < w1.heap.size → id1 < w1.heap.size → cB 41 #[.slice a3 a3l a3c, .slice b3 b3l b3c, Value.func (Fn.func 26) #[] #[]] w1 [id, id1] X fun x w2 => R (.bool x) w2) (fL w [] fun w11 => id < w11.heap.size → id1 < w11.heap.size → R (.bool false) w11)) (fL w [] fun w12 => id < w12.heap.size → id1 < w12.heap.size → R (.bool false) w12)) (fL w [] fun w13 => id < w13.heap.size → id1 < w13.heap.size → R (.bool false) w13)
 ) : CallsX E.P 26 #[Av a0 a1 a2 a3 a3l a3c, Av b0 b1 b2 b3 b3l b3c] w R X :=
  calls_vc E_ok ⟨[], []⟩ (f := 26) Tryz.func26 rfl [(Av a0 a1 a2 a3 a3l a3c, .no), (Av b0 b1 b2 b3 b3l b3c, .no)] [] (bls0) nod0 (plain_of rfl) (shs_of ⟨trivial, trivial, trivial⟩) h (by kernel_rfl)
theorem vc62 {a : Option Addr} {al ac : Nat} {b : Option Addr} {bl bc : Nat}   (h : 
 dB ((↑al : Int) != (↑bl : Int)) (R (.bool false) w) (∃ (I : Int → World → Prop), ∃ (m : Int → Nat), I 0 w ∧ ∀ (jk : Nat → Value) (x : Int) (w2 : World), I x w2 → dB (decide (x < (↑al : Int))) (iX x al a fun ad => lA w2 (Addr.add ad (Int.toNat x * 4)) fun x1 x2 x3 a1 n c => nB w2 fun id => iX x bl b fun ad1 => fL w2 [] fun w1 => id < w1.heap.size → lA w1 (Addr.add ad1 (Int.toNat x * 4)) fun x4 x5 x6 a2 n1 c1 => nB w1 fun id1 => fL w1 [] fun w11 => id1 < w11.heap.size → cB 26 #[Av x1 x2 x3 a1 n c, Av x4 x5 x6 a2 n1 c1] w11 [id, id1] X fun x7 w21 => dB (!x7) (R (.bool false) w21) (I (w64 (x + 1)) w21 ∧ m (w64 (x + 1)) < m x)) (R (.bool true) w2))
 ) : CallsX E.P 41 #[.slice a al ac, .slice b bl bc, .func (.func 26) #[] #[]] w R X :=
  calls_vc E_ok ⟨[(4, ⟨[(17, .int .i64)], []⟩)], []⟩ (f := 41) Tryz.func41 rfl [(.slice a al ac, .no), (.slice b bl bc, .no), (.func (.func 26) #[] #[], .no)] [] (bls0) nod0 (plain_of rfl) (shs_of ⟨trivial, trivial, trivial, trivial⟩) h (by kernel_rfl)
theorem vc126 {a0 a1 : Int} {a2 : ByteArray} {a3 : Option Addr} {a3l a3c : Nat}  (h : 
 nB w fun id => dB (a0 == 21) (fL w [] fun w1 => id < w1.heap.size → R (.bool true) w1) (fL w [] fun w11 => id < w11.heap.size → ∃ (I : Int → World → Prop), ∃ (m : Int → Nat), I 0 w11 ∧ ∀ (jk : Nat → Value) (x : Int) (w2 : World), I x w2 → dB (decide (x < (↑a3l : Int))) (iX x a3l a3 fun ad => lA w2 (Addr.add ad (Int.toNat x * 4)) fun x1 x2 x3 a n c => cB 23 #[Av x1 x2 x3 a n c] w2 [id] X fun x4 w21 => dB x4 (R (.bool true) w21) (I (w64 (x + 1)) w21 ∧ m (w64 (x + 1)) < m x)) (R (.bool false) w2))
 ) : CallsX E.P 23 #[Av a0 a1 a2 a3 a3l a3c] w R X :=
  calls_vc E_ok ⟨[(4, ⟨[(3, .int .i64)], []⟩)], []⟩ (f := 23) Tryz.func23 rfl [(Av a0 a1 a2 a3 a3l a3c, .no)] [] (bls0) nod0 (plain_of rfl) (shs_of ⟨trivial, trivial⟩) h (by kernel_rfl)
theorem vc150 {a0 a1 : Int} {a2 : ByteArray} {a3 : Option Addr} {a3l a3c : Nat} {b : Int}  (h : 
 nB w fun id => ∃ (I : Int → World → Prop), dB (a0 == 5) (dB (decide (a1 < b)) (fL w [] fun w1 => id < w1.heap.size → I (w64 (a1 + 1)) w1) (fL w [] fun w11 => id < w11.heap.size → I 0 w11)) (fL w [] fun w12 => id < w12.heap.size → I 0 w12) ∧ ∀ (jk : Nat → Value) (x : Int) (w2 : World), I x w2 → ∃ (I1 : Int → Int → World → Prop), ∃ (m : Int → Int → Nat), I1 x 0 w2 ∧ ∀ (jk1 : Nat → Value) (x1 x2 : Int) (w21 : World), I1 x1 x2 w21 → dB (decide (x2 < (↑a3l : Int))) (iX x2 a3l a3 fun ad => lA w21 (Addr.add ad (Int.toNat x2 * 4)) fun x3 x4 x5 a n c => nB w21 fun id1 => fL w21 [] fun w13 => id1 < w13.heap.size → cI 120 #[Av x3 x4 x5 a n c, .int .i64 b] w13 [id, id1] X fun x6 w22 => I1 (if x6 > x1 then x6 else x1) (w64 (x2 + 1)) w22 ∧ m (if x6 > x1 then x6 else x1) (w64 (x2 + 1)) < m x1 x2) (R (.int .i64 x1) w21)
 ) : CallsX E.P 120 #[Av a0 a1 a2 a3 a3l a3c, .int .i64 b] w R X :=
  calls_vc E_ok ⟨[(5, ⟨[(5, .int .i64), (23, .int .i64)], []⟩)], [(4, ⟨[(5, .int .i64)], []⟩)]⟩ (f := 120) Tryz.func120 rfl [(Av a0 a1 a2 a3 a3l a3c, .no), (.int .i64 b, .no)] [] (bls0) nod0 (plain_of rfl) (shs_of ⟨trivial, trivial, trivial⟩) h (by kernel_rfl)
theorem vc151 {a0 a1 : Int} {a2 : ByteArray} {a3 : Option Addr} {a3l a3c : Nat}  (h : 
 nB w fun id => dB (a0 == 21) (fL w [] fun w1 => id < w1.heap.size → R (.bool true) w1) (fL w [] fun w11 => id < w11.heap.size → cB 83 #[.slice a3 a3l a3c, Value.func (Fn.func 121) #[] #[]] w11 [id] X fun x w2 => R (.bool x) w2)
 ) : CallsX E.P 121 #[Av a0 a1 a2 a3 a3l a3c] w R X :=
  calls_vc E_ok ⟨[], []⟩ (f := 121) Tryz.func121 rfl [(Av a0 a1 a2 a3 a3l a3c, .no)] [] (bls0) nod0 (plain_of rfl) (shs_of ⟨trivial, trivial⟩) h (by kernel_rfl)
theorem vc157 {a : Option Addr} {al ac : Nat}   (h : 
 cI 107 #[.slice a al ac, Value.func (Fn.func 121) #[] #[]] w [] X fun x w2 => R (.bool (decide (x ≥ 0))) w2
 ) : CallsX E.P 83 #[.slice a al ac, .func (.func 121) #[] #[]] w R X :=
  calls_vc E_ok ⟨[], []⟩ (f := 83) Tryz.func83 rfl [(.slice a al ac, .no), (.func (.func 121) #[] #[], .no)] [] (bls0) nod0 (plain_of rfl) (shs_of ⟨trivial, trivial, trivial⟩) h (by kernel_rfl)
theorem vc160 {a : Option Addr} {al ac : Nat}   (h : 
 ∃ (I : Int → World → Prop), ∃ (m : Int → Nat), I 0 w ∧ ∀ (jk : Nat → Value) (x : Int) (w2 : World), I x w2 → dB (decide (x < (↑al : Int))) (iX x al a fun ad => lA w2 (Addr.add ad (Int.toNat x * 4)) fun x1 x2 x3 a1 n c => cB 121 #[Av x1 x2 x3 a1 n c] w2 [] X fun x4 w21 => dB x4 (R (.int .i64 x) w21) (I (w64 (x + 1)) w21 ∧ m (w64 (x + 1)) < m x)) (R (.int .i64 (-1)) w2)
 ) : CallsX E.P 107 #[.slice a al ac, .func (.func 121) #[] #[]] w R X :=
  calls_vc E_ok ⟨[(2, ⟨[(8, .int .i64)], []⟩)], []⟩ (f := 107) Tryz.func107 rfl [(.slice a al ac, .no), (.func (.func 121) #[] #[], .no)] [] (bls0) nod0 (plain_of rfl) (shs_of ⟨trivial, trivial, trivial⟩) h (by kernel_rfl)
theorem vc68 {a : Option Addr} {al ac : Nat}  (h : 
 ∃ a1 n c, Sem.run E.P (Instr.sliceAt 22 (.slice a al ac) none (some (.int .i64 (↑al : Int))) (some (.int .i64 (↑al : Int)))) w = Result.ok (.slice a1 n c) w ∧ R (.slice a1 n c) w
 ) : CallsX E.P 59 #[.slice a al ac] w R X :=
  calls_vc E_ok ⟨[], []⟩ (f := 59) Tryz.func59 rfl [(.slice a al ac, .no)] [] (bls0) nod0 (plain_of rfl) (shs_of ⟨trivial, trivial⟩) h (by kernel_rfl)
theorem vc32 {a : Option Addr} {al ac : Nat}  (h : 
 ∃ a1 n c, Sem.run E.P (Instr.sliceAt 25 (.slice a al ac) none (some (.int .i64 (↑al : Int))) (some (.int .i64 (↑al : Int)))) w = Result.ok (.slice a1 n c) w ∧ R (.slice a1 n c) w
 ) : CallsX E.P 21 #[.slice a al ac] w R X :=
  calls_vc E_ok ⟨[], []⟩ (f := 21) Tryz.func21 rfl [(.slice a al ac, .no)] [] (bls0) nod0 (plain_of rfl) (shs_of ⟨trivial, trivial⟩) h (by kernel_rfl)
theorem vc28 {a0 a1 : Int} {a2 : ByteArray} {a3 : Option Addr} {a3l a3c : Nat} {a4 : Option Addr} {a4l a4c : Nat}  (h : 
 nB w fun id => fL w [] fun w1 => id < w1.heap.size → cI 32 #[Ap a0 a1 a2 a3 a3l a3c a4 a4l a4c] w1 [id] X fun x w2 => R (.bool (x != 0)) w2
 ) : CallsX E.P 17 #[Ap a0 a1 a2 a3 a3l a3c a4 a4l a4c] w R X :=
  calls_vc E_ok ⟨[], []⟩ (f := 17) Tryz.func17 rfl [(Ap a0 a1 a2 a3 a3l a3c a4 a4l a4c, .no)] [] (bls0) nod0 (plain_of rfl) (shs_of ⟨trivial, trivial⟩) h (by kernel_rfl)
end Go.Vx.Tryz
namespace Go.Vx.Tryz
open Go Go.Vx Go.Proofs
set_option maxRecDepth 100000
variable {w : World} {R : Value → World → Prop} {X : ContX}
theorem vc8 {a0 a1 : Int} {a2 : ByteArray} {a3 : Option Addr} {a3l a3c : Nat} {a4 : Option Addr} {a4l a4c : Nat}  (h : 
 nB w fun id => dB (decide ((↑a4l : Int) > 20000)) (fL w [] fun w1 => id < w1.heap.size → R (.bool true) w1) (fL w [] fun w11 => id < w11.heap.size → cI 14 #[Av a0 a1 a2 a3 a3l a3c, .int .i64 20000] w11 [id] X fun x w2 => R (.bool (decide (x < 0))) w2)
 ) : CallsX E.P 5 #[Ap a0 a1 a2 a3 a3l a3c a4 a4l a4c] w R X :=
  calls_vc E_ok ⟨[], []⟩ (f := 5) Tryz.func5 rfl [(Ap a0 a1 a2 a3 a3l a3c a4 a4l a4c, .no)] [] (bls0) nod0 (plain_of rfl) (shs_of ⟨trivial, trivial⟩) h (by kernel_rfl)
theorem vc16 {a : ByteArray}  (h : 
 nB w fun id => fL w [] fun w1 => id < w1.heap.size → ∃ R1 X', CallsX E.P 27 #[.string a] w1 R1 X' ∧ (∀ v w2, R1 v w2 → ∃ a1 n, ∃ c x x1, v = .tuple #[.slice a1 n c, .int .i64 x, .int .i64 x1] ∧ ∃ S, Upd w1 w2 S ∧ Away [id] S ∧ dB (x != 0) (fL w2 [id] fun w11 => R (.tuple #[Ae 0 0 (ByteArray.mk #[]) none 0 0 0, .int .i64 x, .int .i64 x1]) w11) (nB w2 fun id1 => fL w2 [] fun w12 => id1 < w12.heap.size → hA w12 id1 #[.slice a1 n c, .int .i64 0, .int .i64 0, .int .i64 0, .int .i64 0, .int .i64 0] 62 → cE 28 #[.pointer (some ⟨id1, 0, none⟩), .int .i64 1] w12 [id] X fun x2 x3 x4 a2 n1 c1 x5 w21 => ∃ a3 n2, ∃ c2 x6, ∃ x7 x8, ∃ x9 x10, hA w21 id1 #[.slice a3 n2 c2, .int .i64 x6, .int .i64 x7, .int .i64 x8, .int .i64 x9, .int .i64 x10] 62 ∧ 6 = 6 ∧ nB w21 fun id2 => dB (x9 == 0) (iX x6 n2 a3 fun ad => fL w21 [] fun w13 => id2 < w13.heap.size → lI w13 (Addr.add (Addr.add ad (Int.toNat x6 * 4)) 0) fun x11 => dB (x11 != 0) (hA w13 id1 #[.slice a3 n2 c2, .int .i64 x6, .int .i64 x7, .int .i64 x8, .int .i64 x9, .int .i64 x10] 62 → cU 29 #[.pointer (some ⟨id1, 0, none⟩), .int .i64 120] w13 [id, id2] X fun v3 w22 => ∃ a4 n3, ∃ c3 x12, ∃ x13 x14, ∃ x15 x16, hA w22 id1 #[.slice a4 n3 c3, .int .i64 x12, .int .i64 x13, .int .i64 x14, .int .i64 x15, .int .i64 x16] 62 ∧ 6 = 6 ∧ dB (x15 != 0) (fL w22 [id] fun w14 => R (.tuple #[Ae 0 0 (ByteArray.mk #[]) none 0 0 0, .int .i64 x15, .int .i64 x16]) w14) (fL w22 [id] fun w15 => R (.tuple #[Ae x2 x3 x4 a2 n1 c1 x5, .int .i64 0, .int .i64 0]) w15)) (dB (x9 != 0) (fL w13 [id] fun w16 => R (.tuple #[Ae 0 0 (ByteArray.mk #[]) none 0 0 0, .int .i64 x9, .int .i64 x10]) w16) (fL w13 [id] fun w17 => R (.tuple #[Ae x2 x3 x4 a2 n1 c1 x5, .int .i64 0, .int .i64 0]) w17))) (dB (x9 != 0) (fL w21 [id] fun w18 => id2 < w18.heap.size → R (.tuple #[Ae 0 0 (ByteArray.mk #[]) none 0 0 0, .int .i64 x9, .int .i64 x10]) w18) (fL w21 [id] fun w19 => id2 < w19.heap.size → R (.tuple #[Ae x2 x3 x4 a2 n1 c1 x5, .int .i64 0, .int .i64 0]) w19)))) ∧ PX X' X
 ) : CallsX E.P 15 #[.string a] w R X :=
  calls_vc E_ok ⟨[], []⟩ (f := 15) Tryz.func15 rfl [(.string a, .no)] [] (bls0) nod0 (plain_of rfl) (shs_of ⟨trivial, trivial⟩) h (by kernel_rfl)
theorem vc18 {a0 a1 : Int} {a2 : ByteArray} {a3 : Option Addr} {a3l a3c : Nat}  (h : 
 nB w fun id => fL w [] fun w1 => id < w1.heap.size → ∃ (I : Int → Int → World → Prop), ∃ (m : Int → Int → Nat), I 1 0 w1 ∧ ∀ (jk : Nat → Value) (x x1 : Int) (w2 : World), I x x1 w2 → dB (decide (x1 < (↑a3l : Int))) (iX x1 a3l a3 fun ad => lA w2 (Addr.add ad (Int.toNat x1 * 4)) fun x2 x3 x4 a n c => cI 6 #[Av x2 x3 x4 a n c] w2 [id] X fun x5 w21 => I (w64 (x + x5)) (w64 (x1 + 1)) w21 ∧ m (w64 (x + x5)) (w64 (x1 + 1)) < m x x1) (R (.int .i64 x) w2)
 ) : CallsX E.P 6 #[Av a0 a1 a2 a3 a3l a3c] w R X :=
  calls_vc E_ok ⟨[(3, ⟨[(3, .int .i64), (4, .int .i64)], []⟩)], []⟩ (f := 6) Tryz.func6 rfl [(Av a0 a1 a2 a3 a3l a3c, .no)] [] (bls0) nod0 (plain_of rfl) (shs_of ⟨trivial, trivial⟩) h (by kernel_rfl)
theorem vc24 {a0 a1 : Int} {a2 : ByteArray} {a3 : Option Addr} {a3l a3c : Nat} {b : Int}  (h : 
 nB w fun id => fL w [] fun w1 => id < w1.heap.size → ∃ (I : Int → Int → World → Prop), ∃ (m : Int → Int → Nat), I (w64 (b - 1)) 0 w1 ∧ ∀ (jk : Nat → Value) (x x1 : Int) (w2 : World), I x x1 w2 → dB (decide (x1 < (↑a3l : Int))) (dB (decide (x ≥ 0)) (iX x1 a3l a3 fun ad => lA w2 (Addr.add ad (Int.toNat x1 * 4)) fun x2 x3 x4 a n c => cI 14 #[Av x2 x3 x4 a n c, .int .i64 x] w2 [id] X fun x5 w21 => I x5 (w64 (x1 + 1)) w21 ∧ m x5 (w64 (x1 + 1)) < m x x1) (R (.int .i64 x) w2)) (R (.int .i64 x) w2)
 ) : CallsX E.P 14 #[Av a0 a1 a2 a3 a3l a3c, .int .i64 b] w R X :=
  calls_vc E_ok ⟨[(3, ⟨[(1, .int .i64), (5, .int .i64)], []⟩)], []⟩ (f := 14) Tryz.func14 rfl [(Av a0 a1 a2 a3 a3l a3c, .no), (.int .i64 b, .no)] [] (bls0) nod0 (plain_of rfl) (shs_of ⟨trivial, trivial, trivial⟩) h (by kernel_rfl)
theorem vc33 {a0 a1 : Int} {a2 : ByteArray} {a3 : Option Addr} {a3l a3c : Nat} {b0 b1 : Int} {b2 : ByteArray} {b3 : Option Addr} {b3l b3c : Nat}  (h : 
 nB w fun id => nB w fun id1 => dB (a0 != b0) (fL w [] fun w1 => id < w1.heap.size → id1 < w1.heap.size → R (.bool false) w1) (dB (a1 != b1) (fL w [] fun w11 => id < w11.heap.size → id1 < w11.heap.size → R (.bool false) w11) (dB (!strEq a2 b2) (fL w [] fun w12 => id < w12.heap.size → id1 < w12.heap.size → R (.bool false) w12) (dB ((↑a3l : Int) != (↑b3l : Int)) (fL w [] fun w13 => id < w13.heap.size → id1 < w13.heap.size → R (.bool false) w13) (fL w [] fun w14 => id < w14.heap.size → id1 < w14.heap.size → ∃ (I : Int → World → Prop), ∃ (m : Int → Nat), I 0 w14 ∧ ∀ (jk : Nat → Value) (x : Int) (w2 : World), I x w2 → dB (decide (x < (↑a3l : Int))) (iX x a3l a3 fun ad => fL w2 [] fun w15 => lA w15 (Addr.add ad (Int.toNat x * 4)) fun x1 x2 x3 a n c => iX x b3l b3 fun ad1 => lA w15 (Addr.add ad1 (Int.toNat x * 4)) fun x4 x5 x6 a1 n1 c1 => cB 10 #[Av x1 x2 x3 a n c, Av x4 x5 x6 a1 n1 c1] w15 [id, id1] X fun x7 w21 => dB (!x7) (R (.bool false) w21) (I (w64 (x + 1)) w21 ∧ m (w64 (x + 1)) < m x)) (R (.bool true) w2)))))
 ) : CallsX E.P 10 #[Av a0 a1 a2 a3 a3l a3c, Av b0 b1 b2 b3 b3l b3c] w R X :=
  calls_vc E_ok ⟨[(4, ⟨[(5, .int .i64)], []⟩)], []⟩ (f := 10) Tryz.func10 rfl [(Av a0 a1 a2 a3 a3l a3c, .no), (Av b0 b1 b2 b3 b3l b3c, .no)] [] (bls0) nod0 (plain_of rfl) (shs_of ⟨trivial, trivial, trivial⟩) h (by kernel_rfl)
end Go.Vx.Tryz
namespace Go.Vx
open Go
section
structure RowIn (w : World) (F : Nat → Prop) (z : Nat) (A : Option Addr) (l c : Nat) (rows : List (List Value)) : Prop where
  len : l = rows.length
  cap : l ≤ c
  lt : l < 2 ^ 48
  els : ∀ r ∈ rows, r.length = z
  at_ : rows ≠ [] → ∃ ad, A = some ad ∧ F ad.block ∧ ∀ i r, rows[i]? = some r → CellsIn w (ad.add (i * z)) r
theorem add_block (a : Addr) (i : Nat) : (a.add i).block = a.block := by unfold Addr.add; split <;> rfl
theorem RowIn.upd {w w' : World} {F S : Nat → Prop} {z : Nat} {A : Option Addr} {l c : Nat} {rows : List (List Value)} (h : RowIn w F z A l c rows) (k : Upd w w' S) (hs : ∀ b, F b → ¬ S b) : RowIn w' F z A l c rows :=
  ⟨h.len, h.cap, h.lt, h.els, fun hne => by
    obtain ⟨ad, h1, h2, h3⟩ := h.at_ hne
    exact ⟨ad, h1, h2, fun i r hr => (h3 i r hr).ext k (by rw [add_block]; exact hs _ h2)⟩⟩
theorem RowIn.get {w : World} {F : Nat → Prop} {z : Nat} {A : Option Addr} {l c : Nat} {rows : List (List Value)} (h : RowIn w F z A l c rows) (i : Int) (h0 : 0 ≤ i) (h1 : i < l) :
    ∃ ad r, A = some ad ∧ rows[i.toNat]? = some r ∧ r.length = z ∧ CellsIn w (ad.add (i.toNat * z)) r := by
  have hi : i.toNat < rows.length := by have := h.len; omega
  have hne : rows ≠ [] := fun he => by rw [he] at hi; simp at hi
  obtain ⟨ad, e1, _, e3⟩ := h.at_ hne
  have hg : rows[i.toNat]? = some rows[i.toNat] := List.getElem?_eq_getElem hi
  exact ⟨ad, _, e1, hg, h.els _ (List.getElem_mem hi), e3 _ _ hg⟩
theorem RowIn.mono {w : World} {F G : Nat → Prop} {z : Nat} {A : Option Addr} {l c : Nat} {rows : List (List Value)} (h : RowIn w F z A l c rows) (hs : ∀ b, F b → G b) : RowIn w G z A l c rows :=
  ⟨h.len, h.cap, h.lt, h.els, fun hne => by obtain ⟨ad, h1, h2, h3⟩ := h.at_ hne; exact ⟨ad, h1, hs _ h2, h3⟩⟩
inductive Nd where
  | mk (k n : Int) (s : ByteArray) (kids : List Nd)
def Nd.kids : Nd → List Nd | .mk _ _ _ l => l
def Nd.k : Nd → Int | .mk k _ _ _ => k
def Nd.n : Nd → Int | .mk _ n _ _ => n
def Nd.s : Nd → ByteArray | .mk _ _ s _ => s
inductive NdR (w : World) (F : Nat → Prop) : Nd → List Value → Prop
  | mk (k n : Int) (s : ByteArray) (kids : List Nd) (A : Option Addr) (l c : Nat) (rows : List (List Value)) : RowIn w F 4 A l c rows → rows.length = kids.length →
      (∀ (i : Nat) (x : Nd), kids[i]? = some x → NdR w F x (rows.getD i [])) → NdR w F (.mk k n s kids) [.int .i64 k, .int .i64 n, .string s, .slice A l c]
theorem NdR.upd {w w' : World} {F S : Nat → Prop} {n : Nd} {cs : List Value} (h : NdR w F n cs) (k : Upd w w' S) (hs : ∀ b, F b → ¬ S b) : NdR w' F n cs := by
  induction h with
  | mk k0 n s kids A l c rows hr hl _ ih => exact .mk _ _ _ _ _ _ _ rows (hr.upd k hs) hl ih
theorem NdR.mono {w : World} {F G : Nat → Prop} {n : Nd} {cs : List Value} (h : NdR w F n cs) (hs : ∀ b, F b → G b) : NdR w G n cs := by
  induction h with
  | mk k0 n s kids A l c rows hr hl _ ih => exact .mk _ _ _ _ _ _ _ rows (hr.mono hs) hl ih
mutual
def Nd.size : Nd → Nat
  | .mk _ _ _ l => 1 + Nd.sizes l
def Nd.sizes : List Nd → Nat
  | [] => 0
  | n :: l => n.size + Nd.sizes l
end
theorem Nd.size_lt {n : Nd} : ∀ {l : List Nd}, n ∈ l → n.size ≤ Nd.sizes l
  | m :: l, h => by
    rcases List.mem_cons.1 h with rfl | h
    · simp [Nd.sizes]
    · have := Nd.size_lt h; simp only [Nd.sizes]; omega
theorem NdR.cells {w : World} {F : Nat → Prop} {n : Nd} {cs : List Value} (h : NdR w F n cs) : ∃ A l c, cs = [.int .i64 n.k, .int .i64 n.n, .string n.s, .slice A l c] := by
  cases h; exact ⟨_, _, _, rfl⟩
theorem no_no (F : Nat → Prop) : ∀ b, F b → ¬ no b := fun _ _ h => h
theorem w64_id {x : Int} (h : -9223372036854775808 ≤ x) (h2 : x ≤ 9223372036854775807) : w64 x = x := by
  simp only [w64, IntKind.wrap, IntKind.bits, IntKind.signed, Bool.true_and]
  split <;> rename_i hc <;> simp at hc <;> omega
end
section
open Go
def Rng (lo hi : Nat) : Nat → Prop := fun b => lo ≤ b ∧ b < hi
def blkOf : Option Addr → Nat → Prop
  | some a, b => a.block = b
  | none, _ => False
def IsV (V : Value) (w : World) : Value → World → Prop := fun v w' => v = V ∧ Ext w w'
theorem lt_of_get {α : Type} {a : Array α} {i : Nat} {x : α} (h : a[i]? = some x) : i < a.size := (Array.getElem?_eq_some_iff.1 h).1
theorem Upd.trans'' {w w' : World} {F : Nat → Prop} (h : Ext w w') : Upd w w' F := ⟨h.os, h.tape, h.output, h.size, fun k hk _ => h.keep k hk (fun h => h)⟩
theorem never_any {X : ContX} : ∀ ch w2, never ch w2 → X ch w2 := fun _ _ h => h.elim
section
variable {P : Program} {f : Nat} {args : Array Value} {w : World} {X : ContX} {ids : List Nat}
theorem callI {x : Int} (h : CallsX P f args w (IsV (.int .i64 x) w) never) {K : Int → World → Prop} (k : ∀ w2, Ext w w2 → K x w2) :
    ∃ (R : Value → World → Prop) (X' : ContX), CallsX P f args w R X' ∧ (∀ v w2, R v w2 → ∃ y, v = .int .i64 y ∧ ∃ S, Upd w w2 S ∧ Away ids S ∧ K y w2) ∧ ∀ ch w2, X' ch w2 → X ch w2 :=
  ⟨_, _, h, fun _ w2 ⟨hv, hE⟩ => ⟨x, hv, no, hE, Away.no _, k w2 hE⟩, never_any⟩
theorem callB {x : Bool} (h : CallsX P f args w (IsV (.bool x) w) never) {K : Bool → World → Prop} (k : ∀ w2, Ext w w2 → K x w2) :
    ∃ (R : Value → World → Prop) (X' : ContX), CallsX P f args w R X' ∧ (∀ v w2, R v w2 → ∃ y, v = .bool y ∧ ∃ S, Upd w w2 S ∧ Away ids S ∧ K y w2) ∧ ∀ ch w2, X' ch w2 → X ch w2 :=
  ⟨_, _, h, fun _ w2 ⟨hv, hE⟩ => ⟨x, hv, no, hE, Away.no _, k w2 hE⟩, never_any⟩
end
def IntsR (w : World) (F : Nat → Prop) (zs : List Int) (A : Option Addr) (l c : Nat) : Prop := RowIn w F 1 A l c (zs.map fun z => [.int .i64 z])
theorem IntsR.len {w : World} {F : Nat → Prop} {zs : List Int} {A : Option Addr} {l c : Nat} (h : IntsR w F zs A l c) : l = zs.length := by simpa using RowIn.len h
theorem IntsR.upd {w w' : World} {F S : Nat → Prop} {zs : List Int} {A : Option Addr} {l c : Nat} (h : IntsR w F zs A l c) (k : Upd w w' S) (hs : ∀ b, F b → ¬ S b) : IntsR w' F zs A l c := RowIn.upd h k hs
theorem IntsR.ext {w w' : World} {F : Nat → Prop} {zs : List Int} {A : Option Addr} {l c : Nat} (h : IntsR w F zs A l c) (k : Ext w w') : IntsR w' F zs A l c := RowIn.upd h k (no_no F)
theorem IntsR.get {w : World} {F : Nat → Prop} {zs : List Int} {A : Option Addr} {l c : Nat} (h : IntsR w F zs A l c) {ad : Addr} (ha : A = some ad) {j : Nat} (hj : j < zs.length) :
    CellsIn w (ad.add (Int.toNat (j : Int) * 1)) [.int .i64 zs[j]] := by
  obtain ⟨ad', r, h1, h2, _, h3⟩ := RowIn.get h (j : Int) (by omega) (by have := h.len; omega)
  rw [ha] at h1; cases h1
  have : (Int.toNat (j : Int)) = j := by omega
  rw [this] at h2 h3 ⊢
  rw [List.getElem?_map, List.getElem?_eq_getElem hj] at h2
  cases h2; exact h3
theorem IntsR.ad {w : World} {F : Nat → Prop} {zs : List Int} {A : Option Addr} {l c : Nat} (h : IntsR w F zs A l c) {j : Nat} (hj : j < zs.length) : ∃ ad, A = some ad := by
  obtain ⟨ad', r, h1, _⟩ := RowIn.get h (j : Int) (by omega) (by have := h.len; omega)
  exact ⟨_, h1⟩
theorem IntsR.idx {w : World} {F : Nat → Prop} {zs : List Int} {A : Option Addr} {l c : Nat} (h : IntsR w F zs A l c) {j : Nat} (hj : j < zs.length) {K : Addr → Prop} (k : ∀ ad, A = some ad → K ad) :
    (0 ≤ (j : Int) ∧ (j : Int) < (l : Int)) ∧ ∃ ad, A = some ad ∧ K ad := by
  obtain ⟨ad, ha⟩ := h.ad hj
  exact ⟨by have := h.len; omega, ad, ha, k ad ha⟩
theorem IntsR.cell {w : World} {F : Nat → Prop} {zs : List Int} {A : Option Addr} {l c : Nat} (h : IntsR w F zs A l c) {ad : Addr} (ha : A = some ad) {j : Nat} (hj : j < zs.length) {K : Int → Prop} (k : K zs[j]) :
    ∃ x, CellsIn w (ad.add (Int.toNat (j : Int) * 1)) [.int .i64 x] ∧ K x := ⟨_, h.get ha hj, k⟩
def OwnRow (w : World) (ty : Nat) (A : Option Addr) (l c : Nat) (rows : List (List Value)) : Prop :=
  c = l ∧ (rows = [] ∨ ∃ g cur, A = some ⟨g, 0, none⟩ ∧ w.heap[g]? = some (.cells cur ty (0, 0)) ∧ cur.toList.take rows.flatten.length = rows.flatten)
inductive NdG (w : World) (o : Bool) : (Nat → Prop) → Nd → List Value → Prop
  | mk (F : Nat → Prop) (k n : Int) (s : ByteArray) (kids : List Nd) (A : Option Addr) (l c : Nat) (rows : List (List Value)) (Fs : Nat → Nat → Prop) :
      RowIn w F 4 A l c rows → rows.length = kids.length →
      (∀ (i : Nat) (x : Nd), kids[i]? = some x → NdG w o (Fs i) x (rows.getD i [])) →
      (∀ i b, i < kids.length → Fs i b → F b) →
      (o = true → OwnRow w 24 A l c rows ∧ (∀ i b, i < kids.length → Fs i b → ¬ blkOf A b) ∧ ∀ i j b, i < j → j < kids.length → Fs i b → ¬ Fs j b) →
      NdG w o F (.mk k n s kids) [.int .i64 k, .int .i64 n, .string s, .slice A l c]
def NdsG (w : World) (o : Bool) (F : Nat → Prop) (kids : List Nd) (A : Option Addr) (l c : Nat) : Prop :=
  ∃ (rows : List (List Value)) (Fs : Nat → Nat → Prop), RowIn w F 4 A l c rows ∧ rows.length = kids.length ∧ (∀ (i : Nat) (x : Nd), kids[i]? = some x → NdG w o (Fs i) x (rows.getD i [])) ∧
    (∀ i b, i < kids.length → Fs i b → F b) ∧
    (o = true → OwnRow w 24 A l c rows ∧ (∀ i b, i < kids.length → Fs i b → ¬ blkOf A b) ∧ ∀ i j b, i < j → j < kids.length → Fs i b → ¬ Fs j b)
abbrev NdsR (w : World) (F : Nat → Prop) (kids : List Nd) (A : Option Addr) (l c : Nat) : Prop := NdsG w false F kids A l c
def ndV (n : Nd) (A : Option Addr) (l c : Nat) : List Value := [.int .i64 n.k, .int .i64 n.n, .string n.s, .slice A l c]
theorem NdG.kids {w : World} {o : Bool} {F : Nat → Prop} {n : Nd} {cs : List Value} (h : NdG w o F n cs) : ∃ A l c, cs = ndV n A l c ∧ NdsG w o F n.kids A l c := by
  cases h with
  | mk F k n s kids A l c rows Fs h1 h2 h3 h4 h5 => exact ⟨A, l, c, rfl, rows, Fs, h1, h2, h3, h4, h5⟩
theorem NdsG.node {w : World} {o : Bool} {F : Nat → Prop} {n : Nd} {A : Option Addr} {l c : Nat} (h : NdsG w o F n.kids A l c) : NdG w o F n (ndV n A l c) := by
  obtain ⟨rows, Fs, h1, h2, h3, h4, h5⟩ := h
  cases n with
  | mk k n s kids => exact .mk F k n s kids A l c rows Fs h1 h2 h3 h4 h5
theorem OwnRow.upd {w w' : World} {S : Nat → Prop} {ty : Nat} {A : Option Addr} {l c : Nat} {rows : List (List Value)} (h : OwnRow w ty A l c rows) (k : Upd w w' S) (hs : ∀ b, rows ≠ [] → blkOf A b → ¬ S b) : OwnRow w' ty A l c rows := by
  refine ⟨h.1, ?_⟩
  rcases h.2 with h2 | ⟨g, cur, rfl, h3, h4⟩
  · exact .inl h2
  · by_cases hr : rows = []
    · exact .inl hr
    · exact .inr ⟨g, cur, rfl, by rw [k.keep g (lt_of_get h3) (hs g hr rfl)]; exact h3, h4⟩
theorem NdG.upd {w w' : World} {o : Bool} {F S : Nat → Prop} {n : Nd} {cs : List Value} (h : NdG w o F n cs) (k : Upd w w' S) (hs : ∀ b, F b → ¬ S b) : NdG w' o F n cs := by
  induction h with
  | mk F k0 n s kids A l c rows Fs hr hl hk hF ho ih =>
    refine .mk _ _ _ _ _ _ _ _ rows Fs (hr.upd k hs) hl (fun i x hx => ih i x hx (fun b hb => hs b (hF i b (List.getElem?_eq_some_iff.1 hx).1 hb))) hF fun h => ?_
    obtain ⟨h1, h2, h3⟩ := ho h
    refine ⟨h1.upd k fun b hne hb => ?_, h2, h3⟩
    obtain ⟨ad, e1, e2, _⟩ := hr.at_ hne
    subst e1
    cases hb
    exact hs _ e2
theorem NdG.mono {w : World} {o : Bool} {F G : Nat → Prop} {n : Nd} {cs : List Value} (h : NdG w o F n cs) (hs : ∀ b, F b → G b) : NdG w o G n cs := by
  cases h with
  | mk F k0 n s kids A l c rows Fs hr hl hk hF ho => exact .mk _ _ _ _ _ _ _ _ rows Fs (hr.mono hs) hl hk (fun i b hi hb => hs _ (hF i b hi hb)) ho
theorem NdG.plain {w : World} {o : Bool} {F : Nat → Prop} {n : Nd} {cs : List Value} (h : NdG w o F n cs) : NdG w false F n cs := by
  induction h with
  | mk F k0 n s kids A l c rows Fs hr hl hk hF ho ih => exact .mk _ _ _ _ _ _ _ _ rows Fs hr hl ih hF (fun h => nomatch h)
theorem NdsG.upd {w w' : World} {o : Bool} {F S : Nat → Prop} {kids : List Nd} {A : Option Addr} {l c : Nat} (h : NdsG w o F kids A l c) (k : Upd w w' S) (hs : ∀ b, F b → ¬ S b) : NdsG w' o F kids A l c := by
  obtain ⟨A', l', c', e, h'⟩ := ((NdsG.node (n := .mk 0 0 ByteArray.empty kids) h).upd k hs).kids
  simp only [ndV, List.cons.injEq, Value.slice.injEq, true_and, and_true] at e
  obtain ⟨rfl, rfl, rfl⟩ := e
  exact h'
theorem NdsG.ext {w w' : World} {o : Bool} {F : Nat → Prop} {kids : List Nd} {A : Option Addr} {l c : Nat} (h : NdsG w o F kids A l c) (k : Ext w w') : NdsG w' o F kids A l c := h.upd k (no_no F)
theorem NdsG.mono {w : World} {o : Bool} {F G : Nat → Prop} {kids : List Nd} {A : Option Addr} {l c : Nat} (h : NdsG w o F kids A l c) (hs : ∀ b, F b → G b) : NdsG w o G kids A l c := by
  obtain ⟨A', l', c', e, h'⟩ := ((NdsG.node (n := .mk 0 0 ByteArray.empty kids) h).mono hs).kids
  simp only [ndV, List.cons.injEq, Value.slice.injEq, true_and, and_true] at e
  obtain ⟨rfl, rfl, rfl⟩ := e
  exact h'
theorem NdsG.plain {w : World} {o : Bool} {F : Nat → Prop} {kids : List Nd} {A : Option Addr} {l c : Nat} (h : NdsG w o F kids A l c) : NdsR w F kids A l c := by
  obtain ⟨A', l', c', e, h'⟩ := ((NdsG.node (n := .mk 0 0 ByteArray.empty kids) h).plain).kids
  simp only [ndV, List.cons.injEq, Value.slice.injEq, true_and, and_true] at e
  obtain ⟨rfl, rfl, rfl⟩ := e
  exact h'
theorem NdsG.len {w : World} {o : Bool} {F : Nat → Prop} {kids : List Nd} {A : Option Addr} {l c : Nat} (h : NdsG w o F kids A l c) : l = kids.length := by
  obtain ⟨rows, Fs, h1, h2, _⟩ := h
  exact h1.len.trans h2
theorem NdsG.lt {w : World} {o : Bool} {F : Nat → Prop} {kids : List Nd} {A : Option Addr} {l c : Nat} (h : NdsG w o F kids A l c) : l < 2 ^ 48 := by
  obtain ⟨rows, Fs, h1, _⟩ := h
  exact h1.lt
theorem NdsG.idx {w : World} {o : Bool} {F : Nat → Prop} {kids : List Nd} {A : Option Addr} {l c : Nat} (h : NdsG w o F kids A l c) {j : Nat} (hj : j < kids.length) {K : Addr → Prop} (k : ∀ ad, A = some ad → K ad) :
    (0 ≤ (j : Int) ∧ (j : Int) < (l : Int)) ∧ ∃ ad, A = some ad ∧ K ad := by
  have hl := h.len
  obtain ⟨rows, Fs, h1, h2, _⟩ := h
  obtain ⟨ad, r, e, _⟩ := h1.get (j : Int) (by omega) (by omega)
  exact ⟨by omega, ad, e, k ad e⟩
theorem NdsG.get {w : World} {o : Bool} {F : Nat → Prop} {kids : List Nd} {A : Option Addr} {l c : Nat} (h : NdsG w o F kids A l c) {ad : Addr} (ha : A = some ad) {j : Nat} (hj : j < kids.length) :
    ∃ A1 l1 c1, CellsIn w (ad.add (Int.toNat (j : Int) * 4)) (ndV kids[j] A1 l1 c1) ∧ NdsG w o F kids[j].kids A1 l1 c1 := by
  have hl := h.len
  obtain ⟨rows, Fs, h1, h2, h3, h4, _⟩ := h
  obtain ⟨ad', r, e, hr, _, hc⟩ := h1.get (j : Int) (by omega) (by omega)
  rw [ha] at e; cases e
  have hn : Int.toNat (j : Int) = j := by omega
  rw [hn] at hr hc ⊢
  have hk := h3 j kids[j] (List.getElem?_eq_getElem hj)
  rw [List.getD_eq_getElem?_getD, hr, Option.getD_some] at hk
  obtain ⟨A1, l1, c1, rfl, hk2⟩ := hk.kids
  exact ⟨A1, l1, c1, hc, hk2.mono (fun b hb => h4 j b hj hb)⟩
theorem NdsG.cell {w : World} {o : Bool} {F : Nat → Prop} {kids : List Nd} {A : Option Addr} {l c : Nat} (h : NdsG w o F kids A l c) {ad : Addr} (ha : A = some ad) {j : Nat} (hj : j < kids.length)
    {K : Int → Int → ByteArray → Option Addr → Nat → Nat → Prop} (k : ∀ A1 l1 c1, NdsG w o F kids[j].kids A1 l1 c1 → K kids[j].k kids[j].n kids[j].s A1 l1 c1) :
    ∃ x2 x3, ∃ x4 a, ∃ n c, CellsIn w (ad.add (Int.toNat (j : Int) * 4)) [.int .i64 x2, .int .i64 x3, .string x4, .slice a n c] ∧ K x2 x3 x4 a n c := by
  obtain ⟨A1, l1, c1, h1, h2⟩ := h.get ha hj
  exact ⟨_, _, _, _, _, _, h1, k _ _ _ h2⟩
theorem kid_size {kids : List Nd} {j : Nat} (hj : j < kids.length) : kids[j].size ≤ Nd.sizes kids := Nd.size_lt (List.getElem_mem hj)
theorem Nd.len_sizes : ∀ (l : List Nd), l.length ≤ Nd.sizes l
  | [] => Nat.zero_le _
  | n :: l => by
    have := Nd.len_sizes l
    cases n
    simp only [List.length_cons, Nd.sizes, Nd.size]
    omega
theorem kid_lt {n : Nd} {j : Nat} (hj : j < n.kids.length) : n.kids[j].size < n.size := by
  cases n with
  | mk k n s kids =>
    have := kid_size (kids := kids) hj
    simp only [Nd.size, Nd.kids]
    omega
theorem drop_cons {α : Type} {l : List α} {j : Nat} (hj : j < l.length) : l.drop j = l[j] :: l.drop (j + 1) := List.drop_eq_getElem_cons hj
theorem w64_succ {j : Nat} (h : j < 2 ^ 48) : w64 ((j : Int) + 1) = ((j + 1 : Nat) : Int) := by rw [w64_id (by omega) (by omega)]; rfl
theorem mea_succ {n j : Nat} (h : j < n) : ((n : Int) - ((j + 1 : Nat) : Int)).toNat < ((n : Int) - (j : Int)).toNat := by omega
end
section
open Go
theorem CellsIn.lt {w : World} {p : Addr} {cs : List Value} (h : CellsIn w p cs) (hne : cs ≠ []) : p.block < w.heap.size := by
  cases cs with
  | nil => exact absurd rfl hne
  | cons c cs =>
    have := h.out 0 c rfl
    have hb := World.block_lt_of_cell? w _ this
    rwa [add_block] at hb
theorem RowIn.upd' {w w' : World} {F S : Nat → Prop} {z : Nat} {A : Option Addr} {l c : Nat} {rows : List (List Value)} (h : RowIn w F (z + 1) A l c rows) (k : Upd w w' S) (hs : ∀ b, F b → b < w.heap.size → ¬ S b) : RowIn w' F (z + 1) A l c rows := by
  refine ⟨h.len, h.cap, h.lt, h.els, fun hne => ?_⟩
  obtain ⟨ad, h1, h2, h3⟩ := h.at_ hne
  refine ⟨ad, h1, h2, fun i r hr => (h3 i r hr).ext k ?_⟩
  have hr1 := h.els r (List.mem_of_getElem? hr)
  have := (h3 i r hr).lt (fun he => by rw [he] at hr1; simp at hr1)
  rw [add_block] at this ⊢
  exact hs _ h2 this
theorem OwnRow.upd' {w w' : World} {S : Nat → Prop} {ty : Nat} {A : Option Addr} {l c : Nat} {rows : List (List Value)} (h : OwnRow w ty A l c rows) (k : Upd w w' S) (hs : ∀ b, rows ≠ [] → blkOf A b → b < w.heap.size → ¬ S b) : OwnRow w' ty A l c rows := by
  refine ⟨h.1, ?_⟩
  rcases h.2 with h2 | ⟨g, cur, rfl, h3, h4⟩
  · exact .inl h2
  · by_cases hr : rows = []
    · exact .inl hr
    · exact .inr ⟨g, cur, rfl, by rw [k.keep g (lt_of_get h3) (hs g hr rfl (lt_of_get h3))]; exact h3, h4⟩
theorem NdG.upd' {w w' : World} {o : Bool} {F S : Nat → Prop} {n : Nd} {cs : List Value} (h : NdG w o F n cs) (k : Upd w w' S) (hs : ∀ b, F b → b < w.heap.size → ¬ S b) : NdG w' o F n cs := by
  induction h with
  | mk F k0 n s kids A l c rows Fs hr hl hk hF ho ih =>
    refine .mk _ _ _ _ _ _ _ _ rows Fs (hr.upd' k hs) hl (fun i x hx => ih i x hx (fun b hb => hs b (hF i b (List.getElem?_eq_some_iff.1 hx).1 hb))) hF fun h => ?_
    obtain ⟨h1, h2, h3⟩ := ho h
    refine ⟨h1.upd' k fun b hne hb hlt => ?_, h2, h3⟩
    obtain ⟨ad, e1, e2, _⟩ := hr.at_ hne
    subst e1
    cases hb
    exact hs _ e2 hlt
theorem NdsG.upd' {w w' : World} {o : Bool} {F S : Nat → Prop} {kids : List Nd} {A : Option Addr} {l c : Nat} (h : NdsG w o F kids A l c) (k : Upd w w' S) (hs : ∀ b, F b → b < w.heap.size → ¬ S b) : NdsG w' o F kids A l c := by
  obtain ⟨A', l', c', e, h'⟩ := ((NdsG.node (n := .mk 0 0 ByteArray.empty kids) h).upd' k hs).kids
  simp only [ndV, List.cons.injEq, Value.slice.injEq, true_and, and_true] at e
  obtain ⟨rfl, rfl, rfl⟩ := e
  exact h'
end
section
theorem NdsG.idxL {w : World} {o : Bool} {F : Nat → Prop} {kids : List Nd} {A : Option Addr} {l c : Nat} (h : NdsG w o F kids A l c) (j : Nat) {ji : Int} (hji : ji = (j : Int)) (hj : j < kids.length) {K : Addr → Prop} (k : ∀ ad, A = some ad → K ad) :
    ((0 : Int) ≤ ji ∧ ji < (l : Int)) ∧ ∃ ad, A = some ad ∧ K ad := by subst hji; exact h.idx hj k
theorem NdsG.cellL {w : World} {o : Bool} {F : Nat → Prop} {kids : List Nd} {A : Option Addr} {l c : Nat} (h : NdsG w o F kids A l c) {ad : Addr} (ha : A = some ad) (j : Nat) {off : Nat} (ho : off = j * 4) (hj : j < kids.length) {d : Nd}
    {K : Int → Int → ByteArray → Option Addr → Nat → Nat → Prop} (k : ∀ A1 l1 c1, NdsG w o F (kids.getD j d).kids A1 l1 c1 → K (kids.getD j d).k (kids.getD j d).n (kids.getD j d).s A1 l1 c1) :
    ∃ x2 x3, ∃ x4 a, ∃ n c, CellsIn w (ad.add off) [.int .i64 x2, .int .i64 x3, .string x4, .slice a n c] ∧ K x2 x3 x4 a n c := by
  have hg : kids.getD j d = kids[j] := by rw [List.getD_eq_getElem?_getD, List.getElem?_eq_getElem hj]; rfl
  rw [hg] at k
  have hn : off = Int.toNat (j : Int) * 4 := by omega
  rw [hn]
  exact h.cell ha hj k
end
section
open Go
theorem Upd.step {w w1 w2 : World} {S : Nat → Prop} (h : Ext w w1) (k : Upd w1 w2 S) (hs : ∀ b, S b → w.heap.size ≤ b) : Ext w w2 :=
  ⟨k.os.trans h.os, k.tape.trans h.tape, k.output.trans h.output, Nat.le_trans h.size k.size, fun b hb _ => by
    rw [k.keep b (Nat.lt_of_lt_of_le hb h.size) (fun hS => absurd (hs b hS) (by omega)), h.keep b hb (fun h => h)]⟩
theorem Upd.trans' {w w1 w2 : World} {F S : Nat → Prop} (h : Upd w w1 F) (k : Upd w1 w2 S) (hs : ∀ b, S b → F b) : Upd w w2 F :=
  ⟨k.os.trans h.os, k.tape.trans h.tape, k.output.trans h.output, Nat.le_trans h.size k.size, fun b hb hF => by
    rw [k.keep b (Nat.lt_of_lt_of_le hb h.size) (fun hS => hF (hs b hS)), h.keep b hb hF]⟩
structure SlT (P : Program) (t e z sz : Nat) : Prop where
  ht : P.underlying t = some (.slice e)
  info : ∃ i zv, P.info? e = some i ∧ i.zero = some zv ∧ i.size = z ∧ i.bytes = sz ∧ zv.cells.size = z
  pos : 0 < z
  sm : sz ≤ 4096
def slB (P : Program) (t e z sz : Nat) : Bool :=
  match P.underlying t, P.info? e with
  | some (.slice e'), some i => e' == e && (match i.zero with | some zv => i.size == z && i.bytes == sz && zv.cells.size == z | none => false)
  | _, _ => false
theorem SlT.of {P : Program} {t e z sz : Nat} (h : slB P t e z sz = true) (h1 : 0 < z) (h2 : sz ≤ 4096) : SlT P t e z sz := by
  unfold slB at h
  split at h
  · rename_i e' i ht hi
    simp only [Bool.and_eq_true, beq_iff_eq] at h
    obtain ⟨rfl, h⟩ := h
    split at h
    · rename_i zv hz
      simp only [Bool.and_eq_true, beq_iff_eq] at h
      exact ⟨ht, ⟨i, zv, hi, hz, h.1.1, h.1.2, h.2⟩, h1, h2⟩
    · cases h
  · cases h
theorem append_row {P : Program} {t e z sz : Nat} (T : SlT P t e z sz) {w : World} {lo ty : Nat} {A : Option Addr} {l c : Nat} {xs : List Value} (own : w.ownsRow lo e z (.slice A l c) l xs) {a : Addr} {news : List Value} {m c2 : Nat}
    (hl : news.length = m * z) (hc : CellsIn w a news) (h1 : ∀ u ∈ news, u.oneCell' = true) (hs : l + m ≤ 2 ^ 34) (hlo : lo ≤ w.heap.size) :
    RunsTo P (Builtin.append_ #[t, t] ty #[.slice A l c, .slice (some a) m c2]) w (fun v w' => ∃ A' c', v = .slice A' (l + m) c' ∧ w'.ownsRow lo e z (.slice A' (l + m) c') (l + m) (xs ++ news) ∧ Upd w w' (blkOf A) ∧ ∀ b, blkOf A' b → blkOf A b ∨ b = w.heap.size) := by
  obtain ⟨ht, ⟨i, zv, hi, hz, hsz, hby, hzs⟩, hpos, hsm⟩ := T
  have hb : (l + m) * sz ≤ 140737488355328 := by
    have := Nat.mul_le_mul hs hsm
    omega
  obtain ⟨v', w', hr, ho, hg, hn, hat⟩ := run_append_own_at (P := P) w lo t ty e i zv z sz ht hi hz hsz hby hzs hpos (.slice A l c) l xs own a m c2 news hl hc.out h1 (by simp only [maxLen]; omega) hb hlo
  have hv : ∃ A' c', v' = .slice A' (l + m) c' := by
    rcases ho.2 with ⟨rfl, h0⟩ | ⟨g, cap, cur, rfl, _⟩
    · exact ⟨none, 0, by rw [h0]⟩
    · exact ⟨_, _, rfl⟩
  obtain ⟨A', c', rfl⟩ := hv
  refine ⟨_, w', hr, A', c', rfl, ho, ⟨hg.os, hg.tape, hg.output, hg.size, fun k hk hS => hg.block k hk fun he => hS ?_⟩, fun b hb => ?_⟩
  · cases A with
    | none => simp [Value.ownBlock] at he
    | some ad => simp [Value.ownBlock] at he; exact he.symm
  · cases A' with
    | none => exact hb.elim
    | some ad' =>
      cases hb
      simp only [Value.ownBlock] at hat
      rcases hat with hat | hat
      · cases A with
        | none => simp at hat
        | some ad => simp at hat; exact .inl hat.symm
      · simp at hat; exact .inr hat
theorem add_zero_addr (a : Addr) : a.add 0 = a := by obtain ⟨b, o, s⟩ := a; unfold Addr.add; split <;> simp_all
theorem map_add_zero (A : Option Addr) : A.map (fun x => x.add 0) = A := by cases A <;> simp [add_zero_addr]
theorem run_clip {P : Program} {t e z sz : Nat} (T : SlT P t e z sz) {w : World} {A : Option Addr} {l c : Nat} (hh : l ≤ c) :
    Sem.run P (Instr.sliceAt t (.slice A l c) none (some (.int .i64 (l : Int))) (some (.int .i64 (l : Int)))) w = .ok (.slice A l l) w := by
  obtain ⟨ht, ⟨i, zv, hi, hz, hsz, hby, hzs⟩, _, _⟩ := T
  have hs : (sizeOf e).run P w = .ok z w := by simp [sizeOf, typeInfo, hi, hsz]
  simp [Instr.sliceAt, Instr.slice, run_underlying ht, Instr.sliceBounds, Instr.sliceBound, asIntOf, hh, hs, map_add_zero]
theorem owns_blk {w : World} {lo e z : Nat} {A : Option Addr} {l c : Nat} {xs : List Value} (h : w.ownsRow lo e z (.slice A l c) l xs) {b : Nat} (hb : blkOf A b) : lo ≤ b ∧ b < w.heap.size := by
  rcases h.2 with ⟨h, _⟩ | ⟨g, cap, cur, h, hg, hh, _⟩
  · cases h; exact hb.elim
  · cases h; cases hb; exact ⟨hg, lt_of_get hh⟩
theorem owns_upd {w w' : World} {lo e z : Nat} {v : Value} {l : Nat} {xs : List Value} {S : Nat → Prop} (h : w.ownsRow lo e z v l xs) (k : Upd w w' S) (hs : ∀ b, S b → ¬ (lo ≤ b ∧ b < w.heap.size)) : w'.ownsRow lo e z v l xs := by
  refine ⟨h.1, ?_⟩
  rcases h.2 with h2 | ⟨g, cap, cur, h2, hg, hh, h3⟩
  · exact .inl h2
  · have hlt := lt_of_get hh
    exact .inr ⟨g, cap, cur, h2, hg, by rw [k.keep g hlt (fun hS => hs g hS ⟨hg, hlt⟩)]; exact hh, h3⟩
theorem owns_upd' {w w' : World} {lo e z : Nat} {A : Option Addr} {l l' c : Nat} {xs : List Value} {S : Nat → Prop} (h : w.ownsRow lo e z (.slice A l c) l' xs) (k : Upd w w' S) (hs : ∀ b, blkOf A b → ¬ S b) : w'.ownsRow lo e z (.slice A l c) l' xs := by
  refine ⟨h.1, ?_⟩
  rcases h.2 with h2 | ⟨g, cap, cur, h2, hg, hh, h3⟩
  · exact .inl h2
  · have hlt := lt_of_get hh
    cases h2
    exact .inr ⟨g, c, cur, rfl, hg, by rw [k.keep g hlt (hs g rfl)]; exact hh, h3⟩
theorem flatten_len {z : Nat} : ∀ {rows : List (List Value)}, (∀ r ∈ rows, r.length = z) → rows.flatten.length = rows.length * z
  | [], _ => by simp
  | r :: rows, h => by
    rw [List.flatten_cons, List.length_append, h r List.mem_cons_self, flatten_len fun r hr => h r (List.mem_cons_of_mem _ hr), List.length_cons, Nat.add_mul]
    omega
theorem flatten_get {z : Nat} : ∀ {rows : List (List Value)}, (∀ r ∈ rows, r.length = z) → ∀ {i : Nat} {r : List Value}, rows[i]? = some r → ∀ {j : Nat} {u : Value}, r[j]? = some u → rows.flatten[i * z + j]? = some u
  | q :: rows, h, 0, r, hr, j, u, hu => by
    simp only [List.getElem?_cons_zero, Option.some.injEq] at hr
    subst hr
    rw [List.flatten_cons, Nat.zero_mul, Nat.zero_add, List.getElem?_append_left (List.getElem?_eq_some_iff.1 hu).1]
    exact hu
  | q :: rows, h, i + 1, r, hr, j, u, hu => by
    have hq := h q List.mem_cons_self
    have he : (i + 1) * z + j = q.length + (i * z + j) := by rw [hq, Nat.add_mul]; omega
    rw [List.flatten_cons, he, List.getElem?_append_right (by omega), Nat.add_sub_cancel_left]
    exact flatten_get (fun r hr => h r (List.mem_cons_of_mem _ hr)) (by simpa using hr) hu
theorem owns_row {w : World} {lo e z : Nat} {A : Option Addr} {l c : Nat} {rows : List (List Value)} (h : w.ownsRow lo e z (.slice A l c) l rows.flatten) (hr : ∀ r ∈ rows, r.length = z) (hl : l = rows.length) (hs : l < 2 ^ 48) {F : Nat → Prop}
    (hF : ∀ b, blkOf A b → F b) : RowIn w F z A l c rows := by
  rcases h.2 with ⟨h2, h0⟩ | ⟨g, cap, cur, h2, hg, hh, hc, hm, hsz, ht⟩
  · cases h2
    exact ⟨hl, Nat.le_refl _, hs, hr, fun hne => absurd (List.length_eq_zero_iff.1 (by omega)) hne⟩
  · cases h2
    refine ⟨hl, hc, hs, hr, fun _ => ⟨_, rfl, hF g rfl, fun i r hi => ⟨fun j u hj => ?_⟩⟩⟩
    have hf := flatten_get hr hi hj
    rw [add_plain, add_plain]
    have hlt : i * z + j < l * z := by
      have h1 := (List.getElem?_eq_some_iff.1 hf).1
      rw [flatten_len hr, ← hl] at h1; exact h1
    rw [← ht, List.getElem?_take_of_lt hlt, Array.getElem?_toList] at hf
    have hne : ¬ ((0 : Nat) + i * z + j < 0) := by omega
    simp only [World.cell?, hh, Nat.zero_add]
    exact hf
structure Rel (α : Type) (z : Nat) where
  K : World → (Nat → Prop) → α → List Value → Prop
  upd : ∀ {w w' : World} {F S : Nat → Prop} {x : α} {cs : List Value}, K w F x cs → Upd w w' S → (∀ b, F b → ¬ S b) → K w' F x cs
  len : ∀ {w : World} {F : Nat → Prop} {x : α} {cs : List Value}, K w F x cs → cs.length = z
  one : ∀ {w : World} {F : Nat → Prop} {x : α} {cs : List Value}, K w F x cs → ∀ u ∈ cs, u.oneCell' = true
def RowsG {α : Type} {z : Nat} (R : Rel α z) (ty : Nat) (w : World) (o : Bool) (F : Nat → Prop) (kids : List α) (A : Option Addr) (l c : Nat) : Prop :=
  ∃ (rows : List (List Value)) (Fs : Nat → Nat → Prop), RowIn w F z A l c rows ∧ rows.length = kids.length ∧ (∀ (i : Nat) (x : α), kids[i]? = some x → R.K w (Fs i) x (rows.getD i [])) ∧
    (∀ i b, i < kids.length → Fs i b → F b) ∧
    (o = true → OwnRow w ty A l c rows ∧ (∀ i b, i < kids.length → Fs i b → ¬ blkOf A b) ∧ ∀ i j b, i < j → j < kids.length → Fs i b → ¬ Fs j b)
def RowB {α : Type} {z : Nat} (R : Rel α z) (ty : Nat) (w : World) (o : Bool) (lo top : Nat) (G E : Nat → Prop) (kids : List α) (A : Option Addr) (l c : Nat) : Prop :=
  ∃ (rows : List (List Value)) (Fs : Nat → Nat → Prop), w.ownsRow lo ty z (.slice A l c) l rows.flatten ∧ (∀ r ∈ rows, r.length = z) ∧ l = rows.length ∧ rows.length = kids.length ∧
    (∀ (i : Nat) (x : α), kids[i]? = some x → R.K w (Fs i) x (rows.getD i [])) ∧
    (∀ i b, i < kids.length → Fs i b → ((o = false ∧ G b) ∨ (lo ≤ b ∧ b < top ∧ ¬ E b)) ∧ ¬ blkOf A b) ∧
    (o = true → ∀ i j b, i < j → j < kids.length → Fs i b → ¬ Fs j b) ∧ (∀ b, G b → b < lo) ∧ lo ≤ top ∧ top ≤ w.heap.size ∧ ∀ b, blkOf A b → lo ≤ b ∧ b < top ∧ ¬ E b
theorem RowB.nil {α : Type} {z : Nat} {R : Rel α z} {ty : Nat} {w : World} {o : Bool} {lo : Nat} {G E : Nat → Prop} (hG : ∀ b, G b → b < lo) (hlo : lo ≤ w.heap.size) : RowB R ty w o lo lo G E [] none 0 0 :=
  ⟨[], fun _ _ => False, World.ownsRow_nil _ _ _ _, by simp, rfl, rfl, by simp, by simp, by simp, hG, Nat.le_refl _, hlo, fun _ h => h.elim⟩
theorem RowB.made {α : Type} {z : Nat} {R : Rel α z} {ty : Nat} {w : World} {o : Bool} {lo id : Nat} {G E : Nat → Prop} (hG : ∀ b, G b → b < lo) (hlo : lo ≤ id) (hh : w.heap[id]? = some (.cells #[] ty (0, 0))) (hE : ¬ E id) : RowB R ty w o lo w.heap.size G E [] (some ⟨id, 0, none⟩) 0 0 := by
  have hlt := lt_of_get hh
  refine ⟨[], fun _ _ => False, ⟨by simp, .inr ⟨id, 0, #[], rfl, hlo, hh, Nat.le_refl _, Nat.zero_le _, by simp, by simp⟩⟩, by simp, rfl, rfl, by simp, by simp, by simp, hG, by omega, Nat.le_refl _, fun b hb => ?_⟩
  cases hb
  exact ⟨hlo, hlt, hE⟩
section
variable {α : Type} {z : Nat} {R : Rel α z} {ty : Nat} {w w' : World} {o : Bool} {lo top : Nat} {G E S : Nat → Prop} {kids : List α} {A : Option Addr} {l c : Nat}
theorem RowB.len (h : RowB R ty w o lo top G E kids A l c) : l = kids.length := by
  obtain ⟨rows, Fs, h1, h2, h3, h4, _⟩ := h
  omega
theorem RowB.blk (h : RowB R ty w o lo top G E kids A l c) {b : Nat} (hb : blkOf A b) : lo ≤ b ∧ b < top ∧ ¬ E b := by
  obtain ⟨rows, Fs, h1, h2, h3, h4, h5, h6, h7, h8, h9, h10, h11⟩ := h
  exact h11 b hb
theorem RowB.los (h : RowB R ty w o lo top G E kids A l c) : lo ≤ top ∧ top ≤ w.heap.size := by
  obtain ⟨rows, Fs, h1, h2, h3, h4, h5, h6, h7, h8, h9, h10, h11⟩ := h
  exact ⟨h9, h10⟩
theorem RowB.upd (h : RowB R ty w o lo top G E kids A l c) (k : Upd w w' S) (hs : ∀ b, S b → ¬ G b ∧ (E b ∨ ¬ (lo ≤ b ∧ b < top))) : RowB R ty w' o lo top G E kids A l c := by
  obtain ⟨rows, Fs, h1, h2, h3, h4, h5, h6, h7, h8, h9, h10, h11⟩ := h
  refine ⟨rows, Fs, owns_upd' h1 k (fun b hb hS => ?_), h2, h3, h4, fun i x hx => R.upd (h5 i x hx) k fun b hb hS => ?_, h6, h7, h8, h9, Nat.le_trans h10 k.size, h11⟩
  · obtain ⟨q1, q2, q3⟩ := h11 b hb
    rcases (hs b hS).2 with h | h
    · exact q3 h
    · exact h ⟨q1, q2⟩
  · rcases (h6 i b (List.getElem?_eq_some_iff.1 hx).1 hb).1 with ⟨_, h⟩ | h
    · exact (hs b hS).1 h
    · rcases (hs b hS).2 with h' | h'
      · exact h.2.2 h'
      · exact h' ⟨h.1, h.2.1⟩
theorem RowB.ext (h : RowB R ty w o lo top G E kids A l c) (k : Ext w w') : RowB R ty w' o lo top G E kids A l c := h.upd k (fun _ h => h.elim)
theorem RowB.re {E' : Nat → Prop} {top' : Nat} (h : RowB R ty w o lo top G E kids A l c) (ht : top ≤ top') (ht2 : top' ≤ w.heap.size) (hE : ∀ b, E' b → E b ∨ top ≤ b) : RowB R ty w o lo top' G E' kids A l c := by
  obtain ⟨rows, Fs, h1, h2, h3, h4, h5, h6, h7, h8, h9, h10, h11⟩ := h
  refine ⟨rows, Fs, h1, h2, h3, h4, h5, fun i b hi hb => ⟨?_, (h6 i b hi hb).2⟩, h7, h8, Nat.le_trans h9 ht, ht2, fun b hb => ?_⟩
  · rcases (h6 i b hi hb).1 with h | h
    · exact .inl h
    · exact .inr ⟨h.1, by omega, fun he => by rcases hE b he with h' | h'; exact h.2.2 h'; omega⟩
  · obtain ⟨q1, q2, q3⟩ := h11 b hb
    exact ⟨q1, by omega, fun he => by rcases hE b he with h' | h'; exact q3 h'; omega⟩
theorem RowB.low {lo' : Nat} (h : RowB R ty w o lo top no E kids A l c) (hl : lo' ≤ lo) : RowB R ty w o lo' top no E kids A l c := by
  obtain ⟨rows, Fs, h1, h2, h3, h4, h5, h6, h7, h8, h9, h10, h11⟩ := h
  refine ⟨rows, Fs, ⟨h1.1, h1.2.imp (fun h => h) fun ⟨g, cap, cur, q1, q2, q3⟩ => ⟨g, cap, cur, q1, by omega, q3⟩⟩, h2, h3, h4, h5, fun i b hi hb => ⟨(h6 i b hi hb).1.imp (fun h => h) fun q => ⟨by omega, q.2⟩, (h6 i b hi hb).2⟩, h7, fun _ h => h.elim, by omega, h10, fun b hb => ?_⟩
  have := h11 b hb
  exact ⟨by omega, this.2⟩
theorem RowB.unown (h : RowB R ty w o lo top G E kids A l c) : RowB R ty w false lo top G E kids A l c := by
  obtain ⟨rows, Fs, h1, h2, h3, h4, h5, h6, h7, h8, h9, h10, h11⟩ := h
  exact ⟨rows, Fs, h1, h2, h3, h4, h5, fun i b hi hb => ⟨(h6 i b hi hb).1.imp (fun h => ⟨rfl, h.2⟩) (fun h => h), (h6 i b hi hb).2⟩, fun h => (nomatch h), h8, h9, h10, h11⟩
theorem RowB.done {c' : Nat} (h : RowB R ty w o lo top G E kids A l c) (hl : l < 2 ^ 48) (hc : c' = l ∨ o = false ∧ c' = c) :
    RowsG R ty w o (fun b => (o = false ∧ G b) ∨ (lo ≤ b ∧ b < top ∧ ¬ E b)) kids A l c' := by
  obtain ⟨rows, Fs, h1, h2, h3, h4, h5, h6, h7, h8, h9, h10, h11⟩ := h
  have hr := owns_row h1 h2 h3 hl (F := fun b => (o = false ∧ G b) ∨ (lo ≤ b ∧ b < top ∧ ¬ E b)) (fun b hb => .inr (h11 b hb))
  have hcap : l ≤ c' := by
    rcases hc with h | ⟨_, h⟩
    · omega
    · rw [h]; exact hr.cap
  refine ⟨rows, Fs, ⟨hr.len, hcap, hr.lt, hr.els, hr.at_⟩, h4, h5, fun i b hi hb => (h6 i b hi hb).1, fun ho => ⟨⟨?_, ?_⟩, fun i b hi hb => (h6 i b hi hb).2, h7 ho⟩⟩
  · rcases hc with h | ⟨h, _⟩
    · exact h
    · rw [ho] at h; cases h
  · rcases h1.2 with ⟨he, h0⟩ | ⟨g, cap, cur, he, hg, hh, hcc, hm, hsz, ht⟩
    · exact .inl (List.length_eq_zero_iff.1 (by omega))
    · cases he
      exact .inr ⟨g, cur, rfl, hh, by rw [flatten_len h2, ← h3]; exact ht⟩
theorem RowB.cap (h : RowB R ty w o lo top G E kids A l c) : l ≤ c := by
  obtain ⟨rows, Fs, h1, h2, h3, h4, h5, h6, h7, h8, h9, h10, h11⟩ := h
  rcases h1.2 with ⟨he, h0⟩ | ⟨g, cap, cur, he, hg, hh, hcc, hm, hsz, ht⟩
  · cases he; exact Nat.le_refl _
  · cases he; exact hcc
end
theorem cells_new {w : World} {id ty : Nat} {cs : List Value} (h : w.heap[id]? = some (.cells cs.toArray ty (0, 0))) : CellsIn w ⟨id, 0, none⟩ cs :=
  ⟨fun j c hj => by rw [add_plain]; simp only [World.cell?, h, Nat.zero_add]; simpa using hj⟩
theorem RowB.push {α : Type} {z : Nat} {R : Rel α z} {P : Program} {t sz ty tx ty' : Nat} (T : SlT P t ty z sz) {w1 w2 : World} {o : Bool} {lo top : Nat} {G E Fk : Nat → Prop} {kids : List α} {A : Option Addr} {l c : Nat} (h : RowB R ty w1 o lo top G E kids A l c)
    {x : α} {cs : List Value} (hk : R.K w1 Fk x cs) (hF : ∀ b, Fk b → (o = false ∧ G b) ∨ (top ≤ b ∧ b < w1.heap.size ∧ ¬ E b)) (hE2 : Ext w1 w2) (hEt : ∀ b, E b → b < w1.heap.size) {id : Nat} (hcell : w2.heap[id]? = some (.cells cs.toArray ty' (0, 0))) (hl : l < 2 ^ 33) :
    RunsTo P (Builtin.append_ #[t, t] tx #[.slice A l c, .slice (some ⟨id, 0, none⟩) 1 1]) w2 (fun v w' => ∃ A' c', v = .slice A' (l + 1) c' ∧ (RowB R ty w' o lo w'.heap.size G E (kids ++ [x]) A' (l + 1) c' ∧ ∀ b, blkOf A' b → blkOf A b ∨ b = w2.heap.size) ∧ Upd w2 w' (blkOf A)) := by
  obtain ⟨rows, Fs, g1, h2, h3, h4, g5, h6, h7, h8, h9, g10, h11⟩ := h
  have h1 := owns_upd g1 hE2 (fun _ h => h.elim)
  have h5 : ∀ (i : Nat) (x : α), kids[i]? = some x → R.K w2 (Fs i) x (rows.getD i []) := fun i x hx => R.upd (g5 i x hx) hE2 (no_no _)
  have h10 : top ≤ w2.heap.size := Nat.le_trans g10 hE2.size
  obtain ⟨v, w', hr, A', c', rfl, r1, r2, r3⟩ := append_row (ty := tx) (c2 := 1) T h1 (m := 1) (by rw [R.len hk, Nat.one_mul]) (cells_new hcell) (R.one hk) (by omega) (Nat.le_trans h9 h10)
  have s2 := hE2.size
  have s3 := r2.size
  have sA : ∀ b, blkOf A' b → b < w'.heap.size := fun b hb => (owns_blk r1 hb).2
  have hA' : ∀ b, blkOf A' b → (lo ≤ b ∧ b < top ∧ ¬ E b ∧ blkOf A b) ∨ b = w2.heap.size := fun b hb => by
    rcases r3 b hb with h | h
    · exact .inl ⟨(h11 b h).1, (h11 b h).2.1, (h11 b h).2.2, h⟩
    · exact .inr h
  refine ⟨_, w', hr, A', c', rfl, ⟨⟨rows ++ [cs], fun i => if i < kids.length then Fs i else Fk, by simpa using r1, ?_, by simp [h3], by simp [h4], ?_, ?_, ?_, h8, by omega, Nat.le_refl _, ?_⟩, r3⟩, r2⟩
  · intro r hr
    rcases List.mem_append.1 hr with hr | hr
    · exact h2 r hr
    · cases List.mem_singleton.1 hr; exact R.len hk
  · intro i y hy
    by_cases hi : i < kids.length
    · simp only [hi, if_true]
      rw [List.getElem?_append_left hi] at hy
      rw [List.getD_eq_getElem?_getD, List.getElem?_append_left (by omega), ← List.getD_eq_getElem?_getD]
      exact R.upd (h5 i y hy) r2 fun b hb hS => (h6 i b hi hb).2 hS
    · simp only [hi, if_false]
      have hik : i = kids.length := by
        have := (List.getElem?_eq_some_iff.1 hy).1
        simp at this; omega
      subst hik
      rw [List.getElem?_append_right (Nat.le_refl _)] at hy
      simp only [Nat.sub_self, List.getElem?_cons_zero, Option.some.injEq] at hy
      subst hy
      rw [List.getD_eq_getElem?_getD, List.getElem?_append_right (by omega), h4, Nat.sub_self]
      refine R.upd (R.upd hk hE2 (no_no _)) r2 fun b hb hS => ?_
      have := h11 b hS
      rcases hF b hb with ⟨_, h⟩ | h
      · have := h8 b h; omega
      · omega
  · intro i b hi hb
    by_cases hik : i < kids.length
    · simp only [hik, if_true] at hb
      obtain ⟨q1, q2⟩ := h6 i b hik hb
      refine ⟨q1.imp (fun h => h) fun h => ⟨h.1, by omega, h.2.2⟩, fun hc => ?_⟩
      rcases hA' b hc with ⟨_, _, _, h⟩ | h
      · exact q2 h
      · rcases q1 with ⟨_, q⟩ | q
        · have := h8 b q; omega
        · omega
    · simp only [hik, if_false] at hb
      rcases hF b hb with ⟨q, q'⟩ | q
      · refine ⟨.inl ⟨q, q'⟩, fun hc => ?_⟩
        have := h8 b q'
        rcases hA' b hc with ⟨_, _, _⟩ | _ <;> omega
      · refine ⟨.inr ⟨by omega, by omega, q.2.2⟩, fun hc => ?_⟩
        rcases hA' b hc with ⟨_, _, _⟩ | _ <;> omega
  · intro ho i j b hij hj hb
    simp only [List.length_append, List.length_singleton] at hj
    have hi : i < kids.length := by omega
    simp only [hi, if_true] at hb
    by_cases hjk : j < kids.length
    · simp only [hjk, if_true]; exact h7 ho i j b hij hjk hb
    · simp only [hjk, if_false]
      intro hc
      rcases (h6 i b hi hb).1 with ⟨q, _⟩ | q
      · rw [ho] at q; cases q
      · rcases hF b hc with ⟨q2, _⟩ | q2
        · rw [ho] at q2; cases q2
        · omega
  · intro b hb
    have := sA b hb
    rcases hA' b hb with ⟨q1, q2, q3, _⟩ | h
    · exact ⟨q1, by omega, q3⟩
    · exact ⟨by omega, by omega, fun he => by have := hEt b he; omega⟩
def ndRel (o : Bool) : Rel Nd 4 where
  K := fun w F n cs => NdG w o F n cs
  upd := fun h k hs => NdG.upd h k hs
  len := fun h => by obtain ⟨A, l, c, rfl, _⟩ := NdG.kids h; rfl
  one := fun h u hu => by
    obtain ⟨A, l, c, rfl, _⟩ := NdG.kids h
    simp only [ndV, List.mem_cons, List.not_mem_nil, or_false] at hu
    rcases hu with rfl | rfl | rfl | rfl <;> rfl
abbrev NdsB (w : World) (o : Bool) (lo top : Nat) (G E : Nat → Prop) (kids : List Nd) (A : Option Addr) (l c : Nat) : Prop := RowB (ndRel o) 24 w o lo top G E kids A l c
theorem nds_of {w : World} {o : Bool} {F : Nat → Prop} {kids : List Nd} {A : Option Addr} {l c : Nat} (h : RowsG (ndRel o) 24 w o F kids A l c) : NdsG w o F kids A l c := h
def flatRel {α : Type} {z : Nat} (enc : α → List Value) (h1 : ∀ x, (enc x).length = z) (h2 : ∀ x, ∀ u ∈ enc x, u.oneCell' = true) : Rel α z where
  K := fun _ _ x cs => cs = enc x
  upd := fun h _ _ => h
  len := fun h => by rw [h]; exact h1 _
  one := fun h u hu => by rw [h] at hu; exact h2 _ u hu
theorem flat_rows {α : Type} {enc : α → List Value} {xs : List α} {rows : List (List Value)} (hl : rows.length = xs.length) (h : ∀ (i : Nat) (x : α), xs[i]? = some x → rows.getD i [] = enc x) : rows = xs.map enc := by
  apply List.ext_getElem (by simpa using hl)
  intro i hi hj
  have hz : i < xs.length := by simpa using hj
  have := h i xs[i] (List.getElem?_eq_getElem hz)
  rw [List.getD_eq_getElem?_getD, List.getElem?_eq_getElem hi, Option.getD_some] at this
  rw [this]; simp
theorem flat_of {α : Type} {z : Nat} {enc : α → List Value} {h1 : ∀ x, (enc x).length = z} {h2 : ∀ x, ∀ u ∈ enc x, u.oneCell' = true} {o : Bool} {ty : Nat} {w : World} {F : Nat → Prop} {xs : List α} {A : Option Addr} {l c : Nat}
    (h : RowsG (flatRel enc h1 h2) ty w o F xs A l c) : RowIn w F z A l c (xs.map enc) := by
  obtain ⟨rows, Fs, q1, q2, q3, _⟩ := h
  rw [flat_rows q2 q3] at q1; exact q1
theorem append_zero {P : Program} {t e z sz : Nat} (T : SlT P t e z sz) {w : World} {ty : Nat} {A B : Option Addr} {l c c2 : Nat} (hc : l ≤ c) :
    (Builtin.append_ #[t, t] ty #[.slice A l c, .slice B 0 c2]).run P w = .ok (.slice A l c) w := by
  obtain ⟨ht, ⟨i, zv, hi, hz, hsz, hby, hzs⟩, _, _⟩ := T
  cases A <;> cases B <;> simp [Builtin.append_, run_underlying ht, sizeOf, typeInfo, hi, Builtin.lenOf, Builtin.firstCells, hc, storeCells, loadCells, loadCellsFrom]
theorem append_none {P : Program} {t e z sz : Nat} (T : SlT P t e z sz) {w : World} {ty : Nat} {A : Option Addr} {l c c2 : Nat} (hc : l ≤ c) :
    (Builtin.append_ #[t, t] ty #[.slice A l c, .slice none 0 c2]).run P w = .ok (.slice A l c) w := by
  obtain ⟨ht, ⟨i, zv, hi, hz, hsz, hby, hzs⟩, _, _⟩ := T
  cases A <;> simp [Builtin.append_, run_underlying ht, sizeOf, typeInfo, hi, Builtin.lenOf, Builtin.firstCells, hc, storeCells]
theorem flat_cells {α : Type} {z : Nat} {enc : α → List Value} (hz : 0 < z) {w : World} {F : Nat → Prop} {ys : List α} {a : Addr} {bl bc : Nat} (hx : RowIn w F z (some a) bl bc (ys.map enc)) :
    (ys.map enc).flatten.length = bl * z ∧ CellsIn w a (ys.map enc).flatten := by
  have hlen := hx.len
  have hel : ∀ r ∈ ys.map enc, r.length = z := hx.els
  have hfl : (ys.map enc).flatten.length = bl * z := by rw [flatten_len hel, ← hlen]
  refine ⟨hfl, ⟨fun j u hj => ?_⟩⟩
  have hjl : j < bl * z := by rw [← hfl]; exact (List.getElem?_eq_some_iff.1 hj).1
  have hi : j / z < bl := Nat.div_lt_of_lt_mul (by rw [Nat.mul_comm]; exact hjl)
  have hi2 : j / z < (ys.map enc).length := Nat.lt_of_lt_of_eq hi hlen
  have hne : ys.map enc ≠ [] := fun he => by rw [he] at hi2; exact absurd hi2 (Nat.not_lt_zero _)
  obtain ⟨ad, e1, _, e3⟩ := hx.at_ hne
  cases e1
  have hr : (ys.map enc)[j / z]? = some (ys.map enc)[j / z] := List.getElem?_eq_getElem hi2
  have hrl := hel _ (List.getElem_mem hi2)
  have hm : j % z < ((ys.map enc)[j / z]'hi2).length := by rw [hrl]; exact Nat.mod_lt _ hz
  have hu := flatten_get hel hr (List.getElem?_eq_getElem hm)
  have hdm : j / z * z + j % z = j := by rw [Nat.mul_comm]; exact Nat.div_add_mod j z
  rw [hdm, hj] at hu
  have := (e3 _ _ hr).out (j % z) u (by rw [List.getElem?_eq_getElem hm]; exact hu.symm)
  rw [Addr.add_add, hdm] at this
  exact this
theorem append_fresh {α : Type} {z : Nat} {enc : α → List Value} {h1 : ∀ x, (enc x).length = z} {h2 : ∀ x, ∀ u ∈ enc x, u.oneCell' = true} {P : Program} {t sz ty tx : Nat} (T : SlT P t ty z sz) {w : World} {o : Bool} {F : Nat → Prop} {ys : List α} {a : Addr} {B : Option Addr} {bl bc : Nat}
    (hx : RowIn w F z B bl bc (ys.map enc)) (h0 : 0 < bl) (hs : bl ≤ 2 ^ 34) :
    RunsTo P (Builtin.append_ #[t, t] tx #[.slice (some a) 0 0, .slice B bl bc]) w (fun v w' => ∃ A' c', v = .slice A' bl c' ∧ RowB (flatRel enc h1 h2) ty w' o w.heap.size w'.heap.size no no ys A' bl c' ∧ Ext w w') := by
  have hlen := hx.len
  have hne : ys.map enc ≠ [] := fun he => by rw [he] at hlen; simp at hlen; omega
  obtain ⟨b, rfl, _⟩ := hx.at_ hne
  obtain ⟨hfl, hcells⟩ := flat_cells T.pos hx
  obtain ⟨ht, ⟨i, zv, hi, hz, hsz, hby, hzs⟩, hpos, hsm⟩ := T
  have hb : (0 + bl) * sz ≤ 140737488355328 := by
    have := Nat.mul_le_mul (by omega : 0 + bl ≤ 2 ^ 34) hsm
    omega
  obtain ⟨v', w', q1, q2, q3⟩ := run_append_arg_grows (P := P) w t tx ty i zv z sz ht hi hz hsz hby hzs hpos a 0 0 [] (by simp) (fun j u h => nomatch h) b bl bc _ hfl hcells.out (by omega) (by simp only [maxLen]; omega) hb
  rw [Nat.zero_add, List.nil_append] at q2
  rcases q2.2 with ⟨rfl, h0'⟩ | ⟨g, cap, cur, rfl, hgb, hh, hn, hm, hcs, htk⟩
  · omega
  · refine ⟨_, w', q1, _, _, rfl, ⟨ys.map enc, fun _ _ => False, q2, hx.els, hlen, by simp, fun i x hx => ?_, fun _ _ _ h => h.elim, fun _ _ _ _ _ _ h => h.elim, fun _ h => h.elim, q3.size, Nat.le_refl _, fun b hb => ?_⟩, ⟨q3.os, q3.tape, q3.output, q3.size, fun k hk _ => q3.block k hk (fun h => nomatch h)⟩⟩
    · show (ys.map enc).getD i [] = enc x
      rw [List.getD_eq_getElem?_getD, List.getElem?_map, hx]; rfl
    · cases hb; exact ⟨hgb, lt_of_get hh, fun h => h⟩
theorem RowB.app {α : Type} {z : Nat} {enc : α → List Value} {h1 : ∀ x, (enc x).length = z} {h2 : ∀ x, ∀ u ∈ enc x, u.oneCell' = true} {P : Program} {t sz ty tx : Nat} (T : SlT P t ty z sz) {w : World} {o : Bool} {lo top : Nat} {G E F : Nat → Prop} {xs ys : List α} {A B : Option Addr} {l c bl bc : Nat}
    (h : RowB (flatRel enc h1 h2) ty w o lo top G E xs A l c) (hx : RowIn w F z B bl bc (ys.map enc)) (hs : l + bl ≤ 2 ^ 34) (hEt : ∀ b, E b → b < w.heap.size) :
    RunsTo P (Builtin.append_ #[t, t] tx #[.slice A l c, .slice B bl bc]) w (fun v w' => ∃ A' c', v = .slice A' (l + bl) c' ∧ (RowB (flatRel enc h1 h2) ty w' o lo w'.heap.size G E (xs ++ ys) A' (l + bl) c' ∧ ∀ b, blkOf A' b → blkOf A b ∨ b = w.heap.size) ∧ Upd w w' (blkOf A)) := by
  have hcap := h.cap
  have hlen := hx.len
  cases B with
  | none =>
    have hys : ys = [] := by
      rcases ys with _ | ⟨y, ys⟩
      · rfl
      · obtain ⟨ad, e, _⟩ := hx.at_ (by simp)
        cases e
    subst hys
    simp at hlen
    subst hlen
    refine ⟨_, w, append_none T hcap, A, c, rfl, ⟨?_, fun b hb => .inl hb⟩, Upd.refl _ _⟩
    rw [List.append_nil]
    exact h.re h.los.2 (Nat.le_refl _) (fun b hb => .inl hb)
  | some a =>
    obtain ⟨rows, Fs, g1, g2, g3, g4, g5, g6, g7, g8, g9, g10, g11⟩ := h
    have hrows := flat_rows g4 g5
    subst hrows
    obtain ⟨hfl, hcells⟩ := flat_cells T.pos hx
    obtain ⟨v, w', hr, A', c', rfl, r1, r2, r3⟩ := append_row (ty := tx) (c2 := bc) T g1 (m := bl) hfl hcells (fun u hu => by
      obtain ⟨r, hr, hu⟩ := List.mem_flatten.1 hu
      obtain ⟨x, _, rfl⟩ := List.mem_map.1 hr
      exact h2 x u hu) hs (Nat.le_trans g9 g10)
    have s3 := r2.size
    have sA : ∀ b, blkOf A' b → b < w'.heap.size := fun b hb => (owns_blk r1 hb).2
    refine ⟨_, w', hr, A', c', rfl, ⟨⟨(xs ++ ys).map enc, fun _ _ => False, by simpa using r1, fun r hr => ?_, by simp at g3 hlen ⊢; omega, by simp, fun i x hx => ?_, fun _ _ _ h => h.elim, fun _ _ _ _ _ _ h => h.elim, g8, by omega, Nat.le_refl _, fun b hb => ?_⟩, r3⟩, r2⟩
    · obtain ⟨x, _, rfl⟩ := List.mem_map.1 hr
      exact h1 x
    · show ((xs ++ ys).map enc).getD i [] = enc x
      rw [List.getD_eq_getElem?_getD, List.getElem?_map, hx]; rfl
    · have := sA b hb
      rcases r3 b hb with q | q
      · have := g11 b q; exact ⟨this.1, by omega, this.2.2⟩
      · exact ⟨by omega, by omega, fun he => by have := hEt b he; omega⟩
def intE (x : Int) : List Value := [.int .i64 x]
def intRel : Rel Int 1 := flatRel intE (fun _ => rfl) (fun x u hu => by cases List.mem_singleton.1 hu; rfl)
abbrev IntsB (w : World) (lo top : Nat) (G E : Nat → Prop) (zs : List Int) (A : Option Addr) (l c : Nat) : Prop := RowB intRel 3 w true lo top G E zs A l c
theorem ints_of {o : Bool} {ty : Nat} {w : World} {F : Nat → Prop} {zs : List Int} {A : Option Addr} {l c : Nat} (h : RowsG intRel ty w o F zs A l c) : IntsR w F zs A l c := flat_of h
end
section
open Go
abbrev ndA (n : Nd) (A : Option Addr) (l c : Nat) : Value := .agg #[.int .i64 n.k, .int .i64 n.n, .string n.s, .slice A l c]
def outL : List Nat → Nat → Nat → Prop
  | [], _, _ => True
  | i :: r, lo, top => (i < lo ∨ top ≤ i) ∧ outL r lo top
theorem away_rng {S : Nat → Prop} {lo top : Nat} (h : ∀ b, S b → lo ≤ b ∧ b < top) : ∀ {ids : List Nat}, outL ids lo top → Away ids S
  | [], _ => ⟨trivial⟩
  | i :: r, h2 => ⟨⟨fun hS => by have := h i hS; have := h2.1; omega, (away_rng h h2.2).out⟩⟩
theorem away_of {S : Nat → Prop} : ∀ {ids : List Nat}, (∀ i, i ∈ ids → ¬ S i) → Away ids S
  | [], _ => ⟨trivial⟩
  | i :: r, h => ⟨⟨h i List.mem_cons_self, (away_of fun j hj => h j (List.mem_cons_of_mem _ hj)).out⟩⟩
section
variable {P : Program} {f : Nat} {args : Array Value} {w : World} {X : ContX} {ids : List Nat}
theorem callN {T : World → Option Addr → Nat → Nat → Prop} {n : Nd} (h : CallsX P f args w (fun v w' => ∃ A l c, v = ndA n A l c ∧ T w' A l c ∧ Ext w w') never)
    {K : Int → Int → ByteArray → Option Addr → Nat → Nat → World → Prop} (k : ∀ A l c w2, Ext w w2 → T w2 A l c → K n.k n.n n.s A l c w2) :
    ∃ (R : Value → World → Prop) (X' : ContX), CallsX P f args w R X' ∧ (∀ v w2, R v w2 → ∃ x4 x5, ∃ x6 a2, ∃ n2 c2, v = .agg #[.int .i64 x4, .int .i64 x5, .string x6, .slice a2 n2 c2] ∧ ∃ S, Upd w w2 S ∧ Away ids S ∧ K x4 x5 x6 a2 n2 c2 w2) ∧ ∀ ch w2, X' ch w2 → X ch w2 :=
  ⟨_, _, h, fun _ w2 ⟨A, l, c, hv, hT, hE⟩ => ⟨_, _, _, _, _, _, hv, no, hE, Away.no _, k A l c w2 hE hT⟩, never_any⟩
theorem callS {T : World → Option Addr → Nat → Nat → Prop} (h : CallsX P f args w (fun v w' => ∃ A l c, v = .slice A l c ∧ T w' A l c ∧ Ext w w') never)
    {K : Option Addr → Nat → Nat → World → Prop} (k : ∀ A l c w2, Ext w w2 → T w2 A l c → K A l c w2) :
    ∃ (R : Value → World → Prop) (X' : ContX), CallsX P f args w R X' ∧ (∀ v w2, R v w2 → ∃ a2 n2 c2, v = .slice a2 n2 c2 ∧ ∃ S, Upd w w2 S ∧ Away ids S ∧ K a2 n2 c2 w2) ∧ ∀ ch w2, X' ch w2 → X ch w2 :=
  ⟨_, _, h, fun _ w2 ⟨A, l, c, hv, hT, hE⟩ => ⟨_, _, _, hv, no, hE, Away.no _, k A l c w2 hE hT⟩, never_any⟩
theorem pushVC {sm : Sem Value} {A : Option Addr} {l : Nat} {Q : World → Option Addr → Nat → Prop} (h : RunsTo P sm w (fun v w' => ∃ A' c', v = .slice A' l c' ∧ Q w' A' c' ∧ Upd w w' (blkOf A))) (haw : Away ids (blkOf A))
    {K : Option Addr → Nat → Nat → World → Prop} (k : ∀ A' c' w', Q w' A' c' → Upd w w' (blkOf A) → K A' l c' w') :
    ∃ R : Value → World → Prop, RunsTo P sm w R ∧ ∀ v w', R v w' → ∃ a n c, v = .slice a n c ∧ ∃ S, Upd w w' S ∧ Away ids S ∧ K a n c w' :=
  ⟨_, h, fun _ w' ⟨A', c', hv, hQ, hU⟩ => ⟨A', l, c', hv, _, hU, haw, k A' c' w' hQ hU⟩⟩
end
section
variable {α : Type} {ρ : Type} {kids : List α} {l : Nat} {w0 w1 : World}
theorem loop0 (hl : l = kids.length) (hlt : l < 2 ^ 48) (hE : Ext w0 w1) (g : Nat → List α → ρ)
    {B : (Int → World → Prop) → (Int → Nat) → Int → World → Prop} {C : World → Prop}
    (step : ∀ (I : Int → World → Prop) (m : Int → Nat) (j : Nat) (w2 : World) (hj : j < kids.length), g j (kids[j] :: kids.drop (j + 1)) = g 0 kids → Ext w0 w2 →
      (∀ w3, g (j + 1) (kids.drop (j + 1)) = g 0 kids → Ext w0 w3 → I (w64 ((j : Int) + 1)) w3 ∧ m (w64 ((j : Int) + 1)) < m (j : Int)) → B I m (j : Int) w2)
    (rest : ∀ w2, g kids.length [] = g 0 kids → Ext w0 w2 → C w2) :
    ∃ (I : Int → World → Prop) (m : Int → Nat), I 0 w1 ∧ ∀ (_ : Nat → Value) (x : Int) (w2 : World), I x w2 → (decide (x < (l : Int)) = true → B I m x w2) ∧ (decide (x < (l : Int)) = false → C w2) := by
  refine ⟨fun x w2 => ∃ j : Nat, x = j ∧ j ≤ kids.length ∧ g j (kids.drop j) = g 0 kids ∧ Ext w0 w2, fun x => ((kids.length : Int) - x).toNat, ⟨0, rfl, Nat.zero_le _, by simp, hE⟩, ?_⟩
  rintro _ _ w2 ⟨j, rfl, hj, hg, hE2⟩
  refine ⟨fun hlt2 => ?_, fun hge => ?_⟩
  · have hjl : j < kids.length := by simp at hlt2; omega
    refine step _ _ j w2 hjl (by rw [← drop_cons hjl]; exact hg) hE2 fun w3 hg3 hE3 => ?_
    rw [w64_succ (by omega)]
    exact ⟨⟨j + 1, rfl, hjl, hg3, hE3⟩, mea_succ hjl⟩
  · have : j = kids.length := by simp at hge; omega
    subst this
    exact rest w2 (by rw [← hg, List.drop_length]) hE2
theorem loop1 {β : Type} {a0 : β} (hl : l = kids.length) (hlt : l < 2 ^ 48) (hE : Ext w0 w1) (g : Nat → β → List α → ρ)
    {B : (β → Int → World → Prop) → (β → Int → Nat) → β → Int → World → Prop} {C : β → World → Prop}
    (step : ∀ (I : β → Int → World → Prop) (m : β → Int → Nat) (x : β) (j : Nat) (w2 : World) (hj : j < kids.length), g j x (kids[j] :: kids.drop (j + 1)) = g 0 a0 kids → Ext w0 w2 →
      (∀ x' w3, g (j + 1) x' (kids.drop (j + 1)) = g 0 a0 kids → Ext w0 w3 → I x' (w64 ((j : Int) + 1)) w3 ∧ m x' (w64 ((j : Int) + 1)) < m x (j : Int)) → B I m x (j : Int) w2)
    (rest : ∀ x w2, g kids.length x [] = g 0 a0 kids → Ext w0 w2 → C x w2) :
    ∃ (I : β → Int → World → Prop) (m : β → Int → Nat), I a0 0 w1 ∧ ∀ (_ : Nat → Value) (x : β) (i : Int) (w2 : World), I x i w2 → (decide (i < (l : Int)) = true → B I m x i w2) ∧ (decide (i < (l : Int)) = false → C x w2) := by
  refine ⟨fun y x w2 => ∃ j : Nat, x = j ∧ j ≤ kids.length ∧ g j y (kids.drop j) = g 0 a0 kids ∧ Ext w0 w2, fun _ x => ((kids.length : Int) - x).toNat, ⟨0, rfl, Nat.zero_le _, by simp, hE⟩, ?_⟩
  rintro _ y _ w2 ⟨j, rfl, hj, hg, hE2⟩
  refine ⟨fun hlt2 => ?_, fun hge => ?_⟩
  · have hjl : j < kids.length := by simp at hlt2; omega
    refine step _ _ y j w2 hjl (by rw [← drop_cons hjl]; exact hg) hE2 fun x' w3 hg3 hE3 => ?_
    rw [w64_succ (by omega)]
    exact ⟨⟨j + 1, rfl, hjl, hg3, hE3⟩, mea_succ hjl⟩
  · have : j = kids.length := by simp at hge; omega
    subst this
    exact rest y w2 (by rw [← hg, List.drop_length]) hE2
theorem loopB {σ : Type} {s0 : σ} (J : σ → Option Addr → Nat → Nat → World → Prop) (hl : l = kids.length) (hlt : l < 2 ^ 48) (g : Nat → σ → List α → ρ) (h0 : J s0 none 0 0 w1)
    {B : (Int → Option Addr → Nat → Nat → World → Prop) → (Int → Option Addr → Nat → Nat → Nat) → Int → Option Addr → Nat → Nat → World → Prop} {C : Option Addr → Nat → Nat → World → Prop}
    (step : ∀ (I : Int → Option Addr → Nat → Nat → World → Prop) (m : Int → Option Addr → Nat → Nat → Nat) (s : σ) (j : Nat) (A : Option Addr) (n c : Nat) (w2 : World) (hj : j < kids.length), g j s (kids[j] :: kids.drop (j + 1)) = g 0 s0 kids → J s A n c w2 →
      (∀ s' A' n' c' w3, g (j + 1) s' (kids.drop (j + 1)) = g 0 s0 kids → J s' A' n' c' w3 → I (w64 ((j : Int) + 1)) A' n' c' w3 ∧ m (w64 ((j : Int) + 1)) A' n' c' < m (j : Int) A n c) → B I m (j : Int) A n c w2)
    (rest : ∀ s A n c w2, g kids.length s [] = g 0 s0 kids → J s A n c w2 → C A n c w2) :
    ∃ (I : Int → Option Addr → Nat → Nat → World → Prop) (m : Int → Option Addr → Nat → Nat → Nat), I 0 none 0 0 w1 ∧
      ∀ (_ : Nat → Value) (i : Int) (A : Option Addr) (n c : Nat) (w2 : World), I i A n c w2 → (decide (i < (l : Int)) = true → B I m i A n c w2) ∧ (decide (i < (l : Int)) = false → C A n c w2) := by
  refine ⟨fun x A n c w2 => ∃ (j : Nat) (s : σ), x = j ∧ j ≤ kids.length ∧ g j s (kids.drop j) = g 0 s0 kids ∧ J s A n c w2, fun x _ _ _ => ((kids.length : Int) - x).toNat, ⟨0, s0, rfl, Nat.zero_le _, by simp, h0⟩, ?_⟩
  rintro _ _ A n c w2 ⟨j, s, rfl, hj, hg, hJ⟩
  refine ⟨fun hlt2 => ?_, fun hge => ?_⟩
  · have hjl : j < kids.length := by simp at hlt2; omega
    refine step _ _ s j A n c w2 hjl (by rw [← drop_cons hjl]; exact hg) hJ fun s' A' n' c' w3 hg3 hJ3 => ?_
    rw [w64_succ (by omega)]
    exact ⟨⟨j + 1, s', rfl, hjl, hg3, hJ3⟩, mea_succ hjl⟩
  · have : j = kids.length := by simp at hge; omega
    subst this
    exact rest s A n c w2 (by rw [← hg, List.drop_length]) hJ
end
end
section
open Go
structure Pl where
  root : Nd
  cells : List Int
mutual
def weigh : Nd → Int → Int
  | .mk _ _ _ l, left => weighL (w64 (left - 1)) l
def weighL : Int → List Nd → Int
  | left, [] => left
  | left, x :: l => if left ≥ 0 then weighL (weigh x left) l else left
end
def heavy (p : Pl) : Bool := if p.cells.length > 20000 then true else decide (weigh p.root 20000 < 0)
mutual
def parts : Nd → Int
  | .mk _ _ _ l => partsL 1 l
def partsL : Int → List Nd → Int
  | o, [] => o
  | o, x :: l => partsL (w64 (o + parts x)) l
end
mutual
def sameNd : Nd → Nd → Bool
  | .mk k n s l, .mk k2 n2 s2 l2 => if k != k2 then false else if n != n2 then false else if !strEq s s2 then false else if (l.length : Int) != l2.length then false else sameNds l l2
def sameNds : List Nd → List Nd → Bool
  | [], _ => true
  | x :: l, y :: l2 => if !sameNd x y then false else sameNds l l2
  | _ :: _, [] => true
end
def sameInts : List Int → List Int → Bool
  | [], _ => true
  | x :: l, y :: l2 => if x != y then false else sameInts l l2
  | _ :: _, [] => true
def numbers (a b : List Int) : Bool := if (a.length : Int) != b.length then false else sameInts a b
mutual
def roundsN : Nd → Bool
  | .mk k _ _ l => if k == 21 then true else roundsL l
def roundsL : List Nd → Bool
  | [] => false
  | x :: l => if roundsN x then true else roundsL l
end
mutual
def hangs (a : Int) : Nd → Int
  | .mk k n _ l => hangsL a (if k == 5 then if n < a then w64 (n + 1) else 0 else 0) l
def hangsL (a : Int) : Int → List Nd → Int
  | h, [] => h
  | h, x :: l => hangsL a (if hangs a x > h then hangs a x else h) l
end
mutual
def stands : Nd → Int → Bool
  | .mk k n s l, a => if k == 26 then true else if decide (a > 0) && (k == 20 || k == 21) && decide (hangs a (.mk k n s l) < a) then false else standsL k a 0 l
def standsL (k a : Int) : Int → List Nd → Bool
  | _, [] => true
  | i, x :: l => if !stands x (w64 (a + if k == 21 && i == 1 then 1 else 0)) then false else standsL k a (w64 (i + 1)) l
end
end
section
end
end Go.Vx
namespace Go.Vx.Tryz
open Go Go.Vx Go.Proofs
theorem weigh_c (N : Nat) : ∀ (n : Nd), n.size ≤ N → ∀ {w : World} {F : Nat → Prop} {A : Option Addr} {l c : Nat} (a : Int), NdsR w F n.kids A l c →
    CallsX E.P 14 #[ndA n A l c, .int .i64 a] w (IsV (.int .i64 (weigh n a)) w) never := by
  induction N with
  | zero => intro n hn; cases n; simp [Nd.size] at hn
  | succ N ih =>
    intro n hn w F A l c a hr
    obtain ⟨k, n0, s, kids⟩ := n
    refine vc24 ?_
    intro id hid w1 hE hid1
    refine loop1 hr.len hr.lt hE (fun _ => weighL) (fun I m x j w2 hj hg hE2 k => ?_) (fun x w2 hg hE2 => ?_)
    · rw [weighL] at hg
      refine ⟨fun hc => ?_, fun hc => ?_⟩
      · rw [if_pos (by simpa using hc)] at hg
        refine hr.idx hj fun ad ha => (hr.ext hE2).cell ha hj fun A1 l1 c1 h1 => ?_
        exact callI (ih _ (by have := kid_lt hj; omega) x h1) fun w3 hE3 => k _ _ hg (hE2.trans hE3)
      · rw [if_neg (by simpa using hc)] at hg
        exact ⟨by rw [hg]; rfl, hE2⟩
    · exact ⟨by rw [weighL] at hg; rw [hg]; rfl, hE2⟩
theorem heavy_c (p : Pl) {w : World} {F G : Nat → Prop} {A : Option Addr} {l c : Nat} {B : Option Addr} {bl bc : Nat} (h : NdsR w F p.root.kids A l c) (h2 : IntsR w G p.cells B bl bc) :
    CallsX E.P 5 #[.agg #[.int .i64 p.root.k, .int .i64 p.root.n, .string p.root.s, .slice A l c, .slice B bl bc]] w (IsV (.bool (heavy p)) w) never := by
  have hl := h2.len
  refine vc8 ?_
  intro id hid
  refine ⟨fun hc w1 hE _ => ⟨?_, hE⟩, fun hc w1 hE _ => callI (weigh_c _ _ (Nat.le_refl _) _ (h.ext hE)) fun w3 hE3 => ⟨?_, hE.trans hE3⟩⟩
  · rw [heavy, if_pos (by simp at hc; omega)]
  · rw [heavy, if_neg (by simp at hc; omega)]
theorem parts_c (N : Nat) : ∀ (n : Nd), n.size ≤ N → ∀ {w : World} {F : Nat → Prop} {A : Option Addr} {l c : Nat}, NdsR w F n.kids A l c →
    CallsX E.P 6 #[ndA n A l c] w (IsV (.int .i64 (parts n)) w) never := by
  induction N with
  | zero => intro n hn; cases n; simp [Nd.size] at hn
  | succ N ih =>
    intro n hn w F A l c hr
    obtain ⟨k, n0, s, kids⟩ := n
    refine vc18 ?_
    intro id hid w1 hE hid1
    refine loop1 hr.len hr.lt hE (fun _ => partsL) (fun I m x j w2 hj hg hE2 k => ?_) (fun x w2 hg hE2 => ?_)
    · rw [partsL] at hg
      refine hr.idx hj fun ad ha => (hr.ext hE2).cell ha hj fun A1 l1 c1 h1 => ?_
      exact callI (ih _ (by have := kid_lt hj; omega) h1) fun w3 hE3 => k _ _ hg (hE2.trans hE3)
    · exact ⟨by rw [partsL] at hg; rw [hg]; rfl, hE2⟩
theorem same_c (N : Nat) : ∀ (n n2 : Nd), n.size ≤ N → ∀ {w : World} {F F2 : Nat → Prop} {A : Option Addr} {l c : Nat} {A2 : Option Addr} {l2 c2 : Nat}, NdsR w F n.kids A l c → NdsR w F2 n2.kids A2 l2 c2 →
    CallsX E.P 10 #[ndA n A l c, ndA n2 A2 l2 c2] w (IsV (.bool (sameNd n n2)) w) never := by
  induction N with
  | zero => intro n _ hn; cases n; simp [Nd.size] at hn
  | succ N ih =>
    intro n n2 hn w F F2 A l c A2 l2 c2 hr hr2
    obtain ⟨k, n0, s, kids⟩ := n
    obtain ⟨k2, n02, s2, kids2⟩ := n2
    dsimp only [ndA, Nd.k, Nd.n, Nd.s, Nd.kids] at *
    obtain rfl := hr.len
    obtain rfl := hr2.len
    refine vc33 ?_
    intro id hid id1 hid1
    rw [sameNd]
    refine ⟨fun h1 w1 hE _ _ => ⟨by simp only [h1, if_true], hE⟩, fun h1 => ⟨fun h2 w1 hE _ _ => ⟨by simp only [h1, h2, Bool.false_eq_true, if_false, if_true], hE⟩, fun h2 =>
      ⟨fun h3 w1 hE _ _ => ⟨by simp only [h1, h2, h3, Bool.false_eq_true, if_false, if_true], hE⟩, fun h3 =>
      ⟨fun h4 w1 hE _ _ => ⟨by simp only [h1, h2, h3, h4, Bool.false_eq_true, if_false, if_true], hE⟩, fun h4 w1 hE _ _ => ?_⟩⟩⟩⟩
    simp only [h1, h2, h3, h4, Bool.false_eq_true, if_false]
    have hll : kids.length = kids2.length := Int.ofNat.inj (by simpa using h4)
    refine loop0 hr.len hr.lt hE (fun j r => sameNds r (kids2.drop j)) (fun I m j w2 hj hg hE2 k => ?_) (fun w2 hg hE2 => ?_)
    · have hj2 : j < kids2.length := by rw [← hll]; exact hj
      rw [drop_cons hj2, sameNds] at hg
      refine hr.idx hj fun ad ha w3 hE3 => (hr.ext (hE2.trans hE3)).cell ha hj fun A1 l1 c1 q1 => ?_
      refine hr2.idx hj2 fun ad2 ha2 => (hr2.ext (hE2.trans hE3)).cell ha2 hj2 fun A3 l3 c3 q2 => ?_
      refine callB (ih _ _ (by have := kid_size hj; simp only [Nd.size] at hn; omega) q1 q2) fun w4 hE4 => ⟨fun h => ?_, fun h => ?_⟩ <;> simp only [h, Bool.false_eq_true, if_false, if_true] at hg
      · exact ⟨by rw [hg]; rfl, (hE2.trans hE3).trans hE4⟩
      · exact k _ hg ((hE2.trans hE3).trans hE4)
    · exact ⟨by rw [sameNds] at hg; rw [hg]; rfl, hE2⟩
end Go.Vx.Tryz
namespace Go.Vx.Tryz
open Go Go.Vx Go.Proofs
theorem Hangs_c (N : Nat) : ∀ (n : Nd), n.size ≤ N → ∀ {w : World} {F : Nat → Prop} {A : Option Addr} {l c : Nat} (a : Int), NdsR w F n.kids A l c →
    CallsX E.P 22 #[ndA n A l c, .int .i64 a] w (IsV (.int .i64 (hangs a n)) w) never := by
  induction N with
  | zero => intro n hn; cases n; simp [Nd.size] at hn
  | succ N ih =>
    intro n hn w F A l c a hr
    obtain ⟨k, n0, s, kids⟩ := n
    dsimp only [ndA, Nd.k, Nd.n, Nd.s, Nd.kids] at *
    obtain rfl := hr.len
    refine vc42 ?_
    intro id hid
    refine ⟨fun h w1 => h = (if k == 5 then if n0 < a then w64 (n0 + 1) else 0 else 0) ∧ Ext w w1, ⟨fun h1 => ⟨fun h2 w1 hE _ => ⟨?_, hE⟩, fun h2 w1 hE _ => ⟨?_, hE⟩⟩, fun h1 w1 hE _ => ⟨?_, hE⟩⟩, ?_⟩
    · rw [if_pos h1, if_pos (by simpa using h2)]
    · rw [if_pos h1, if_neg (by simpa using h2)]
    · rw [if_neg (by simpa using h1)]
    rintro _ h w1 ⟨rfl, hE⟩
    refine loop1 hr.len hr.lt hE (fun _ => hangsL a) (fun I m x j w2 hj hg hE2 k => ?_) (fun x w2 hg hE2 => ?_)
    · rw [hangsL] at hg
      refine hr.idx hj fun ad ha => (hr.ext hE2).cell ha hj fun A1 l1 c1 h1 => ?_
      exact callI (ih _ (by have := kid_size hj; simp only [Nd.size] at hn; omega) a h1) fun w3 hE3 => k _ _ hg (hE2.trans hE3)
    · exact ⟨by rw [hangsL] at hg; rw [hg]; rfl, hE2⟩
theorem phangs_c (N : Nat) : ∀ (n : Nd), n.size ≤ N → ∀ {w : World} {F : Nat → Prop} {A : Option Addr} {l c : Nat} (a : Int), NdsR w F n.kids A l c →
    CallsX E.P 120 #[ndA n A l c, .int .i64 a] w (IsV (.int .i64 (hangs a n)) w) never := by
  induction N with
  | zero => intro n hn; cases n; simp [Nd.size] at hn
  | succ N ih =>
    intro n hn w F A l c a hr
    obtain ⟨k, n0, s, kids⟩ := n
    dsimp only [ndA, Nd.k, Nd.n, Nd.s, Nd.kids] at *
    obtain rfl := hr.len
    refine vc150 ?_
    intro id hid
    refine ⟨fun h w1 => h = (if k == 5 then if n0 < a then w64 (n0 + 1) else 0 else 0) ∧ Ext w w1, ⟨fun h1 => ⟨fun h2 w1 hE _ => ⟨?_, hE⟩, fun h2 w1 hE _ => ⟨?_, hE⟩⟩, fun h1 w1 hE _ => ⟨?_, hE⟩⟩, ?_⟩
    · rw [if_pos h1, if_pos (by simpa using h2)]
    · rw [if_pos h1, if_neg (by simpa using h2)]
    · rw [if_neg (by simpa using h1)]
    rintro _ h w1 ⟨rfl, hE⟩
    refine loop1 hr.len hr.lt hE (fun _ => hangsL a) (fun I m x j w2 hj hg hE2 k => ?_) (fun x w2 hg hE2 => ?_)
    · rw [hangsL] at hg
      refine hr.idx hj fun ad ha => (hr.ext hE2).cell ha hj fun A1 l1 c1 h1 id1 hid1 w3 hE3 _ => ?_
      exact callI (ih _ (by have := kid_size hj; simp only [Nd.size] at hn; omega) a (h1.ext hE3)) fun w4 hE4 => k _ _ hg ((hE2.trans hE3).trans hE4)
    · exact ⟨by rw [hangsL] at hg; rw [hg]; rfl, hE2⟩
theorem Rounds_c (N : Nat) : ∀ (n : Nd), n.size ≤ N → ∀ {w : World} {F : Nat → Prop} {A : Option Addr} {l c : Nat}, NdsR w F n.kids A l c →
    CallsX E.P 23 #[ndA n A l c] w (IsV (.bool (roundsN n)) w) never := by
  induction N with
  | zero => intro n hn; cases n; simp [Nd.size] at hn
  | succ N ih =>
    intro n hn w F A l c hr
    obtain ⟨k, n0, s, kids⟩ := n
    dsimp only [ndA, Nd.k, Nd.n, Nd.s, Nd.kids] at *
    obtain rfl := hr.len
    refine vc126 ?_
    intro id hid
    rw [roundsN]
    refine ⟨fun h1 w1 hE _ => ⟨by rw [if_pos h1], hE⟩, fun h1 w1 hE _ => ?_⟩
    simp only [h1, Bool.false_eq_true, if_false]
    refine loop0 hr.len hr.lt hE (fun _ => roundsL) (fun I m j w2 hj hg hE2 k => ?_) (fun w2 hg hE2 => ?_)
    · rw [roundsL] at hg
      refine hr.idx hj fun ad ha => (hr.ext hE2).cell ha hj fun A1 l1 c1 h1 => ?_
      refine callB (ih _ (by have := kid_size hj; simp only [Nd.size] at hn; omega) h1) fun w3 hE3 => ⟨fun h => ?_, fun h => ?_⟩ <;> simp only [h, Bool.false_eq_true, if_false, if_true] at hg
      · exact ⟨by rw [hg], hE2.trans hE3⟩
      · exact k _ hg (hE2.trans hE3)
    · exact ⟨by rw [roundsL] at hg; rw [hg], hE2⟩
theorem rounds_c (N : Nat) : ∀ (n : Nd), n.size ≤ N → ∀ {w : World} {F : Nat → Prop} {A : Option Addr} {l c : Nat}, NdsR w F n.kids A l c →
    CallsX E.P 121 #[ndA n A l c] w (IsV (.bool (roundsN n)) w) never := by
  induction N with
  | zero => intro n hn; cases n; simp [Nd.size] at hn
  | succ N ih =>
    intro n hn w F A l c hr
    obtain ⟨k, n0, s, kids⟩ := n
    dsimp only [ndA, Nd.k, Nd.n, Nd.s, Nd.kids] at *
    obtain rfl := hr.len
    refine vc151 ?_
    intro id hid
    rw [roundsN]
    refine ⟨fun h1 w1 hE _ => ⟨by rw [if_pos h1], hE⟩, fun h1 w1 hE _ => ?_⟩
    simp only [h1, Bool.false_eq_true, if_false]
    refine callB (x := roundsL kids) (vc157 ?_) fun w2 hE2 => ⟨rfl, hE.trans hE2⟩
    refine ⟨fun v w2 => (∃ x : Int, v = .int .i64 x ∧ decide (x ≥ 0) = roundsL kids) ∧ Ext w1 w2, never, vc160 ?_, ?_, never_any⟩
    · refine loop0 hr.len hr.lt (Upd.refl _ _) (fun _ => roundsL) (fun I m j w2 hj hg hE2 k => ?_) (fun w2 hg hE2 => ?_)
      · rw [roundsL] at hg
        refine hr.idx hj fun ad ha => (hr.ext (hE.trans hE2)).cell ha hj fun A1 l1 c1 h1 => ?_
        refine callB (ih _ (by have := kid_size hj; simp only [Nd.size] at hn; omega) h1) fun w3 hE3 => ⟨fun h => ?_, fun h => ?_⟩ <;> simp only [h, Bool.false_eq_true, if_false, if_true] at hg
        · exact ⟨⟨_, rfl, by rw [← hg]; simp⟩, hE2.trans hE3⟩
        · exact k _ hg (hE2.trans hE3)
      · exact ⟨⟨_, rfl, by rw [roundsL] at hg; rw [← hg]; rfl⟩, hE2⟩
    · rintro v w2 ⟨⟨x, rfl, hx⟩, hE2⟩
      exact ⟨x, rfl, no, hE2, Away.no _, by dsimp only; rw [hx]; exact ⟨rfl, hE2⟩⟩
theorem psame_c (N : Nat) : ∀ (n n2 : Nd), n.size ≤ N → ∀ {w : World} {F F2 : Nat → Prop} {A : Option Addr} {l c : Nat} {A2 : Option Addr} {l2 c2 : Nat}, NdsR w F n.kids A l c → NdsR w F2 n2.kids A2 l2 c2 →
    CallsX E.P 26 #[ndA n A l c, ndA n2 A2 l2 c2] w (IsV (.bool (sameNd n n2)) w) never := by
  induction N with
  | zero => intro n _ hn; cases n; simp [Nd.size] at hn
  | succ N ih =>
    intro n n2 hn w F F2 A l c A2 l2 c2 hr hr2
    obtain ⟨k, n0, s, kids⟩ := n
    obtain ⟨k2, n02, s2, kids2⟩ := n2
    dsimp only [ndA, Nd.k, Nd.n, Nd.s, Nd.kids] at *
    obtain rfl := hr.len
    obtain rfl := hr2.len
    refine vc44 ?_
    intro id hid id1 hid1
    rw [sameNd]
    refine ⟨fun h1 => ⟨fun h2 => ⟨fun h3 w1 hE _ _ => ?_, fun h3 w1 hE _ _ => ⟨by simp [bne, h1, h2, h3], hE⟩⟩, fun h2 w1 hE _ _ => ⟨by simp [bne, h1, h2], hE⟩⟩, fun h1 w1 hE _ _ => ⟨by simp [bne, h1], hE⟩⟩
    refine callB (x := if (kids.length : Int) != kids2.length then false else sameNds kids kids2) (vc62 ?_) fun w2 hE2 => ⟨by simp [bne, h1, h2, h3], hE.trans hE2⟩
    refine ⟨fun h4 => ⟨by rw [if_pos h4], Upd.refl _ _⟩, fun h4 => ?_⟩
    simp only [h4, Bool.false_eq_true, if_false]
    have hll : kids.length = kids2.length := Int.ofNat.inj (by simpa using h4)
    refine loop0 hr.len hr.lt (Upd.refl _ _) (fun j r => sameNds r (kids2.drop j)) (fun I m j w2 hj hg hE2 k => ?_) (fun w2 hg hE2 => ?_)
    · have hj2 : j < kids2.length := by rw [← hll]; exact hj
      rw [drop_cons hj2, sameNds] at hg
      refine hr.idx hj fun ad ha => (hr.ext (hE.trans hE2)).cell ha hj fun A1 l1 c1 q1 id2 hid2 => ?_
      refine hr2.idx hj2 fun ad2 ha2 w3 hE3 _ => (hr2.ext ((hE.trans hE2).trans hE3)).cell ha2 hj2 fun A3 l3 c3 q2 id3 hid3 w4 hE4 _ => ?_
      refine callB (ih _ _ (by have := kid_size hj; simp only [Nd.size] at hn; omega) ((q1.ext hE3).ext hE4) (q2.ext hE4)) fun w5 hE5 => ⟨fun h => ?_, fun h => ?_⟩ <;> simp only [h, Bool.false_eq_true, if_false, if_true] at hg
      · exact ⟨by rw [hg]; rfl, ((hE2.trans hE3).trans hE4).trans hE5⟩
      · exact k _ hg (((hE2.trans hE3).trans hE4).trans hE5)
    · exact ⟨by rw [sameNds] at hg; rw [hg]; rfl, hE2⟩
end Go.Vx.Tryz
namespace Go.Vx
open Go
section
def spare : List Value := [.int .i64 (-7), .int .i64 0, .string (ByteArray.mk #[]), .slice none 0 0]
inductive LtR (w : World) : (Nat → Prop) → Nd → List Value → Prop
  | mk (F : Nat → Prop) (k n : Int) (s : ByteArray) (kids : List Nd) (A : Option Addr) (l c : Nat) (rows : List (List Value)) (Fs : Nat → Nat → Prop) :
      RowIn w F 4 A (l + 1) c rows → rows.length = kids.length + 1 →
      (∀ (i : Nat) (x : Nd), kids[i]? = some x → LtR w (Fs i) x (rows.getD i [])) → rows.getD kids.length [] = spare →
      (∀ i b, i < kids.length → Fs i b → F b) →
      LtR w F (.mk k n s kids) [.int .i64 k, .int .i64 n, .string s, .slice A l c]
def LtsR (w : World) (F : Nat → Prop) (kids : List Nd) (A : Option Addr) (l c : Nat) : Prop :=
  ∃ (rows : List (List Value)) (Fs : Nat → Nat → Prop), RowIn w F 4 A (l + 1) c rows ∧ rows.length = kids.length + 1 ∧ (∀ (i : Nat) (x : Nd), kids[i]? = some x → LtR w (Fs i) x (rows.getD i [])) ∧ rows.getD kids.length [] = spare ∧
    (∀ i b, i < kids.length → Fs i b → F b)
theorem LtR.kids {w : World} {F : Nat → Prop} {n : Nd} {cs : List Value} (h : LtR w F n cs) : ∃ A l c, cs = ndV n A l c ∧ LtsR w F n.kids A l c := by
  cases h with
  | mk F k n s kids A l c rows Fs h1 h2 h3 h4 h5 => exact ⟨A, l, c, rfl, rows, Fs, h1, h2, h3, h4, h5⟩
theorem LtsR.node {w : World} {F : Nat → Prop} {n : Nd} {A : Option Addr} {l c : Nat} (h : LtsR w F n.kids A l c) : LtR w F n (ndV n A l c) := by
  obtain ⟨rows, Fs, h1, h2, h3, h4, h5⟩ := h
  cases n with
  | mk k n s kids => exact .mk F k n s kids A l c rows Fs h1 h2 h3 h4 h5
theorem LtR.upd {w w' : World} {F S : Nat → Prop} {n : Nd} {cs : List Value} (h : LtR w F n cs) (k : Upd w w' S) (hs : ∀ b, F b → ¬ S b) : LtR w' F n cs := by
  induction h with
  | mk F k0 n s kids A l c rows Fs hr hl hk hsp hF ih =>
    exact .mk _ _ _ _ _ _ _ _ rows Fs (hr.upd k hs) hl (fun i x hx => ih i x hx (fun b hb => hs b (hF i b (List.getElem?_eq_some_iff.1 hx).1 hb))) hsp hF
theorem LtsR.upd {w w' : World} {F S : Nat → Prop} {kids : List Nd} {A : Option Addr} {l c : Nat} (h : LtsR w F kids A l c) (k : Upd w w' S) (hs : ∀ b, F b → ¬ S b) : LtsR w' F kids A l c := by
  obtain ⟨A', l', c', e, h'⟩ := ((LtsR.node (n := .mk 0 0 ByteArray.empty kids) h).upd k hs).kids
  simp only [ndV, List.cons.injEq, Value.slice.injEq, true_and, and_true] at e
  obtain ⟨rfl, rfl, rfl⟩ := e
  exact h'
theorem LtsR.ext {w w' : World} {F : Nat → Prop} {kids : List Nd} {A : Option Addr} {l c : Nat} (h : LtsR w F kids A l c) (k : Ext w w') : LtsR w' F kids A l c := h.upd k (no_no F)
theorem LtR.mono {w : World} {F G : Nat → Prop} {n : Nd} {cs : List Value} (h : LtR w F n cs) (hs : ∀ b, F b → G b) : LtR w G n cs := by
  cases h with
  | mk F k0 n s kids A l c rows Fs hr hl hk hsp hF => exact .mk _ _ _ _ _ _ _ _ rows Fs (hr.mono hs) hl hk hsp (fun i b hi hb => hs _ (hF i b hi hb))
theorem LtsR.mono {w : World} {F G : Nat → Prop} {kids : List Nd} {A : Option Addr} {l c : Nat} (h : LtsR w F kids A l c) (hs : ∀ b, F b → G b) : LtsR w G kids A l c := by
  obtain ⟨rows, Fs, h1, h2, h3, h4, h5⟩ := h
  exact ⟨rows, Fs, h1.mono hs, h2, h3, h4, fun i b hi hb => hs _ (h5 i b hi hb)⟩
theorem RowIn.less {w : World} {F : Nat → Prop} {z : Nat} {A : Option Addr} {l c : Nat} {rows : List (List Value)} (h : RowIn w F z A (l + 1) c rows) : RowIn w F z A l c (rows.take l) := by
  have hl := h.len
  refine ⟨by rw [List.length_take]; omega, by have := h.cap; omega, by have := h.lt; omega, fun r hr => h.els r (List.mem_of_mem_take hr), fun hne => ?_⟩
  obtain ⟨ad, e1, e2, e3⟩ := h.at_ (fun he => hne (by rw [he]; simp))
  refine ⟨ad, e1, e2, fun i r hi => e3 i r ?_⟩
  rw [List.getElem?_take] at hi
  split at hi
  · exact hi
  · cases hi
theorem LtR.plain {w : World} {F : Nat → Prop} {n : Nd} {cs : List Value} (h : LtR w F n cs) : NdG w false F n cs := by
  induction h with
  | mk F k0 n s kids A l c rows Fs hr hl hk hsp hF ih =>
    have hll := hr.len
    refine .mk _ _ _ _ _ _ _ _ (rows.take l) Fs hr.less (by rw [List.length_take]; omega) (fun i x hx => ?_) hF (fun h => nomatch h)
    have hi := (List.getElem?_eq_some_iff.1 hx).1
    rw [List.getD_eq_getElem?_getD, List.getElem?_take_of_lt (by omega), ← List.getD_eq_getElem?_getD]
    exact ih i x hx
theorem LtsR.plain {w : World} {F : Nat → Prop} {kids : List Nd} {A : Option Addr} {l c : Nat} (h : LtsR w F kids A l c) : NdsR w F kids A l c := by
  obtain ⟨A', l', c', e, h'⟩ := ((LtsR.node (n := .mk 0 0 ByteArray.empty kids) h).plain).kids
  simp only [ndV, List.cons.injEq, Value.slice.injEq, true_and, and_true] at e
  obtain ⟨rfl, rfl, rfl⟩ := e
  exact h'
theorem LtsR.len {w : World} {F : Nat → Prop} {kids : List Nd} {A : Option Addr} {l c : Nat} (h : LtsR w F kids A l c) : l = kids.length := h.plain.len
theorem LtsR.lt {w : World} {F : Nat → Prop} {kids : List Nd} {A : Option Addr} {l c : Nat} (h : LtsR w F kids A l c) : l < 2 ^ 48 := h.plain.lt
theorem LtsR.get {w : World} {F : Nat → Prop} {kids : List Nd} {A : Option Addr} {l c : Nat} (h : LtsR w F kids A l c) {ad : Addr} (ha : A = some ad) {j : Nat} (hj : j < kids.length) :
    ∃ A1 l1 c1, CellsIn w (ad.add (Int.toNat (j : Int) * 4)) (ndV kids[j] A1 l1 c1) ∧ LtsR w F kids[j].kids A1 l1 c1 := by
  have hl := h.len
  obtain ⟨rows, Fs, h1, h2, h3, _, h4⟩ := h
  obtain ⟨ad', r, e, hr, _, hc⟩ := h1.get (j : Int) (by omega) (by omega)
  rw [ha] at e; cases e
  have hn : Int.toNat (j : Int) = j := by omega
  rw [hn] at hr hc ⊢
  have hk := h3 j kids[j] (List.getElem?_eq_getElem hj)
  rw [List.getD_eq_getElem?_getD, hr, Option.getD_some] at hk
  obtain ⟨A1, l1, c1, rfl, hk2⟩ := hk.kids
  exact ⟨A1, l1, c1, hc, hk2.mono (fun b hb => h4 j b hj hb)⟩
theorem LtsR.cell {w : World} {F : Nat → Prop} {kids : List Nd} {A : Option Addr} {l c : Nat} (h : LtsR w F kids A l c) {ad : Addr} (ha : A = some ad) {j : Nat} (hj : j < kids.length)
    {K : Int → Int → ByteArray → Option Addr → Nat → Nat → Prop} (k : ∀ A1 l1 c1, LtsR w F kids[j].kids A1 l1 c1 → K kids[j].k kids[j].n kids[j].s A1 l1 c1) :
    ∃ x2 x3, ∃ x4 a, ∃ n c, CellsIn w (ad.add (Int.toNat (j : Int) * 4)) [.int .i64 x2, .int .i64 x3, .string x4, .slice a n c] ∧ K x2 x3 x4 a n c := by
  obtain ⟨A1, l1, c1, h1, h2⟩ := h.get ha hj
  exact ⟨_, _, _, _, _, _, h1, k _ _ _ h2⟩
theorem LtsR.behind {w : World} {F : Nat → Prop} {kids : List Nd} {A : Option Addr} {l c : Nat} (h : LtsR w F kids A l c) : l + 1 ≤ c ∧ ∃ ad, A = some ad ∧ CellsIn w (ad.add (l * 4)) spare := by
  have hl := h.len
  obtain ⟨rows, Fs, h1, h2, h3, h5, h4⟩ := h
  obtain ⟨ad', r, e, hr, _, hc⟩ := h1.get (l : Int) (by omega) (by omega)
  have hn : Int.toNat (l : Int) = l := by omega
  rw [hn] at hr hc
  rw [← hl, List.getD_eq_getElem?_getD, hr, Option.getD_some] at h5
  exact ⟨h1.cap, ad', e, by rw [← h5]; exact hc⟩
end
end Go.Vx
namespace Go.Vx.Tryz
open Go Go.Vx Go.Proofs
theorem sl22 : SlT E.P 22 24 4 56 := SlT.of (by kernel_rfl) (by omega) (by omega)
theorem sl25 : SlT E.P 25 3 1 8 := SlT.of (by kernel_rfl) (by omega) (by omega)
end Go.Vx.Tryz
namespace Go.Vx
open Go
section
theorem setAt_get {α : Type} : ∀ (vs cs : List α) (o i : Nat), (i < o ∨ o + vs.length ≤ i) → (setAt cs o vs)[i]? = cs[i]?
  | [], cs, o, i, _ => rfl
  | v :: vs, cs, o, i, h => by
    simp only [List.length_cons] at h
    simp only [setAt]
    rw [setAt_get vs _ (o + 1) i (by omega), List.getElem?_set_ne (by omega)]
theorem SlT.sizeOf {P : Program} {t e z sz : Nat} (T : SlT P t e z sz) (w : World) : (sizeOf e).run P w = .ok z w := by
  obtain ⟨ht, ⟨i, zv, hi, hz, hsz, hby, hzs⟩, _, _⟩ := T
  simp [Go.sizeOf, typeInfo, hi, hsz]
theorem store_at {P : Program} {t e z sz : Nat} (T : SlT P t e z sz) {w : World} {g ty o : Nat} {cur : Array Value} {v : Value} {vs : List Value} (hh : w.heap[g]? = some (.cells cur ty (0, 0))) (hv : v.cells.toList = vs) (hl : vs.length = z)
    (ho : o + z ≤ cur.size) (h1 : vs.all Value.oneCell' = true) :
    RunsU P (Instr.storeAt e (.pointer (some ⟨g, o, none⟩)) v) w (fun w' => w'.heap[g]? = some (.cells (setAt cur.toList o vs).toArray ty (0, 0)) ∧ w'.heap.size = w.heap.size ∧ Upd w w' (fun b => b = g)) := by
  obtain ⟨w2, q1, q2, q3, q4, q5, q6, q7⟩ := storeCells_run (P := P) (b := ⟨g, ty, false, []⟩) vs w cur.toList 0 o (by simpa using hh) (by simp; omega) h1
  refine ⟨w2, ?_, by simpa using q2, q6, ⟨q3, q4, q5, by omega, fun k _ hk => q7 k hk⟩⟩
  have hs := T.sizeOf w
  simp only [Instr.storeAt, Instr.sureAddr, Sem.run_bind, Sem.run_pure, Result.andThen_ok, storeVar, hs]
  have hn : v.cells.size = z := by rw [← hl, ← hv]; simp
  rw [if_neg (by simpa using hn), hv]
  exact q1
end
end Go.Vx
namespace Go.Vx.Tryz
open Go Go.Vx Go.Proofs
end Go.Vx.Tryz
namespace Go.Vx.Tryz
open Go Go.Vx Go.Proofs
set_option maxRecDepth 100000
variable {w : World} {R : Value → World → Prop} {X : ContX}
theorem vc29 {a : Option Addr} {al ac : Nat}  (h : 
 ∃ (x : Bool),
  Sem.run E.P
        (do
          eqGuard BinOp.eql 25 (Operand.tmp 3) (Operand.const (.slice none 0 0)) (.slice a al ac) (.slice none 0 0)
          binOp BinOp.eql 25 (St.ev (St.mk [Ent.mk (.slice a al ac) Sh.no 0, Ent.mk (.tuple #[]) Sh.no 0, Ent.mk (.slice none 0 0) Sh.no 0, Ent.mk (.slice a al ac) Sh.no 0, Ent.mk (.tuple #[]) Sh.no 0, Ent.mk (.tuple #[]) Sh.no 0, Ent.mk (.tuple #[]) Sh.no 0, Ent.mk (.tuple #[]) Sh.no 0] [] w true [] 0 0) (Operand.tmp 3)).v (St.ev (St.mk [Ent.mk (.slice a al ac) Sh.no 0, Ent.mk (.tuple #[]) Sh.no 0, Ent.mk (.slice none 0 0) Sh.no 0, Ent.mk (.slice a al ac) Sh.no 0, Ent.mk (.tuple #[]) Sh.no 0, Ent.mk (.tuple #[]) Sh.no 0, Ent.mk (.tuple #[]) Sh.no 0, Ent.mk (.tuple #[]) Sh.no 0] [] w true [] 0 0) (Operand.const (.slice none 0 0))).v)
        w =
      Result.ok (.bool x) w ∧
    (x = true → R (.slice none 0 0) w) ∧ (x = false → ∀ id, w.heap.size ≤ id → ∀ w1, Upd w w1 (setOf []) → id < w1.heap.size → w1.heap[id]? = some (.cells #[] 3) → ∃ R1, RunsTo E.P (Builtin.append_ #[25, 25] 25 #[.slice (some ⟨id, 0, none⟩) 0 0, .slice a al ac]) w1 R1 ∧ ∀ v w2, R1 v w2 → ∃ a1 n c, v = .slice a1 n c ∧ ∃ S, Upd w1 w2 S ∧ Away [id] S ∧ (w2.heap[id]? = some (.cells #[] 3) → R (.slice a1 n c) w2))
 ) : CallsX E.P 18 #[.slice a al ac] w R X :=
  calls_vc E_ok ⟨[], []⟩ (f := 18) Tryz.func18 rfl [(.slice a al ac, .no)] [] (bls0) nod0 (plain_of rfl) (shs_of ⟨trivial, trivial⟩) h (by kernel_rfl)
end Go.Vx.Tryz
namespace Go.Vx.Tryz
open Go Go.Vx Go.Proofs
abbrev plA (p : Pl) (A : Option Addr) (l c : Nat) (B : Option Addr) (bl bc : Nat) : Value := .agg #[.int .i64 p.root.k, .int .i64 p.root.n, .string p.root.s, .slice A l c, .slice B bl bc]
theorem clip68_c {w : World} {A : Option Addr} {l c : Nat} (h : l ≤ c) : CallsX E.P 59 #[.slice A l c] w (fun v w' => v = .slice A l l ∧ w' = w) never :=
  vc68 ⟨_, _, _, run_clip sl22 h, rfl, rfl⟩
theorem clip32_c {w : World} {A : Option Addr} {l c : Nat} (h : l ≤ c) : CallsX E.P 21 #[.slice A l c] w (fun v w' => v = .slice A l l ∧ w' = w) never :=
  vc32 ⟨_, _, _, run_clip sl25 h, rfl, rfl⟩
theorem call_clip {f : Nat} {args : Array Value} {w : World} {A : Option Addr} {l : Nat} {X : ContX} {ids : List Nat} (h : CallsX E.P f args w (fun v w' => v = .slice A l l ∧ w' = w) never) {K : Option Addr → Nat → Nat → World → Prop} (k : K A l l w) :
    ∃ (R : Value → World → Prop) (X' : ContX), CallsX E.P f args w R X' ∧ (∀ v w2, R v w2 → ∃ a2 n2 c2, v = .slice a2 n2 c2 ∧ ∃ S, Upd w w2 S ∧ Away ids S ∧ K a2 n2 c2 w2) ∧ ∀ ch w2, X' ch w2 → X ch w2 :=
  ⟨_, _, h, fun _ w2 ⟨hv, hw⟩ => ⟨A, l, l, hv, no, by rw [hw]; exact Upd.refl _ _, Away.no _, by rw [hw]; exact k⟩, never_any⟩
theorem clone_c (zs : List Int) {w : World} {F : Nat → Prop} {B : Option Addr} {bl bc : Nat} (h : IntsR w F zs B bl bc) (hs : bl < 2 ^ 34) :
    CallsX E.P 18 #[.slice B bl bc] w (fun v w' => ∃ A l c, v = .slice A l c ∧ (IntsB w' w.heap.size w'.heap.size no no zs A l c) ∧ Ext w w') never := by
  refine vc29 ⟨B.isNone, ?_, fun hx => ?_, fun hx id hid w1 hE hid1 hcell => ?_⟩
  · show (do eqGuard BinOp.eql 25 (Operand.tmp 3) (Operand.const (.slice none 0 0)) (.slice B bl bc) (.slice none 0 0); binOp BinOp.eql 25 (.slice B bl bc) (.slice none 0 0) : Sem Value).run E.P w = .ok (.bool B.isNone) w
    have := run_equal_slice_nil (P := E.P) w 25 3 B bl bc sl25.ht
    have e1 : (eqGuard BinOp.eql 25 (Operand.tmp 3) (Operand.const (.slice none 0 0)) (.slice B bl bc) (.slice none 0 0)).run E.P w = .ok () w := rfl
    have e2 : binOp BinOp.eql 25 (.slice B bl bc) (.slice none 0 0) = (do pure (.bool (← Op.equal 25 (.slice B bl bc) (.slice none 0 0))) : Sem Value) := rfl
    rw [Sem.run_bind, e1, e2, Result.andThen_ok, Sem.run_bind, this]
    rfl
  · have hz : zs = [] ∧ bl = 0 := by
      cases B with
      | some a => cases hx
      | none =>
        have hl := h.len
        rcases zs with _ | ⟨z, zs⟩
        · exact ⟨rfl, hl⟩
        · obtain ⟨ad, e⟩ := h.ad (j := 0) (by simp)
          cases e
    obtain ⟨rfl, rfl⟩ := hz
    exact ⟨_, _, _, rfl, RowB.nil (fun _ h => h.elim) (Nat.le_refl _), Upd.refl _ _⟩
  · by_cases h0 : bl = 0
    · have hz : zs = [] := List.length_eq_zero_iff.1 (by rw [← h.len]; exact h0)
      subst hz; subst h0
      have hrun : (Builtin.append_ #[25, 25] 25 #[.slice (some ⟨id, 0, none⟩) 0 0, .slice B 0 bc]).run E.P w1 = .ok (.slice (some ⟨id, 0, none⟩) 0 0) w1 := append_zero sl25 (Nat.le_refl _)
      refine ⟨fun v w2 => v = .slice (some ⟨id, 0, none⟩) 0 0 ∧ w2 = w1, ⟨_, w1, hrun, rfl, rfl⟩, ?_⟩
      rintro v w2 ⟨rfl, rfl⟩
      exact ⟨_, _, _, rfl, no, Upd.refl _ _, Away.no _, fun _ => ⟨_, _, _, rfl, RowB.made (fun _ h => h.elim) hid hcell (fun h => h), hE⟩⟩
    · refine ⟨_, append_fresh (o := true) (enc := intE) (h1 := fun _ => rfl) (h2 := fun x u hu => by cases List.mem_singleton.1 hu; rfl) sl25 (RowIn.upd (F := F) h hE (no_no _)) (by omega) (by omega), ?_⟩
      rintro v w2 ⟨A', c', rfl, hB2, hE2⟩
      exact ⟨A', _, c', rfl, no, hE2, Away.no _, fun _ => ⟨A', _, c', rfl, RowB.low hB2 hE.size, hE.trans hE2⟩⟩
end Go.Vx.Tryz
namespace Go.Vx.Tryz
open Go Go.Vx Go.Proofs
def LtInts (w : World) (F : Nat → Prop) (zs : List Int) (A : Option Addr) (l c : Nat) : Prop := l = zs.length ∧ RowIn w F 1 A (l + 1) c ((zs ++ [-7]).map intE)
theorem LtInts.plain {w : World} {F : Nat → Prop} {zs : List Int} {A : Option Addr} {l c : Nat} (h : LtInts w F zs A l c) : IntsR w F zs A l c := by
  have := h.2.less
  rw [h.1, List.map_append, List.take_left' (by simp)] at this
  rw [h.1]; exact this
theorem LtInts.ext {w w' : World} {F : Nat → Prop} {zs : List Int} {A : Option Addr} {l c : Nat} (h : LtInts w F zs A l c) (k : Ext w w') : LtInts w' F zs A l c := ⟨h.1, h.2.upd k (no_no F)⟩
theorem LtInts.upd {w w' : World} {F S : Nat → Prop} {zs : List Int} {A : Option Addr} {l c : Nat} (h : LtInts w F zs A l c) (k : Upd w w' S) (hs : ∀ b, F b → ¬ S b) : LtInts w' F zs A l c := ⟨h.1, h.2.upd k hs⟩
end Go.Vx.Tryz
namespace Go.Vx.Tryz
open Go Go.Vx Go.Proofs
end Go.Vx.Tryz
namespace Go.Vx
open Go
section
def fin (k v : Int) (s : ByteArray) (p : List Nd × List Int) : Nd × List Int := (.mk k v s p.1, p.2)
def celled (c : Int) (p : Nd × List Int) : Nd × List Int := (.mk 26 c (ByteArray.mk #[]) [p.1], p.2)
def turnP (k a r i : Int) : Int × Int := if k == 21 then if i == 1 then (w64 (a + 1), w64 (a + 1)) else (a, r) else (a, r)
mutual
def gone : Nd → Int → Int → List Int → Nd × List Int
  | .mk k v s l, a, r, cs =>
    if k == 26 then (.mk k v s l, cs)
    else if (k == 20 || k == 21) && decide (hangs a (.mk k v s l) < r) && !((cs.length : Int) == 256) then
      celled cs.length (fin k v s (goneL k a (hangs a (.mk k v s l)) 0 l (cs ++ [hangs a (.mk k v s l)])))
    else fin k v s (goneL k a r 0 l cs)
def goneL (k : Int) : Int → Int → Int → List Nd → List Int → List Nd × List Int
  | _, _, _, [], cs => ([], cs)
  | a, r, i, x :: l, cs =>
    let y := gone x (turnP k a r i).1 (turnP k a r i).2 cs
    let ys := goneL k (turnP k a r i).1 (turnP k a r i).2 (w64 (i + 1)) l y.2
    (y.1 :: ys.1, ys.2)
end
end
section
mutual
def part : Nd → Int → Int → List Int → Nd × List Int
  | .mk k v s l, a, r, cs =>
    if k == 26 then (.mk k v s l, cs)
    else if (k == 20 || k == 21) && decide (hangs a (.mk k v s l) < r) && decide ((cs.length : Int) < 256) then
      celled cs.length (fin k v s (partL k a (hangs a (.mk k v s l)) 0 l (cs ++ [hangs a (.mk k v s l)])))
    else fin k v s (partL k a r 0 l cs)
def partL (k a r : Int) : Int → List Nd → List Int → List Nd × List Int
  | _, [], cs => ([], cs)
  | i, x :: l, cs =>
    let y := part x (if k == 21 && i == 1 then w64 (a + 1) else a) (if k == 21 && i == 1 then w64 (a + 1) else r) cs
    let ys := partL k a r (w64 (i + 1)) l y.2
    (y.1 :: ys.1, ys.2)
end
end
section
open Go
theorem RowB.updF {α : Type} {z : Nat} {enc : α → List Value} {h1 : ∀ x, (enc x).length = z} {h2 : ∀ x, ∀ u ∈ enc x, u.oneCell' = true} {ty : Nat} {w w' : World} {o : Bool} {lo top : Nat} {E S : Nat → Prop} {xs : List α} {A : Option Addr} {l c : Nat}
    (h : RowB (flatRel enc h1 h2) ty w o lo top no E xs A l c) (k : Upd w w' S) (hs : ∀ b, blkOf A b → ¬ S b) : RowB (flatRel enc h1 h2) ty w' o lo w'.heap.size no E xs A l c := by
  obtain ⟨rows, Fs, q1, q2, q3, q4, q5, q6, q7, q8, q9, q10, q11⟩ := h
  have hs' := k.size
  exact ⟨rows, fun _ _ => False, owns_upd' q1 k hs, q2, q3, q4, q5, fun _ _ _ h => h.elim, fun _ _ _ _ _ _ h => h.elim, q8, by omega, Nat.le_refl _, fun b hb => by have := q11 b hb; exact ⟨this.1, by omega, this.2.2⟩⟩
theorem nds_one {w : World} {o : Bool} {F : Nat → Prop} {x : Nd} {A : Option Addr} {l c id : Nat} (h : NdsG w o F x.kids A l c) (hcell : w.heap[id]? = some (.cells (ndV x A l c).toArray 24 (0, 0))) (hid : o = true → ¬ F id) :
    NdsG w o (fun y => y = id ∨ F y) [x] (some ⟨id, 0, none⟩) 1 1 := by
  refine ⟨[ndV x A l c], fun _ => F, ⟨rfl, Nat.le_refl _, by omega, fun r hr => by cases List.mem_singleton.1 hr; rfl, fun _ => ⟨_, rfl, .inl rfl, fun i r hi => ?_⟩⟩, rfl, fun i y hy => ?_, fun i b _ hb => .inr hb, fun ho => ⟨⟨rfl, .inr ⟨id, _, rfl, hcell, by simp⟩⟩, fun i b _ hb he => ?_, fun i j b hij hj => ?_⟩⟩
  · cases i with
    | zero =>
      simp only [List.getElem?_cons_zero, Option.some.injEq] at hi
      subst hi
      rw [Nat.zero_mul, add_zero_addr]
      exact cells_new hcell
    | succ i => simp at hi
  · cases i with
    | zero =>
      simp only [List.getElem?_cons_zero, Option.some.injEq] at hy
      subst hy
      exact h.node
    | succ i => simp at hy
  · have he : id = b := he
    exact hid ho (he ▸ hb)
  · simp at hj; omega
end
end Go.Vx
namespace Go.Vx.Tryz
open Go Go.Vx Go.Proofs
def CstT (ty : Nat) (w : World) (b lo : Nat) (cs : List Int) (A : Option Addr) : Prop :=
  cs.length ≤ 256 ∧ ∃ l c, w.heap[b]? = some (.cells #[.slice A l c] ty (0, 0)) ∧ RowB intRel 3 w true lo w.heap.size no (fun x => x = b) cs A l c
theorem CstT.upd {ty : Nat} {w w' : World} {b lo : Nat} {cs : List Int} {A : Option Addr} {S : Nat → Prop} (h : CstT ty w b lo cs A) (k : Upd w w' S) (h1 : ¬ S b) (h2 : ∀ x, blkOf A x → ¬ S x) : CstT ty w' b lo cs A := by
  obtain ⟨hl, l, c, hh, hB⟩ := h
  exact ⟨hl, l, c, by rw [k.keep b (lt_of_get hh) h1]; exact hh, RowB.updF hB k h2⟩
theorem CstT.ext {ty : Nat} {w w' : World} {b lo : Nat} {cs : List Int} {A : Option Addr} (h : CstT ty w b lo cs A) (k : Ext w w') : CstT ty w' b lo cs A := h.upd k (fun h => h) (fun _ _ h => h)
theorem CstT.blk {ty : Nat} {w : World} {b lo : Nat} {cs : List Int} {A : Option Addr} (h : CstT ty w b lo cs A) : b < w.heap.size ∧ ∀ x, blkOf A x → x < w.heap.size ∧ x ≠ b := by
  obtain ⟨hl, l, c, hh, hB⟩ := h
  exact ⟨lt_of_get hh, fun x hx => by have := hB.blk hx; exact ⟨this.2.1, this.2.2⟩⟩
def CU (w w' : World) (b : Nat) (A A2 : Option Addr) : Prop := Upd w w' (fun x => x = b ∨ blkOf A x) ∧ ∀ x, blkOf A2 x → blkOf A x ∨ w.heap.size ≤ x
theorem CU.ext {w w' : World} {b : Nat} {A : Option Addr} (h : Ext w w') : CU w w' b A A := ⟨⟨h.os, h.tape, h.output, h.size, fun k hk _ => h.keep k hk (fun h => h)⟩, fun _ h => .inl h⟩
theorem CU.trans {w w1 w2 : World} {b : Nat} {A A1 A2 : Option Addr} (h : CU w w1 b A A1) (k : CU w1 w2 b A1 A2) : CU w w2 b A A2 := by
  obtain ⟨⟨a1, a2, a3, a4, a5⟩, h2⟩ := h
  obtain ⟨⟨b1, b2, b3, b4, b5⟩, k2⟩ := k
  refine ⟨⟨b1.trans a1, b2.trans a2, b3.trans a3, Nat.le_trans a4 b4, fun k hk hS => ?_⟩, fun x hx => ?_⟩
  · rw [b5 k (by omega) (fun h => by
      rcases h with h | h
      · exact hS (.inl h)
      · rcases h2 k h with h' | h'
        · exact hS (.inr h')
        · omega), a5 k hk hS]
  · rcases k2 x hx with h' | h'
    · exact h2 x h'
    · exact .inr (by omega)
theorem CU.step {w w1 w2 : World} {b : Nat} {A A1 : Option Addr} {S : Nat → Prop} (h : CU w w1 b A A1) (k : Upd w1 w2 S) (hs : ∀ x, S x → w.heap.size ≤ x) : CU w w2 b A A1 := by
  obtain ⟨⟨a1, a2, a3, a4, a5⟩, h2⟩ := h
  exact ⟨⟨k.os.trans a1, k.tape.trans a2, k.output.trans a3, Nat.le_trans a4 k.size, fun x hx hS => by rw [k.keep x (by omega) (fun h => by have := hs x h; omega), a5 x hx hS]⟩, h2⟩
end Go.Vx.Tryz
namespace Go.Vx
open Go
section
theorem RowB.doneF {α : Type} {z : Nat} {enc : α → List Value} {h1 : ∀ x, (enc x).length = z} {h2 : ∀ x, ∀ u ∈ enc x, u.oneCell' = true} {ty : Nat} {w : World} {o : Bool} {lo top : Nat} {G E : Nat → Prop} {xs : List α} {A : Option Addr} {l c : Nat}
    (h : RowB (flatRel enc h1 h2) ty w o lo top G E xs A l c) (hl : l < 2 ^ 48) : RowsG (flatRel enc h1 h2) ty w true (blkOf A) xs A l l := by
  obtain ⟨rows, Fs, q1, q2, q3, q4, q5, q6, q7, q8, q9, q10, q11⟩ := h
  have hr := owns_row q1 q2 q3 hl (F := blkOf A) (fun b hb => hb)
  refine ⟨rows, fun _ _ => False, ⟨hr.len, Nat.le_refl _, hr.lt, hr.els, hr.at_⟩, q4, q5, fun _ _ _ h => h.elim, fun _ => ⟨⟨rfl, ?_⟩, fun _ _ _ h => h.elim, fun _ _ _ _ _ h => h.elim⟩⟩
  rcases q1.2 with ⟨he, h0⟩ | ⟨g, cap, cur, he, hg, hh, hcc, hm, hsz, ht⟩
  · exact .inl (List.length_eq_zero_iff.1 (by omega))
  · cases he
    exact .inr ⟨g, cur, rfl, hh, by rw [flatten_len q2, ← q3]; exact ht⟩
theorem RowsG.updF {α : Type} {z : Nat} {enc : α → List Value} {h1 : ∀ x, (enc x).length = z} {h2 : ∀ x, ∀ u ∈ enc x, u.oneCell' = true} {ty : Nat} {w w' : World} {o : Bool} {F S : Nat → Prop} {xs : List α} {A : Option Addr} {l c : Nat}
    (h : RowsG (flatRel enc h1 h2) ty w o F xs A l c) (k : Upd w w' S) (hs : ∀ b, F b → ¬ S b) : RowsG (flatRel enc h1 h2) ty w' o F xs A l c := by
  obtain ⟨rows, Fs, q1, q2, q3, q4, q5⟩ := h
  refine ⟨rows, Fs, q1.upd k hs, q2, q3, q4, fun ho => ?_⟩
  obtain ⟨r1, r2, r3⟩ := q5 ho
  refine ⟨r1.upd k fun b hne hb => ?_, r2, r3⟩
  obtain ⟨ad, e1, e2, _⟩ := q1.at_ hne
  subst e1; cases hb
  exact hs _ e2
end
end Go.Vx
namespace Go.Vx.Tryz
open Go Go.Vx Go.Proofs
def PlO (w : World) (F G : Nat → Prop) (p : Pl) (A : Option Addr) (l c : Nat) (B : Option Addr) (bl bc : Nat) : Prop :=
  NdsG w true F p.root.kids A l c ∧ RowsG intRel 3 w true G p.cells B bl bc ∧ ∀ x, F x → ¬ G x
theorem nds_nil {w : World} {F : Nat → Prop} : NdsG w true F [] none 0 0 :=
  ⟨[], fun _ _ => False, ⟨rfl, Nat.le_refl _, by omega, by simp, fun h => absurd rfl h⟩, rfl, by simp, by simp, fun _ => ⟨⟨rfl, .inl rfl⟩, by simp, by simp⟩⟩
theorem intsO_nil {w : World} {F : Nat → Prop} : RowsG intRel 3 w true F [] none 0 0 :=
  ⟨[], fun _ _ => False, ⟨rfl, Nat.le_refl _, by omega, by simp, fun h => absurd rfl h⟩, rfl, by simp, by simp, fun _ => ⟨⟨rfl, .inl rfl⟩, by simp, by simp⟩⟩
end Go.Vx.Tryz
namespace Go.Vx.Tryz
open Go Go.Vx Go.Proofs
set_option maxRecDepth 100000
variable {w : World} {R : Value → World → Prop} {X : ContX}
theorem vc53 {a : Int}  (h : 
 dB (a == 32) (R (.bool true) w) (dB (a == 9) (R (.bool true) w) (dB (a == 10) (R (.bool true) w) (R (.bool (a == 13)) w)))
 ) : CallsX E.P 42 #[.int .u8 a] w R X :=
  calls_vc E_ok ⟨[], []⟩ (f := 42) Tryz.func42 rfl [(.int .u8 a, .no)] [] (bls0) nod0 (plain_of rfl) (shs_of ⟨trivial, trivial⟩) h (by kernel_rfl)
theorem vc80 {a : Int}  (h : 
 dB (decide (a ≥ 48)) (R (.bool (decide (a ≤ 57))) w) (R (.bool false) w)
 ) : CallsX E.P 60 #[.int .u8 a] w R X :=
  calls_vc E_ok ⟨[], []⟩ (f := 60) Tryz.func60 rfl [(.int .u8 a, .no)] [] (bls0) nod0 (plain_of rfl) (shs_of ⟨trivial, trivial⟩) h (by kernel_rfl)
theorem vc83 {a : Int}  (h : 
 dB (decide (a ≥ 97)) (R (.bool (decide (a ≤ 122))) w) (R (.bool false) w)
 ) : CallsX E.P 63 #[.int .u8 a] w R X :=
  calls_vc E_ok ⟨[], []⟩ (f := 63) Tryz.func63 rfl [(.int .u8 a, .no)] [] (bls0) nod0 (plain_of rfl) (shs_of ⟨trivial, trivial⟩) h (by kernel_rfl)
theorem vc84 {a : Int}  (h : 
 dB (decide (a ≥ 65)) (R (.bool (decide (a ≤ 90))) w) (R (.bool false) w)
 ) : CallsX E.P 64 #[.int .u8 a] w R X :=
  calls_vc E_ok ⟨[], []⟩ (f := 64) Tryz.func64 rfl [(.int .u8 a, .no)] [] (bls0) nod0 (plain_of rfl) (shs_of ⟨trivial, trivial⟩) h (by kernel_rfl)
theorem vc85 {a : ByteArray}  (h : 
 nB w fun id => fL w [] fun w1 => id < w1.heap.size → hA w1 id #[.string (ByteArray.mk #[97, 108, 108]), .string (ByteArray.mk #[97, 110, 100]), .string (ByteArray.mk #[97, 114, 111, 117, 110, 100]), .string (ByteArray.mk #[98, 108, 111, 99, 107]), .string (ByteArray.mk #[98, 111, 116, 116, 108, 101, 110, 101, 99, 107]), .string (ByteArray.mk #[99, 111, 110, 110, 101, 99, 116, 101, 100]), .string (ByteArray.mk #[99, 111, 117, 110, 116]), .string (ByteArray.mk #[100, 101, 103, 114, 101, 101]), .string (ByteArray.mk #[101, 108, 115, 101]), .string (ByteArray.mk #[102, 97, 108, 115, 101]), .string (ByteArray.mk #[105, 102]), .string (ByteArray.mk #[105, 110]), .string (ByteArray.mk #[108, 101, 97, 115, 116]), .string (ByteArray.mk #[109, 97, 120]), .string (ByteArray.mk #[109, 105, 110]), .string (ByteArray.mk #[109, 111, 115, 116]), .string (ByteArray.mk #[110, 111, 116]), .string (ByteArray.mk #[111, 114]), .string (ByteArray.mk #[114, 101, 112]), .string (ByteArray.mk #[115, 105, 122, 101]), .string (ByteArray.mk #[115, 111, 109, 101]), .string (ByteArray.mk #[115, 117, 109]), .string (ByteArray.mk #[116, 104, 101, 110]), .string (ByteArray.mk #[116, 111, 116, 97, 108]), .string (ByteArray.mk #[116, 114, 117, 101]), .string (ByteArray.mk #[118, 97, 108, 117, 101]), .string (ByteArray.mk #[118, 101, 114, 116, 105, 99, 101, 115])] 9 → ∃ (I : Int → World → Prop), ∃ (m : Int → Nat), I 0 w1 ∧ ∀ (jk : Nat → Value) (x : Int) (w2 : World), I x w2 → dB (decide (x < (↑27 : Int))) (iX x 27 (some ⟨id, 0, none⟩) fun ad => hA w2 id #[.string (ByteArray.mk #[97, 108, 108]), .string (ByteArray.mk #[97, 110, 100]), .string (ByteArray.mk #[97, 114, 111, 117, 110, 100]), .string (ByteArray.mk #[98, 108, 111, 99, 107]), .string (ByteArray.mk #[98, 111, 116, 116, 108, 101, 110, 101, 99, 107]), .string (ByteArray.mk #[99, 111, 110, 110, 101, 99, 116, 101, 100]), .string (ByteArray.mk #[99, 111, 117, 110, 116]), .string (ByteArray.mk #[100, 101, 103, 114, 101, 101]), .string (ByteArray.mk #[101, 108, 115, 101]), .string (ByteArray.mk #[102, 97, 108, 115, 101]), .string (ByteArray.mk #[105, 102]), .string (ByteArray.mk #[105, 110]), .string (ByteArray.mk #[108, 101, 97, 115, 116]), .string (ByteArray.mk #[109, 97, 120]), .string (ByteArray.mk #[109, 105, 110]), .string (ByteArray.mk #[109, 111, 115, 116]), .string (ByteArray.mk #[110, 111, 116]), .string (ByteArray.mk #[111, 114]), .string (ByteArray.mk #[114, 101, 112]), .string (ByteArray.mk #[115, 105, 122, 101]), .string (ByteArray.mk #[115, 111, 109, 101]), .string (ByteArray.mk #[115, 117, 109]), .string (ByteArray.mk #[116, 104, 101, 110]), .string (ByteArray.mk #[116, 111, 116, 97, 108]), .string (ByteArray.mk #[116, 114, 117, 101]), .string (ByteArray.mk #[118, 97, 108, 117, 101]), .string (ByteArray.mk #[118, 101, 114, 116, 105, 99, 101, 115])] 9 → lT w2 (Addr.add ad (Int.toNat x * 1)) fun x1 => dB (strEq x1 a) (hA w2 id #[.string (ByteArray.mk #[97, 108, 108]), .string (ByteArray.mk #[97, 110, 100]), .string (ByteArray.mk #[97, 114, 111, 117, 110, 100]), .string (ByteArray.mk #[98, 108, 111, 99, 107]), .string (ByteArray.mk #[98, 111, 116, 116, 108, 101, 110, 101, 99, 107]), .string (ByteArray.mk #[99, 111, 110, 110, 101, 99, 116, 101, 100]), .string (ByteArray.mk #[99, 111, 117, 110, 116]), .string (ByteArray.mk #[100, 101, 103, 114, 101, 101]), .string (ByteArray.mk #[101, 108, 115, 101]), .string (ByteArray.mk #[102, 97, 108, 115, 101]), .string (ByteArray.mk #[105, 102]), .string (ByteArray.mk #[105, 110]), .string (ByteArray.mk #[108, 101, 97, 115, 116]), .string (ByteArray.mk #[109, 97, 120]), .string (ByteArray.mk #[109, 105, 110]), .string (ByteArray.mk #[109, 111, 115, 116]), .string (ByteArray.mk #[110, 111, 116]), .string (ByteArray.mk #[111, 114]), .string (ByteArray.mk #[114, 101, 112]), .string (ByteArray.mk #[115, 105, 122, 101]), .string (ByteArray.mk #[115, 111, 109, 101]), .string (ByteArray.mk #[115, 117, 109]), .string (ByteArray.mk #[116, 104, 101, 110]), .string (ByteArray.mk #[116, 111, 116, 97, 108]), .string (ByteArray.mk #[116, 114, 117, 101]), .string (ByteArray.mk #[118, 97, 108, 117, 101]), .string (ByteArray.mk #[118, 101, 114, 116, 105, 99, 101, 115])] 9 → R (.bool true) w2) (hA w2 id #[.string (ByteArray.mk #[97, 108, 108]), .string (ByteArray.mk #[97, 110, 100]), .string (ByteArray.mk #[97, 114, 111, 117, 110, 100]), .string (ByteArray.mk #[98, 108, 111, 99, 107]), .string (ByteArray.mk #[98, 111, 116, 116, 108, 101, 110, 101, 99, 107]), .string (ByteArray.mk #[99, 111, 110, 110, 101, 99, 116, 101, 100]), .string (ByteArray.mk #[99, 111, 117, 110, 116]), .string (ByteArray.mk #[100, 101, 103, 114, 101, 101]), .string (ByteArray.mk #[101, 108, 115, 101]), .string (ByteArray.mk #[102, 97, 108, 115, 101]), .string (ByteArray.mk #[105, 102]), .string (ByteArray.mk #[105, 110]), .string (ByteArray.mk #[108, 101, 97, 115, 116]), .string (ByteArray.mk #[109, 97, 120]), .string (ByteArray.mk #[109, 105, 110]), .string (ByteArray.mk #[109, 111, 115, 116]), .string (ByteArray.mk #[110, 111, 116]), .string (ByteArray.mk #[111, 114]), .string (ByteArray.mk #[114, 101, 112]), .string (ByteArray.mk #[115, 105, 122, 101]), .string (ByteArray.mk #[115, 111, 109, 101]), .string (ByteArray.mk #[115, 117, 109]), .string (ByteArray.mk #[116, 104, 101, 110]), .string (ByteArray.mk #[116, 111, 116, 97, 108]), .string (ByteArray.mk #[116, 114, 117, 101]), .string (ByteArray.mk #[118, 97, 108, 117, 101]), .string (ByteArray.mk #[118, 101, 114, 116, 105, 99, 101, 115])] 9 → I (w64 (x + 1)) w2 ∧ m (w64 (x + 1)) < m x)) (hA w2 id #[.string (ByteArray.mk #[97, 108, 108]), .string (ByteArray.mk #[97, 110, 100]), .string (ByteArray.mk #[97, 114, 111, 117, 110, 100]), .string (ByteArray.mk #[98, 108, 111, 99, 107]), .string (ByteArray.mk #[98, 111, 116, 116, 108, 101, 110, 101, 99, 107]), .string (ByteArray.mk #[99, 111, 110, 110, 101, 99, 116, 101, 100]), .string (ByteArray.mk #[99, 111, 117, 110, 116]), .string (ByteArray.mk #[100, 101, 103, 114, 101, 101]), .string (ByteArray.mk #[101, 108, 115, 101]), .string (ByteArray.mk #[102, 97, 108, 115, 101]), .string (ByteArray.mk #[105, 102]), .string (ByteArray.mk #[105, 110]), .string (ByteArray.mk #[108, 101, 97, 115, 116]), .string (ByteArray.mk #[109, 97, 120]), .string (ByteArray.mk #[109, 105, 110]), .string (ByteArray.mk #[109, 111, 115, 116]), .string (ByteArray.mk #[110, 111, 116]), .string (ByteArray.mk #[111, 114]), .string (ByteArray.mk #[114, 101, 112]), .string (ByteArray.mk #[115, 105, 122, 101]), .string (ByteArray.mk #[115, 111, 109, 101]), .string (ByteArray.mk #[115, 117, 109]), .string (ByteArray.mk #[116, 104, 101, 110]), .string (ByteArray.mk #[116, 111, 116, 97, 108]), .string (ByteArray.mk #[116, 114, 117, 101]), .string (ByteArray.mk #[118, 97, 108, 117, 101]), .string (ByteArray.mk #[118, 101, 114, 116, 105, 99, 101, 115])] 9 → R (.bool false) w2)
 ) : CallsX E.P 65 #[.string a] w R X :=
  calls_vc E_ok ⟨[(3, ⟨[(4, .int .i64)], []⟩)], []⟩ (f := 65) Tryz.func65 rfl [(.string a, .no)] [] (bls0) nod0 (plain_of rfl) (shs_of ⟨trivial, trivial⟩) h (by kernel_rfl)
theorem vc86 {a : ByteArray}  (h : 
 dB (decide ((↑(ByteArray.size a) : Int) < 1)) (R (.bool false) w) (dB (decide ((↑(ByteArray.size a) : Int) > 12)) (R (.bool false) w) (((0 : Int) ≤ 0 ∧ 0 < (↑(ByteArray.size a) : Int)) ∧ cB 63 #[Value.int IntKind.u8 (byteAt a 0)] w [] X fun x w2 => dB (!x) (R (.bool false) w2) (∃ (I : Int → World → Prop), ∃ (m : Int → Nat), I 0 w2 ∧ ∀ (jk : Nat → Value) (x1 : Int) (w21 : World), I x1 w21 → dB (decide (x1 < (↑(ByteArray.size a) : Int))) ((0 ≤ x1 ∧ x1 < (↑(ByteArray.size a) : Int)) ∧ cB 63 #[Value.int IntKind.u8 (byteAt a x1)] w21 [] X fun x2 w22 => dB x2 (dB false (R (.bool false) w22) (I (w64 (x1 + 1)) w22 ∧ m (w64 (x1 + 1)) < m x1)) ((0 ≤ x1 ∧ x1 < (↑(ByteArray.size a) : Int)) ∧ cB 60 #[Value.int IntKind.u8 (byteAt a x1)] w22 [] X fun x3 w23 => dB x3 (dB false (R (.bool false) w23) (I (w64 (x1 + 1)) w23 ∧ m (w64 (x1 + 1)) < m x1)) ((0 ≤ x1 ∧ x1 < (↑(ByteArray.size a) : Int)) ∧ dB (!byteAt a x1 == 95) (R (.bool false) w23) (I (w64 (x1 + 1)) w23 ∧ m (w64 (x1 + 1)) < m x1)))) (cB 65 #[.string a] w21 [] X fun x4 w26 => R (.bool !x4) w26))))
 ) : CallsX E.P 66 #[.string a] w R X :=
  calls_vc E_ok ⟨[(4, ⟨[(3, .int .i64)], []⟩)], []⟩ (f := 66) Tryz.func66 rfl [(.string a, .no)] [] (bls0) nod0 (plain_of rfl) (shs_of ⟨trivial, trivial⟩) h (by kernel_rfl)
theorem vc95 {a : Int}  (h : 
 dB (a == 1) (R (.int .i64 2) w) (dB (a == 2) (R (.int .i64 2) w) (dB (a == 10) (R (.int .i64 3) w) (R (.int .i64 1) w)))
 ) : CallsX E.P 75 #[.int .i64 a] w R X :=
  calls_vc E_ok ⟨[], []⟩ (f := 75) Tryz.func75 rfl [(.int .i64 a, .no)] [] (bls0) nod0 (plain_of rfl) (shs_of ⟨trivial, trivial⟩) h (by kernel_rfl)
theorem vc122 {a : Int}  (h : 
 dB (decide (a ≤ 3)) (R (.int .i64 2) w) (R (.int .i64 1) w)
 ) : CallsX E.P 93 #[.int .i64 a] w R X :=
  calls_vc E_ok ⟨[], []⟩ (f := 93) Tryz.func93 rfl [(.int .i64 a, .no)] [] (bls0) nod0 (plain_of rfl) (shs_of ⟨trivial, trivial⟩) h (by kernel_rfl)
theorem vc123 {a : Int}  (h : 
 dB (decide (a ≤ 2)) (R (.int .i64 2) w) (R (.int .i64 1) w)
 ) : CallsX E.P 94 #[.int .i64 a] w R X :=
  calls_vc E_ok ⟨[], []⟩ (f := 94) Tryz.func94 rfl [(.int .i64 a, .no)] [] (bls0) nod0 (plain_of rfl) (shs_of ⟨trivial, trivial⟩) h (by kernel_rfl)
end Go.Vx.Tryz
namespace Go.Vx
open Go
section
def digitB (c : Int) : Bool := decide (c ≥ 48) && decide (c ≤ 57)
def smallB (c : Int) : Bool := decide (c ≥ 97) && decide (c ≤ 122)
def greatB (c : Int) : Bool := decide (c ≥ 65) && decide (c ≤ 90)
def blankB (c : Int) : Bool := c == 32 || c == 9 || c == 10 || c == 13
def wordsL : List ByteArray := [(ByteArray.mk #[97, 108, 108]), (ByteArray.mk #[97, 110, 100]), (ByteArray.mk #[97, 114, 111, 117, 110, 100]), (ByteArray.mk #[98, 108, 111, 99, 107]), (ByteArray.mk #[98, 111, 116, 116, 108, 101, 110, 101, 99, 107]), (ByteArray.mk #[99, 111, 110, 110, 101, 99, 116, 101, 100]), (ByteArray.mk #[99, 111, 117, 110, 116]), (ByteArray.mk #[100, 101, 103, 114, 101, 101]), (ByteArray.mk #[101, 108, 115, 101]), (ByteArray.mk #[102, 97, 108, 115, 101]), (ByteArray.mk #[105, 102]), (ByteArray.mk #[105, 110]), (ByteArray.mk #[108, 101, 97, 115, 116]), (ByteArray.mk #[109, 97, 120]), (ByteArray.mk #[109, 105, 110]), (ByteArray.mk #[109, 111, 115, 116]), (ByteArray.mk #[110, 111, 116]), (ByteArray.mk #[111, 114]), (ByteArray.mk #[114, 101, 112]), (ByteArray.mk #[115, 105, 122, 101]), (ByteArray.mk #[115, 111, 109, 101]), (ByteArray.mk #[115, 117, 109]), (ByteArray.mk #[116, 104, 101, 110]), (ByteArray.mk #[116, 111, 116, 97, 108]), (ByteArray.mk #[116, 114, 117, 101]), (ByteArray.mk #[118, 97, 108, 117, 101]), (ByteArray.mk #[118, 101, 114, 116, 105, 99, 101, 115])]
def wordIn (a : ByteArray) : List ByteArray → Bool
  | [] => false
  | x :: l => if strEq x a then true else wordIn a l
def bytesL (s : ByteArray) : List Int := s.data.toList.map fun b => (b.toNat : Int)
theorem bytesL_len (s : ByteArray) : s.size = (bytesL s).length := by simp [bytesL]
theorem byteAt_get {s : ByteArray} {j : Nat} (h : j < (bytesL s).length) : byteAt s (j : Int) = (bytesL s)[j] := by
  have hs : j < s.data.size := by simpa [bytesL] using h
  have hj : Int.toNat (j : Int) = j := by omega
  simp only [byteAt, hj, bytesL, List.getElem_map, Array.getElem_toList]
  rw [Array.getD_eq_getD_getElem?, Array.getElem?_eq_getElem hs]; rfl
def nameL : List Int → Bool
  | [] => true
  | c :: l => if smallB c || digitB c || c == 95 then nameL l else false
def isNameB (s : ByteArray) : Bool :=
  if decide ((s.size : Int) < 1) then false else if decide ((s.size : Int) > 12) then false else if !smallB (byteAt s 0) then false else nameL (bytesL s) && !wordIn s wordsL
def formB (k v : Int) (s : ByteArray) (l : Int) : Bool :=
  if k == 1 then strEq s (ByteArray.mk #[]) && l == 0
  else if k == 2 then (v == 0 || v == 1) && strEq s (ByteArray.mk #[]) && l == 0
  else if k == 3 || k == 5 then decide (v ≥ 0) && strEq s (ByteArray.mk #[]) && l == 0
  else if k == 6 || k == 7 || k == 24 then v == 0 && strEq s (ByteArray.mk #[]) && l == 1
  else if k == 8 || k == 9 || k == 10 || k == 11 || k == 12 || k == 13 || k == 14 || k == 15 || k == 16 || k == 17 || k == 18 then v == 0 && strEq s (ByteArray.mk #[]) && l == 2
  else if k == 19 then v == 0 && strEq s (ByteArray.mk #[]) && l == 3
  else if k == 20 then strEq s (ByteArray.mk #[]) && (decide (v ≥ 1) && decide (v ≤ 3) && l == 2 || decide (v ≥ 4) && decide (v ≤ 10) && l == 1)
  else if k == 21 then decide (v ≥ 1) && decide (v ≤ 6) && strEq s (ByteArray.mk #[]) && l == 2
  else if k == 22 then v == 0 && strEq s (ByteArray.mk #[]) && l == 0
  else if k == 23 then v == 0 && l == 0 && isNameB s
  else if k == 25 then v == 0 && strEq s (ByteArray.mk #[])
  else if k == 26 then strEq s (ByteArray.mk #[]) && l == 1
  else false
def form (n : Nd) : Bool := formB n.k n.n n.s n.kids.length
def givesI (c : Int) : Int := if c == 1 then 2 else if c == 2 then 2 else if c == 10 then 3 else 1
def bodyI (q : Int) : Int := if decide (q ≤ 3) then 2 else 1
def wholeI (q : Int) : Int := if decide (q ≤ 2) then 2 else 1
structure WS where
  parts : Int
  ks : List (Option Nd)
  ts : List Int
  ok : Bool
def WS.bad (s : WS) : WS := { s with ok := false }
def WS.inc (s : WS) : WS := { s with parts := w64 (s.parts + 1) }
def nd0 : Nd := .mk 0 0 (ByteArray.mk #[]) []
def Nd.kid (n : Nd) (i : Nat) : Nd := n.kids.getD i nd0
def mustW (r : Int × WS) (k : Int) : WS := if r.1 != k then r.2.bad else r.2
def allW (kf : WS → Nd → Int × WS) (k : Int) : WS → List Nd → WS
  | st, [] => st
  | st, x :: l => allW kf k (mustW (kf st x) k) l
def setL (kf : WS → Nd → Int × WS) : WS → List Nd → WS
  | st, [] => st
  | st, x :: l => if st.ok then setL kf (mustW (kf st x) 3) l else st
def setW (kf : WS → Nd → Int × WS) (st : WS) : Nd → WS
  | .mk k v s l =>
    if decide (w64 (st.parts + 1) > 4096) then st.inc.bad else if decide (k < 22) then st.inc.bad else if decide (k > 25) then st.inc.bad else if !formB k v s l.length then st.inc.bad else setL kf st.inc l
def cellOut (r : Int × WS) (v a : Int) (x : Nd) : Int × WS := (r.1, { r.2 with ks := r.2.ks.set v.toNat (some x), ts := r.2.ts.set v.toNat a })
def cellThr (r : Int × WS) (v a : Int) (x : Nd) : Option Nd → Int × WS
  | none => cellOut r v a x
  | some y => if !sameNd y x then (0, r.2.bad) else if roundsN x then if r.2.ts.getD v.toNat 0 != a then (0, r.2.bad) else cellOut r v a x else cellOut r v a x
def cellTwo (r : Int × WS) (v a : Int) (x : Nd) (h : Int) : Int × WS :=
  if !r.2.ok then (0, r.2) else if decide (hangs a x > h) then (0, r.2.bad) else cellThr r v a x (r.2.ks.getD v.toNat none)
def cellW (cells : List Int) (kf : WS → Nd → Int × WS) (st : WS) (v : Int) (x : Nd) (a : Int) : Int × WS :=
  if decide (v < 0) then (0, st.bad) else if decide (v ≥ (cells.length : Int)) then (0, st.bad) else if decide (cells.getD v.toNat 0 > a) then (0, st.bad) else
  cellTwo (kf st x) v a x (cells.getD v.toNat 0)
def quantW (kf : Int → Int → WS → Nd → Int × WS) (st : WS) (v : Int) (x y : Nd) (a q : Int) : Int × WS :=
  if q == 4 then (0, st.bad) else (wholeI v, mustW (kf (w64 (a + 1)) (w64 (q + 1)) (setW (kf a (w64 (q + 1))) st x) y) (bodyI v))
def kindW (cells : List Int) : Nat → Int → Int → WS → Nd → Int × WS
  | 0, _, _, st, _ => (0, st)
  | f + 1, a, q, st, .mk k v s l =>
    if !st.ok then (0, st.inc.bad) else if decide (w64 (st.parts + 1) > 4096) then (0, st.inc.bad) else if !formB k v s l.length then (0, st.inc.bad) else
    if k == 1 then (1, st.inc) else if k == 2 then (2, st.inc) else if k == 3 then (3, st.inc)
    else if k == 5 then if decide (v ≥ a) then (3, st.inc.bad) else (3, st.inc)
    else if k == 6 || k == 8 || k == 9 || k == 10 || k == 11 || k == 12 then (1, allW (kindW cells f a q) 1 st.inc l)
    else if k == 7 || k == 17 || k == 18 then (2, allW (kindW cells f a q) 2 st.inc l)
    else if k == 15 || k == 16 then (2, allW (kindW cells f a q) 1 st.inc l)
    else if k == 13 || k == 14 then (2, mustW (kindW cells f a q (kindW cells f a q st.inc (l.getD 0 nd0)).2 (l.getD 1 nd0)) (kindW cells f a q st.inc (l.getD 0 nd0)).1)
    else if k == 19 then
      ((kindW cells f a q (mustW (kindW cells f a q st.inc (l.getD 0 nd0)) 2) (l.getD 1 nd0)).1,
        mustW (kindW cells f a q (kindW cells f a q (mustW (kindW cells f a q st.inc (l.getD 0 nd0)) 2) (l.getD 1 nd0)).2 (l.getD 2 nd0)) (kindW cells f a q (mustW (kindW cells f a q st.inc (l.getD 0 nd0)) 2) (l.getD 1 nd0)).1)
    else if k == 20 then (givesI v, allW (kindW cells f a q) 3 st.inc l)
    else if k == 21 then quantW (kindW cells f) st.inc v (l.getD 0 nd0) (l.getD 1 nd0) a q
    else if k == 26 then cellW cells (kindW cells f a q) st.inc v (l.getD 0 nd0) a
    else (0, st.inc.bad)
def cellsBad : List Int → Bool
  | [] => false
  | h :: l => if decide (h < 0) then true else if decide (h > 4) then true else cellsBad l
def refKind (p : Pl) : Int :=
  if decide ((p.cells.length : Int) > 256) then 0 else if cellsBad p.cells then 0 else
  let r := kindW p.cells p.root.size 0 0 ⟨0, List.replicate p.cells.length none, List.replicate p.cells.length 0, true⟩ p.root
  if !r.2.ok then 0 else r.1
end
end Go.Vx
namespace Go.Vx.Tryz
open Go Go.Vx Go.Proofs
theorem digit_c (c : Int) {w : World} : CallsX E.P 60 #[.int .u8 c] w (IsV (.bool (digitB c)) w) never :=
  vc80 ⟨fun h => ⟨by simp only [digitB, h, Bool.true_and], Upd.refl _ _⟩, fun h => ⟨by simp only [digitB, h, Bool.false_and], Upd.refl _ _⟩⟩
theorem small_c (c : Int) {w : World} : CallsX E.P 63 #[.int .u8 c] w (IsV (.bool (smallB c)) w) never :=
  vc83 ⟨fun h => ⟨by simp only [smallB, h, Bool.true_and], Upd.refl _ _⟩, fun h => ⟨by simp only [smallB, h, Bool.false_and], Upd.refl _ _⟩⟩
theorem great_c (c : Int) {w : World} : CallsX E.P 64 #[.int .u8 c] w (IsV (.bool (greatB c)) w) never :=
  vc84 ⟨fun h => ⟨by simp only [greatB, h, Bool.true_and], Upd.refl _ _⟩, fun h => ⟨by simp only [greatB, h, Bool.false_and], Upd.refl _ _⟩⟩
theorem blank_c (c : Int) {w : World} : CallsX E.P 42 #[.int .u8 c] w (IsV (.bool (blankB c)) w) never :=
  vc53 ⟨fun h => ⟨by simp only [blankB, h, Bool.true_or], Upd.refl _ _⟩, fun h => ⟨fun h2 => ⟨by simp only [blankB, h, h2, Bool.true_or, Bool.or_true, Bool.false_or], Upd.refl _ _⟩, fun h2 => ⟨fun h3 => ⟨by simp only [blankB, h, h2, h3, Bool.true_or, Bool.or_true, Bool.false_or], Upd.refl _ _⟩, fun h3 => ⟨by simp only [blankB, h, h2, h3, Bool.false_or], Upd.refl _ _⟩⟩⟩⟩
theorem gives_c (c : Int) {w : World} : CallsX E.P 75 #[.int .i64 c] w (IsV (.int .i64 (givesI c)) w) never :=
  vc95 ⟨fun h => ⟨by simp only [givesI, h, if_true], Upd.refl _ _⟩, fun h => ⟨fun h2 => ⟨by simp only [givesI, h, h2, if_true, Bool.false_eq_true, if_false], Upd.refl _ _⟩, fun h2 => ⟨fun h3 => ⟨by simp only [givesI, h, h2, h3, if_true, Bool.false_eq_true, if_false], Upd.refl _ _⟩, fun h3 => ⟨by simp only [givesI, h, h2, h3, Bool.false_eq_true, if_false], Upd.refl _ _⟩⟩⟩⟩
theorem body_c (c : Int) {w : World} : CallsX E.P 93 #[.int .i64 c] w (IsV (.int .i64 (bodyI c)) w) never :=
  vc122 ⟨fun h => ⟨by simp only [bodyI, h, if_true], Upd.refl _ _⟩, fun h => ⟨by simp only [bodyI, h, Bool.false_eq_true, if_false], Upd.refl _ _⟩⟩
theorem whole_c (c : Int) {w : World} : CallsX E.P 94 #[.int .i64 c] w (IsV (.int .i64 (wholeI c)) w) never :=
  vc123 ⟨fun h => ⟨by simp only [wholeI, h, if_true], Upd.refl _ _⟩, fun h => ⟨by simp only [wholeI, h, Bool.false_eq_true, if_false], Upd.refl _ _⟩⟩
theorem callB0 {f : Nat} {args : Array Value} {w : World} {X : ContX} {x : Bool} (h : CallsX E.P f args w (IsV (.bool x) w) never) {K : Bool → World → Prop} (k : ∀ w2, Ext w w2 → K x w2) :
    ∃ (R : Value → World → Prop) (X' : ContX), CallsX E.P f args w R X' ∧ (∀ v w2, R v w2 → ∃ y, v = .bool y ∧ ∃ S, Upd w w2 S ∧ Away [] S ∧ K y w2) ∧ ∀ ch w2, X' ch w2 → X ch w2 := callB h k
theorem row_cell {w : World} {id ty j : Nat} {cs : List Value} {c : Value} (h : w.heap[id]? = some (.cells cs.toArray ty (0, 0))) (hc : cs[j]? = some c) : CellsIn w ((⟨id, 0, none⟩ : Addr).add (Int.toNat (j : Int) * 1)) [c] := by
  have hj : Int.toNat (j : Int) * 1 = j := by omega
  rw [hj, add_plain]
  refine ⟨fun i u hi => ?_⟩
  cases i with
  | zero =>
    simp at hi; subst hi
    rw [add_plain]
    simp only [World.cell?, h, Nat.zero_add, Nat.add_zero]
    simpa using hc
  | succ i => simp at hi
theorem word_c (a : ByteArray) {w : World} : CallsX E.P 65 #[.string a] w (IsV (.bool (wordIn a wordsL)) w) never := by
  refine vc85 ?_
  intro id hid w1 hE hi hcell
  refine loop0 (kids := wordsL) (l := 27) rfl (by omega) hE (fun _ => wordIn a) (fun I m j w2 hj hg hE2 k => ?_) (fun w2 hg hE2 _ => ⟨by rw [← hg]; rfl, hE2⟩)
  have hj27 : j < 27 := hj
  rw [wordIn] at hg
  have hx : wordsL[j]? = some wordsL[j] := List.getElem?_eq_getElem hj
  generalize wordsL[j] = x at hg hx
  refine ⟨by omega, _, rfl, fun hh => ⟨x, row_cell (cs := wordsL.map Value.string) hh (by rw [List.getElem?_map, hx]; rfl), fun h _ => ?_, fun h _ => ?_⟩⟩
  · rw [if_pos h] at hg
    exact ⟨by rw [← hg], hE2⟩
  · rw [if_neg (by rw [h]; exact Bool.false_ne_true)] at hg
    exact k _ hg hE2
theorem isName_c (a : ByteArray) {w : World} : CallsX E.P 66 #[.string a] w (IsV (.bool (isNameB a)) w) never := by
  refine vc86 ?_
  refine ⟨fun h1 => ⟨by simp only [isNameB, h1, if_true], Upd.refl _ _⟩, fun h1 => ⟨fun h2 => ⟨by simp only [isNameB, h1, h2, if_true, Bool.false_eq_true, if_false], Upd.refl _ _⟩, fun h2 => ?_⟩⟩
  have e1 : 1 ≤ a.size := by simp at h1; omega
  have e2 : a.size ≤ 12 := by simp at h2; omega
  refine ⟨by omega, callB0 (small_c _) fun w2 hE2 => ⟨fun h3 => ⟨by simp only [isNameB, h1, h2, h3, if_true, Bool.false_eq_true, if_false], hE2⟩, fun h3 => ?_⟩⟩
  have hl := bytesL_len a
  have hw : isNameB a = (nameL (bytesL a) && !wordIn a wordsL) := by simp only [isNameB, h1, h2, h3, Bool.false_eq_true, if_false]
  rw [hw]
  refine loop0 (kids := bytesL a) hl (by omega) hE2 (fun _ => nameL) (fun I m j w3 hj hg hE3 k => ?_) (fun w3 hg hE3 => ?_)
  · rw [nameL] at hg
    have hjl : j < a.size := by omega
    rw [byteAt_get hj]
    refine ⟨by omega, callB0 (small_c _) fun w4 hE4 => ⟨fun h4 => ⟨fun h => (nomatch h), fun _ => ?_⟩, fun h4 => ⟨by omega, callB0 (digit_c _) fun w5 hE5 => ⟨fun h5 => ⟨fun h => (nomatch h), fun _ => ?_⟩, fun h5 => ⟨by omega, fun h6 => ?_, fun h6 => ?_⟩⟩⟩⟩⟩
    · exact k _ (by simpa only [h4, Bool.true_or, if_true] using hg) (hE3.trans hE4)
    · exact k _ (by simpa only [h5, Bool.true_or, Bool.or_true, if_true] using hg) ((hE3.trans hE4).trans hE5)
    · have h6' : ((bytesL a)[j] == 95) = false := by simpa using h6
      simp only [h4, h5, h6', Bool.or_self, Bool.false_eq_true, if_false] at hg
      exact ⟨by rw [← hg]; rfl, (hE3.trans hE4).trans hE5⟩
    · have h6' : ((bytesL a)[j] == 95) = true := by simpa using h6
      exact k _ (by simpa only [h6', Bool.or_true, if_true] using hg) ((hE3.trans hE4).trans hE5)
  · rw [nameL] at hg
    exact callB0 (word_c a) fun w4 hE4 => ⟨by rw [← hg]; rfl, hE3.trans hE4⟩
end Go.Vx.Tryz
