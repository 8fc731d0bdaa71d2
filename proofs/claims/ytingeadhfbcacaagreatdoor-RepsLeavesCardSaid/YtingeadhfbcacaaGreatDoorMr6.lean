/- Texts of the walk, gathered. -/
import Derived.Test.YtingeadhfbcacaaGreatDoorMr5
set_option linter.unusedSimpArgs false
set_option linter.unusedVariables false
namespace Go.Vx.Tryz
open Go Go.Vx Go.Proofs Go.ChangeShapes Go.WideShapes Go.ChangeAt Go.RowKit Go.Joins
set_option maxRecDepth 100000
set_option maxHeartbeats 400000
theorem wf_in {v : Int} (h : (Lit.int .i64 v).wf = true) : inB v = true := by
  have e1 : IntKind.min .i64 = -9223372036854775808 := by decide
  have e2 : IntKind.max .i64 = 9223372036854775807 := by decide
  have h : (decide (IntKind.min .i64 ≤ v) && decide (v ≤ IntKind.max .i64)) = true := h
  rw [e1, e2] at h
  exact h
section
variable {H : Type} {enc : TypeId × Value → H} {w : World} {sp : Nat → Bool} {hd : Bool}
theorem read_nodeR : ∀ (fuel : Nat) (cs : List Value) (x : DataW H × List MemPlace), DataW.trod enc Tryz.prog w 0 sp hd fuel 24 cs = some x → Fits 24 x.1 → ∃ n, NdG w false (Old w) n cs ∧ inR n = true := by
  intro fuel
  induction fuel using Nat.strongRecOn with
  | ind fuel ih =>
    intro cs x h hx
    obtain ⟨xs, n, rfl, rfl, hlen, hxs, hf⟩ := DataW.trod_struct Tryz.underlying24 h
    rw [cellsOf24] at hlen
    match cs, hlen with
    | [c0, c1, c2, c3], _ =>
      match xs, hxs with
      | [y0, y1, y2, y3], _ =>
        have f0 : DataW.trod enc Tryz.prog w 0 sp hd n 3 (List.take (Tryz.prog.cellsOf 3) [c0, c1, c2, c3]) = some y0 := hf 0 _ rfl
        have f1 : DataW.trod enc Tryz.prog w 0 sp hd n 3 (List.take (Tryz.prog.cellsOf 3) [c1, c2, c3]) = some y1 := hf 1 _ rfl
        have f2 : DataW.trod enc Tryz.prog w 0 sp hd n 9 (List.take (Tryz.prog.cellsOf 9) [c2, c3]) = some y2 := hf 2 _ rfl
        have f3 : DataW.trod enc Tryz.prog w 0 sp hd n 22 (List.take (Tryz.prog.cellsOf 22) [c3]) = some y3 := hf 3 _ rfl
        rw [cellsOf3] at f0 f1
        rw [cellsOf9] at f2
        rw [cellsOf22] at f3
        obtain ⟨k, e0, _, _⟩ := DataW.trod_int Tryz.underlying3 f0
        obtain ⟨v, e1, _, hv⟩ := DataW.trod_int Tryz.underlying3 f1
        obtain ⟨s, e2, _, _⟩ := DataW.trod_string Tryz.underlying9 f2
        cases e0; cases e1; cases e2
        rcases DataW.trod_slice Tryz.underlying22 f3 with ⟨e3, _⟩ | ⟨a, len, cap, elems, rest, n', rfl, e3, hy3, hb, hl, hm, hlen2, hel, _, _⟩
        · cases e3
          exact ⟨.mk k v s [], NdsG.node (n := .mk k v s []) ((nds_nil (w := w) (F := Old w)).plain), by rw [inR, inRL, wf_in hv]; rfl⟩
        · cases e3
          have hk := Fits.part (x := y3.1) (j := 3) Tryz.underlying24 hx rfl rfl
          rw [hy3] at hk
          obtain ⟨hb8, hel2⟩ := Fits.slice Tryz.underlying22 hk
          rw [bytesOf24, List.length_map, hlen2] at hb8
          obtain ⟨kids, rows, h1, h2, h3⟩ := rows_of (w := w) (a := a) (z := 4) (len := len) (cap := cap) (q := fun (x : Nd) cs => NdG w false (Old w) x cs ∧ inR x = true) (by decide) hl (by simp only [reachBytes] at hb8; omega) fun i hi => by
            have := hel i hi
            rw [List.getElem?_eq_getElem (by omega), cellsOf24] at this
            obtain ⟨cs', h4, h5⟩ := Option.bind_eq_some_iff.1 this
            obtain ⟨m, hm⟩ := ih n' (by omega) cs' _ h5 (hel2 _ (List.mem_map.2 ⟨_, List.getElem_mem _, rfl⟩))
            exact ⟨cs', m, h4, hm⟩
          exact ⟨.mk k v s kids, .mk (Old w) k v s kids (some a) len cap rows (fun _ => Old w) h1 h2 (fun i x hx => (h3 i x hx).1) (fun _ _ _ h => h) (fun h => nomatch h), by
            rw [inR, wf_in hv, inRL_iff.2 fun x hx => ?_]
            · rfl
            · obtain ⟨i, hi⟩ := List.getElem?_of_mem hx
              exact (h3 i x hi).2⟩
theorem read_planR {v : Value} {d : DataW H} {ps : List MemPlace} {r : Reach} {b0 : Nat} (hv : Value.okWide Tryz.prog w r b0 27 v) (h : DataW.Trod enc Tryz.prog w 0 sp hd 27 v d ps) (hx : Fits 27 d) : ∃ p A l c B bl bc, v = plA p A l c B bl bc ∧ inR p.root = true ∧ NdsR w (Old w) p.root.kids A l c ∧ IntsR w (Old w) p.cells B bl bc := by
  obtain ⟨fuel, hf⟩ := h
  obtain ⟨cs, rfl, hsz⟩ := okWide_struct Tryz.underlying27 hv
  obtain ⟨y0, y1, n, he, hlen, h0, h1⟩ := trod_struct2 Tryz.underlying27 hf
  cases he
  rw [cellsOf27] at hlen
  obtain ⟨cs⟩ := cs
  have hlen : cs.length = 5 := hlen
  match cs, hlen with
  | [c0, c1, c2, c3, c4], _ =>
    have h0 : DataW.trod enc Tryz.prog w 0 sp hd n 24 (List.take (Tryz.prog.cellsOf 24) [c0, c1, c2, c3, c4]) = some y0 := h0
    have h1 : DataW.trod enc Tryz.prog w 0 sp hd n 25 (List.take (Tryz.prog.cellsOf 25) [c4]) = some y1 := h1
    rw [cellsOf24] at h0
    rw [cellsOf25] at h1
    obtain ⟨m, hm, hmr⟩ := read_nodeR _ _ _ h0 (Fits.part (j := 0) Tryz.underlying27 hx rfl rfl)
    obtain ⟨zs, B, bl, bc, e4, hz⟩ := read_ints h1 (Fits.part (j := 1) Tryz.underlying27 hx rfl rfl)
    cases e4
    obtain ⟨A, l, c, e, hk⟩ := hm.kids
    cases e
    exact ⟨⟨m, zs⟩, A, l, c, B, bl, bc, rfl, hmr, hk, hz⟩
end
end Go.Vx.Tryz
