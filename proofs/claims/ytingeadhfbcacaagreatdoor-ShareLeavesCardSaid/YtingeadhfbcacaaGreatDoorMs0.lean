/- Texts of the walk, gathered. -/
import Derived.WalkKit
import Derived.OrdersHeld
import Derived.Deep.LoopGhost
set_option linter.unusedSimpArgs false
set_option linter.unusedVariables false
namespace Go.Vx
open Go
section
structure Upd (w w' : World) (S : Nat → Prop) : Prop where
  os : w'.os = w.os
  tape : w'.tape = w.tape
  output : w'.output = w.output
  size : w.heap.size ≤ w'.heap.size
  keep : ∀ k, k < w.heap.size → ¬ S k → w'.heap[k]? = w.heap[k]?
def no : Nat → Prop := fun _ => False
abbrev Ext (w w' : World) : Prop := Upd w w' no
structure CallsX (P : Program) (f : FuncId) (args : Array Value) (w : World) (R : Value → World → Prop) (X : List PanicEntry → World → Prop) : Prop where
  of :: (out : Calls P f args w fun e w' => match e with
    | .returned v => R v w'
    | .panicked ch => X ch w'
    | .outgrown => False)
def never : List PanicEntry → World → Prop := fun _ _ => False
structure RunsTo (P : Program) (s : Sem Value) (w : World) (R : Value → World → Prop) : Prop where
  of :: (out : ∃ v w', s.run P w = .ok v w' ∧ R v w')
structure RunsU (P : Program) (s : Sem Unit) (w : World) (R : World → Prop) : Prop where
  of :: (out : ∃ w', s.run P w = .ok () w' ∧ R w')
def awayL : List Nat → (Nat → Prop) → Prop
  | [], _ => True
  | i :: r, S => ¬ S i ∧ awayL r S
structure Away (l : List Nat) (S : Nat → Prop) : Prop where
  of :: (out : awayL l S)
structure CellsIn (w : World) (p : Addr) (cs : List Value) : Prop where
  of :: (out : ∀ (j : Nat) (c : Value), cs[j]? = some c → w.cell? (p.add j) = some c)
inductive Sh where
  | no
  | ptr (k off : Nat)
  | row (k : Nat)
  | lb (b : Bool)
  | clo (l : List Nat)
structure Ent where
  v : Value
  sh : Sh
  st : Nat
structure Blk where
  id : Nat
  ty : Nat
  rw : Bool
  cs : List Ent
structure St where
  tm : List Ent
  bl : List Blk
  w : World
  cl : Bool
  D : List Nat
  n0 : Nat
  ck : Nat
inductive CK where
  | int (k : IntKind) | bool | str | slc | ptr | map | any
def CK.all : CK → (Value → Prop) → Prop
  | .int k, f => ∀ x : Int, f (.int k x)
  | .bool, f => ∀ x : Bool, f (.bool x)
  | .str, f => ∀ x : ByteArray, f (.string x)
  | .slc, f => ∀ (a : Option Addr) (n c : Nat), f (.slice a n c)
  | .ptr, f => ∀ a : Option Addr, f (.pointer a)
  | .map, f => ∀ r : Option Nat, f (.map r)
  | .any, f => ∀ v : Value, f v
def CK.ex : CK → (Value → Prop) → Prop
  | .int k, f => ∃ x : Int, f (.int k x)
  | .bool, f => ∃ x : Bool, f (.bool x)
  | .str, f => ∃ x : ByteArray, f (.string x)
  | .slc, f => ∃ (a : Option Addr) (n c : Nat), f (.slice a n c)
  | .ptr, f => ∃ a : Option Addr, f (.pointer a)
  | .map, f => ∃ r : Option Nat, f (.map r)
  | .any, f => ∃ v : Value, f v
def allL : List CK → (List Value → Prop) → Prop
  | [], f => f []
  | c :: cs, f => c.all fun v => allL cs fun vs => f (v :: vs)
def exL : List CK → (List Value → Prop) → Prop
  | [], f => f []
  | c :: cs, f => c.ex fun v => exL cs fun vs => f (v :: vs)
def Inv : List CK → Type
  | [] => World → Prop
  | .int _ :: cs => Int → Inv cs
  | .bool :: cs => Bool → Inv cs
  | .str :: cs => ByteArray → Inv cs
  | .slc :: cs => Option Addr → Nat → Nat → Inv cs
  | .ptr :: cs => Option Addr → Inv cs
  | .map :: cs => Option Nat → Inv cs
  | .any :: cs => Value → Inv cs
def Inv.at : (cs : List CK) → Inv cs → List Value → World → Prop
  | [], I, _, w => I w
  | .int k :: cs, I, .int k' x :: vs, w => if k = k' then Inv.at cs (I x) vs w else False
  | .bool :: cs, I, .bool x :: vs, w => Inv.at cs (I x) vs w
  | .str :: cs, I, .string x :: vs, w => Inv.at cs (I x) vs w
  | .slc :: cs, I, .slice a n c :: vs, w => Inv.at cs (I a n c) vs w
  | .ptr :: cs, I, .pointer a :: vs, w => Inv.at cs (I a) vs w
  | .map :: cs, I, .map r :: vs, w => Inv.at cs (I r) vs w
  | .any :: cs, I, v :: vs, w => Inv.at cs (I v) vs w
  | _, _, _, _ => False
def Mea : List CK → Type
  | [] => Nat
  | .int _ :: cs => Int → Mea cs
  | .bool :: cs => Bool → Mea cs
  | .str :: cs => ByteArray → Mea cs
  | .slc :: cs => Option Addr → Nat → Nat → Mea cs
  | .ptr :: cs => Option Addr → Mea cs
  | .map :: cs => Option Nat → Mea cs
  | .any :: cs => Value → Mea cs
def Mea.at : (cs : List CK) → Mea cs → List Value → Nat
  | [], I, _ => I
  | .int _ :: cs, I, .int _ x :: vs => Mea.at cs (I x) vs
  | .bool :: cs, I, .bool x :: vs => Mea.at cs (I x) vs
  | .str :: cs, I, .string x :: vs => Mea.at cs (I x) vs
  | .slc :: cs, I, .slice a n c :: vs => Mea.at cs (I a n c) vs
  | .ptr :: cs, I, .pointer a :: vs => Mea.at cs (I a) vs
  | .map :: cs, I, .map r :: vs => Mea.at cs (I r) vs
  | .any :: cs, I, v :: vs => Mea.at cs (I v) vs
  | _, _, _ => 0
structure TyI where
  agg : Bool
  zero : List Value
  offs : List (Nat × Nat)
  el : Option Nat
  ck : List CK
  kd : Nat
def placesOf (P : Program) : List Field → Option (List (Nat × Nat))
  | [] => some []
  | f :: fs =>
    match P.info? f.type, placesOf P fs with
    | some y, some r => some ((f.offset, y.size) :: r)
    | _, _ => none
def placesArr (P : Program) (n e : Nat) : Option (List (Nat × Nat)) :=
  (P.info? e).map fun y => if n ≤ 64 then (List.range n).map fun k => (k * y.size, y.size) else []
def kcode : IntKind → Nat
  | .i8 => 0 | .i16 => 1 | .i32 => 2 | .i64 => 3 | .u8 => 4 | .u16 => 5 | .u32 => 6 | .u64 => 7
def kindOf : Nat → Option IntKind
  | 10 => some .i8 | 11 => some .i16 | 12 => some .i32 | 13 => some .i64 | 14 => some .u8 | 15 => some .u16 | 16 => some .u32 | 17 => some .u64
  | _ => none
def TyI.shape (P : Program) (i : TyI) : TypeDesc → Prop
  | .struct fs => i.agg = true ∧ i.el = none ∧ i.kd = 0 ∧ placesOf P fs.toList = some i.offs
  | .array n e => i.agg = true ∧ i.el = none ∧ i.kd = 5 ∧ placesArr P n e = some i.offs
  | .slice e => i.agg = false ∧ i.el = some e ∧ i.kd = 0 ∧ i.offs = []
  | .string => i.agg = false ∧ i.el = none ∧ i.kd = 1 ∧ i.offs = []
  | .bool => i.agg = false ∧ i.el = none ∧ i.kd = 2 ∧ i.offs = []
  | .int k => i.agg = false ∧ i.el = none ∧ i.kd = 10 + kcode k ∧ i.offs = []
  | .interface _ => i.agg = false ∧ i.el = none ∧ i.kd = 4 ∧ i.offs = []
  | _ => i.agg = false ∧ i.el = none ∧ i.kd = 0 ∧ i.offs = []
def TyI.ok (P : Program) (t : Nat) (i : TyI) : Prop :=
  ∃ x d, P.info? t = some x ∧ P.underlying t = some d ∧ x.size = i.zero.length ∧
    x.zero = some (if i.agg then .agg i.zero.toArray else i.zero.getD 0 undef) ∧ i.shape P d ∧
    (i.zero.all Value.oneCell') = true ∧ (i.agg = false → i.zero.length = 1)
def impL : List Prop → Prop → Prop
  | [], q => q
  | p :: ps, q => p → impL ps q
def Blk.at (b : Blk) (w : World) : Prop := w.heap[b.id]? = some (.cells (b.cs.map Ent.v).toArray b.ty (0, 0))
def setOf : List Nat → Nat → Prop
  | [] => no
  | i :: r => fun b => b = i ∨ setOf r b
def undefE : Ent := ⟨undef, .no, 0⟩
def St.ev (s : St) : Operand → Ent
  | .tmp t => s.tm.getD t undefE
  | .const v => ⟨v, (match v with | .bool b => .lb b | _ => .no), 0⟩
  | .global g => ⟨.pointer (some ⟨g, 0, none⟩), .no, 0⟩
  | .func f => ⟨.func (.func f) #[] #[], .no, 0⟩
def St.put (s : St) (d : Option Nat) (v : Value) (sh : Sh) : St :=
  match d with
  | none => s
  | some d => { s with tm := s.tm.set d ⟨v, sh, s.ck⟩ }
def St.ids (s : St) : List Nat := s.bl.map Blk.id
def idsOf (bl : List Blk) (D : List Nat) : List Nat := D.filterMap fun k => (bl[k]?).map Blk.id
def St.show (s : St) (w : World) : St := { s with w := w, cl := true, D := [], n0 := s.bl.length }
def rowsOf (bl : List Blk) (w : World) : List Prop := bl.filterMap fun b => if b.rw then some (b.at w) else none
def wantsOf (bl : List Blk) (wants : List Nat) (w : World) : List Prop := wants.filterMap fun k => (bl[k]?).map fun b => b.at w
def flush (s : St) (wants : List Nat) (K : St → World → Prop) : Prop :=
  if s.cl then impL (wantsOf s.bl wants s.w ++ rowsOf s.bl s.w) (K (s.show s.w) s.w)
  else ∀ w1 : World, Upd s.w w1 (setOf (idsOf s.bl s.D)) → impL ((s.bl.drop s.n0).map fun b => b.id < w1.heap.size)
    (impL (wantsOf s.bl wants w1 ++ rowsOf s.bl w1) (K (s.show w1) w1))
def exT (T : Nat → Option TyI) (U : Nat → List Nat) (t : Nat) (f : Value → Prop) : Prop :=
  match U t with
  | [] =>
    match T t with
    | none => ∃ v, f v
    | some i => if i.agg then exL i.ck fun vs => f (.agg vs.toArray) else (match i.ck with | c :: _ => c.ex f | [] => ∃ v, f v)
  | ts => go T ts [] f
 where
  go (T : Nat → Option TyI) : List Nat → List Value → (Value → Prop) → Prop
    | [], acc, f => f (.tuple acc.toArray)
    | t :: ts, acc, f =>
      match T t with
      | none => ∃ v : Value, go T ts (acc ++ [v]) f
      | some i => if i.agg then exL i.ck fun vs => go T ts (acc ++ [.agg vs.toArray]) f else (match i.ck with | c :: _ => c.ex fun v => go T ts (acc ++ [v]) f | [] => ∃ v : Value, go T ts (acc ++ [v]) f)
def strEq (x y : ByteArray) : Bool := x.toList == y.toList
def strLt (x y : ByteArray) : Bool := Op.bytesLess x.toList y.toList
def byteAt (s : ByteArray) (i : Int) : Int := ((s.data.getD i.toNat 0).toNat : Int)
def bin (op : BinOp) (x y : Value) : Option Value :=
  match x, y with
  | .int k a, .int k' b =>
    if k = k' then
      match op with
      | .add => some (.int k (k.wrap (a + b)))
      | .sub => some (.int k (k.wrap (a - b)))
      | .mul => some (.int k (k.wrap (a * b)))
      | .eql => some (.bool (a == b))
      | .neq => some (.bool (a != b))
      | .lss => some (.bool (a < b))
      | .leq => some (.bool (a ≤ b))
      | .gtr => some (.bool (a > b))
      | .geq => some (.bool (a ≥ b))
      | .shr => if b = 1 then some (.int k (a / 2)) else none
      | .quo => if b = 10 then some (.int k (k.wrap (a.tdiv 10))) else none
      | .rem => if b = 10 then some (.int k (a.tmod 10)) else none
      | _ => none
    else none
  | .string a, .string b =>
    match op with
    | .eql => some (.bool (strEq a b))
    | .neq => some (.bool (!strEq a b))
    | .lss => some (.bool (strLt a b))
    | _ => none
  | _, _ => none
def lateOp (op : BinOp) : Operand → Bool
  | .const _ => false
  | _ => match op with
    | .quo | .rem | .shl | .shr => true
    | _ => false
def binB (T : Nat → Option TyI) (op : BinOp) (t : Nat) (x y : Value) : Option Value :=
  match op, x, y with
  | .eql, .bool a, .bool b => match T t with | some i => if i.kd = 2 then some (.bool (a == b)) else none | none => none
  | .neq, .bool a, .bool b => match T t with | some i => if i.kd = 2 then some (.bool (!(a == b))) else none | none => none
  | _, _, _ => none
def setAt {α : Type} (cs : List α) (off : Nat) : List α → List α
  | [] => cs
  | v :: vs => setAt (cs.set off v) (off + 1) vs
def fillB (i : TyI) (s : St) : List Value → List (Nat × Operand) → Option (List Value)
  | cs, [] => some cs
  | cs, (j, x) :: r =>
    match i.offs[j]? with
    | none => none
    | some (o, z) =>
      let vs := (s.ev x).v.cells.toList
      if vs.length = z ∧ o + z ≤ cs.length then fillB i s (setAt cs o vs) r else none
def quietB (T : Nat → Option TyI) (s : St) : Builtin → List Operand → List Nat → Option (Value × Sh)
  | .len, [x], [t] =>
    match T t, (s.ev x).v with
    | some i, .slice _ n _ => if i.el.isSome then some (.int .i64 n, .no) else none
    | some i, .string s => if i.kd = 1 then some (.int .i64 s.size, .no) else none
    | _, _ => none
  | .max, [x, y], _ =>
    match (s.ev x).v, (s.ev y).v with
    | .int k a, .int _ b => some (.int k (if b > a then b else a), .no)
    | _, _ => none
  | .min, [x, y], _ =>
    match (s.ev x).v, (s.ev y).v with
    | .int k a, .int _ b => some (.int k (if b < a then b else a), .no)
    | _, _ => none
  | _, _, _ => none
def quiet (T : Nat → Option TyI) (s : St) : Op → Option (Value × Sh)
  | .move x | .assign x => some ((s.ev x).v, (s.ev x).sh)
  | .pick c a b =>
    match (s.ev c).sh with
    | .lb c => if c then some ((s.ev a).v, (s.ev a).sh) else some ((s.ev b).v, (s.ev b).sh)
    | _ => none
  | .nilCheck x =>
    match (s.ev x).v with
    | .pointer (some a) => some (.pointer (some a), (s.ev x).sh)
    | .func (.func f) a b => some (.func (.func f) a b, .no)
    | _ => none
  | .fieldAddr t x f =>
    match T t with
    | none => none
    | some i =>
      if i.kd = 5 then none else
      match i.offs[f]?, (s.ev x).sh with
      | some (o, _ + 1), .ptr k off => (s.bl[k]?).map fun b => (.pointer (some ⟨b.id, off + o, none⟩), .ptr k (off + o))
      | some (o, _ + 1), .no =>
        match (s.ev x).v with
        | .pointer (some p) => some (.pointer (some (p.add o)), .no)
        | _ => none
      | _, _ => none
  | .indexAddr t x j =>
    match T t, (s.ev x).sh, (s.ev j).v with
    | some i, .ptr k off, .int _ n =>
      if i.kd = 5 ∧ 0 ≤ n then
        match i.offs[n.toNat]? with
        | some (o, _) => (s.bl[k]?).map fun b => (.pointer (some ⟨b.id, off + o, none⟩), .ptr k (off + o))
        | none => none
      else none
    | _, _, _ => none
  | .load t x =>
    match T t, (s.ev x).sh with
    | some i, .ptr k off =>
      match s.bl[k]? with
      | none => none
      | some b =>
        if i.agg then
          if off + i.zero.length ≤ b.cs.length then some (.agg (((b.cs.drop off).take i.zero.length).map Ent.v).toArray, .no) else none
        else (b.cs[off]?).map fun e => (e.v, e.sh)
    | _, _ => none
  | .binOp op t x y _ =>
    match lateOp op y with
    | true => none
    | false =>
      match bin op (s.ev x).v (s.ev y).v with
      | some v => some (v, .no)
      | none => (binB T op t (s.ev x).v (s.ev y).v).map fun v => (v, .no)
  | .unOp op _ x =>
    match op, (s.ev x).v with
    | .not, .bool b => some (.bool (!b), .no)
    | .neg, .int k n => some (.int k (k.wrap (0 - n)), .no)
    | _, _ => none
  | .build t parts =>
    match T t with
    | none => none
    | some i => if i.agg then (fillB i s i.zero parts.toList).map fun cs => (.agg cs.toArray, .no) else none
  | .extract x i =>
    match (s.ev x).v with
    | .tuple vs => (vs[i]?).map fun v => (v, .no)
    | _ => none
  | .convert src dst x =>
    match T src, T dst, (s.ev x).v with
    | some _, some i, .int _ n => (kindOf i.kd).map fun k => (.int k (k.wrap n), .no)
    | _, _, _ => none
  | .makeInterface t x =>
    match T t with
    | none => none
    | some i => if i.kd = 4 then none else some (.iface t (s.ev x).v, .no)
  | .makeFunc (.func f) a b => some (.func (.func f) (a.map fun x => (s.ev x).v) (b.map fun x => (s.ev x).v), .clo (b.toList.filterMap fun x => match (s.ev x).sh with | .ptr k _ => some k | _ => none))
  | .call c =>
    match c.callee with
    | .builtin b => quietB T s b c.args.toList c.argTypes.toList
    | _ => none
  | _ => none
end
section
open Go
def ShOk (ids : List Nat) (e : Ent) : Prop :=
  match e.sh with
  | .no => True
  | .ptr k off => ∃ i, ids[k]? = some i ∧ e.v = .pointer (some ⟨i, off, none⟩)
  | .row k => ∃ i, ids[k]? = some i ∧ ∃ n c, e.v = .slice (some ⟨i, 0, none⟩) n c
  | .lb b => e.v = .bool b
  | .clo _ => True
structure Fr (s : St) (a : Act) : Prop where
  tm : a.tmps = (s.tm.map Ent.v).toArray
  df : a.defers = []
  sh : ∀ e ∈ s.tm, ShOk s.ids e
  sc : ∀ b ∈ s.bl, ∀ e ∈ b.cs, ShOk s.ids e
def Bls (bl : List Blk) (w : World) : Prop := ∀ b ∈ bl, b.at w
theorem Fr.ev {s : St} {a : Act} (h : Fr s a) (x : Operand) : a.eval x = (s.ev x).v := by
  cases x with
  | tmp t =>
    simp only [Act.eval, h.tm, St.ev]
    simp only [Array.getD_eq_getD_getElem?, List.getElem?_toArray, List.getElem?_map, List.getD_eq_getElem?_getD]
    cases s.tm[t]? <;> rfl
  | const v => rfl
  | global g => rfl
  | func f => rfl
theorem Fr.evSh {s : St} {a : Act} (h : Fr s a) (x : Operand) : ShOk s.ids (s.ev x) := by
  cases x with
  | tmp t =>
    simp only [St.ev, List.getD_eq_getElem?_getD]
    cases e : s.tm[t]? with
    | none => simp [undefE, ShOk]
    | some y => exact h.sh y (List.mem_of_getElem? e)
  | const v => cases v <;> simp [St.ev, ShOk]
  | global g => simp [St.ev, ShOk]
  | func f => simp [St.ev, ShOk]
theorem bin_run {P : Program} {op : BinOp} {t : TypeId} {x y : Operand} {u v r : Value} {w : World} (h : bin op u v = some r) :
    (do eqGuard op t x y u v; binOp op t u v : Sem Value).run P w = .ok r w := by
  unfold bin at h
  split at h
  · rename_i k a k' b
    split at h
    · rename_i hk
      subst hk
      have hg : (eqGuard op t x y (.int k a) (.int k b)).run P w = .ok () w := by
        unfold eqGuard; cases op <;> simp
      by_cases hsh : op = .shr
      · subst hsh
        simp only at h
        split at h
        · rename_i hb
          subst hb
          cases h
          rw [Sem.run_bind, hg]
          have hbits : min 1 k.bits = 1 := by cases k <;> rfl
          have hd : a.fdiv 2 = a / 2 := Int.fdiv_eq_ediv_of_nonneg a (by omega)
          simp [binOp, Op.shift, hbits, hd]
        · cases h
      · by_cases hq : op = .quo ∨ op = .rem
        · rcases hq with rfl | rfl <;>
            (simp only at h
             split at h
             · rename_i hb
               subst hb
               cases h
               rw [Sem.run_bind, hg]
               simp [binOp, Op.intDiv]
             · cases h)
        · have hq1 : op ≠ .quo := fun e => hq (.inl e)
          have hq2 : op ≠ .rem := fun e => hq (.inr e)
          cases op <;> simp only [reduceCtorEq, Option.some.injEq, ne_eq, not_true_eq_false] at h hsh hq1 hq2 <;> first | exact absurd trivial hsh | subst h <;>
            (rw [Sem.run_bind, hg]; simp [binOp, Op.intArith, Op.intCmp])
    · cases h
  · rename_i a b
    have hg : (eqGuard op t x y (.string a) (.string b)).run P w = .ok () w := by
      unfold eqGuard; cases op <;> simp
    cases op <;> simp only [reduceCtorEq, Option.some.injEq] at h <;> subst h <;>
      (rw [Sem.run_bind, hg]; simp [binOp, Op.stringOp, strEq, strLt])
  · cases h
theorem add_plain (g j n : Nat) : (⟨g, j, none⟩ : Addr).add n = ⟨g, j + n, none⟩ := by unfold Addr.add; split <;> simp_all
theorem Blk.cell {b : Blk} {w : World} (h : b.at w) (j : Nat) : w.cell? ⟨b.id, j, none⟩ = (b.cs[j]?).map Ent.v := by
  rw [cell_of_row w b.id j _ b.ty (0, 0) h]; simp
theorem run_load_cell {P : Program} {b : Blk} {w : World} (h : b.at w) {j : Nat} {e : Ent} (he : b.cs[j]? = some e) :
    (load ⟨b.id, j, none⟩).run P w = .ok e.v w := by
  rw [run_load, Blk.cell h, he]; rfl
theorem run_loadCellsFrom {P : Program} {b : Blk} {w : World} (h : b.at w) (off : Nat) : ∀ (n i : Nat) (acc : List Value), off + i + n ≤ b.cs.length →
    (loadCellsFrom ⟨b.id, off, none⟩ i n acc.toArray).run P w = .ok (acc ++ ((b.cs.drop (off + i)).take n).map Ent.v).toArray w := by
  intro n
  induction n with
  | zero => intro i acc _; simp [loadCellsFrom]
  | succ n ih =>
    intro i acc hl
    have hlt : off + i < b.cs.length := by omega
    have he : b.cs[off + i]? = some b.cs[off + i] := List.getElem?_eq_getElem hlt
    unfold loadCellsFrom
    rw [Sem.run_bind, add_plain, run_load_cell h he, Result.andThen_ok, List.push_toArray, ih (i + 1) _ (by omega)]
    have key : ((b.cs.drop (off + i)).take (n + 1)).map Ent.v = b.cs[off + i].v :: ((b.cs.drop (off + (i + 1))).take n).map Ent.v := by
      rw [List.drop_eq_getElem_cons hlt]; rfl
    rw [key, List.append_assoc]; rfl
def TOk (P : Program) (T : Nat → Option TyI) : Prop := ∀ t i, T t = some i → i.ok P t
theorem run_sizeOf {P : Program} {t : Nat} {i : TyI} (h : i.ok P t) (w : World) : (sizeOf t).run P w = .ok i.zero.length w := by
  obtain ⟨x, d, hx, hd, hs, _⟩ := h
  simp [sizeOf, typeInfo, hx, hs]
theorem run_zero {P : Program} {t : Nat} {i : TyI} (h : i.ok P t) (w : World) : (zeroValue t).run P w = .ok (if i.agg then .agg i.zero.toArray else i.zero.getD 0 undef) w := by
  obtain ⟨x, d, hx, hd, hs, hz, _⟩ := h
  simp only [zeroValue, typeInfo, Sem.run_bind, run_program, Result.andThen_ok, hx, Sem.run_pure, hz]
theorem run_isAgg {P : Program} {t : Nat} {i : TyI} (h : i.ok P t) (w : World) : (isAgg t).run P w = .ok i.agg w := by
  obtain ⟨x, d, hx, hd, hs, hz, hm, _⟩ := h
  simp only [isAgg, underlying, Sem.run_bind, run_program, Result.andThen_ok, hd, Sem.run_pure]
  cases d <;> simp_all [TyI.shape]
theorem placesOf_get {P : Program} : ∀ (fs : List Field) (pl : List (Nat × Nat)), placesOf P fs = some pl → ∀ (j o z : Nat), pl[j]? = some (o, z) →
    ∃ f : Field, fs[j]? = some f ∧ f.offset = o ∧ ∃ y : TypeInfo, P.info? f.type = some y ∧ y.size = z := by
  intro fs
  induction fs with
  | nil => intro pl h j o z hj; simp only [placesOf, Option.some.injEq] at h; subst h; simp at hj
  | cons f fs ih =>
    intro pl h j o z hj
    simp only [placesOf] at h
    split at h
    · rename_i y r hy hr
      simp only [Option.some.injEq] at h
      subst h
      cases j with
      | zero =>
        simp only [List.getElem?_cons_zero, Option.some.injEq, Prod.mk.injEq] at hj
        exact ⟨f, rfl, hj.1, y, hy, hj.2⟩
      | succ j =>
        simp only [List.getElem?_cons_succ] at hj
        obtain ⟨g, hg, r2⟩ := ih r hr j o z hj
        exact ⟨g, by simpa using hg, r2⟩
    · cases h
theorem run_places {P : Program} {w : World} : ∀ (fs : List Field) (pl : List (Nat × Nat)), placesOf P fs = some pl →
    (fs.mapM (fun f => do pure (f.offset, ← sizeOf f.type) : Field → Sem (Nat × Nat))).run P w = .ok pl w := by
  intro fs
  induction fs with
  | nil => intro pl h; simp only [placesOf, Option.some.injEq] at h; subst h; simp
  | cons f fs ih =>
    intro pl h
    simp only [placesOf] at h
    split at h
    · rename_i y r hy hr
      simp only [Option.some.injEq] at h
      subst h
      simp only [List.mapM_cons, Sem.run_bind, sizeOf, typeInfo, run_program, Result.andThen_ok, hy, Sem.run_pure]
      have := ih r hr
      simp only [sizeOf, typeInfo] at this
      simp only [this, Result.andThen_ok]
    · cases h
theorem run_loadAt {P : Program} {t : Nat} {i : TyI} (h : i.ok P t) {b : Blk} {w : World} (hb : b.at w) (off : Nat) :
    (i.agg = true → off + i.zero.length ≤ b.cs.length → (Instr.loadAt t (.pointer (some ⟨b.id, off, none⟩))).run P w = .ok (.agg (((b.cs.drop off).take i.zero.length).map Ent.v).toArray) w) ∧
    (i.agg = false → ∀ e, b.cs[off]? = some e → (Instr.loadAt t (.pointer (some ⟨b.id, off, none⟩))).run P w = .ok e.v w) := by
  constructor
  · intro ha hl
    have h1 := run_loadCellsFrom (P := P) hb off i.zero.length 0 [] (by omega)
    simp only [Nat.add_zero, List.nil_append] at h1
    simp only [Instr.loadAt, Instr.sureAddr, Sem.run_bind, Sem.run_pure, Result.andThen_ok, loadVar, run_isAgg h, ha, if_true, run_sizeOf h, loadCells]
    have h2 : (loadCellsFrom ⟨b.id, off, none⟩ 0 i.zero.length #[]).run P w = _ := h1
    simp only [h2, Result.andThen_ok]
  · intro ha e he
    simp only [Instr.loadAt, Instr.sureAddr, Sem.run_bind, Sem.run_pure, Result.andThen_ok, loadVar, run_isAgg h, ha, Bool.false_eq_true, if_false, run_load_cell hb he]
theorem run_fieldAt {P : Program} {t : Nat} {i : TyI} (h : i.ok P t) (h5 : ¬ i.kd = 5) {f o z : Nat} (ho : i.offs[f]? = some (o, z + 1)) (g off : Nat) (w : World) :
    (Instr.fieldAt t (.pointer (some ⟨g, off, none⟩)) f).run P w = .ok (.pointer (some ⟨g, off + o, none⟩)) w := by
  obtain ⟨x, d, hx, hd, hs, hz, hm, _⟩ := h
  cases d with
  | struct fs =>
    obtain ⟨_, _, _, hf⟩ := hm
    obtain ⟨fd, hfd, hoff, y, hy, hsz⟩ := placesOf_get _ _ hf f o (z + 1) ho
    have hfd' : fs[f]? = some fd := by simpa using hfd
    simp only [Instr.fieldAt, underlying, Sem.run_bind, run_program, Result.andThen_ok, hd, Sem.run_pure, hfd', Instr.sureAddr, fieldPlace, sizeOf, typeInfo, hy, hsz]
    rw [if_neg (by omega), Sem.run_pure, Result.andThen_ok, add_plain, hoff]
  | _ => simp_all [TyI.shape]
theorem run_fieldAt' {P : Program} {t : Nat} {i : TyI} (h : i.ok P t) (h5 : ¬ i.kd = 5) {f o z : Nat} (ho : i.offs[f]? = some (o, z + 1)) (p : Addr) (w : World) :
    (Instr.fieldAt t (.pointer (some p)) f).run P w = .ok (.pointer (some (p.add o))) w := by
  obtain ⟨x, d, hx, hd, hs, hz, hm, _⟩ := h
  cases d with
  | struct fs =>
    obtain ⟨_, _, _, hf⟩ := hm
    obtain ⟨fd, hfd, hoff, y, hy, hsz⟩ := placesOf_get _ _ hf f o (z + 1) ho
    have hfd' : fs[f]? = some fd := by simpa using hfd
    simp only [Instr.fieldAt, underlying, Sem.run_bind, run_program, Result.andThen_ok, hd, Sem.run_pure, hfd', Instr.sureAddr, fieldPlace, sizeOf, typeInfo, hy, hsz]
    rw [if_neg (by omega), Sem.run_pure, Result.andThen_ok, hoff]
  | _ => simp_all [TyI.shape]
theorem arr_get {P : Program} {n e : Nat} {l : List (Nat × Nat)} (hl : placesArr P n e = some l) : ∃ y, P.info? e = some y ∧ ∀ (j o z : Nat), l[j]? = some (o, z) → j < n ∧ y.size = z ∧ o = j * z := by
  unfold placesArr at hl
  rw [Option.map_eq_some_iff] at hl
  obtain ⟨y, hy, rfl⟩ := hl
  refine ⟨y, hy, fun j o z h => ?_⟩
  split at h
  · rw [List.getElem?_map, Option.map_eq_some_iff] at h
    obtain ⟨k, hk, he⟩ := h
    obtain ⟨hj, hk2⟩ := List.getElem?_eq_some_iff.1 hk
    simp only [List.getElem_range, List.length_range] at hk2 hj
    subst hk2
    simp only [Prod.mk.injEq] at he
    obtain ⟨rfl, rfl⟩ := he
    exact ⟨hj, rfl, rfl⟩
  · simp at h
theorem run_indexArr {P : Program} {t : Nat} {i : TyI} (h : i.ok P t) (h5 : i.kd = 5) {k : IntKind} {n : Int} {o z : Nat} (h0 : 0 ≤ n) (ho : i.offs[n.toNat]? = some (o, z)) (g off : Nat) (w : World) :
    (Instr.indexAt t (.pointer (some ⟨g, off, none⟩)) (.int k n)).run P w = .ok (.pointer (some ⟨g, off + o, none⟩)) w := by
  obtain ⟨x, d, hx, hd, hs, hz, hm, _⟩ := h
  cases d with
  | array len e =>
    obtain ⟨_, _, _, hf⟩ := hm
    obtain ⟨y, hy, hget⟩ := arr_get hf
    obtain ⟨hj, rfl, rfl⟩ := hget _ _ _ ho
    have hl : 0 ≤ n ∧ n < (len : Int) := ⟨h0, by omega⟩
    simp only [Instr.indexAt, asIntOf, underlying, Sem.run_bind, run_program, Result.andThen_ok, hd, Sem.run_pure, Instr.sureAddr]
    rw [if_pos hl]
    simp only [sizeOf, typeInfo, Sem.run_bind, run_program, Result.andThen_ok, hy, Sem.run_pure, add_plain]
  | struct fs => obtain ⟨_, _, h6, _⟩ := hm; omega
  | int k => obtain ⟨_, _, h6, _⟩ := hm; omega
  | _ => simp_all [TyI.shape]
theorem setAt_length {α : Type} (vs : List α) : ∀ (cs : List α) (o : Nat), (setAt cs o vs).length = cs.length := by
  induction vs with
  | nil => intro cs o; rfl
  | cons v vs ih => intro cs o; simp [setAt, ih]
theorem fold_setAt (vs : List Value) : ∀ (cs : List Value) (o k : Nat),
    (vs.zipIdx k).foldl (fun (c : Array Value) (p : Value × Nat) => c.setIfInBounds (o + p.2) p.1) cs.toArray = (setAt cs (o + k) vs).toArray := by
  induction vs with
  | nil => intro cs o k; rfl
  | cons v vs ih =>
    intro cs o k
    simp only [List.zipIdx_cons, List.foldl_cons, setAt]
    rw [List.setIfInBounds_toArray, ih]
    rfl
theorem fill_B {s : St} {ρ : Operand → Value} (hρ : ∀ x, ρ x = (s.ev x).v) (i : TyI) : ∀ (ps : List (Nat × Operand)) (cs out : List Value), fillB i s cs ps = some out →
    Instr.fill (i.offs.toArray[·]?) cs.toArray (ps.map fun p => (p.1, ρ p.2)) = some out.toArray := by
  intro ps
  induction ps with
  | nil => intro cs out h; simp only [fillB, Option.some.injEq] at h; subst h; rfl
  | cons p ps ih =>
    intro cs out h
    obtain ⟨j, x⟩ := p
    simp only [fillB] at h
    split at h
    · cases h
    · rename_i o z hj
      split at h
      · rename_i hc
        have := ih _ _ h
        simp only [List.map_cons, Instr.fill, List.getElem?_toArray, hj, hρ]
        rw [if_neg (by simp only [Array.length_toList, List.size_toArray] at hc ⊢; simp only [Bool.or_eq_true, decide_eq_true_eq]; omega)]
        have e2 := fold_setAt (s.ev x).v.cells.toList cs o 0
        rw [← Array.foldl_toList, Array.toList_zipIdx]
        simp only [Nat.add_zero] at e2
        rw [e2]
        simpa [hρ] using this
      · cases h
theorem fill_mono {p q : Nat → Option (Nat × Nat)} (h : ∀ j x, p j = some x → q j = some x) : ∀ (l : List (Nat × Value)) (cs out : Array Value), Instr.fill p cs l = some out → Instr.fill q cs l = some out
  | [], cs, out, hf => by simpa [Instr.fill] using hf
  | (j, v) :: l, cs, out, hf => by
    rw [Instr.fill] at hf ⊢
    cases e : p j with
    | none => rw [e] at hf; simp at hf
    | some x =>
      rw [e] at hf
      rw [h j x e]
      obtain ⟨o, z⟩ := x
      simp only at hf ⊢
      split at hf
      · cases hf
      · rename_i hc
        rw [if_neg hc]
        exact fill_mono h l _ _ hf
theorem run_build {P : Program} {t : Nat} {i : TyI} (h : i.ok P t) (ha : i.agg = true) {s : St} {ρ : Operand → Value} (hρ : ∀ x, ρ x = (s.ev x).v)
    (parts : Array (Nat × Operand)) {cs : List Value} (hf : fillB i s i.zero parts.toList = some cs) (w : World) :
    (Instr.build t (parts.map fun (j, x) => (j, ρ x))).run P w = .ok (.agg cs.toArray) w := by
  have hz := run_zero h w
  have h0 := h
  obtain ⟨x, d, hx, hd, hs, hzz, hm, _⟩ := h
  cases d with
  | struct fs =>
    obtain ⟨_, _, _, hf2⟩ := hm
    have hp := run_places (w := w) fs.toList i.offs hf2
    have hfill := fill_B hρ i parts.toList i.zero cs hf
    simp only [Instr.build, Sem.run_bind, hz, ha, if_true, Result.andThen_ok, underlying, run_program, hd, Sem.run_pure, Array.mapM_eq_mapM_toList, Sem.run_map]
    have hp' : Sem.run P (List.mapM (fun (f : Field) => do let a ← sizeOf f.type; pure (f.offset, a)) fs.toList) w = .ok i.offs w := hp
    rw [hp']
    simp only [Result.andThen_ok, Value.cells, Array.toList_map]
    have hfill' : Instr.fill (fun x => i.offs.toArray[x]?) i.zero.toArray (parts.toList.map fun p => (p.1, ρ p.2)) = some cs.toArray := hfill
    rw [hfill']
    rfl
  | array n e =>
    obtain ⟨_, _, _, hf2⟩ := hm
    have hfill := fill_B hρ i parts.toList i.zero cs hf
    obtain ⟨y, hy, hget⟩ := arr_get hf2
    · have hsub : ∀ (j : Nat) (q : Nat × Nat), i.offs.toArray[j]? = some q → (fun j => some (j * y.size, y.size)) j = some q := fun j q hq => by
        rw [List.getElem?_toArray] at hq
        obtain ⟨q1, q2⟩ := q
        obtain ⟨_, rfl, rfl⟩ := hget _ _ _ hq
        rfl
      have hfill2 := fill_mono hsub _ _ _ hfill
      simp only [Instr.build, Sem.run_bind, hz, ha, if_true, Result.andThen_ok, underlying, run_program, hd, Sem.run_pure, sizeOf, typeInfo, hy, Value.cells, Array.toList_map]
      have hfill' : Instr.fill (fun j => some (j * y.size, y.size)) i.zero.toArray (parts.toList.map fun p => (p.1, ρ p.2)) = some cs.toArray := hfill2
      rw [hfill']
      rfl
  | _ => simp_all [TyI.shape]
def isAggD : TypeDesc → Bool
  | .struct _ | .array _ _ => true
  | _ => false
def shapeOf (P : Program) : TypeDesc → Option (List (Nat × Nat) × Option Nat × Nat)
  | .struct fs => (placesOf P fs.toList).map fun l => (l, none, 0)
  | .slice e => some ([], some e, 0)
  | .string => some ([], none, 1)
  | .bool => some ([], none, 2)
  | .int k => some ([], none, 10 + kcode k)
  | .array n e => (placesArr P n e).map fun l => (l, none, 5)
  | .interface _ => some ([], none, 4)
  | _ => some ([], none, 0)
def tyOf (P : Program) (t : Nat) : Option (Bool × List Value × List (Nat × Nat) × Option Nat × Nat) :=
  match P.info? t, P.underlying t with
  | some x, some d =>
    match isAggD d, x.zero with
    | true, some (.agg cs) => if x.size = cs.toList.length ∧ cs.toList.all Value.oneCell' = true then (shapeOf P d).map fun p => (true, cs.toList, p.1, p.2.1, p.2.2) else none
    | false, some z => if x.size = 1 ∧ z.oneCell' = true then (shapeOf P d).map fun p => (false, [z], p.1, p.2.1, p.2.2) else none
    | _, _ => none
  | _, _ => none
theorem tyOf_ok {P : Program} {t : Nat} {i : TyI} (h : tyOf P t = some (i.agg, i.zero, i.offs, i.el, i.kd)) : i.ok P t := by
  obtain ⟨agg, zero, offs, el, ck, kd⟩ := i
  simp only [tyOf] at h
  split at h
  · rename_i x d hx hd
    split at h
    · rename_i cs ha hz
      split at h
      · rename_i hc
        simp only [Option.map_eq_some_iff, Prod.mk.injEq] at h
        obtain ⟨⟨p1, p2, p3⟩, hp, h1, h2, h3, h4, h5⟩ := h
        simp only at h3 h4 h5
        subst h1 h2 h3 h4 h5
        refine ⟨x, d, hx, hd, hc.1, by simp [hz], ?_, hc.2, by simp⟩
        cases d <;> simp only [isAggD] at ha <;> first | cases ha | skip
        · simp only [shapeOf, Option.map_eq_some_iff, Prod.mk.injEq] at hp
          obtain ⟨l, hl, e1, e2, e3⟩ := hp
          exact ⟨rfl, e2.symm, e3.symm, e1 ▸ hl⟩
        · simp only [shapeOf, Option.map_eq_some_iff, Prod.mk.injEq] at hp
          obtain ⟨l, hl, e1, e2, e3⟩ := hp
          exact ⟨rfl, e2.symm, e3.symm, e1 ▸ hl⟩
      · cases h
    · rename_i z ha hz
      split at h
      · rename_i hc
        simp only [Option.map_eq_some_iff, Prod.mk.injEq] at h
        obtain ⟨⟨p1, p2, p3⟩, hp, h1, h2, h3, h4, h5⟩ := h
        simp only at h3 h4 h5
        subst h1 h2 h3 h4 h5
        refine ⟨x, d, hx, hd, hc.1, by simp [hz], ?_, by simp [hc.2], by simp⟩
        cases d <;> simp only [isAggD] at ha <;> first | (cases ha; done) | (simp only [shapeOf, Option.some.injEq, Prod.mk.injEq] at hp; simp only [TyI.shape]; exact ⟨trivial, hp.2.1.symm, hp.2.2.symm, hp.1.symm⟩)
      · cases h
    · cases h
  · cases h
end
section
open Go
theorem Bls.get {bl : List Blk} {w : World} (h : Bls bl w) {k : Nat} {b : Blk} (hb : bl[k]? = some b) : b.at w := h b (List.mem_of_getElem? hb)
theorem ids_get {s : St} {k : Nat} {b : Blk} (hb : s.bl[k]? = some b) : s.ids[k]? = some b.id := by simp [St.ids, hb]
theorem run_v {P : Program} {w : World} {sm : Sem Value} {v : Value} (h : sm.run P w = .ok v w) : (do pure (Next.value (← sm)) : Sem Next).run P w = .ok (.value v) w := by
  rw [Sem.run_bind, h]; rfl
theorem underlying_of {P : Program} {t : Nat} {i : TyI} (h : i.ok P t) : (i.el.isSome → ∃ e, P.underlying t = some (.slice e)) ∧ (i.kd = 1 → P.underlying t = some .string) := by
  obtain ⟨x, d, hx, hd, hs, hz, hm, _⟩ := h
  cases d <;> simp_all [TyI.shape]
  omega
theorem quietB_run {P : Program} {T : Nat → Option TyI} (hT : TOk P T) {s : St} {w : World} {ty : Nat} {b : Builtin} (args : Array Operand) (tys : Array Nat) {v : Value} {sh : Sh}
    (h : quietB T s b args.toList tys.toList = some (v, sh)) : (∀ cs, (builtin b tys ty cs (args.map fun x => (s.ev x).v)).run P w = .ok (.value v) w) ∧ ShOk s.ids ⟨v, sh, 0⟩ := by
  obtain ⟨args⟩ := args
  obtain ⟨tys⟩ := tys
  simp only at h
  unfold quietB at h
  split at h
  · rename_i x t
    split at h
    · rename_i i n c A hi hx
      split at h
      · rename_i he
        simp only [Option.some.injEq, Prod.mk.injEq] at h
        obtain ⟨rfl, rfl⟩ := h
        obtain ⟨e, hu⟩ := (underlying_of (hT t i hi)).1 he
        exact ⟨fun cs => by simp [builtin, Builtin.len_, hx, underlying, hu, goInt], trivial⟩
      · cases h
    · rename_i i st hi hx
      split at h
      · rename_i he
        simp only [Option.some.injEq, Prod.mk.injEq] at h
        obtain ⟨rfl, rfl⟩ := h
        have hu := (underlying_of (hT t i hi)).2 he
        exact ⟨fun cs => by simp [builtin, Builtin.len_, hx, underlying, hu, goInt], trivial⟩
      · cases h
    · cases h
  · rename_i x y _
    split at h
    · rename_i k p k2 q hx hy
      simp only [Option.some.injEq, Prod.mk.injEq] at h
      obtain ⟨rfl, rfl⟩ := h
      exact ⟨fun cs => by simp [builtin, Builtin.max_, Builtin.max2, hx, hy], trivial⟩
    · cases h
  · rename_i x y _
    split at h
    · rename_i k p k2 q hx hy
      simp only [Option.some.injEq, Prod.mk.injEq] at h
      obtain ⟨rfl, rfl⟩ := h
      exact ⟨fun cs => by simp [builtin, Builtin.min_, Builtin.min2, hx, hy], trivial⟩
    · cases h
  · cases h
theorem equalIn_bool {P : Program} {t : Nat} {w : World} (hu : P.underlying t = some .bool) (d : Nat) (a b : Bool) : (Op.equalIn (d + 1) t (.bool a) (.bool b)).run P w = .ok (a == b) w := by
  simp only [Op.equalIn, underlying, Sem.run_bind, run_program, Result.andThen_ok, hu, Sem.run_pure]
theorem binB_run {P : Program} {T : Nat → Option TyI} (hT : TOk P T) {op : BinOp} {t : Nat} {x y : Operand} {u v r : Value} {w : World} (h : binB T op t u v = some r) :
    (do eqGuard op t x y u v; binOp op t u v : Sem Value).run P w = .ok r w := by
  unfold binB at h
  have key : ∀ (i : TyI) (a b : Bool), T t = some i → i.kd = 2 → (Op.equal t (.bool a) (.bool b)).run P w = .ok (a == b) w := fun i a b hi hk => by
    have hu : P.underlying t = some .bool := by
      obtain ⟨x, d, hx, hd, hs, hz, hm, _⟩ := hT t i hi
      cases d <;> simp_all [TyI.shape]
      omega
    exact equalIn_bool hu 9999 a b
  split at h
  · rename_i a b
    split at h
    · rename_i i hi
      split at h
      · rename_i hk
        cases h
        have hg : (eqGuard .eql t x y (.bool a) (.bool b)).run P w = .ok () w := by unfold eqGuard; simp
        rw [Sem.run_bind, hg]
        simp only [Result.andThen_ok, binOp, Sem.run_bind, key i a b hi hk, Sem.run_pure]
      · cases h
    · cases h
  · rename_i a b
    split at h
    · rename_i i hi
      split at h
      · rename_i hk
        cases h
        have hg : (eqGuard .neq t x y (.bool a) (.bool b)).run P w = .ok () w := by unfold eqGuard; simp
        rw [Sem.run_bind, hg]
        simp only [Result.andThen_ok, binOp, Sem.run_bind, key i a b hi hk, Sem.run_pure]
      · cases h
    · cases h
  · cases h
theorem quiet_run {P : Program} {T : Nat → Option TyI} (hT : TOk P T) {s : St} {a : Act} (F : Fr s a) {w : World} (o : Oper)
    (B : ∀ t x k off b, o.op = .load t x → (s.ev x).sh = .ptr k off → s.bl[k]? = some b → b.at w) {v : Value} {sh : Sh}
    (h : quiet T s o.op = some (v, sh)) : (execOp a.eval o).run P w = .ok (.value v) w ∧ ShOk s.ids ⟨v, sh, 0⟩ := by
  obtain ⟨dst, op, ty, pos, after, guard⟩ := o
  have hev := F.ev
  have hsh := F.evSh
  simp only at h B
  cases op with
  | move x =>
    simp only [quiet, Option.some.injEq, Prod.mk.injEq] at h
    obtain ⟨rfl, rfl⟩ := h
    exact ⟨by simp only [execOp, hev]; rfl, hsh x⟩
  | assign x =>
    simp only [quiet, Option.some.injEq, Prod.mk.injEq] at h
    obtain ⟨rfl, rfl⟩ := h
    exact ⟨by simp only [execOp, hev]; rfl, hsh x⟩
  | pick c x y =>
    simp only [quiet] at h
    split at h
    · rename_i b hb
      have hc := hsh c
      simp only [ShOk, hb] at hc
      cases b
      · simp only [Bool.false_eq_true, if_false, Option.some.injEq, Prod.mk.injEq] at h
        obtain ⟨rfl, rfl⟩ := h
        exact ⟨by simp [execOp, hev, hc, asBool], hsh y⟩
      · simp only [if_true, Option.some.injEq, Prod.mk.injEq] at h
        obtain ⟨rfl, rfl⟩ := h
        exact ⟨by simp [execOp, hev, hc, asBool], hsh x⟩
    · cases h
  | nilCheck x =>
    simp only [quiet] at h
    split at h
    · rename_i ad hx
      simp only [Option.some.injEq, Prod.mk.injEq] at h
      obtain ⟨rfl, rfl⟩ := h
      refine ⟨by simp only [execOp, hev, hx]; rfl, ?_⟩
      have := hsh x
      unfold ShOk at this ⊢
      rw [hx] at this
      exact this
    · rename_i f a1 b1 hx
      simp only [Option.some.injEq, Prod.mk.injEq] at h
      obtain ⟨rfl, rfl⟩ := h
      exact ⟨by simp only [execOp, hev, hx]; rfl, trivial⟩
    · cases h
  | fieldAddr t x f =>
    simp only [quiet] at h
    split at h
    · cases h
    · rename_i i hi
      split at h
      · cases h
      rename_i h5
      split at h
      · rename_i o z k off ho hs
        cases hb : s.bl[k]? with
        | none => rw [hb] at h; cases h
        | some b =>
          rw [hb] at h
          simp only [Option.map_some, Option.some.injEq, Prod.mk.injEq] at h
          obtain ⟨rfl, rfl⟩ := h
          have hx := hsh x
          simp only [ShOk, hs] at hx
          obtain ⟨id, hid, hv⟩ := hx
          rw [ids_get hb] at hid
          cases hid
          refine ⟨run_v ?_, b.id, ids_get hb, rfl⟩
          rw [hev, hv]
          exact run_fieldAt (hT t i hi) h5 ho _ _ w
      · rename_i o z ho hs
        split at h
        · rename_i p hx
          simp only [Option.some.injEq, Prod.mk.injEq] at h
          obtain ⟨rfl, rfl⟩ := h
          refine ⟨run_v ?_, trivial⟩
          rw [hev, hx]
          exact run_fieldAt' (hT t i hi) h5 ho _ w
        · cases h
      · cases h
  | indexAddr t x j =>
    simp only [quiet] at h
    split at h
    · rename_i i k off kn n hi hs hn
      split at h
      · rename_i hc
        split at h
        · rename_i o z ho
          cases hb : s.bl[k]? with
          | none => rw [hb] at h; cases h
          | some b =>
            rw [hb] at h
            simp only [Option.map_some, Option.some.injEq, Prod.mk.injEq] at h
            obtain ⟨rfl, rfl⟩ := h
            have hx := hsh x
            simp only [ShOk, hs] at hx
            obtain ⟨id, hid, hv⟩ := hx
            rw [ids_get hb] at hid
            cases hid
            refine ⟨run_v ?_, b.id, ids_get hb, rfl⟩
            rw [hev, hv, hev, hn]
            exact run_indexArr (hT t i hi) hc.1 hc.2 ho _ _ w
        · cases h
      · cases h
    · cases h
  | load t x =>
    simp only [quiet] at h
    split at h
    · rename_i i k off hi hs
      cases hb : s.bl[k]? with
      | none => rw [hb] at h; cases h
      | some b =>
        rw [hb] at h
        simp only at h
        have hx := hsh x
        simp only [ShOk, hs] at hx
        obtain ⟨id, hid, hv⟩ := hx
        rw [ids_get hb] at hid
        cases hid
        have hl := run_loadAt (hT t i hi) (B t x k off b rfl hs hb) off
        cases ha : i.agg with
        | true =>
          rw [ha] at h
          simp only [if_true] at h
          split at h
          · rename_i hle
            simp only [Option.some.injEq, Prod.mk.injEq] at h
            obtain ⟨rfl, rfl⟩ := h
            refine ⟨run_v ?_, trivial⟩
            rw [hev, hv]
            exact hl.1 ha hle
          · cases h
        | false =>
          rw [ha] at h
          simp only [Bool.false_eq_true, if_false] at h
          cases he : b.cs[off]? with
          | none => rw [he] at h; cases h
          | some e =>
            rw [he] at h
            simp only [Option.map_some, Option.some.injEq, Prod.mk.injEq] at h
            obtain ⟨rfl, rfl⟩ := h
            refine ⟨run_v ?_, ?_⟩
            · rw [hev, hv]
              exact hl.2 ha e he
            · exact F.sc b (List.mem_of_getElem? hb) e (List.mem_of_getElem? he)
    · cases h
  | binOp op t x y ty2 =>
    simp only [quiet] at h
    split at h
    · cases h
    split at h
    · rename_i r hb
      simp only [Option.some.injEq, Prod.mk.injEq] at h
      obtain ⟨rfl, rfl⟩ := h
      refine ⟨run_v ?_, trivial⟩
      rw [hev, hev]
      exact bin_run hb
    · cases hb : binB T op t (s.ev x).v (s.ev y).v with
      | none => rw [hb] at h; cases h
      | some r =>
        rw [hb] at h
        simp only [Option.map_some, Option.some.injEq, Prod.mk.injEq] at h
        obtain ⟨rfl, rfl⟩ := h
        refine ⟨run_v ?_, trivial⟩
        rw [hev, hev]
        exact binB_run hT hb
  | unOp op t x =>
    simp only [quiet] at h
    split at h
    · rename_i b hx
      simp only [Option.some.injEq, Prod.mk.injEq] at h
      obtain ⟨rfl, rfl⟩ := h
      exact ⟨run_v (by rw [hev, hx]; rfl), trivial⟩
    · rename_i k n hx
      simp only [Option.some.injEq, Prod.mk.injEq] at h
      obtain ⟨rfl, rfl⟩ := h
      exact ⟨run_v (by rw [hev, hx]; rfl), trivial⟩
    · cases h
  | build t parts =>
    simp only [quiet] at h
    split at h
    · cases h
    · rename_i i hi
      split at h
      · rename_i hc
        cases hf : fillB i s i.zero parts.toList with
        | none => rw [hf] at h; cases h
        | some cs =>
          rw [hf] at h
          simp only [Option.map_some, Option.some.injEq, Prod.mk.injEq] at h
          obtain ⟨rfl, rfl⟩ := h
          exact ⟨run_v (run_build (hT t i hi) hc hev parts hf w), trivial⟩
      · cases h
  | extract x i =>
    simp only [quiet] at h
    split at h
    · rename_i vs hx
      cases hg : vs[i]? with
      | none => rw [hg] at h; cases h
      | some u =>
        rw [hg] at h
        simp only [Option.map_some, Option.some.injEq, Prod.mk.injEq] at h
        obtain ⟨rfl, rfl⟩ := h
        exact ⟨run_v (by rw [hev, hx]; simp [Instr.extract, hg]), trivial⟩
    · cases h
  | convert src dst' x =>
    simp only [quiet] at h
    split at h
    · rename_i i0 i k0 n hi0 hi hx
      obtain ⟨k, hk, he⟩ := Option.map_eq_some_iff.1 h
      simp only [Prod.mk.injEq] at he
      obtain ⟨rfl, rfl⟩ := he
      refine ⟨run_v ?_, trivial⟩
      obtain ⟨y0, d0, _, hd0, _⟩ := hT src i0 hi0
      have hu : P.underlying dst' = some (.int k) := by
        obtain ⟨y, d, hy, hd, hs, hz, hm, _⟩ := hT dst' i hi
        cases d with
        | int k2 =>
          obtain ⟨_, _, h3, _⟩ := hm
          rw [h3] at hk
          cases k2 <;> simp [kcode, kindOf] at hk <;> subst hk <;> exact hd
        | _ => simp_all [TyI.shape, kindOf]
      rw [hev, hx]
      simp only [convert, underlying, Sem.run_bind, run_program, Result.andThen_ok, hd0, hu, Sem.run_pure, Conv.intToInt]
    · cases h
  | makeInterface t x =>
    simp only [quiet] at h
    split at h
    · cases h
    · rename_i i hi
      split at h
      · cases h
      · rename_i hk
        simp only [Option.some.injEq, Prod.mk.injEq] at h
        obtain ⟨rfl, rfl⟩ := h
        refine ⟨run_v ?_, trivial⟩
        rw [hev]
        obtain ⟨y, d, hx, hd, hs, hz, hm, _⟩ := hT t i hi
        simp only [Instr.makeInterface, underlying, Sem.run_bind, run_program, Result.andThen_ok, hd, Sem.run_pure]
        cases d <;> first | (simp only [TyI.shape] at hm; exact absurd hm.2.2.1 hk) | rfl
  | makeFunc fn x y =>
    cases fn with
    | func f =>
      simp only [quiet, Option.some.injEq, Prod.mk.injEq] at h
      obtain ⟨rfl, rfl⟩ := h
      refine ⟨run_v ?_, trivial⟩
      have : a.eval = fun x => (s.ev x).v := funext hev
      rw [this]; rfl
    | _ => simp [quiet] at h
  | call c =>
    obtain ⟨callee, args, tys⟩ := c
    cases callee with
    | value f => simp [quiet] at h
    | invoke r m => simp [quiet] at h
    | builtin b =>
      simp only [quiet] at h
      have := quietB_run hT (s := s) (w := w) (ty := ty) args tys h
      refine ⟨?_, this.2⟩
      have h2 : a.eval = fun x => (s.ev x).v := funext hev
      rw [h2]
      simp only [execOp, resolve, Sem.run_bind, Sem.run_pure, Result.andThen_ok, invoke]
      exact this.1 _
  | _ => simp [quiet] at h
end
section
open Go
section
variable {P : Program} {ops : Array Oper} {Q : Exit → Act → World → Prop} {need : Nat → Bool} {S : World → Prop}
def wpN (P : Program) (ops : Array Oper) (Q : Exit → Act → World → Prop) (need : Nat → Bool) (S : World → Prop) : Nat → Array Bool → Act → World → Prop
  | 0, l, a, w => Region.ready .any ops l = [] ∧ Q .normal a w
  | f + 1, l, a, w =>
    (Region.ready .any ops l = [] → Q .normal a w) ∧
    ∀ i ∈ Region.ready .any ops l, wpOp P ops Q i (fun a' w' => (need i = true → S w') ∧ wpN P ops Q need S f (l.setIfInBounds i true) a' w') a w
theorem wpN_any : ∀ (f : Nat) (l : Array Bool) (a : Act) (w : World), wpN P ops Q need S f l a w → wpAny P .any ops Q f l a w
  | 0, _, _, _, h => h
  | f + 1, _, _, _, h => ⟨h.1, fun i hi => wpOp_mono (fun a' w' h' => wpN_any f _ a' w' h'.2) (h.2 i hi)⟩
def ClosedL (ops : Array Oper) (l : Array Bool) : Prop := ∀ (j : Nat) (oj : Oper), ops[j]? = some oj → l.getD j false = true → ∀ e ∈ oj.after, Region.binds .any e = true → l.getD e.on false = true
theorem ClosedL.set {l : Array Bool} (h : ClosedL ops l) {i : Nat} (hi : i ∈ Region.ready .any ops l) : ClosedL ops (l.setIfInBounds i true) := by
  obtain ⟨_, oi, hoi, hall⟩ := mem_ready.1 hi
  intro j oj hj hl e he hb
  by_cases hij : i = j
  · subst hij
    have : oj = oi := Option.some.inj (hj.symm.trans hoi)
    subst this
    exact getD_set_true (hall e he hb)
  · rw [getD_set_ne false hij] at hl
    exact getD_set_true (h j oj hj hl e he hb)
def Needs (ops : Array Oper) (need : Nat → Bool) (i : Nat) : Prop :=
  ∀ (l : Array Bool) (j : Nat), ClosedL ops l → i ∈ Region.ready .any ops l → j ∈ Region.ready .any ops l → j ≠ i → need j = true
theorem wpN_first {i : Nat} {oi : Oper} {v : Value} (hi : ops[i]? = some oi) (hsel : Region.noSelect ops = true) (hnd : Needs ops need i)
    (hQ : ∀ c a w, Q (.panic c) (a.put oi.dst v) w → Q (.panic c) a w) :
    ∀ (f : Nat) (l : Array Bool) (a : Act) (w : World), ClosedL ops l →
      (∀ j oj, ops[j]? = some oj → j ≠ i → l.getD j true = false → (∀ e ∈ oj.after, Region.binds .any e = true → e.on ≠ i) → oi.apart ops oj = true) →
      i ∈ Region.ready .any ops l → YieldsIf P ops S oi v a → S w →
      wpN P ops Q need S f (l.setIfInBounds i true) (a.put oi.dst v) w → wpN P ops Q need S (f + 1) l a w := by
  have hs := fun (j : Nat) (o : Oper) cs b (ho : ops[j]? = some o) => Region.noSelect_spec hsel j o cs b ho
  intro f
  induction f with
  | zero =>
    intro l a w _ _ hr hy hS H
    refine ⟨fun h => (by rw [h] at hr; cases hr), fun j hj => ?_⟩
    by_cases hji : j = i
    · subst hji; exact hy.wpOp hi hS ⟨fun _ => hS, H⟩
    · have := ready_mono hj hji
      rw [H.1] at this
      cases this
  | succ f ih =>
    intro l a w hcl hfree hr hy hS H
    refine ⟨fun h => (by rw [h] at hr; cases hr), fun j hj => ?_⟩
    by_cases hji : j = i
    · subst hji; exact hy.wpOp hi hS ⟨fun _ => hS, H⟩
    · have h1 := H.2 j (ready_mono hj hji)
      obtain ⟨hjun, oj, hoj, hall⟩ := mem_ready.1 hj
      have hnot : ∀ e ∈ oj.after, Region.binds .any e = true → e.on ≠ i := fun e he hb heq => by
        have h1 := hall e he hb
        have h0 := (mem_ready.1 hr).1
        rw [heq] at h1
        rcases Nat.lt_or_ge i l.size with h' | h'
        · simp [h'] at h0 h1; rw [h0] at h1; cases h1
        · simp [Array.getElem?_eq_none h'] at h1
      have hneed := hnd l j hcl hr hj hji
      have h2 := wpOp_putIf hoj (hfree j oj hoj hji hjun hnot) (fun cs b => hs i oi cs b hi) (fun cs b => hs j oj cs b hoj) hQ hy h1
      have hfree' : ∀ k ok, ops[k]? = some ok → k ≠ i → (l.setIfInBounds j true).getD k true = false →
          (∀ e ∈ ok.after, Region.binds .any e = true → e.on ≠ i) → oi.apart ops ok = true := fun k ok hk hki hun hno => by
        refine hfree k ok hk hki ?_ hno
        by_cases hjk : j = k
        · subst hjk; exact hjun
        · rw [getD_set_ne true hjk] at hun; exact hun
      refine wpOp_mono (fun a' w' h3 => ⟨h3.2.1, ih (l.setIfInBounds j true) a' w' (hcl.set hj) hfree' (ready_mono hr (Ne.symm hji)) h3.1 (h3.2.1 hneed) ?_⟩) h2
      rw [Array.setIfInBounds_comm _ _ hji]
      exact h3.2.2
def maskOf (acc : List Nat) (o : Oper) : Nat := o.after.toList.foldl (fun s e => if Region.binds .any e then s ||| 2 ^ e.on ||| acc.getD e.on 0 else s) 0
def masksGo : List Oper → List Nat → List Nat
  | [], acc => acc
  | o :: r, acc => masksGo r (acc ++ [maskOf acc o])
def masks (ops : Array Oper) : List Nat := masksGo ops.toList []
theorem mask_bits {l : Array Bool} {x : Nat} {acc : List Nat} (hacc : ∀ k, (acc.getD k 0).testBit x = true → l.getD k false = true → l.getD x false = true) : ∀ (es : List Edge) (s : Nat),
    (es.foldl (fun s e => if Region.binds .any e then s ||| 2 ^ e.on ||| acc.getD e.on 0 else s) s).testBit x = true → (∀ e ∈ es, Region.binds .any e = true → l.getD e.on false = true) → s.testBit x = true ∨ l.getD x false = true := by
  intro es
  induction es with
  | nil => intro s h _; exact .inl h
  | cons e es ih =>
    intro s h hall
    simp only [List.foldl_cons] at h
    rcases ih _ h (fun e' he' => hall e' (List.mem_cons_of_mem _ he')) with h | h
    · split at h
      · rename_i hb
        have hl := hall e List.mem_cons_self hb
        rw [Nat.testBit_or, Nat.testBit_or, Bool.or_eq_true, Bool.or_eq_true] at h
        rcases h with (h | h) | h
        · exact .inl h
        · rw [Nat.testBit_two_pow] at h
          have : e.on = x := by simpa using h
          exact .inr (this ▸ hl)
        · exact .inr (hacc _ h hl)
      · exact .inl h
    · exact .inr h
theorem masks_go {l : Array Bool} (hcl : ClosedL ops l) (x : Nat) : ∀ (os : List Oper) (acc : List Nat), (∀ k, os[k]? = ops[acc.length + k]?) →
    (∀ k, (acc.getD k 0).testBit x = true → (∀ o, ops[k]? = some o → ∀ e ∈ o.after, Region.binds .any e = true → l.getD e.on false = true) → l.getD x false = true) →
    ∀ k, ((masksGo os acc).getD k 0).testBit x = true → (∀ o, ops[k]? = some o → ∀ e ∈ o.after, Region.binds .any e = true → l.getD e.on false = true) → l.getD x false = true := by
  intro os
  induction os with
  | nil => intro acc _ h; exact h
  | cons o os ih =>
    intro acc hix h
    have h0 : ops[acc.length]? = some o := by simpa using (hix 0).symm
    refine ih (acc ++ [maskOf acc o]) (fun k => by have := hix (k + 1); simpa [Nat.add_assoc, Nat.add_comm 1 k] using this) fun k hk hall => ?_
    rcases Nat.lt_trichotomy k acc.length with hlt | rfl | hgt
    · refine h k ?_ hall
      rw [List.getD_eq_getElem?_getD, List.getElem?_append_left hlt, ← List.getD_eq_getElem?_getD] at hk
      exact hk
    · have hm : (acc ++ [maskOf acc o]).getD acc.length 0 = maskOf acc o := by simp [List.getD_eq_getElem?_getD]
      rw [hm] at hk
      have hacc : ∀ k, (acc.getD k 0).testBit x = true → l.getD k false = true → l.getD x false = true := fun k hb hl => h k hb fun o' ho' e he hbd => hcl k o' ho' hl e he hbd
      rcases mask_bits hacc o.after.toList 0 hk (fun e he hb => hall o h0 e (by simpa using he) hb) with hz | hz
      · simp at hz
      · exact hz
    · rw [List.getD_eq_getElem?_getD, List.getElem?_eq_none (by simp; omega)] at hk
      simp at hk
theorem masks_ready {l : Array Bool} (hcl : ClosedL ops l) {j i : Nat} (hj : j ∈ Region.ready .any ops l) (hb : ((masks ops).getD j 0).testBit i = true) : l.getD i false = true := by
  obtain ⟨_, oj, hoj, hall⟩ := mem_ready.1 hj
  exact masks_go hcl i ops.toList [] (fun k => by simp) (fun k h => by simp at h) j hb fun o ho e he hbd => by
    rw [hoj] at ho; cases ho; exact hall e he hbd
def needOf (ops : Array Oper) (qs : List Nat) (j : Nat) : Bool :=
  qs.any fun i => i != j && !((masks ops).getD j 0).testBit i && !((masks ops).getD i 0).testBit j
theorem needOf_needs {qs : List Nat} {i : Nat} (h : i ∈ qs) : Needs ops (needOf ops qs) i := by
  intro l j hcl hi hj hji
  refine List.any_eq_true.2 ⟨i, h, ?_⟩
  have hui := (mem_ready.1 hi).1
  have huj := (mem_ready.1 hj).1
  have hno : ∀ k, l.getD k true = false → l.getD k false ≠ true := fun k hk hk2 => by
    rcases Nat.lt_or_ge k l.size with h' | h'
    · simp [h'] at hk hk2; rw [hk] at hk2; cases hk2
    · simp [Array.getElem?_eq_none h'] at hk2
  have h1 : ((masks ops).getD j 0).testBit i = false := by
    cases hb : ((masks ops).getD j 0).testBit i with
    | false => rfl
    | true => exact absurd (masks_ready hcl hj hb) (hno i hui)
  have h2 : ((masks ops).getD i 0).testBit j = false := by
    cases hb : ((masks ops).getD i 0).testBit j with
    | false => rfl
    | true => exact absurd (masks_ready hcl hi hb) (hno j huj)
  simp only [h1, h2, Bool.not_false, Bool.and_true, bne_iff_ne, ne_eq]
  exact fun h => hji h.symm
theorem wpN_take {i : Nat} {oi : Oper} {v : Value} {f : Nat} {l : Array Bool} {a : Act} {w : World} (hi : ops[i]? = some oi) (hsel : Region.noSelect ops = true) (hnd : Needs ops need i) (hcl : ClosedL ops l)
    (hf : Region.free .any ops l i = true) (hr : (Region.ready .any ops l).contains i = true)
    (hQ : ∀ c a w, Q (.panic c) (a.put oi.dst v) w → Q (.panic c) a w) (hy : YieldsIf P ops S oi v a) (hS : S w)
    (h : wpN P ops Q need S f (l.setIfInBounds i true) (a.put oi.dst v) w) : wpN P ops Q need S (f + 1) l a w :=
  wpN_first hi hsel hnd hQ f l a w hcl (Region.free_spec hi hf) (by simpa using hr) hy hS h
theorem wpN_each {f : Nat} {l : Array Bool} {a : Act} {w : World} (hr : Region.ready .any ops l ≠ [])
    (h : ∀ i, i ∈ Region.ready .any ops l → wpOp P ops Q i (fun a' w' => (need i = true → S w') ∧ wpN P ops Q need S f (l.setIfInBounds i true) a' w') a w) : wpN P ops Q need S (f + 1) l a w :=
  ⟨fun h' => absurd h' hr, h⟩
theorem wpN_one {i : Nat} {f : Nat} {l : Array Bool} {a : Act} {w : World} (hr : Region.ready .any ops l = [i])
    (h : wpOp P ops Q i (fun a' w' => (need i = true → S w') ∧ wpN P ops Q need S f (l.setIfInBounds i true) a' w') a w) : wpN P ops Q need S (f + 1) l a w := by
  refine ⟨fun h0 => absurd (hr ▸ h0) (List.cons_ne_nil _ _), fun j hj => ?_⟩
  rw [hr] at hj
  cases List.mem_singleton.1 hj
  exact h
theorem wpN_done {l : Array Bool} {a : Act} {w : World} (hr : Region.ready .any ops l = []) (h : Q .normal a w) : ∀ f, wpN P ops Q need S f l a w
  | 0 => ⟨hr, h⟩
  | _ + 1 => ⟨fun _ => h, by rw [hr]; simp⟩
end
end
section
open Go
structure Env where
  P : Program
  T : Nat → Option TyI
  U : Nat → List Nat
  F : Nat → Bool
abbrev ContX := List PanicEntry → World → Prop
def addNew (l : List Nat) (k : Nat) : List Nat := if l.contains k then l else k :: l
def ptrsOf (s : St) (xs : List Operand) : List Nat :=
  xs.foldr (fun x l => match (s.ev x).sh with | .ptr k _ => addNew l k | .clo ks => ks.foldr (fun k l => addNew l k) l | _ => l) []
def othersOf (bl : List Blk) (tch : List Nat) : List Nat := go 0 bl
 where
  go : Nat → List Blk → List Nat
    | _, [] => []
    | k, b :: r => if tch.contains k then go (k + 1) r else b.id :: go (k + 1) r
def ckOf (T : Nat → Option TyI) (b : Blk) : List CK :=
  match T b.ty with
  | some i => if i.ck.length = b.cs.length then i.ck else b.cs.map fun _ => .any
  | none => b.cs.map fun _ => .any
def entsOf (ck : Nat) (vs : List Value) : List Ent := vs.map fun v => ⟨v, .no, ck⟩
def oneOr (sh : Sh) (ck : Nat) : List Value → List Ent
  | [v] => [⟨v, sh, ck⟩]
  | vs => entsOf ck vs
def St.setBlk (s : St) (k : Nat) (b : Blk) (vs : List Value) : St := { s with bl := s.bl.set k { b with cs := entsOf s.ck vs } }
def touch (T : Nat → Option TyI) (w : World) : List Nat → St → (St → Prop) → Prop
  | [], s, K => K s
  | k :: r, s, K =>
    match s.bl[k]? with
    | none => False
    | some b => exL (ckOf T b) fun vs => { b with cs := entsOf s.ck vs : Blk }.at w ∧ vs.length = b.cs.length ∧ touch T w r (s.setBlk k b vs) K
def St.goTo (s : St) (w : World) : St := { s with w := w }
def callVC (E : Env) (s : St) (dst : Option Nat) (ty : Nat) (f : Nat) (args : List Value) (tch : List Nat) (K : St → Prop) (X : ContX) : Prop :=
  flush s tch fun s1 w1 => ∃ (R : Value → World → Prop) (X' : ContX), CallsX E.P f args.toArray w1 R X' ∧
    (∀ v w2, R v w2 → exT E.T E.U ty fun u => v = u ∧ ∃ S : Nat → Prop, Upd w1 w2 S ∧ Away (othersOf s1.bl tch) S ∧
      touch E.T w2 tch (s1.goTo w2) fun s2 => K (s2.put dst u .no)) ∧
    (∀ ch w2, X' ch w2 → X ch w2)
def callXVC (E : Env) (s : St) (dst : Option Nat) (ty : Nat) (f : Nat) (args : List Value) (tch : List Nat) (K : St → Prop) (X : ContX) : Prop :=
  flush s tch fun s1 w1 => ∃ (R : Value → World → Prop) (X' : ContX), CallsX E.P f args.toArray w1 R X' ∧
    (∀ v w2, R v w2 → exT E.T E.U ty fun u => v = u ∧ Ext w1 w2 ∧ touch E.T w2 tch (s1.goTo w2) fun s2 => K (s2.put dst u .no)) ∧
    (∀ ch w2, X' ch w2 → X ch w2)
def binSem (op : BinOp) (t : Nat) (x y : Operand) (u v : Value) : Sem Value := do eqGuard op t x y u v; binOp op t u v
def readVC (E : Env) (s : St) (dst : Option Nat) (ty : Nat) (sm : Sem Value) (K : St → Prop) : Prop :=
  flush s [] fun s1 w1 => exT E.T E.U ty fun u => sm.run E.P w1 = .ok u w1 ∧ K (s1.put dst u .no)
def assertVC (E : Env) (s : St) (dst : Option Nat) (u : Nat) (ok : Bool) (ty : Nat) (sm : Sem Value) (K : St → Prop) : Prop :=
  if ok then flush s [] fun s1 w1 => ∃ is : Bool, exT E.T E.U u fun a => sm.run E.P w1 = .ok (.tuple #[a, .bool is]) w1 ∧ K (s1.put dst (.tuple #[a, .bool is]) .no)
  else readVC E s dst ty sm K
def genVC (E : Env) (s : St) (dst : Option Nat) (ty : Nat) (sm : Sem Value) (K : St → Prop) : Prop :=
  flush s [] fun s1 w1 => ∃ R : Value → World → Prop, RunsTo E.P sm w1 R ∧
    ∀ v w2, R v w2 → exT E.T E.U ty fun u => v = u ∧ ∃ S : Nat → Prop, Upd w1 w2 S ∧ Away (othersOf s1.bl []) S ∧ K ((s1.goTo w2).put dst u .no)
def unitVC (E : Env) (s : St) (dst : Option Nat) (sm : Sem Unit) (K : St → Prop) : Prop :=
  flush s [] fun s1 w1 => ∃ R : World → Prop, RunsU E.P sm w1 R ∧
    ∀ w2, R w2 → ∃ S : Nat → Prop, Upd w1 w2 S ∧ Away (othersOf s1.bl []) S ∧ K ((s1.goTo w2).put dst undef .no)
def nextVC (E : Env) (s : St) (dst : Option Nat) (sm : Sem Value) (K : St → Prop) : Prop :=
  flush s [] fun s1 w1 => ∃ R : Value → World → Prop, RunsTo E.P sm w1 R ∧
    ∀ v w2, R v w2 → ∃ S : Nat → Prop, Upd w1 w2 S ∧ Away (othersOf s1.bl []) S ∧
      ((v = .tuple #[.bool false] ∧ K ((s1.goTo w2).put dst (.tuple #[.bool false]) .no)) ∨
        ∃ i r : Int, v = .tuple #[.bool true, .int .i64 i, .int .i32 r] ∧ K ((s1.goTo w2).put dst (.tuple #[.bool true, .int .i64 i, .int .i32 r]) .no))
def entVC (E : Env) (s : St) (dst : Option Nat) (sm : Sem Value) (K : St → Prop) : Prop :=
  flush s [] fun s1 w1 => ∃ R : Value → World → Prop, RunsTo E.P sm w1 R ∧
    ∀ v w2, R v w2 → ∃ (u : Value) (k : Int), v = .tuple #[u, .int .i64 k] ∧ ∃ S : Nat → Prop, Upd w1 w2 S ∧ Away (othersOf s1.bl []) S ∧ K ((s1.goTo w2).put dst (.tuple #[u, .int .i64 k]) .no)
def loadVC (E : Env) (s : St) (dst : Option Nat) (t : Nat) (x : Value) (K : St → Prop) : Prop :=
  match E.T t, x with
  | some i, .pointer (some p) => flush s [] fun s1 w1 => exT E.T E.U t fun u =>
    match u, i.agg with
    | .agg cs, true => if cs.toList.length = i.zero.length then CellsIn w1 p cs.toList ∧ K (s1.put dst (.agg cs) .no) else False
    | v, false => CellsIn w1 p [v] ∧ K (s1.put dst v .no)
    | _, _ => False
  | _, _ => readVC E s dst t (Instr.loadAt t x) K
def semB (b : Builtin) (tys : Array Nat) (ty : Nat) (args : Array Value) : Option (Sem Value) :=
  match b with
  | .append => some (Builtin.append_ tys ty args)
  | .copy => some (Builtin.copy_ tys ty args)
  | _ => none
def readB (b : Builtin) (tys : Array Nat) (ty : Nat) (args : Array Value) : Option (Sem Value) :=
  match b with
  | .cap => some (Builtin.cap_ tys ty args)
  | .len => some (Builtin.len_ tys ty args)
  | _ => none
def St.addB (s : St) (b : Blk) : St := { s with bl := s.bl ++ [b], cl := false }
def newVC (s : St) (dst : Option Nat) (ty : Nat) (rw : Bool) (cs : List Ent) (v : Nat → Value) (sh : Sh) (K : St → Prop) : Prop :=
  ∀ id : Nat, s.w.heap.size ≤ id → K ((s.addB ⟨id, ty, rw, cs⟩).put dst (v id) sh)
def partsIn (s : St) (z : Nat) : Nat → List (Nat × Operand) → Option (List Value)
  | _, [] => some []
  | k, (j, x) :: r =>
    let vs := (s.ev x).v.cells.toList
    if j = k ∧ vs.length = z then (partsIn s z (k + 1) r).map fun l => vs ++ l else none
def storeIn (s : St) (k : Nat) (b : Blk) (off : Nat) (es : List Ent) : St :=
  { s with bl := s.bl.set k { b with cs := setAt b.cs off es }, cl := false, D := if k < s.n0 then addNew s.D k else s.D }
def oneOf : List CK → List Value → Prop → Prop
  | _, [], K => K
  | .any :: cs, v :: vs, K => v.oneCell' = true ∧ oneOf cs vs K
  | _ :: cs, v :: vs, K => match v.oneCell' with | true => oneOf cs vs K | false => False
  | [], v :: vs, K => match v.oneCell' with | true => oneOf [] vs K | false => False
theorem oneOf_use : ∀ (cs : List CK) (vs : List Value) {K : Prop}, oneOf cs vs K → vs.all Value.oneCell' = true ∧ K
  | cs, [], K, h => by cases cs with | nil => exact ⟨rfl, h⟩ | cons c cs => cases c <;> exact ⟨rfl, h⟩
  | [], v :: vs, K, h => by
    simp only [oneOf] at h
    split at h
    · rename_i hv
      have := oneOf_use [] vs h
      exact ⟨by simp only [List.all_cons, hv, this.1, Bool.and_self], this.2⟩
    · exact h.elim
  | c :: cs, v :: vs, K, h => by
    cases c with
    | any =>
      simp only [oneOf] at h
      have := oneOf_use cs vs h.2
      exact ⟨by simp only [List.all_cons, h.1, this.1, Bool.and_self], this.2⟩
    | _ =>
      simp only [oneOf] at h
      split at h
      · rename_i hv
        have := oneOf_use cs vs h
        exact ⟨by simp only [List.all_cons, hv, this.1, Bool.and_self], this.2⟩
      · exact h.elim
theorem oneOf_mono : ∀ (cs : List CK) (vs : List Value) {K K2 : Prop}, (K → K2) → oneOf cs vs K → oneOf cs vs K2
  | cs, [], K, K2, hk, h => by cases cs with | nil => exact hk h | cons c cs => cases c <;> exact hk h
  | [], v :: vs, K, K2, hk, h => by
    simp only [oneOf] at h ⊢
    split at h
    · exact oneOf_mono [] vs hk h
    · exact h.elim
  | c :: cs, v :: vs, K, K2, hk, h => by
    cases c with
    | any => simp only [oneOf] at h ⊢; exact ⟨h.1, oneOf_mono cs vs hk h.2⟩
    | _ =>
      simp only [oneOf] at h ⊢
      split at h
      · exact oneOf_mono cs vs hk h
      · exact h.elim
def storeVC (E : Env) (s : St) (dst : Option Nat) (t : Nat) (p x : Operand) (K : St → Prop) : Prop :=
  match (s.ev p).sh, E.T t with
  | .ptr k off, some i =>
    match s.bl[k]? with
    | none => False
    | some b =>
      let vs := (s.ev x).v.cells.toList
      if vs.length = i.zero.length ∧ off + vs.length ≤ b.cs.length then
        oneOf i.ck vs (K ((storeIn s k b off (oneOr (s.ev x).sh s.ck vs)).put dst undef .no))
      else False
  | _, _ => unitVC E s dst (Instr.storeAt t (s.ev p).v (s.ev x).v) K
def loud (E : Env) (s : St) (o : Oper) (K : St → Prop) (X : ContX) : Prop :=
  match o.op with
  | .alloc t =>
    match E.T t with
    | none => False
    | some i => newVC s o.dst t false (entsOf s.ck i.zero) (fun id => .pointer (some ⟨id, 0, none⟩)) (.ptr s.bl.length 0) K
  | .box t x =>
    newVC s o.dst t false (oneOr .no s.ck (s.ev x).v.cells.toList) (fun id => .pointer (some ⟨id, 0, none⟩)) (.ptr s.bl.length 0) K
  | .buildSlice t len parts =>
    match E.T t with
    | none => False
    | some i =>
      match i.el with
      | none => False
      | some e =>
        match E.T e with
        | none => False
        | some ie =>
          if ie.zero.length * len ≤ 2 ^ 24 ∧ parts.toList.length = len ∧ 0 < ie.zero.length then
            match partsIn s ie.zero.length 0 parts.toList with
            | none => False
            | some vs => newVC s o.dst e true (entsOf s.ck vs) (fun id => .slice (some ⟨id, 0, none⟩) len len) (.row s.bl.length) K
          else False
  | .store t p x => storeVC E s o.dst t p x K
  | .load t x => loadVC E s o.dst t (s.ev x).v K
  | .indexAddr t x i =>
    match E.T t, (s.ev x).v, (s.ev i).v with
    | some it, .slice A n _, .int _ j =>
      match it.el with
      | none => False
      | some e =>
        match E.T e with
        | none => False
        | some ie => (0 ≤ j ∧ j < n) ∧ ∃ ad : Addr, A = some ad ∧ K (s.put o.dst (.pointer (some (ad.add (j.toNat * ie.zero.length)))) .no)
    | _, _, _ => False
  | .index t x i =>
    match E.T t, (s.ev x).v, (s.ev i).v with
    | some it, .string b, .int _ j => if it.kd = 1 then (0 ≤ j ∧ j < b.size) ∧ K (s.put o.dst (.int .u8 (byteAt b j)) .no) else False
    | _, _, _ => readVC E s o.dst o.type (Instr.index t (s.ev x).v (s.ev i).v) K
  | .slice t x lo hi mx => readVC E s o.dst t (Instr.sliceAt t (s.ev x).v (lo.map fun x => (s.ev x).v) (hi.map fun x => (s.ev x).v) (mx.map fun x => (s.ev x).v)) K
  | .binOp op t x y _ => readVC E s o.dst o.type (binSem op t x y (s.ev x).v (s.ev y).v) K
  | .convert src dst x => genVC E s o.dst dst (convert src dst (s.ev x).v) K
  | .typeAssert x t u ok => assertVC E s o.dst u ok o.type (Instr.typeAssert (s.ev x).v t u ok) K
  | .makeMap t r => genVC E s o.dst t (Instr.makeMap t (r.map fun x => (s.ev x).v)) K
  | .makeSlice t l c => genVC E s o.dst t (Instr.makeSlice t (s.ev l).v (s.ev c).v) K
  | .lookup t x i ok => readVC E s o.dst o.type (Instr.lookup t (s.ev x).v (s.ev i).v ok) K
  | .range t x => genVC E s o.dst 1000000 (Instr.range t (s.ev x).v) K
  | .next it str => match str with
    | true => nextVC E s o.dst (Instr.next (s.ev it).v true o.type) K
    | false => genVC E s o.dst o.type (Instr.next (s.ev it).v false o.type) K
  | .mapUpdate t m k x => unitVC E s o.dst (Instr.mapUpdate t (s.ev m).v (s.ev k).v (s.ev x).v) K
  | .mapEntry t m k => entVC E s o.dst (Instr.mapEntry t (s.ev m).v (s.ev k).v) K
  | .entryStore t m k x => unitVC E s o.dst (Instr.entryStore t (s.ev m).v (s.ev k).v (s.ev x).v) K
  | .panic x =>
    match (s.ev x).v with
    | .iface t v => flush s [] fun _ w1 => X [{ v := .iface t v, recovered := false }] w1
    | _ => False
  | .call c =>
    match c.callee with
    | .value f =>
      match (s.ev f).v with
      | .func (.func f) a b => if E.F f then callVC E s o.dst o.type f (a.toList ++ c.args.toList.map (fun x => (s.ev x).v) ++ b.toList) (ptrsOf s c.args.toList) K X else False
      | _ => False
    | .invoke _ _ => False
    | .builtin b =>
      match semB b c.argTypes o.type (c.args.map fun x => (s.ev x).v) with
      | some sm => genVC E s o.dst o.type sm K
      | none =>
        match readB b c.argTypes o.type (c.args.map fun x => (s.ev x).v) with
        | some sm => readVC E s o.dst o.type sm K
        | none => False
  | _ => False
def step (E : Env) (s : St) (o : Oper) (K : St → Prop) (X : ContX) : Prop :=
  match quiet E.T s o.op with
  | some (v, sh) => K (s.put o.dst v sh)
  | none => loud E s o K X
def stillOp : Op → Bool
  | .store .. | .convert .. | .makeMap .. | .makeSlice .. | .mapUpdate .. | .mapEntry .. | .entryStore .. | .range .. | .next .. | .panic _ => false
  | .call c => match c.callee with | .builtin .append | .builtin .copy => false | .builtin _ => true | _ => false
  | _ => true
def stepX (E : Env) (s : St) (o : Oper) (K : St → Prop) (X : ContX) : Prop :=
  match o.op with
  | .call c =>
    match c.callee with
    | .value f =>
      match (s.ev f).v with
      | .func (.func f) a b => if E.F f then callXVC E s o.dst o.type f (a.toList ++ c.args.toList.map (fun x => (s.ev x).v) ++ b.toList) (ptrsOf s c.args.toList) K X else False
      | _ => False
    | _ => if stillOp o.op then step E s o K X else False
  | op => if stillOp op then step E s o K X else False
def St.setSh (s : St) (d : Nat) (sh : Sh) : St :=
  match s.tm[d]? with
  | none => s
  | some e => { s with tm := s.tm.set d { e with sh := sh } }
inductive Gd where
  | yes | off
  | ask (d : Nat) (b : Bool)
  | bad
def guardOf (ops : Array Oper) (s : St) (o : Oper) : Gd :=
  match o.guard with
  | none => .yes
  | some (j, want) =>
    match (ops[j]?).bind (·.dst) with
    | none => .bad
    | some d =>
      match s.tm[d]? with
      | none => .bad
      | some e =>
        match e.sh with
        | .lb b => if b == want then .yes else .off
        | _ =>
          match e.v with
          | .bool b => .ask d b
          | .tuple _ => .off
          | _ => .bad
def wantOf (o : Oper) : Bool := match o.guard with | some (_, w) => w | none => true
def execOps (E : Env) (ops : Array Oper) (X : ContX) (K : St → Prop) : List Oper → St → Prop
  | [], s => K s
  | o :: r, s =>
    match guardOf ops s o with
    | .yes => step E s o (execOps E ops X K r) X
    | .off => execOps E ops X K r (s.put o.dst undef .no)
    | .ask d b =>
      (b = true → (match wantOf o with
        | true => step E (s.setSh d (.lb true)) o (execOps E ops X K r) X
        | false => execOps E ops X K r ((s.setSh d (.lb true)).put o.dst undef .no))) ∧
      (b = false → (match wantOf o with
        | false => step E (s.setSh d (.lb false)) o (execOps E ops X K r) X
        | true => execOps E ops X K r ((s.setSh d (.lb false)).put o.dst undef .no)))
    | .bad => False
def quietKind : Op → Bool
  | .alloc _ | .box .. | .buildSlice .. | .store .. | .panic _ | .makeMap .. | .makeSlice .. | .mapUpdate .. | .mapEntry .. | .entryStore .. | .range .. | .next .. => false
  | .call c =>
    match c.callee with
    | .builtin .append | .builtin .copy => false
    | .builtin _ => true
    | _ => false
  | _ => true
def qsOf (ops : Array Oper) : List Nat := (List.range ops.size).filter fun i => match ops[i]? with | some o => quietKind o.op | none => false
def readOk (s : St) (rb : List Nat) : Op → Bool
  | .load _ x => match (s.ev x).sh with | .ptr k _ => rb.contains k | _ => true
  | _ => true
def calm (s : St) (rb : List Nat) : Op → Bool
  | .store _ p _ => match (s.ev p).sh with | .ptr k _ => !rb.contains k | _ => true
  | .call c => (ptrsOf s c.args.toList).all fun k => !rb.contains k
  | _ => true
def rootOf (ops : List Oper) : Nat → Nat → Nat
  | 0, x => x
  | n + 1, x =>
    match ops.find? fun o => o.dst == some x with
    | none => x
    | some o =>
      match o.op with
      | .fieldAddr _ (.tmp y) _ => rootOf ops n y
      | .nilCheck (.tmp y) => rootOf ops n y
      | .move (.tmp y) => rootOf ops n y
      | .assign (.tmp y) => rootOf ops n y
      | _ => 1000000
def rbOf (s : St) (ops : Array Oper) : List Nat := ops.toList.filterMap fun o =>
  match o.op with
  | .load _ (.tmp x) => (match (s.tm.getD (rootOf ops.toList ops.size x) undefE).sh with | .ptr k _ => if k < s.bl.length then some k else none | _ => none)
  | _ => none
def lookOp (E : Env) (s : St) (fr : Bool) : Op → Bool
  | .indexAddr _ _ _ => true
  | .index t x i => match E.T t, (s.ev x).v, (s.ev i).v with | some _, .string _, .int _ _ => true | _, _, _ => false
  | .load t x => fr && (match (s.ev x).v, E.T t with | .pointer (some _), some _ => true | _, _ => false)
  | _ => false
def extOf (ops : Array Oper) : Bool := (List.range ops.size).all fun j => match ops[j]? with | some o => stillOp o.op || !needOf ops (qsOf ops) j | none => true
inductive Cand where
  | look (i : Nat) (o : Oper)
  | take (i : Nat) (o : Oper) (v : Value) (sh : Sh)
  | ask (d : Nat) (b : Bool)
  | none
def candOf (E : Env) (x : Bool) (ops : Array Oper) (m : List Nat) (fr ok : Bool) (l : Array Bool) (s : St) (all : List Nat) : List Nat → Cand
  | [] => .none
  | i :: r =>
    match ops[i]? with
    | Option.none => candOf E x ops m fr ok l s all r
    | some o =>
      match guardOf ops s o with
      | .ask d b => .ask d b
      | .bad => .none
      | .off => if ok && (qsOf ops).contains i && Region.free .any ops l i then .take i o undef .no else candOf E x ops m fr ok l s all r
      | .yes =>
        if ok && (qsOf ops).contains i && Region.free .any ops l i && readOk s m o.op then
          match quiet E.T s o.op with
          | some (v, sh) => .take i o v sh
          | Option.none => if lookOp E s (fr && (x || extOf ops)) o.op then .look i o else candOf E x ops m fr ok l s all r
        else candOf E x ops m fr ok l s all r
def allP : List Prop → Prop
  | [] => True
  | [p] => p
  | p :: q :: l => p ∧ allP (q :: l)
def freshSt (E : Env) (s : St) (fb : List Nat) : Op → Bool
  | .store t p _ => (match (s.ev p).sh with | .ptr k _ => fb.contains k | _ => false) && (E.T t).isSome
  | _ => false
def oneVC (E : Env) (x y : Bool) (ops : Array Oper) (X : ContX) (m fb : List Nat) (rec : Bool → Bool → Array Bool → St → Prop) (fr ok : Bool) (l : Array Bool) (s : St) (i : Nat) : Prop :=
  match ops[i]? with
  | Option.none => False
  | some o =>
    if needOf ops (qsOf ops) i then
      if ok && calm s m o.op then
        match guardOf ops s o with
        | .yes => if x then stepX E s o (rec false ok (l.setIfInBounds i true)) X
          else if y && !stillOp o.op then (if freshSt E s fb o.op then step E s o (rec false ok (l.setIfInBounds i true)) X else False)
          else step E s o (rec false ok (l.setIfInBounds i true)) X
        | .off => rec fr ok (l.setIfInBounds i true) (s.put o.dst undef .no)
        | _ => False
      else False
    else
      match guardOf ops s o with
      | .yes => step E s o (rec false (ok && calm s m o.op && (!((x || y) || extOf ops) || stillOp o.op)) (l.setIfInBounds i true)) X
      | .off => rec fr ok (l.setIfInBounds i true) (s.put o.dst undef .no)
      | _ => False
def pairOf (ops : Array Oper) (ok : Bool) (l : Array Bool) : List Nat → Option (Nat × Nat × Nat × Nat × Nat × Nat)
  | [i, j] =>
    match ops[i]?, ops[j]? with
    | some oi, some oj =>
      match oi.op, oj.op, oi.dst, oj.dst, oi.guard, oj.guard with
      | .alloc ti, .alloc tj, some di, some dj, Option.none, Option.none =>
        if di ≠ dj ∧ Region.ready .any ops (l.setIfInBounds i true) = [j] ∧ Region.ready .any ops (l.setIfInBounds j true) = [i] ∧ (ok || !(needOf ops (qsOf ops) i || needOf ops (qsOf ops) j)) = true then some (i, j, di, dj, ti, tj) else Option.none
      | _, _, _, _, _, _ => Option.none
    | _, _ => Option.none
  | _ => Option.none
def allocVC (E : Env) (s : St) (d t : Nat) (K : St → Prop) : Prop :=
  match E.T t with
  | none => False
  | some i => newVC s (some d) t false (entsOf s.ck i.zero) (fun id => .pointer (some ⟨id, 0, none⟩)) (.ptr s.bl.length 0) K
def pairVC (E : Env) (s : St) (di dj ti tj : Nat) (K : St → Prop) : Prop := allocVC E s di ti fun s1 => allocVC E s1 dj tj K
def drawVC (E : Env) (x y : Bool) (ops : Array Oper) (X : ContX) (K : St → Prop) (m : List Nat) : Nat → List Nat → Bool → Bool → Array Bool → St → Prop
  | 0, _, _, _, _, _ => False
  | n + 1, fb, fr, ok, l, s =>
    match Region.ready .any ops l with
    | [] => K s
    | r :: rs =>
      match candOf E (x || y) ops m fr ok l s (r :: rs) (r :: rs) with
      | .look i o => loud E s o (drawVC E x y ops X K m n fb fr ok (l.setIfInBounds i true)) X
      | .take i o v sh => drawVC E x y ops X K m n fb fr ok (l.setIfInBounds i true) (s.put o.dst v sh)
      | .ask d b => (b = true → drawVC E x y ops X K m n fb fr ok l (s.setSh d (.lb true))) ∧ (b = false → drawVC E x y ops X K m n fb fr ok l (s.setSh d (.lb false)))
      | .none =>
        match pairOf ops ok l (r :: rs) with
        | some (i, j, di, dj, ti, tj) => pairVC E s di dj ti tj (drawVC E x y ops X K m n (s.bl.length :: (s.bl.length + 1) :: fb) false ok ((l.setIfInBounds i true).setIfInBounds j true))
        | Option.none => allP ((r :: rs).map (oneVC E x y ops X m fb (drawVC E x y ops X K m n fb) fr ok l s))
structure Mods where
  tm : List (Nat × CK)
  ce : List (Nat × Nat × CK)
def Mods.cks (M : Mods) : List CK := M.tm.map (·.2) ++ M.ce.map (·.2.2)
def writes : Code → List Nat
  | .region _ ops _ => ops.toList.filterMap (·.dst)
  | .seq a b => writes a ++ writes b
  | .cond _ a b => writes a ++ writes b
  | .block _ a => writes a
  | .loop a => writes a
  | .scope a => writes a
  | _ => []
def firstR : Code → Nat
  | .region i _ _ => i
  | .seq a b => let i := firstR a; if i = 1000000 then firstR b else i
  | .cond _ a b => let i := firstR a; if i = 1000000 then firstR b else i
  | .block _ a => firstR a
  | .loop a => firstR a
  | .scope a => firstR a
  | _ => 1000000
def putMany (ck : Nat) : List (Nat × CK) → List Value → List Ent → List Ent
  | (j, _) :: r, v :: vs, tm => putMany ck r vs (tm.set j ⟨v, .no, ck⟩)
  | _, _, tm => tm
def putCells (ck : Nat) : List (Nat × Nat × CK) → List Value → List Blk → List Blk
  | (k, j, _) :: r, v :: vs, bl => putCells ck r vs (match bl[k]? with | some b => bl.set k { b with cs := b.cs.set j ⟨v, .no, ck⟩ } | none => bl)
  | _, _, bl => bl
def junkAll (ck : Nat) (jk : Nat → Value) : List Nat → List Ent → List Ent
  | [], tm => tm
  | j :: r, tm => junkAll ck jk r (tm.set j ⟨jk j, .no, ck⟩)
def headSt (s : St) (M : Mods) (ws : List Nat) (jk : Nat → Value) (vs : List Value) (w : World) : St :=
  { tm := putMany s.ck M.tm vs (junkAll s.ck jk ws s.tm), bl := putCells s.ck M.ce (vs.drop M.tm.length) s.bl, w := w, cl := true, D := [], n0 := s.bl.length, ck := s.ck + 1 }
def valsOf (s : St) (M : Mods) : List Value :=
  M.tm.map (fun p => (s.tm.getD p.1 undefE).v) ++ M.ce.map (fun p => match s.bl[p.1]? with | some b => (b.cs.getD p.2.1 undefE).v | none => undef)
def stampOk (s : St) (M : Mods) (ws : List Nat) (c m : Nat) : Bool := goT 0 s.tm && goB 0 (s.bl.take m)
 where
  goT : Nat → List Ent → Bool
    | _, [] => true
    | j, e :: r => (e.st < c || ws.contains j) && goT (j + 1) r
  goC (k : Nat) : Nat → List Ent → Bool
    | _, [] => true
    | j, e :: r => (e.st < c || M.ce.any fun p => p.1 == k && p.2.1 == j) && goC k (j + 1) r
  goB : Nat → List Blk → Bool
    | _, [] => true
    | k, b :: r => goC k 0 b.cs && goB (k + 1) r
def modsOk (s : St) (M : Mods) (ws : List Nat) : Bool :=
  M.tm.all (fun p => ws.contains p.1 && p.1 < s.tm.length) && M.ce.all fun p => match s.bl[p.1]? with | some b => p.2.1 < b.cs.length | none => false
def look (l : List (Nat × Mods)) (k : Nat) : Option Mods := (l.find? fun p => p.1 == k).map (·.2)
structure Hints where
  loops : List (Nat × Mods)
  cuts : List (Nat × Mods)
def St.kn (s : St) : Operand → Bool → St
  | .tmp d, b => s.setSh d (.lb b)
  | _, _ => s
def distL (l : List Nat) : Prop := l.Nodup
def distP (b : Bool) (l : List Nat) (p : Prop) : Prop := if b then distL l → p else p
def exec (E : Env) (H : Hints) (X : ContX) : Code → (Exit → St → Prop) → St → Prop
  | .skip, Q, s => Q .normal s
  | .ret, Q, s => Q .ret s
  | .exit id, Q, s => Q (.exit id) s
  | .region rid ops draw, Q, s => distP (look H.loops (300000 + rid)).isSome s.ids <|
    if draw then
      if Region.noSelect ops then drawVC E (look H.loops (100000 + rid)).isSome (look H.loops (150000 + rid)).isSome ops X (Q .normal) (rbOf s ops) (4 * ops.size + 4) [] true true (Array.replicate ops.size false) { s with cl := false }
      else False
    else execOps E ops X (Q .normal) ops.toList s
  | .cond c a b, Q, s =>
    match (s.ev c).sh with
    | .lb true => exec E H X a Q s
    | .lb false => exec E H X b Q s
    | _ =>
      match (s.ev c).v with
      | .bool t => (t = true → exec E H X a Q (s.kn c true)) ∧ (t = false → exec E H X b Q (s.kn c false))
      | _ => False
  | .block id a, Q, s => exec E H X a (fun e s' => match e with | .exit j => if j = id then Q .normal s' else Q (.exit j) s' | e => Q e s') s
  | .scope a, Q, s => exec E H X a (fun e s' => match e with | .goto _ => False | e => Q e s') s
  | .seq a b, Q, s =>
    match look H.cuts (firstR b) with
    | none => exec E H X a (fun e s' => match e with | .normal => exec E H X b Q s' | e => Q e s') s
    | some M =>
      if modsOk s M (writes a) then
        ∃ I : Inv M.cks,
          exec E H X a (fun e s' => match e with
            | .normal => if stampOk s' M (writes a) (s.ck + 1) s.bl.length then flush s' [] fun s3 w3 => Inv.at M.cks I (valsOf s3 M) w3 else False
            | e => Q e s') { s with ck := s.ck + 1 } ∧
          ∀ jk : Nat → Value, allL M.cks fun vs => ∀ w2 : World, Inv.at M.cks I vs w2 → exec E H X b Q (headSt s M (writes a) jk vs w2)
      else False
  | .loop a, Q, s =>
    match look H.loops (firstR a) with
    | none => False
    | some M =>
      if modsOk s M (writes a) then
        match look H.loops (200000 + firstR a) with
        | none =>
          flush s [] fun s1 w1 => ∃ (I : Inv M.cks) (m : Mea M.cks), Inv.at M.cks I (valsOf s1 M) w1 ∧
            ∀ jk : Nat → Value, allL M.cks fun vs => ∀ w2 : World, Inv.at M.cks I vs w2 →
              exec E H X a (fun e s' => match e with
                | .normal => if stampOk s' M (writes a) (s1.ck + 1) s1.bl.length then flush s' [] fun s3 w3 => Inv.at M.cks I (valsOf s3 M) w3 ∧ Mea.at M.cks m (valsOf s3 M) < Mea.at M.cks m vs else False
                | e => Q e s') (headSt s1 M (writes a) jk vs w2)
        | some _ =>
          flush s [] fun s1 w1 => ∃ (I : Nat → Inv M.cks) (n0 : Nat), Inv.at M.cks (I n0) (valsOf s1 M) w1 ∧
            ∀ (n : Nat) (jk : Nat → Value), allL M.cks fun vs => ∀ w2 : World, Inv.at M.cks (I n) vs w2 →
              exec E H X a (fun e s' => match e with
                | .normal => if stampOk s' M (writes a) (s1.ck + 1) s1.bl.length then flush s' [] fun s3 w3 => ∃ n2 : Nat, Inv.at M.cks (I n2) (valsOf s3 M) w3 ∧ n2 < n else False
                | e => Q e s') (headSt s1 M (writes a) jk vs w2)
      else False
  | _, _, _ => False
def resOf (E : Env) (s : St) : ResultVar → Option Value
  | .tmp t => some (s.ev (.tmp t)).v
  | .cell a t =>
    match E.T t, (s.ev (.tmp a)).sh with
    | some i, .ptr k off =>
      match s.bl[k]? with
      | none => none
      | some b =>
        if i.agg then if off + i.zero.length ≤ b.cs.length then some (.agg (((b.cs.drop off).take i.zero.length).map Ent.v).toArray) else none
        else (b.cs[off]?).map fun e => e.v
    | _, _ => none
def resList (E : Env) (s : St) : List ResultVar → Option (List Value)
  | [] => some []
  | r :: rs => match resOf E s r, resList E s rs with | some v, some vs => some (v :: vs) | _, _ => none
def resAll (E : Env) (s : St) (rs : List ResultVar) : Option Value :=
  match resList E s rs with
  | some [v] => some v
  | some vs => some (.tuple vs.toArray)
  | none => none
def escOf (H : Hints) : List Nat := H.loops.filterMap fun p => if 400000 ≤ p.1 then some (p.1 - 400000) else none
def startSt (args : List (Value × Sh)) (n : Nat) (bl : List Blk) (w : World) : St :=
  { tm := args.map (fun p => ⟨p.1, p.2, 0⟩) ++ List.replicate (n - args.length) undefE, bl := bl, w := w, cl := true, D := [], n0 := bl.length, ck := 0 }
def fnVC (E : Env) (H : Hints) (c : Code) (rs : List ResultVar) (n : Nat) (args : List (Value × Sh)) (bl : List Blk) (w : World) (R : Value → World → Prop) (X : ContX) : Prop :=
  exec E H X c (fun e s => match e with
    | .normal | .ret => (match resAll E s rs with | some v => flush s (List.range bl.length ++ escOf H) fun _ w1 => R v w1 | none => False)
    | _ => False) (startSt args n bl w)
end
section
open Go
theorem Upd.refl (w : World) (S : Nat → Prop) : Upd w w S := ⟨rfl, rfl, rfl, Nat.le_refl _, fun _ _ _ => rfl⟩
theorem Upd.trans {a b c : World} {S : Nat → Prop} (h : Upd a b S) (k : Upd b c S) : Upd a c S :=
  ⟨k.os.trans h.os, k.tape.trans h.tape, k.output.trans h.output, Nat.le_trans h.size k.size, fun i hi hs => (k.keep i (Nat.lt_of_lt_of_le hi h.size) hs).trans (h.keep i hi hs)⟩
theorem Upd.mono {a b : World} {S S' : Nat → Prop} (h : Upd a b S) (hs : ∀ k, S k → S' k) : Upd a b S' :=
  ⟨h.os, h.tape, h.output, h.size, fun i hi hn => h.keep i hi fun q => hn (hs i q)⟩
theorem Ext.trans {a b c : World} (h : Ext a b) (k : Ext b c) : Ext a c := Upd.trans h k
structure Holds (s : St) (a : Act) (w : World) : Prop where
  fr : Fr s a
  bl : Bls s.bl w
  nd : s.ids.Nodup
  tk : ∀ e ∈ s.tm, e.st ≤ s.ck
  cb : ∀ b ∈ s.bl, ∀ e ∈ b.cs, e.st ≤ s.ck
  up : Upd s.w w (setOf (idsOf s.bl s.D))
  cl : s.cl = true → w = s.w
  nb : ∀ b ∈ s.bl.drop s.n0, s.w.heap.size ≤ b.id
def Old (c : Nat) (l l' : List Ent) : Prop := ∀ (j : Nat) (e : Ent), l'[j]? = some e → e.st < c → ∃ e0 : Ent, l[j]? = some e0 ∧ e0.v = e.v ∧ e0.st = e.st
theorem Old.refl (c : Nat) (l : List Ent) : Old c l l := fun _ e h _ => ⟨e, h, rfl, rfl⟩
theorem Old.trans {c c' : Nat} {l l' l'' : List Ent} (hc : c ≤ c') (h : Old c l l') (k : Old c' l' l'') : Old c l l'' := fun j e he hs => by
  obtain ⟨e1, h1, h2, h3⟩ := k j e he (Nat.lt_of_lt_of_le hs hc)
  obtain ⟨e0, h4, h5, h6⟩ := h j e1 h1 (h3 ▸ hs)
  exact ⟨e0, h4, h5.trans h2, h6.trans h3⟩
structure Agree (s s' : St) : Prop where
  ck : s.ck ≤ s'.ck
  tl : s'.tm.length = s.tm.length
  tm : Old s.ck s.tm s'.tm
  bl : ∀ (k : Nat) (b : Blk), s.bl[k]? = some b → ∃ b' : Blk, s'.bl[k]? = some b' ∧ b'.id = b.id ∧ b'.ty = b.ty ∧ b'.rw = b.rw ∧ b'.cs.length = b.cs.length ∧ Old s.ck b.cs b'.cs
theorem Agree.refl (s : St) : Agree s s :=
  ⟨Nat.le_refl _, rfl, Old.refl _ _, fun _ b h => ⟨b, h, rfl, rfl, rfl, rfl, Old.refl _ _⟩⟩
theorem Agree.trans {s s' s'' : St} (h : Agree s s') (k : Agree s' s'') : Agree s s'' := by
  refine ⟨Nat.le_trans h.ck k.ck, k.tl.trans h.tl, h.tm.trans h.ck k.tm, fun i b hb => ?_⟩
  obtain ⟨b1, hb1, i1, t1, r1, l1, f1⟩ := h.bl i b hb
  obtain ⟨b2, hb2, i2, t2, r2, l2, f2⟩ := k.bl i b1 hb1
  exact ⟨b2, hb2, i2.trans i1, t2.trans t1, r2.trans r1, l2.trans l1, f1.trans h.ck f2⟩
theorem impL_use {l : List Prop} {q : Prop} (h : impL l q) (hl : ∀ p ∈ l, p) : q := by
  induction l with
  | nil => exact h
  | cons p l ih => exact ih (h (hl p List.mem_cons_self)) fun r hr => hl r (List.mem_cons_of_mem _ hr)
theorem lt_of_at {b : Blk} {w : World} (h : b.at w) : b.id < w.heap.size := (Array.getElem?_eq_some_iff.1 h).1
theorem Holds.wants {s : St} {a : Act} {w : World} (H : Holds s a w) (l : List Nat) : ∀ p ∈ wantsOf s.bl l w ++ rowsOf s.bl w, p := by
  intro p hp
  rcases List.mem_append.1 hp with hp | hp
  · obtain ⟨k, _, hk⟩ := List.mem_filterMap.1 hp
    obtain ⟨b, hb, rfl⟩ := Option.map_eq_some_iff.1 hk
    exact H.bl.get hb
  · obtain ⟨b, hb, hk⟩ := List.mem_filterMap.1 hp
    split at hk
    · cases hk; exact H.bl b hb
    · cases hk
theorem Holds.flush {s : St} {a : Act} {w : World} (H : Holds s a w) {l : List Nat} {K : St → World → Prop} (h : flush s l K) : K (s.show w) w := by
  unfold Vx.flush at h
  split at h
  · rename_i hc
    have := H.cl hc
    subst this
    exact impL_use h (H.wants l)
  · refine impL_use (impL_use (h w H.up) ?_) (H.wants l)
    intro p hp
    obtain ⟨b, hb, rfl⟩ := List.mem_map.1 hp
    exact lt_of_at (H.bl b (List.mem_of_mem_drop hb))
theorem Holds.shown {s : St} {a : Act} {w : World} (H : Holds s a w) : Holds (s.show w) a w :=
  ⟨⟨H.fr.tm, H.fr.df, H.fr.sh, H.fr.sc⟩, H.bl, H.nd, H.tk, H.cb, Upd.refl _ _, fun _ => rfl, fun b hb => by simp [St.show] at hb⟩
theorem Agree.shown (s : St) (w : World) : Agree s (s.show w) := ⟨Nat.le_refl _, rfl, Old.refl _ _, (Agree.refl s).bl⟩
theorem put_ids (s : St) (d : Option Nat) (v : Value) (sh : Sh) : (s.put d v sh).ids = s.ids := by cases d <;> rfl
theorem put_bl (s : St) (d : Option Nat) (v : Value) (sh : Sh) : (s.put d v sh).bl = s.bl := by cases d <;> rfl
theorem ShOk.st {ids : List Nat} {v : Value} {sh : Sh} {n m : Nat} (h : ShOk ids ⟨v, sh, n⟩) : ShOk ids ⟨v, sh, m⟩ := h
theorem Holds.put {s : St} {a : Act} {w : World} (H : Holds s a w) (d : Option Nat) (v : Value) {sh : Sh} (hs : ShOk s.ids ⟨v, sh, 0⟩) : Holds (s.put d v sh) (a.put d v) w := by
  cases d with
  | none => exact H
  | some d =>
    refine ⟨⟨?_, H.fr.df, ?_, ?_⟩, H.bl, H.nd, ?_, H.cb, H.up, H.cl, H.nb⟩
    · simp only [Act.put, St.put, H.fr.tm, List.setIfInBounds_toArray, List.map_set]
    · intro e he
      simp only [St.put] at he
      rcases List.mem_or_eq_of_mem_set he with he | rfl
      · exact H.fr.sh e he
      · exact hs
    · exact H.fr.sc
    · intro e he
      simp only [St.put] at he
      rcases List.mem_or_eq_of_mem_set he with he | rfl
      · exact H.tk e he
      · exact Nat.le_refl _
theorem Old.set (c : Nat) (l : List Ent) (d : Nat) (e : Ent) (h : c ≤ e.st) : Old c l (l.set d e) := by
  intro j e' he hs
  simp only [List.getElem?_set] at he
  split at he
  · split at he
    · cases he; exact absurd hs (by omega)
    · cases he
  · exact ⟨e', he, rfl, rfl⟩
theorem Agree.put (s : St) (d : Option Nat) (v : Value) (sh : Sh) : Agree s (s.put d v sh) := by
  cases d with
  | none => exact Agree.refl s
  | some d => exact ⟨Nat.le_refl _, by simp [St.put], Old.set _ _ _ _ (Nat.le_refl _), (Agree.refl s).bl⟩
theorem Upd.push {w w' : World} {S : Nat → Prop} (h : Upd w w' S) (o : Obj) : Upd w { w' with heap := w'.heap.push o } S :=
  ⟨h.os, h.tape, h.output, Nat.le_trans h.size (by simp), fun k hk hs => by
    have := h.keep k hk hs
    have hk' := Nat.lt_of_lt_of_le hk h.size
    show (w'.heap.push o)[k]? = _
    rw [Array.getElem?_push, if_neg (by omega)]; exact this⟩
theorem ShOk.more {ids : List Nat} {e : Ent} (h : ShOk ids e) (l : List Nat) : ShOk (ids ++ l) e := by
  unfold ShOk at h ⊢
  split <;> simp_all only
  · obtain ⟨i, hi, hv⟩ := h
    exact ⟨i, by rw [List.getElem?_append_left (List.getElem?_eq_some_iff.1 hi).1]; exact hi, hv⟩
  · obtain ⟨i, hi, hv⟩ := h
    exact ⟨i, by rw [List.getElem?_append_left (List.getElem?_eq_some_iff.1 hi).1]; exact hi, hv⟩
theorem idsOf_append (bl : List Blk) (b : Blk) (D : List Nat) (i : Nat) (h : i ∈ idsOf bl D) : i ∈ idsOf (bl ++ [b]) D := by
  obtain ⟨k, hk, he⟩ := List.mem_filterMap.1 h
  refine List.mem_filterMap.2 ⟨k, hk, ?_⟩
  obtain ⟨c, hc, rfl⟩ := Option.map_eq_some_iff.1 he
  rw [List.getElem?_append_left (List.getElem?_eq_some_iff.1 hc).1, hc]; rfl
theorem setOf_iff (l : List Nat) (b : Nat) : setOf l b ↔ b ∈ l := by
  induction l with
  | nil => simp [setOf, no]
  | cons i r ih => simp [setOf, ih]
theorem Holds.addB {s : St} {a : Act} {w : World} (H : Holds s a w) (ty : Nat) (rw : Bool) (cs : List Ent) (hc : ∀ e ∈ cs, e.st ≤ s.ck ∧ ShOk s.ids e) :
    Holds (s.addB ⟨w.heap.size, ty, rw, cs⟩) a { w with heap := w.heap.push (.cells (cs.map Ent.v).toArray ty (0, 0)) } := by
  have hids : (s.addB ⟨w.heap.size, ty, rw, cs⟩).ids = s.ids ++ [w.heap.size] := by simp [St.addB, St.ids]
  have hlt : ∀ b ∈ s.bl, b.id < w.heap.size := fun b hb => lt_of_at (H.bl b hb)
  refine ⟨⟨H.fr.tm, H.fr.df, fun e he => ?_, fun b hb e he => ?_⟩, fun b hb => ?_, ?_, H.tk, fun b hb e he => ?_, ?_, fun h => absurd h Bool.false_ne_true, fun b hb => ?_⟩
  · rw [hids]; exact (H.fr.sh e he).more _
  · rw [hids]
    rcases List.mem_append.1 hb with hb | hb
    · exact (H.fr.sc b hb e he).more _
    · cases List.mem_singleton.1 hb; exact (hc e he).2.more _
  · rcases List.mem_append.1 hb with hb | hb
    · have := H.bl b hb
      unfold Blk.at at this ⊢
      show (w.heap.push _)[b.id]? = _
      rw [Array.getElem?_push, if_neg (by have := hlt b hb; omega)]; exact this
    · cases List.mem_singleton.1 hb
      unfold Blk.at
      show (w.heap.push _)[w.heap.size]? = _
      rw [Array.getElem?_push, if_pos rfl]
  · rw [hids]
    refine List.nodup_append.2 ⟨H.nd, by simp, fun i hi j hj => ?_⟩
    cases List.mem_singleton.1 hj
    obtain ⟨b, hb, rfl⟩ := List.mem_map.1 hi
    exact Nat.ne_of_lt (hlt b hb)
  · rcases List.mem_append.1 hb with hb | hb
    · exact H.cb b hb e he
    · cases List.mem_singleton.1 hb; exact (hc e he).1
  · refine (H.up.push _).mono fun k hk => ?_
    rw [setOf_iff] at hk ⊢
    exact idsOf_append _ _ _ _ hk
  · simp only [St.addB] at hb
    rw [List.drop_append] at hb
    rcases List.mem_append.1 hb with hb | hb
    · exact H.nb b hb
    · cases List.mem_singleton.1 (List.mem_of_mem_drop hb); exact H.up.size
theorem Agree.addB (s : St) (b : Blk) : Agree s (s.addB b) := by
  refine ⟨Nat.le_refl _, rfl, Old.refl _ _, fun k c hk => ?_⟩
  refine ⟨c, ?_, rfl, rfl, rfl, rfl, Old.refl _ _⟩
  show (s.bl ++ [b])[k]? = some c
  rw [List.getElem?_append_left (List.getElem?_eq_some_iff.1 hk).1]; exact hk
theorem CK.ex_use {c : CK} {f : Value → Prop} (h : c.ex f) : ∃ v, f v := by
  cases c <;> simp only [CK.ex] at h
  case slc => obtain ⟨a, n, c, h⟩ := h; exact ⟨_, h⟩
  all_goals (obtain ⟨x, h⟩ := h; exact ⟨_, h⟩)
theorem exL_use : ∀ {cs : List CK} {f : List Value → Prop}, exL cs f → ∃ vs, f vs
  | [], f, h => ⟨[], h⟩
  | c :: cs, f, h => by
    obtain ⟨v, h⟩ := CK.ex_use h
    obtain ⟨vs, h⟩ := exL_use h
    exact ⟨_, h⟩
theorem exT_go_use {T : Nat → Option TyI} : ∀ (ts : List Nat) (acc : List Value) (f : Value → Prop), exT.go T ts acc f → ∃ v, f v
  | [], acc, f, h => ⟨_, h⟩
  | t :: ts, acc, f, h => by
    simp only [exT.go] at h
    split at h
    · obtain ⟨v, h⟩ := h; exact exT_go_use _ _ _ h
    · split at h
      · obtain ⟨vs, h⟩ := exL_use h; exact exT_go_use _ _ _ h
      · split at h
        · obtain ⟨v, h⟩ := CK.ex_use h; exact exT_go_use _ _ _ h
        · obtain ⟨v, h⟩ := h; exact exT_go_use _ _ _ h
theorem exT_use {T : Nat → Option TyI} {U : Nat → List Nat} {t : Nat} {f : Value → Prop} (h : exT T U t f) : ∃ v, f v := by
  unfold exT at h
  split at h
  · split at h
    · exact h
    · split at h
      · obtain ⟨vs, h⟩ := exL_use h; exact ⟨_, h⟩
      · split at h
        · exact CK.ex_use h
        · exact h
  · exact exT_go_use _ _ _ h
theorem allL_use : ∀ (cs : List CK) (I : Inv cs) (vs : List Value) (w : World) (f : List Value → Prop), Inv.at cs I vs w → vs.length = cs.length → allL cs f → f vs := by
  intro cs
  induction cs with
  | nil =>
    intro I vs w f _ hl h
    have : vs = [] := List.length_eq_zero_iff.1 hl
    subst this; exact h
  | cons c cs ih =>
    intro I vs w f hI hl h
    cases vs with
    | nil => simp at hl
    | cons v vs =>
      have hl' : vs.length = cs.length := by simpa using hl
      cases c with
      | int k =>
        cases v <;> simp only [Inv.at] at hI <;> first | exact hI.elim | skip
        split at hI
        · rename_i hk
          subst hk
          exact ih _ vs w (fun vs => f (_ :: vs)) hI hl' (h _)
        · exact hI.elim
      | bool => cases v <;> simp only [Inv.at] at hI <;> first | exact hI.elim | exact ih _ vs w (fun vs => f (_ :: vs)) hI hl' (h _)
      | str => cases v <;> simp only [Inv.at] at hI <;> first | exact hI.elim | exact ih _ vs w (fun vs => f (_ :: vs)) hI hl' (h _)
      | slc => cases v <;> simp only [Inv.at] at hI <;> first | exact hI.elim | exact ih _ vs w (fun vs => f (_ :: vs)) hI hl' (h _ _ _)
      | ptr => cases v <;> simp only [Inv.at] at hI <;> first | exact hI.elim | exact ih _ vs w (fun vs => f (_ :: vs)) hI hl' (h _)
      | map => cases v <;> simp only [Inv.at] at hI <;> first | exact hI.elim | exact ih _ vs w (fun vs => f (_ :: vs)) hI hl' (h _)
      | any => exact ih _ vs w (fun vs => f (_ :: vs)) hI hl' (h _)
end
section
open Go
def enterB (fn : Func) : Bool := fn.body.isSome && !(fn.name == "runtime.NumGoroutine")
structure Env.Ok (E : Env) : Prop where
  T : TOk E.P E.T
  F : ∀ f, E.F f = true → ∃ fn, E.P.funcs[f]? = some fn ∧ enterB fn = true
  mx : E.P.follows .mixedOrders = true
def Into (K : St → Prop) (s : St) (K' : Act → World → Prop) : Prop := ∀ s' a' w', Holds s' a' w' → Agree s s' → K s' → K' a' w'
def IntoW (st : Bool) (w : World) (K : St → Prop) (s : St) (K' : Act → World → Prop) : Prop := ∀ s' a' w', Holds s' a' w' → Agree s s' → (st = true → Ext w w') → K s' → K' a' w'
theorem Into.w {K : St → Prop} {s : St} {K' : Act → World → Prop} (h : Into K s K') (st : Bool) (w : World) : IntoW st w K s K' := fun s' a' w' H A _ q => h s' a' w' H A q
theorem IntoW.no {w : World} {K : St → Prop} {s : St} {K' : Act → World → Prop} (h : IntoW false w K s K') : Into K s K' := fun s' a' w' H A q => h s' a' w' H A (fun h => absurd h Bool.false_ne_true) q
theorem Into.after {K : St → Prop} {s s1 : St} {K' : Act → World → Prop} (h : Into K s K') (k : Agree s s1) : Into K s1 K' :=
  fun s' a' w' H A q => h s' a' w' H (k.trans A) q
structure HoldsBut (tch : List Nat) (s : St) (a : Act) (w : World) : Prop where
  fr : Fr s a
  bl : ∀ k b, s.bl[k]? = some b → k ∉ tch → b.at w
  nd : s.ids.Nodup
  tk : ∀ e ∈ s.tm, e.st ≤ s.ck
  cb : ∀ b ∈ s.bl, ∀ e ∈ b.cs, e.st ≤ s.ck
  w : w = s.w
  nb : s.bl.drop s.n0 = []
theorem awayL_use {S : Nat → Prop} : ∀ {l : List Nat}, awayL l S → ∀ i ∈ l, ¬ S i
  | [], _, i, h => nomatch h
  | j :: r, h, i, hi => by
    rcases List.mem_cons.1 hi with rfl | hi
    · exact h.1
    · exact awayL_use h.2 i hi
theorem awayL_no : ∀ (l : List Nat), awayL l no
  | [] => trivial
  | _ :: r => ⟨fun h => h, awayL_no r⟩
theorem Away.no (l : List Nat) : Away l no := ⟨awayL_no l⟩
theorem Away.nil (S : Nat → Prop) : Away [] S := ⟨trivial⟩
theorem Away.cons {i : Nat} {l : List Nat} {S : Nat → Prop} (h : ¬ S i) (k : Away l S) : Away (i :: l) S := ⟨h, k.out⟩
theorem others_go (tch : List Nat) : ∀ (bl : List Blk) (j k : Nat) (b : Blk), bl[k]? = some b → (j + k) ∉ tch → b.id ∈ othersOf.go tch j bl := by
  intro bl
  induction bl with
  | nil => intro j k b h; simp at h
  | cons c bl ih =>
    intro j k b h hn
    cases k with
    | zero =>
      simp only [List.getElem?_cons_zero, Option.some.injEq] at h
      subst h
      simp only [othersOf.go]
      rw [if_neg (by simpa using hn)]
      exact List.mem_cons_self
    | succ k =>
      simp only [List.getElem?_cons_succ] at h
      have := ih (j + 1) k b h (by rwa [Nat.add_assoc, Nat.add_comm 1 k])
      simp only [othersOf.go]
      split
      · exact this
      · exact List.mem_cons_of_mem _ this
theorem others_mem {bl : List Blk} {tch : List Nat} {k : Nat} {b : Blk} (h : bl[k]? = some b) (hn : k ∉ tch) : b.id ∈ othersOf bl tch :=
  others_go tch bl 0 k b h (by simpa using hn)
theorem Upd.at {w w' : World} {S : Nat → Prop} (h : Upd w w' S) {b : Blk} (hb : b.at w) (hn : ¬ S b.id) : b.at w' :=
  (h.keep b.id (lt_of_at hb) hn).trans hb
theorem ents_of {ck : Nat} {vs : List Value} {ids : List Nat} : ∀ e ∈ entsOf ck vs, e.st ≤ ck ∧ ShOk ids e := by
  intro e he
  obtain ⟨v, _, rfl⟩ := List.mem_map.1 he
  exact ⟨Nat.le_refl _, trivial⟩
theorem ents_v (ck : Nat) (vs : List Value) : (entsOf ck vs).map Ent.v = vs := by
  simp [entsOf, Function.comp_def]
theorem set_ids {bl : List Blk} {k : Nat} {b b' : Blk} (h : bl[k]? = some b) (hid : b'.id = b.id) : (bl.set k b').map Blk.id = bl.map Blk.id := by
  rw [List.map_set, hid]
  apply List.ext_getElem?
  intro i
  rw [List.getElem?_set]
  split
  · rename_i he
    subst he
    simp [h]
    exact (List.getElem?_eq_some_iff.1 h).1
  · rfl
theorem touch_use {T : Nat → Option TyI} {K : St → Prop} {a : Act} {w : World} : ∀ (tch : List Nat) (s : St), touch T w tch s K → HoldsBut tch s a w → ∃ s', Holds s' a w ∧ Agree s s' ∧ K s' := by
  intro tch
  induction tch with
  | nil =>
    intro s h H
    refine ⟨s, ⟨H.fr, fun b hb => ?_, H.nd, H.tk, H.cb, by rw [H.w]; exact Upd.refl _ _, fun _ => H.w, fun b hb => by rw [H.nb] at hb; cases hb⟩, Agree.refl s, h⟩
    obtain ⟨k, hk⟩ := List.getElem?_of_mem hb
    exact H.bl k b hk (by simp)
  | cons k r ih =>
    intro s h H
    simp only [touch] at h
    split at h
    · exact h.elim
    · rename_i b hb
      obtain ⟨vs, hat, hlen, h⟩ := exL_use h
      have hkl := (List.getElem?_eq_some_iff.1 hb).1
      have hids : (s.setBlk k b vs).ids = s.ids := set_ids hb rfl
      have H' : HoldsBut r (s.setBlk k b vs) a w := by
        refine ⟨⟨H.fr.tm, H.fr.df, by rw [hids]; exact H.fr.sh, fun c hc e he => ?_⟩, fun j c hj hn => ?_, by rw [hids]; exact H.nd, H.tk, fun c hc e he => ?_, H.w, ?_⟩
        · rw [hids]
          rcases List.mem_or_eq_of_mem_set hc with hc | rfl
          · exact H.fr.sc c hc e he
          · exact (ents_of e he).2
        · simp only [St.setBlk] at hj
          rw [List.getElem?_set] at hj
          split at hj
          · first
              | (cases hj; exact hat)
              | (split at hj
                 · cases hj; exact hat
                 · cases hj)
          · rename_i hne
            exact H.bl j c hj (fun hm => by
              rcases List.mem_cons.1 hm with hm | hm
              · exact hne hm.symm
              · exact hn hm)
        · rcases List.mem_or_eq_of_mem_set hc with hc | rfl
          · exact H.cb c hc e he
          · exact (ents_of (ids := []) e he).1
        · have := H.nb
          rw [List.drop_eq_nil_iff] at this ⊢
          simpa [St.setBlk] using this
      obtain ⟨s', h1, h2, h3⟩ := ih _ h H'
      have hA : Agree s (s.setBlk k b vs) := by
        refine ⟨Nat.le_refl _, rfl, Old.refl _ _, fun j c hj => ?_⟩
        by_cases hkj : k = j
        · subst hkj
          rw [hb] at hj; cases hj
          refine ⟨{ b with cs := entsOf s.ck vs }, by simp only [St.setBlk, List.getElem?_set_self hkl], rfl, rfl, rfl, by simp [entsOf, hlen], fun i e he hs => ?_⟩
          have h5 : e.st = s.ck := by
            obtain ⟨v, _, rfl⟩ := List.mem_map.1 (List.mem_of_getElem? he); rfl
          omega
        · exact ⟨c, by simp only [St.setBlk, List.getElem?_set_ne hkj]; exact hj, rfl, rfl, rfl, rfl, Old.refl _ _⟩
      exact ⟨s', h1, hA.trans h2, h3⟩
theorem Holds.moved {s : St} {a : Act} {w w2 : World} (H : Holds s a w) {S : Nat → Prop} {tch : List Nat} (hU : Upd w w2 S) (hA : Away (othersOf s.bl tch) S) : HoldsBut tch ((s.show w).goTo w2) a w2 :=
  ⟨⟨H.fr.tm, H.fr.df, H.fr.sh, H.fr.sc⟩, fun _ b hk hn => hU.at (H.bl.get hk) (awayL_use hA.out _ (others_mem hk hn)), H.nd, H.tk, H.cb, rfl, by simp [St.show, St.goTo]⟩
theorem HoldsBut.nil {s : St} {a : Act} {w : World} (H : HoldsBut [] s a w) : Holds s a w := by
  obtain ⟨s', h, _, rfl⟩ := touch_use (T := fun _ => none) (K := fun s' => s' = s) [] s rfl H
  exact h
theorem Agree.moved (s : St) (w w2 : World) : Agree s ((s.show w).goTo w2) := ⟨Nat.le_refl _, rfl, Old.refl _ _, (Agree.refl s).bl⟩
section
variable {E : Env} {s : St} {a : Act} {w : World} {dst : Option Nat} {ty : Nat} {K : St → Prop} {K' : Act → World → Prop} {X : ContX} {Q : Exit → Act → World → Prop}
theorem callVC_sound (H : Holds s a w) {f : Nat} {args : List Value} {tch : List Nat} (h : callVC E s dst ty f args tch K X) (hK : Into K s K')
    (hX : ∀ ch w', X ch w' → Q (.panic ch) a w') : Calls E.P f args.toArray w fun
      | .returned v, w'' => K' (a.put dst v) w''
      | .panicked chain, w'' => Q (.panic chain) a w''
      | .outgrown, _ => LetsOut Q := by
  obtain ⟨R, X', hc, hr, hx⟩ := H.flush h
  refine hc.out.mono fun e w2 he => ?_
  cases e with
  | returned v =>
    obtain ⟨u, rfl, S, hU, hA, ht⟩ := exT_use (hr v w2 he)
    obtain ⟨s', h1, h2, h3⟩ := touch_use tch _ ht (H.moved hU hA)
    exact hK _ _ _ (h1.put (sh := .no) dst v trivial) ((Agree.moved s w w2).trans (h2.trans (Agree.put _ _ _ _))) h3
  | panicked ch => exact hX _ _ (hx ch w2 he)
  | outgrown => exact he.elim
theorem callXVC_sound (H : Holds s a w) {f : Nat} {args : List Value} {tch : List Nat} (h : callXVC E s dst ty f args tch K X) (hK : IntoW true w K s K')
    (hX : ∀ ch w', X ch w' → Q (.panic ch) a w') : Calls E.P f args.toArray w fun
      | .returned v, w'' => K' (a.put dst v) w''
      | .panicked chain, w'' => Q (.panic chain) a w''
      | .outgrown, _ => LetsOut Q := by
  obtain ⟨R, X', hc, hr, hx⟩ := H.flush h
  refine hc.out.mono fun e w2 he => ?_
  cases e with
  | returned v =>
    obtain ⟨u, rfl, hU, ht⟩ := exT_use (hr v w2 he)
    obtain ⟨s', h1, h2, h3⟩ := touch_use tch _ ht (H.moved hU (Away.no _))
    exact hK _ _ _ (h1.put (sh := .no) dst v trivial) ((Agree.moved s w w2).trans (h2.trans (Agree.put _ _ _ _))) (fun _ => hU) h3
  | panicked ch => exact hX _ _ (hx ch w2 he)
  | outgrown => exact he.elim
theorem readVC_sound (H : Holds s a w) {sm : Sem Value} (h : readVC E s dst ty sm K) : ∃ u s', sm.run E.P w = .ok u w ∧ Holds s' (a.put dst u) w ∧ Agree s s' ∧ K s' := by
  obtain ⟨u, hu, hk⟩ := exT_use (H.flush h)
  exact ⟨u, _, hu, H.shown.put (sh := .no) dst u trivial, (Agree.shown s w).trans (Agree.put _ _ _ _), hk⟩
theorem assertVC_sound (H : Holds s a w) {u : Nat} {ok : Bool} {sm : Sem Value} (h : assertVC E s dst u ok ty sm K) : ∃ u s', sm.run E.P w = .ok u w ∧ Holds s' (a.put dst u) w ∧ Agree s s' ∧ K s' := by
  unfold assertVC at h
  split at h
  · obtain ⟨is, h⟩ := H.flush h
    obtain ⟨u, hu, hk⟩ := exT_use h
    exact ⟨_, _, hu, H.shown.put (sh := .no) dst _ trivial, (Agree.shown s w).trans (Agree.put _ _ _ _), hk⟩
  · exact readVC_sound H h
theorem CellsIn.run {P : Program} {w : World} {p : Addr} {cs : List Value} (h : CellsIn w p cs) : ∀ (n i : Nat) (acc : List Value), i + n = cs.length →
    (loadCellsFrom p i n acc.toArray).run P w = .ok (acc ++ cs.drop i).toArray w := by
  intro n
  induction n with
  | zero => intro i acc hl; simp [loadCellsFrom, List.drop_eq_nil_of_le (show cs.length ≤ i by omega)]
  | succ n ih =>
    intro i acc hl
    have hlt : i < cs.length := by omega
    have he := h.out i cs[i] (List.getElem?_eq_getElem hlt)
    unfold loadCellsFrom
    rw [Sem.run_bind, run_load, he]
    simp only [Result.andThen_ok, List.push_toArray]
    rw [ih (i + 1) _ (by omega)]
    rw [List.drop_eq_getElem_cons hlt, List.append_assoc]; rfl
theorem CellsIn.ext {w w' : World} {p : Addr} {cs : List Value} (h : CellsIn w p cs) {S : Nat → Prop} (k : Upd w w' S) (hn : ¬ S p.block) : CellsIn w' p cs := by
  refine ⟨fun j c hj => ?_⟩
  have h1 := h.out j c hj
  have hb : (p.add j).block = p.block := by unfold Addr.add; split <;> rfl
  have hlt := World.block_lt_of_cell? w _ h1
  rw [← h1]
  exact World.cell?_of_block (w := w) (k.keep _ hlt (by rw [hb]; exact hn))
theorem loadAt_cells (hE : E.Ok) {t : Nat} {i : TyI} (hi : E.T t = some i) {p : Addr} {u : Value}
    (h : (i.agg = true ∧ ∃ cs, u = .agg cs ∧ cs.toList.length = i.zero.length ∧ CellsIn w p cs.toList) ∨ (i.agg = false ∧ CellsIn w p [u])) : (Instr.loadAt t (.pointer (some p))).run E.P w = .ok u w := by
  have ha := run_isAgg (hE.T t i hi) w
  have hs := run_sizeOf (hE.T t i hi) w
  rcases h with ⟨hagg, cs, rfl, hl, hc⟩ | ⟨hagg, hc⟩
  · have h1 := hc.run (P := E.P) cs.toList.length 0 [] (by omega)
    simp only [Instr.loadAt, Instr.sureAddr, Sem.run_bind, Sem.run_pure, Result.andThen_ok, loadVar, ha, hagg, if_true, hs, loadCells, ← hl]
    have h2 : (loadCellsFrom p 0 cs.toList.length #[]).run E.P w = _ := h1
    rw [h2]; simp
  · have h1 := hc.out 0 u rfl
    have h0 : p.add 0 = p := rfl
    rw [h0] at h1
    simp only [Instr.loadAt, Instr.sureAddr, Sem.run_bind, Sem.run_pure, Result.andThen_ok, loadVar, ha, hagg, Bool.false_eq_true, if_false, run_load, h1]
theorem loadVC_look (hE : E.Ok) (H : Holds s a w) {t : Nat} {p : Addr} {i : TyI} (hi : E.T t = some i) (h : loadVC E s dst t (.pointer (some p)) K) :
    ∃ u s', (∀ w', Ext w w' → (Instr.loadAt t (.pointer (some p))).run E.P w' = .ok u w') ∧ Holds s' (a.put dst u) w ∧ Agree s s' ∧ s'.bl = s.bl ∧ K s' := by
  simp only [loadVC, hi] at h
  obtain ⟨u, hu⟩ := exT_use (H.flush h)
  split at hu
  · rename_i cs hagg
    split at hu
    · rename_i hl
      exact ⟨_, _, fun w' hx => loadAt_cells hE hi (.inl ⟨hagg, cs, rfl, hl, hu.1.ext hx fun h => h⟩), H.shown.put (sh := .no) dst _ trivial, (Agree.shown s w).trans (Agree.put _ _ _ _), put_bl _ _ _ _, hu.2⟩
    · exact hu.elim
  · rename_i v hagg
    exact ⟨_, _, fun w' hx => loadAt_cells hE hi (.inr ⟨hagg, hu.1.ext hx fun h => h⟩), H.shown.put (sh := .no) dst _ trivial, (Agree.shown s w).trans (Agree.put _ _ _ _), put_bl _ _ _ _, hu.2⟩
  · exact hu.elim
theorem loadVC_sound (hE : E.Ok) (H : Holds s a w) {t : Nat} {x : Value} (h : loadVC E s dst t x K) : ∃ u s', (Instr.loadAt t x).run E.P w = .ok u w ∧ Holds s' (a.put dst u) w ∧ Agree s s' ∧ K s' := by
  unfold loadVC at h
  split at h
  · rename_i i p hi
    obtain ⟨u, s', h1, h2, h3, _, h4⟩ := loadVC_look hE H hi (K := K) (dst := dst) (by unfold loadVC; rw [hi]; exact h)
    exact ⟨u, s', h1 w (Upd.refl _ _), h2, h3, h4⟩
  · exact readVC_sound H h
theorem genVC_sound (H : Holds s a w) {sm : Sem Value} (h : genVC E s dst ty sm K) (hK : Into K s K') : ∃ u w2, sm.run E.P w = .ok u w2 ∧ K' (a.put dst u) w2 := by
  obtain ⟨R, ⟨v, w2, hv, hR⟩, hr⟩ := H.flush h
  obtain ⟨u, rfl, S, hU, hA, hk⟩ := exT_use (hr v w2 hR)
  exact ⟨v, w2, hv, hK _ _ _ ((H.moved hU hA).nil.put (sh := .no) dst v trivial) ((Agree.moved s w w2).trans (Agree.put _ _ _ _)) hk⟩
theorem nextVC_sound (H : Holds s a w) {sm : Sem Value} (h : nextVC E s dst sm K) (hK : Into K s K') : ∃ u w2, sm.run E.P w = .ok u w2 ∧ K' (a.put dst u) w2 := by
  obtain ⟨R, ⟨v, w2, hv, hR⟩, hr⟩ := H.flush h
  obtain ⟨S, hU, hA, ⟨rfl, hk⟩ | ⟨i, r, rfl, hk⟩⟩ := hr v w2 hR
  · exact ⟨_, w2, hv, hK _ _ _ ((H.moved hU hA).nil.put (sh := .no) dst _ trivial) ((Agree.moved s w w2).trans (Agree.put _ _ _ _)) hk⟩
  · exact ⟨_, w2, hv, hK _ _ _ ((H.moved hU hA).nil.put (sh := .no) dst _ trivial) ((Agree.moved s w w2).trans (Agree.put _ _ _ _)) hk⟩
theorem entVC_sound (H : Holds s a w) {sm : Sem Value} (h : entVC E s dst sm K) (hK : Into K s K') : ∃ u w2, sm.run E.P w = .ok u w2 ∧ K' (a.put dst u) w2 := by
  obtain ⟨R, ⟨v, w2, hv, hR⟩, hr⟩ := H.flush h
  obtain ⟨u, k, rfl, S, hU, hA, hk⟩ := hr v w2 hR
  exact ⟨_, w2, hv, hK _ _ _ ((H.moved hU hA).nil.put (sh := .no) dst _ trivial) ((Agree.moved s w w2).trans (Agree.put _ _ _ _)) hk⟩
theorem unitVC_sound (H : Holds s a w) {sm : Sem Unit} (h : unitVC E s dst sm K) (hK : Into K s K') : ∃ w2, sm.run E.P w = .ok () w2 ∧ K' (a.put dst undef) w2 := by
  obtain ⟨R, ⟨w2, hv, hR⟩, hr⟩ := H.flush h
  obtain ⟨S, hU, hA, hk⟩ := hr w2 hR
  exact ⟨w2, hv, hK _ _ _ ((H.moved hU hA).nil.put (sh := .no) dst undef trivial) ((Agree.moved s w w2).trans (Agree.put _ _ _ _)) hk⟩
theorem newVC_sound (H : Holds s a w) {rw : Bool} {cs : List Ent} {v : Nat → Value} {sh : Sh} (h : newVC s dst ty rw cs v sh K) (hc : ∀ e ∈ cs, e.st ≤ s.ck ∧ ShOk s.ids e)
    (hs : ShOk (s.ids ++ [w.heap.size]) ⟨v w.heap.size, sh, 0⟩) :
    ∃ s', Holds s' (a.put dst (v w.heap.size)) { w with heap := w.heap.push (.cells (cs.map Ent.v).toArray ty (0, 0)) } ∧ Agree s s' ∧ K s' := by
  have h1 := h w.heap.size H.up.size
  have H1 := H.addB ty rw cs hc
  have hids : (s.addB ⟨w.heap.size, ty, rw, cs⟩).ids = s.ids ++ [w.heap.size] := by simp [St.addB, St.ids]
  exact ⟨_, H1.put dst _ (by rw [hids]; exact hs), (Agree.addB s _).trans (Agree.put _ _ _ _), h1⟩
end
end
section
open Go
section
variable {E : Env} {s : St} {a : Act} {w : World} {K : St → Prop} {K' : Act → World → Prop} {X : ContX} {Q : Exit → Act → World → Prop}
theorem upon_val {P : Program} {o : Oper} {v : Value} {w2 : World} (h : (execOp a.eval o).run P w = .ok (.value v) w2) (hk : K' (a.put o.dst v) w2) : o.wp P a w K' Q := by
  unfold Oper.wp; rw [h]; exact hk
theorem upon_skip {P : Program} {o : Oper} {w2 : World} (h : (execOp a.eval o).run P w = .ok .skip w2) (hk : K' (a.put o.dst undef) w2) : o.wp P a w K' Q := by
  unfold Oper.wp; rw [h]; exact hk
theorem run_vv {P : Program} {w2 : World} {sm : Sem Value} {v : Value} (h : sm.run P w = .ok v w2) : (do pure (Next.value (← sm)) : Sem Next).run P w = .ok (.value v) w2 := by
  rw [Sem.run_bind, h]; rfl
theorem run_uu {P : Program} {w2 : World} {sm : Sem Unit} (h : sm.run P w = .ok () w2) : (do sm; pure Next.skip : Sem Next).run P w = .ok .skip w2 := by
  rw [Sem.run_bind, h]; rfl
theorem cells_zero {P : Program} {t : Nat} {i : TyI} (h : i.ok P t) : ((if i.agg then .agg i.zero.toArray else i.zero.getD 0 undef : Value)).cells = i.zero.toArray := by
  obtain ⟨x, d, hx, hd, hs, hz, hm, ho, hl⟩ := h
  cases ha : i.agg with
  | true => rfl
  | false =>
    have h1 := hl ha
    match hzz : i.zero, h1 with
    | [v], _ =>
      rw [hzz] at ho
      simp only [List.all_cons, List.all_nil, Bool.and_true] at ho
      simp only [Bool.false_eq_true, if_false, List.getD_cons_zero]
      cases v <;> first | rfl | cases ho
theorem alloc_run {P : Program} {t : Nat} {i : TyI} (h : i.ok P t) (v : Value) : (Instr.alloc t true v).run P w = .ok (.pointer (some ⟨w.heap.size, 0, none⟩)) { w with heap := w.heap.push (.cells i.zero.toArray t (0, 0)) } := by
  have hz := run_zero h w
  have hc := cells_zero h
  simp only [Instr.alloc, Sem.run_bind, hz, Result.andThen_ok, newVar, newRow, run_newObj, Sem.run_pure, hc]
theorem box_run {P : Program} {t : Nat} (v : Value) : (Instr.box t v).run P w = .ok (.pointer (some ⟨w.heap.size, 0, none⟩)) { w with heap := w.heap.push (.cells v.cells t (0, 0)) } := by
  simp only [Instr.box, Sem.run_bind, newVar, newRow, run_newObj, Sem.run_pure, Result.andThen_ok]
theorem storeCells_run {P : Program} {b : Blk} : ∀ (vs : List Value) (w : World) (cs : List Value) (i off : Nat), w.heap[b.id]? = some (.cells cs.toArray b.ty (0, 0)) → off + i + vs.length ≤ cs.length → vs.all Value.oneCell' = true →
    ∃ w2, (storeCells ⟨b.id, off, none⟩ vs i).run P w = .ok () w2 ∧ w2.heap[b.id]? = some (.cells (setAt cs (off + i) vs).toArray b.ty (0, 0)) ∧
      w2.os = w.os ∧ w2.tape = w.tape ∧ w2.output = w.output ∧ w2.heap.size = w.heap.size ∧ ∀ k, k ≠ b.id → w2.heap[k]? = w.heap[k]? := by
  intro vs
  induction vs with
  | nil => intro w cs i off h _ _; exact ⟨w, rfl, h, rfl, rfl, rfl, rfl, fun _ _ => rfl⟩
  | cons v vs ih =>
    intro w cs i off h hl ho
    simp only [List.all_cons, Bool.and_eq_true] at ho
    simp only [List.length_cons] at hl
    have hcell : w.cell? ⟨b.id, off + i, none⟩ = some cs[off + i] := by
      rw [cell_of_row w b.id (off + i) _ b.ty (0, 0) h]; simp
    have hfr : w.frozen? ⟨b.id, off + i, none⟩ = false := by simp [World.frozen?, h]
    have hh : (w.setCell ⟨b.id, off + i, none⟩ v).heap[b.id]? = some (.cells (cs.set (off + i) v).toArray b.ty (0, 0)) := by
      simp [World.setCell, Array.getElem?_modify, h]
    obtain ⟨w2, h1, h2, h3, h4, h5, h6, h7⟩ := ih (w.setCell ⟨b.id, off + i, none⟩ v) (cs.set (off + i) v) (i + 1) off hh (by simp; omega) ho.2
    refine ⟨w2, ?_, ?_, h3, h4, h5, by rw [h6]; simp [World.setCell], fun k hk => ?_⟩
    · simp only [storeCells, Sem.run_bind]
      rw [add_plain, run_store _ _ _ _ _ ho.1]
      simp only [hcell, hfr]
      exact h1
    · simp only [setAt]
      rw [← Nat.add_assoc] at h2; exact h2
    · rw [h7 k hk]
      simp [World.setCell, Array.getElem?_modify, Ne.symm hk]
theorem setAt_mem {es : List Ent} : ∀ {cs : List Ent} {o : Nat} {e : Ent}, e ∈ setAt cs o es → e ∈ cs ∨ e ∈ es := by
  induction es with
  | nil => intro cs o e h; exact .inl h
  | cons x es ih =>
    intro cs o e h
    rcases ih h with h | h
    · rcases List.mem_or_eq_of_mem_set h with h | rfl
      · exact .inl h
      · exact .inr List.mem_cons_self
    · exact .inr (List.mem_cons_of_mem _ h)
theorem setAt_map {α β : Type} (f : α → β) : ∀ (es : List α) (cs : List α) (o : Nat), (setAt cs o es).map f = setAt (cs.map f) o (es.map f) := by
  intro es
  induction es with
  | nil => intro cs o; rfl
  | cons x es ih => intro cs o; simp only [setAt, List.map_cons, ih, List.map_set]
theorem Old.setAt {c : Nat} : ∀ (es : List Ent) (cs : List Ent) (o : Nat), (∀ e ∈ es, c ≤ e.st) → Old c cs (setAt cs o es) := by
  intro es
  induction es with
  | nil => intro cs o _; exact Old.refl _ _
  | cons x es ih =>
    intro cs o h
    exact (Old.set c cs o x (h x List.mem_cons_self)).trans (Nat.le_refl _) (ih _ _ fun e he => h e (List.mem_cons_of_mem _ he))
theorem addNew_mem {l : List Nat} {k i : Nat} (h : i = k ∨ i ∈ l) : i ∈ addNew l k := by
  unfold addNew
  split
  · rename_i hc
    rcases h with rfl | h
    · simpa using hc
    · exact h
  · rcases h with rfl | h
    · exact List.mem_cons_self
    · exact List.mem_cons_of_mem _ h
theorem Holds.stored (H : Holds s a w) {k : Nat} {b : Blk} (hb : s.bl[k]? = some b) {off : Nat} {es : List Ent} (hc : ∀ e ∈ es, e.st = s.ck ∧ ShOk s.ids e) {w2 : World}
    (h2 : w2.heap[b.id]? = some (.cells (setAt (b.cs.map Ent.v) off (es.map Ent.v)).toArray b.ty (0, 0))) (h3 : w2.os = w.os) (h4 : w2.tape = w.tape) (h5 : w2.output = w.output)
    (h6 : w2.heap.size = w.heap.size) (h7 : ∀ i, i ≠ b.id → w2.heap[i]? = w.heap[i]?) : Holds (storeIn s k b off es) a w2 ∧ Agree s (storeIn s k b off es) := by
  have hkl := (List.getElem?_eq_some_iff.1 hb).1
  have hids : (storeIn s k b off es).ids = s.ids := set_ids hb rfl
  have hother : ∀ j c, s.bl[j]? = some c → j ≠ k → c.id ≠ b.id := fun j c hj hne he => by
    have hi : s.ids[j]? = some c.id := ids_get hj
    have hk : s.ids[k]? = some b.id := ids_get hb
    have h1 := (List.getElem?_eq_some_iff.1 hi)
    have h2 := (List.getElem?_eq_some_iff.1 hk)
    exact hne ((List.getElem_inj H.nd).1 (h1.2.trans (he.trans h2.2.symm)))
  refine ⟨⟨⟨H.fr.tm, H.fr.df, by rw [hids]; exact H.fr.sh, fun c hcm e he => ?_⟩, fun c hcm => ?_, by rw [hids]; exact H.nd, H.tk, fun c hcm e he => ?_, ?_, fun h => absurd h Bool.false_ne_true, fun c hcm => ?_⟩, ?_⟩
  · rw [hids]
    rcases List.mem_or_eq_of_mem_set hcm with hcm | rfl
    · exact H.fr.sc c hcm e he
    · rcases setAt_mem he with he | he
      · exact H.fr.sc b (List.mem_of_getElem? hb) e he
      · exact (hc e he).2
  · obtain ⟨j, hj⟩ := List.getElem?_of_mem hcm
    simp only [storeIn] at hj
    rw [List.getElem?_set] at hj
    by_cases hkj : k = j
    · subst hkj
      rw [if_pos rfl, if_pos hkl] at hj
      cases hj
      unfold Blk.at
      rw [setAt_map]; exact h2
    · rw [if_neg hkj] at hj
      have hne := hother j c hj (Ne.symm hkj)
      exact (h7 _ hne).trans (H.bl.get hj)
  · rcases List.mem_or_eq_of_mem_set hcm with hcm | rfl
    · exact H.cb c hcm e he
    · rcases setAt_mem he with he | he
      · exact H.cb b (List.mem_of_getElem? hb) e he
      · exact Nat.le_of_eq (hc e he).1
  · have hidk : ∀ i : Nat, (storeIn s k b off es).bl[i]?.map Blk.id = s.bl[i]?.map Blk.id := fun i => by
      have := congrArg (fun (l : List Nat) => l[i]?) hids
      simpa [St.ids] using this
    refine ⟨h3.trans H.up.os, h4.trans H.up.tape, h5.trans H.up.output, by rw [h6]; exact H.up.size, fun i hi hn => ?_⟩
    have hi' : setOf (idsOf s.bl s.D) i → False := fun hm => hn (by
      rw [setOf_iff] at hm ⊢
      obtain ⟨j, hj, he⟩ := List.mem_filterMap.1 hm
      refine List.mem_filterMap.2 ⟨j, ?_, (hidk j).trans he⟩
      simp only [storeIn]
      split
      · exact addNew_mem (.inr hj)
      · exact hj)
    have hne : i ≠ b.id := fun he => by
      subst he
      by_cases hk0 : k < s.n0
      · refine hn ?_
        rw [setOf_iff]
        refine List.mem_filterMap.2 ⟨k, ?_, (hidk k).trans (by rw [hb]; rfl)⟩
        simp only [storeIn, hk0, if_true]
        exact addNew_mem (.inl rfl)
      · have : b ∈ s.bl.drop s.n0 := by
          refine List.mem_of_getElem? (i := k - s.n0) ?_
          rw [List.getElem?_drop, Nat.add_sub_cancel' (by omega)]; exact hb
        have := H.nb b this
        have hi2 : b.id < s.w.heap.size := hi
        omega
    exact (h7 i hne).trans (H.up.keep i hi hi')
  · simp only [storeIn, List.drop_set] at hcm
    split at hcm
    · exact H.nb c hcm
    · rcases List.mem_or_eq_of_mem_set hcm with hcm | rfl
      · exact H.nb c hcm
      · refine H.nb b (List.mem_of_getElem? (i := k - s.n0) ?_)
        rw [List.getElem?_drop, Nat.add_sub_cancel' (by omega)]; exact hb
  · refine ⟨Nat.le_refl _, rfl, Old.refl _ _, fun j c hj => ?_⟩
    by_cases hkj : k = j
    · subst hkj
      rw [hb] at hj; cases hj
      exact ⟨{ b with cs := setAt b.cs off es }, by simp only [storeIn, List.getElem?_set_self hkl], rfl, rfl, rfl, by simp [setAt_length], Old.setAt _ _ _ fun e he => Nat.le_of_eq (hc e he).1.symm⟩
    · exact ⟨c, by simp only [storeIn, List.getElem?_set_ne hkj]; exact hj, rfl, rfl, rfl, rfl, Old.refl _ _⟩
theorem storeVC_sound (hE : E.Ok) (H : Holds s a w) {dst : Option Nat} {t : Nat} {p x : Operand} (h : storeVC E s dst t p x K) (hK : Into K s K') :
    ∃ w2, (Instr.storeAt t (a.eval p) (a.eval x)).run E.P w = .ok () w2 ∧ K' (a.put dst undef) w2 := by
  have hev := H.fr.ev
  unfold storeVC at h
  split at h
  · rename_i k off i hs hi
    split at h
    · exact h.elim
    · rename_i b hb
      simp only at h
      split at h
      · rename_i hlen
        obtain ⟨ho, h⟩ := oneOf_use _ _ h
        · have hp := H.fr.evSh p
          simp only [ShOk, hs] at hp
          obtain ⟨id, hid, hv⟩ := hp
          rw [ids_get hb] at hid; cases hid
          have hrun := run_sizeOf (hE.T t i hi) w
          obtain ⟨w2, h1, h2, h3, h4, h5, h6, h7⟩ := storeCells_run (P := E.P) (s.ev x).v.cells.toList w (b.cs.map Ent.v) 0 off (H.bl.get hb) (by simpa using hlen.2) ho
          have hes : (∀ e ∈ oneOr (s.ev x).sh s.ck (s.ev x).v.cells.toList, e.st = s.ck ∧ ShOk s.ids e) ∧ (oneOr (s.ev x).sh s.ck (s.ev x).v.cells.toList).map Ent.v = (s.ev x).v.cells.toList := by
            have hx := H.fr.evSh x
            generalize hcl : (s.ev x).v.cells.toList = vs
            unfold oneOr
            split
            · rename_i v
              refine ⟨fun e he => ?_, rfl⟩
              cases List.mem_singleton.1 he
              refine ⟨rfl, ?_⟩
              have hvv : ((s.ev x).sh = .no ∨ ∃ ks, (s.ev x).sh = .clo ks) ∨ (s.ev x).v = v := by
                rcases hsh : (s.ev x).sh with _ | ⟨k1, o1⟩ | k1 | b1 | ks1
                · exact .inl (.inl rfl)
                · refine .inr ?_
                  simp only [ShOk, hsh] at hx
                  obtain ⟨i1, _, hx⟩ := hx
                  rw [hx] at hcl ⊢
                  simpa [Value.cells] using hcl
                · refine .inr ?_
                  simp only [ShOk, hsh] at hx
                  obtain ⟨i1, _, n1, c1, hx⟩ := hx
                  rw [hx] at hcl ⊢
                  simpa [Value.cells] using hcl
                · refine .inr ?_
                  simp only [ShOk, hsh] at hx
                  rw [hx] at hcl ⊢
                  simpa [Value.cells] using hcl
                · exact .inl (.inr ⟨ks1, rfl⟩)
              rcases hvv with (hvv | ⟨ks, hvv⟩) | hvv
              · simp only [ShOk, hvv]
              · simp only [ShOk, hvv]
              · unfold ShOk at hx ⊢
                rw [hvv] at hx; exact hx
            · refine ⟨fun e he => ?_, ents_v _ _⟩
              obtain ⟨v, _, rfl⟩ := List.mem_map.1 he
              exact ⟨rfl, trivial⟩
          obtain ⟨he2, he3⟩ := hes
          generalize oneOr (s.ev x).sh s.ck (s.ev x).v.cells.toList = es at he2 he3 h
          have hst := H.stored hb (off := off) (es := es) he2 (w2 := w2) (by rw [he3]; simpa using h2) h3 h4 h5 h6 h7
          refine ⟨w2, ?_, hK _ _ _ (hst.1.put (sh := .no) dst undef trivial) (hst.2.trans (Agree.put _ _ _ _)) h⟩
          rw [hev, hv]
          simp only [Instr.storeAt, Instr.sureAddr, Sem.run_bind, Sem.run_pure, Result.andThen_ok, storeVar, hrun, hev]
          rw [if_neg (by simpa using hlen.1)]
          exact h1
      · exact h.elim
  · rw [hev, hev]
    exact unitVC_sound H h hK
theorem storeVC_soundU (hE : E.Ok) (H : Holds s a w) {dst : Option Nat} {t : Nat} {p x : Operand} {k0 off0 : Nat} {b0 : Blk} (hT : (E.T t).isSome = true) (hs0 : (s.ev p).sh = .ptr k0 off0) (hb0 : s.bl[k0]? = some b0) (h : storeVC E s dst t p x K)
    (hK : ∀ s' a' w', Holds s' a' w' → Agree s s' → Upd w w' (setOf [b0.id]) → K s' → K' a' w') :
    ∃ w2, (Instr.storeAt t (a.eval p) (a.eval x)).run E.P w = .ok () w2 ∧ K' (a.put dst undef) w2 := by
  have hev := H.fr.ev
  unfold storeVC at h
  split at h
  · rename_i k off i hs hi
    split at h
    · exact h.elim
    · rename_i b hb
      simp only at h
      split at h
      · rename_i hlen
        obtain ⟨ho, h⟩ := oneOf_use _ _ h
        · have hp := H.fr.evSh p
          simp only [ShOk, hs] at hp
          obtain ⟨id, hid, hv⟩ := hp
          rw [ids_get hb] at hid; cases hid
          have hrun := run_sizeOf (hE.T t i hi) w
          obtain ⟨w2, h1, h2, h3, h4, h5, h6, h7⟩ := storeCells_run (P := E.P) (s.ev x).v.cells.toList w (b.cs.map Ent.v) 0 off (H.bl.get hb) (by simpa using hlen.2) ho
          have hes : (∀ e ∈ oneOr (s.ev x).sh s.ck (s.ev x).v.cells.toList, e.st = s.ck ∧ ShOk s.ids e) ∧ (oneOr (s.ev x).sh s.ck (s.ev x).v.cells.toList).map Ent.v = (s.ev x).v.cells.toList := by
            have hx := H.fr.evSh x
            generalize hcl : (s.ev x).v.cells.toList = vs
            unfold oneOr
            split
            · rename_i v
              refine ⟨fun e he => ?_, rfl⟩
              cases List.mem_singleton.1 he
              refine ⟨rfl, ?_⟩
              have hvv : ((s.ev x).sh = .no ∨ ∃ ks, (s.ev x).sh = .clo ks) ∨ (s.ev x).v = v := by
                rcases hsh : (s.ev x).sh with _ | ⟨k1, o1⟩ | k1 | b1 | ks1
                · exact .inl (.inl rfl)
                · refine .inr ?_
                  simp only [ShOk, hsh] at hx
                  obtain ⟨i1, _, hx⟩ := hx
                  rw [hx] at hcl ⊢
                  simpa [Value.cells] using hcl
                · refine .inr ?_
                  simp only [ShOk, hsh] at hx
                  obtain ⟨i1, _, n1, c1, hx⟩ := hx
                  rw [hx] at hcl ⊢
                  simpa [Value.cells] using hcl
                · refine .inr ?_
                  simp only [ShOk, hsh] at hx
                  rw [hx] at hcl ⊢
                  simpa [Value.cells] using hcl
                · exact .inl (.inr ⟨ks1, rfl⟩)
              rcases hvv with (hvv | ⟨ks, hvv⟩) | hvv
              · simp only [ShOk, hvv]
              · simp only [ShOk, hvv]
              · unfold ShOk at hx ⊢
                rw [hvv] at hx; exact hx
            · refine ⟨fun e he => ?_, ents_v _ _⟩
              obtain ⟨v, _, rfl⟩ := List.mem_map.1 he
              exact ⟨rfl, trivial⟩
          obtain ⟨he2, he3⟩ := hes
          generalize oneOr (s.ev x).sh s.ck (s.ev x).v.cells.toList = es at he2 he3 h
          have hst := H.stored hb (off := off) (es := es) he2 (w2 := w2) (by rw [he3]; simpa using h2) h3 h4 h5 h6 h7
          rw [hs] at hs0
          cases hs0
          rw [hb] at hb0
          cases hb0
          refine ⟨w2, ?_, hK _ _ _ (hst.1.put (sh := .no) dst undef trivial) (hst.2.trans (Agree.put _ _ _ _)) ⟨h3, h4, h5, Nat.le_of_eq h6.symm, fun i hi hn => h7 i fun e => hn (by rw [setOf_iff, e]; simp)⟩ h⟩
          rw [hev, hv]
          simp only [Instr.storeAt, Instr.sureAddr, Sem.run_bind, Sem.run_pure, Result.andThen_ok, storeVar, hrun, hev]
          rw [if_neg (by simpa using hlen.1)]
          exact h1
      · exact h.elim
  · rename_i hno
    cases hi : E.T t with
    | none => rw [hi] at hT; cases hT
    | some i => exact (hno _ _ i hs0 hi).elim
end
end
section
open Go
section
variable {E : Env} {s : St} {a : Act} {w : World} {K : St → Prop} {K' : Act → World → Prop} {X : ContX} {Q : Exit → Act → World → Prop}
theorem oneOr_no (ck : Nat) (vs : List Value) (ids : List Nat) : (∀ e ∈ oneOr .no ck vs, e.st ≤ ck ∧ ShOk ids e) ∧ (oneOr .no ck vs).map Ent.v = vs := by
  unfold oneOr
  split
  · refine ⟨fun e he => ?_, rfl⟩
    cases List.mem_singleton.1 he
    exact ⟨Nat.le_refl _, trivial⟩
  · exact ⟨ents_of, ents_v _ _⟩
theorem ids_new (ids : List Nat) (i : Nat) (n : Nat) (h : n = ids.length) : (ids ++ [i])[n]? = some i := by
  subst h; simp
theorem fill_parts {z : Nat} {s : St} {ρ : Operand → Value} (hρ : ∀ x, ρ x = (s.ev x).v) : ∀ (ps : List (Nat × Operand)) (k : Nat) (done vs rest : List Value), partsIn s z k ps = some vs → done.length = k * z → rest.length = vs.length →
    Instr.fill (fun i => some (i * z, z)) (done ++ rest).toArray (ps.map fun p => (p.1, ρ p.2)) = some (done ++ vs).toArray := by
  intro ps
  induction ps with
  | nil =>
    intro k done vs rest h hd hr
    simp only [partsIn, Option.some.injEq] at h
    subst h
    have : rest = [] := List.length_eq_zero_iff.1 hr
    subst this; rfl
  | cons p ps ih =>
    intro k done vs rest h hd hr
    obtain ⟨j, x⟩ := p
    simp only [partsIn] at h
    split at h
    · rename_i hc
      obtain ⟨rfl, hl⟩ := hc
      obtain ⟨tl, ht, rfl⟩ := Option.map_eq_some_iff.1 h
      have hsplit : rest = rest.take z ++ rest.drop z := (List.take_append_drop z rest).symm
      have hrl : (rest.take z).length = z := by rw [List.length_take, hr, List.length_append]; omega
      have hset : ∀ (vs pre mid post : List Value), mid.length = vs.length → setAt (pre ++ (mid ++ post)) pre.length vs = pre ++ (vs ++ post) := by
        intro vs
        induction vs with
        | nil => intro pre mid post h; have : mid = [] := List.length_eq_zero_iff.1 h; subst this; rfl
        | cons v vs ihv =>
          intro pre mid post h
          cases mid with
          | nil => simp at h
          | cons m mid =>
            simp only [setAt]
            have h2 := ihv (pre ++ [v]) mid post (by simpa using h)
            simp only [List.length_append, List.length_singleton, List.append_assoc, List.singleton_append] at h2
            have e5 : (pre ++ (m :: mid ++ post)).set pre.length v = pre ++ v :: (mid ++ post) := by simp
            rw [e5, h2]; simp
      simp only [List.map_cons, Instr.fill, hρ]
      have hsz : (s.ev x).v.cells.size = z := by simpa using hl
      rw [if_neg (by
        simp only [hsz, ne_eq, not_true_eq_false, decide_false, Bool.false_or, decide_eq_true_eq, List.size_toArray, List.length_append]
        rw [hd, hr, List.length_append, hl]; omega)]
      have e2 := fold_setAt (s.ev x).v.cells.toList (done ++ rest) (j * z) 0
      rw [← Array.foldl_toList, Array.toList_zipIdx]
      simp only [Nat.add_zero] at e2
      rw [e2]
      have e3 : setAt (done ++ rest) (j * z) (s.ev x).v.cells.toList = (done ++ (s.ev x).v.cells.toList) ++ rest.drop z := by
        conv => lhs; rw [hsplit]
        rw [← hd, hset _ _ _ _ (by rw [hrl, hl])]
        simp
      rw [e3]
      have := ih (j + 1) (done ++ (s.ev x).v.cells.toList) tl (rest.drop z) ht (by rw [List.length_append, hd, hl, Nat.succ_mul]) (by rw [List.length_drop, hr, List.length_append, hl]; omega)
      simpa [hρ] using this
    · cases h
theorem parts_len {z : Nat} {s : St} : ∀ (ps : List (Nat × Operand)) (k : Nat) (vs : List Value), partsIn s z k ps = some vs → vs.length = ps.length * z := by
  intro ps
  induction ps with
  | nil => intro k vs h; simp only [partsIn, Option.some.injEq] at h; subst h; simp
  | cons p ps ih =>
    intro k vs h
    obtain ⟨j, x⟩ := p
    simp only [partsIn] at h
    split at h
    · rename_i hc
      obtain ⟨tl, ht, rfl⟩ := Option.map_eq_some_iff.1 h
      rw [List.length_append, hc.2, ih _ _ ht, List.length_cons, Nat.succ_mul, Nat.add_comm]
    · cases h
theorem buildSlice_run (hE : E.Ok) (hev : ∀ x, a.eval x = (s.ev x).v) {t e : Nat} {i ie : TyI} (hi : E.T t = some i) (he : i.el = some e) (hie : E.T e = some ie) {len : Nat} {parts : Array (Nat × Operand)}
    (h1 : ie.zero.length * len ≤ 2 ^ 24) (h2 : parts.toList.length = len) (h3 : 0 < ie.zero.length) {vs : List Value} (hv : partsIn s ie.zero.length 0 parts.toList = some vs) :
    (Instr.buildSlice t len (parts.map fun (j, x) => (j, a.eval x))).run E.P w = .ok (.slice (some ⟨w.heap.size, 0, none⟩) len len) { w with heap := w.heap.push (.cells vs.toArray e (0, 0)) } := by
  have hu : E.P.underlying t = some (.slice e) := by
    obtain ⟨x, d, hx, hd, hs, hz, hm, _⟩ := hE.T t i hi
    cases d <;> simp_all [TyI.shape]
  have hz := run_zero (hE.T e ie hie) w
  have hs := run_sizeOf (hE.T e ie hie) w
  have hcz := cells_zero (hE.T e ie hie)
  have hlen := parts_len _ _ _ hv
  rw [h2] at hlen
  simp only [Instr.buildSlice, underlying, Sem.run_bind, run_program, Result.andThen_ok, hu, Sem.run_pure, hs]
  have hn : ¬ (len * ie.zero.length > 2 ^ 24) := by rw [Nat.mul_comm]; omega
  have hf := fill_parts (z := ie.zero.length) (ρ := a.eval) hev parts.toList 0 [] vs
  by_cases h0 : len = 0
  · subst h0
    have hp : parts.toList = [] := List.length_eq_zero_iff.1 h2
    have hvs : vs = [] := List.length_eq_zero_iff.1 (by rw [hlen]; simp)
    subst hvs
    have hp' : parts = #[] := by cases parts; simp_all
    subst hp'
    have hr0 : Array.range 0 = #[] := Array.eq_empty_of_size_eq_zero (by simp)
    simp [Instr.fill, newRow, hr0]
  · have hne : ¬ (len * ie.zero.length = 0) := Nat.mul_ne_zero h0 (by omega)
    rw [if_neg hn]
    simp only [hne, if_false, Sem.run_bind, hz, Result.andThen_ok, Sem.run_pure, hcz]
    have hf2 := hf ((Array.range (len * ie.zero.length)).map fun x => ie.zero.toArray[x % ie.zero.toArray.size]!).toList hv (by simp) (by simp [hlen])
    simp only [List.nil_append, Array.toArray_toList] at hf2
    have hpm : (parts.map fun (x : Nat × Operand) => (x.1, a.eval x.2)).toList = parts.toList.map fun p => (p.1, a.eval p.2) := by simp
    simp only [hpm, hf2]
    simp [newRow]
theorem enter_run (hE : E.Ok) {f : Nat} (hf : E.F f = true) (args : Array Value) : (callFunc f args).run E.P w = .ok (.enter f args) w := by
  obtain ⟨fn, h1, h2⟩ := hE.F f hf
  simp only [enterB, Bool.and_eq_true, Bool.not_eq_true'] at h2
  have hb : fn.body.isNone = false := by cases h : fn.body <;> simp_all
  simp only [callFunc, Sem.run_bind, run_program, Result.andThen_ok, h1, h2.2, hb, Bool.false_eq_true, if_false, Sem.run_pure]
theorem semB_run {b : Builtin} {tys : Array Nat} {ty : Nat} {args : Array Value} {sm : Sem Value} (h : semB b tys ty args = some sm) (cs : Array Bool) {v : Value} {w2 : World} (hr : sm.run E.P w = .ok v w2) :
    (builtin b tys ty cs args).run E.P w = .ok (.value v) w2 := by
  cases b <;> simp only [semB, reduceCtorEq, Option.some.injEq] at h <;> subst h <;> exact run_vv hr
theorem readB_run {b : Builtin} {tys : Array Nat} {ty : Nat} {args : Array Value} {sm : Sem Value} (h : readB b tys ty args = some sm) (cs : Array Bool) {v : Value} {w2 : World} (hr : sm.run E.P w = .ok v w2) :
    (builtin b tys ty cs args).run E.P w = .ok (.value v) w2 := by
  cases b <;> simp only [readB, reduceCtorEq, Option.some.injEq] at h <;> subst h <;> exact run_vv hr
theorem step_sound (hE : E.Ok) (H : Holds s a w) {o : Oper} (h : step E s o K X) (hK : IntoW (stillOp o.op) w K s K') (hX : ∀ ch w', X ch w' → Q (.panic ch) a w') : o.wp E.P a w K' Q := by
  have hev := H.fr.ev
  have hfun : a.eval = fun x => (s.ev x).v := funext hev
  unfold step at h
  split at h
  · rename_i v sh hq
    have := quiet_run hE.T H.fr o (fun t x k off b _ _ hb => H.bl.get hb) hq
    exact upon_val this.1 (hK _ _ _ (H.put o.dst v this.2) (Agree.put _ _ _ _) (fun _ => Upd.refl _ _) h)
  · rename_i hq
    clear hq
    obtain ⟨dst, op, ty, pos, after, guard⟩ := o
    unfold loud at h
    simp only at h
    split at h
    · -- alloc
      rename_i t
      split at h
      · exact h.elim
      · rename_i i hi
        have hr := alloc_run (w := w) (hE.T t i hi) (.tuple #[])
        obtain ⟨s', n1, n2, n3⟩ := newVC_sound H h (fun e he => ents_of e he) ⟨w.heap.size, ids_new _ _ _ (by simp [St.ids]), rfl⟩
        rw [ents_v] at n1
        exact upon_val (run_vv hr) (hK _ _ _ n1 n2 (fun _ => (Upd.refl _ _).push _) n3)
    · -- box
      rename_i t x
      have hr := box_run (P := E.P) (w := w) (t := t) (s.ev x).v
      have ho := oneOr_no s.ck (s.ev x).v.cells.toList s.ids
      obtain ⟨s', n1, n2, n3⟩ := newVC_sound H h ho.1 ⟨w.heap.size, ids_new _ _ _ (by simp [St.ids]), rfl⟩
      rw [ho.2] at n1
      refine upon_val (w2 := { w with heap := w.heap.push (.cells (s.ev x).v.cells t (0, 0)) }) (run_vv (by rw [hev]; exact hr)) (hK s' _ _ (by simpa using n1) n2 (fun _ => (Upd.refl _ _).push _) n3)
    · -- buildSlice
      rename_i t len parts
      split at h
      · exact h.elim
      · rename_i i hi
        split at h
        · exact h.elim
        · rename_i e he
          split at h
          · exact h.elim
          · rename_i ie hie
            split at h
            · rename_i hc
              split at h
              · exact h.elim
              · rename_i vs hv
                have hr := buildSlice_run (w := w) hE hev hi he hie hc.1 hc.2.1 hc.2.2 hv
                obtain ⟨s', n1, n2, n3⟩ := newVC_sound H h (fun e he => ents_of e he) ⟨w.heap.size, ids_new _ _ _ (by simp [St.ids]), len, len, rfl⟩
                rw [ents_v] at n1
                exact upon_val (run_vv hr) (hK _ _ _ n1 n2 (fun _ => (Upd.refl _ _).push _) n3)
            · exact h.elim
    · -- store
      obtain ⟨w2, h1, h2⟩ := storeVC_sound hE H h hK.no
      exact upon_skip (run_uu h1) h2
    · -- load
      obtain ⟨u, s', h1, h2, h3, h4⟩ := loadVC_sound hE H h
      exact upon_val (run_vv (by rw [hev]; exact h1)) (hK _ _ _ h2 h3 (fun _ => Upd.refl _ _) h4)
    · -- indexAddr
      rename_i t x i
      split at h
      · rename_i it A n cp kk j hi hx hj
        split at h
        · exact h.elim
        · rename_i e he
          split at h
          · exact h.elim
          · rename_i ie hie
            obtain ⟨⟨h1, h2⟩, ad, rfl, hk⟩ := h
            have hu : E.P.underlying t = some (.slice e) := by
              obtain ⟨x, d, hx, hd, hs, hz, hm, _⟩ := hE.T t it hi
              cases d <;> simp_all [TyI.shape]
            have hs := run_sizeOf (hE.T e ie hie) w
            refine upon_val (v := .pointer (some (ad.add (j.toNat * ie.zero.length)))) (w2 := w) (run_vv ?_) (hK _ _ _ (H.put (sh := .no) dst _ trivial) (Agree.put _ _ _ _) (fun _ => Upd.refl _ _) hk)
            rw [hev, hev, hx, hj]
            simp only [Instr.indexAt, asIntOf, underlying, Sem.run_bind, run_program, Sem.run_pure, Result.andThen_ok, hu]
            rw [if_pos ⟨h1, h2⟩]
            simp only [Sem.run_bind, hs, Result.andThen_ok, Sem.run_pure]
      · exact h.elim
    · -- index
      rename_i t x i
      split at h
      · rename_i it b kk j hi hx hj
        split at h
        · rename_i hkd
          obtain ⟨⟨h1, h2⟩, hk⟩ := h
          have hu := (underlying_of (hE.T t it hi)).2 hkd
          refine upon_val (v := .int .u8 (byteAt b j)) (w2 := w) (run_vv ?_) (hK _ _ _ (H.put (sh := .no) dst _ trivial) (Agree.put _ _ _ _) (fun _ => Upd.refl _ _) hk)
          rw [hev, hev, hx, hj]
          have hlt : j.toNat < b.size := by omega
          have hlt' : j.toNat < b.data.size := hlt
          have hg : b[j.toNat]? = some b[j.toNat] := by simp [getElem?_pos, hlt]
          simp only [Instr.index, asIntOf, underlying, Sem.run_bind, run_program, Sem.run_pure, Result.andThen_ok, hu]
          rw [if_pos h1, hg]
          have hby : byteAt b j = ((b[j.toNat]).toNat : Int) := by
            unfold byteAt
            rw [Array.getD_eq_getD_getElem?, Array.getElem?_eq_getElem hlt']; rfl
          rw [hby]; rfl
        · exact h.elim
      · obtain ⟨u, s', h1, h2, h3, h4⟩ := readVC_sound H h
        exact upon_val (run_vv (by rw [hev, hev]; exact h1)) (hK _ _ _ h2 h3 (fun _ => Upd.refl _ _) h4)
    · -- slice
      obtain ⟨u, s', h1, h2, h3, h4⟩ := readVC_sound H h
      exact upon_val (run_vv (by rw [hfun]; exact h1)) (hK _ _ _ h2 h3 (fun _ => Upd.refl _ _) h4)
    · -- binOp
      obtain ⟨u, s', h1, h2, h3, h4⟩ := readVC_sound H h
      exact upon_val (run_vv (by rw [hfun]; exact h1)) (hK _ _ _ h2 h3 (fun _ => Upd.refl _ _) h4)
    · -- convert
      obtain ⟨u, w2, h1, h2⟩ := genVC_sound H h hK.no
      exact upon_val (run_vv (by rw [hfun]; exact h1)) h2
    · -- typeAssert
      obtain ⟨u, s', h1, h2, h3, h4⟩ := assertVC_sound H h
      exact upon_val (run_vv (by rw [hfun]; exact h1)) (hK _ _ _ h2 h3 (fun _ => Upd.refl _ _) h4)
    · obtain ⟨u, w2, h1, h2⟩ := genVC_sound H h hK.no
      exact upon_val (run_vv (by rw [hfun]; exact h1)) h2
    · obtain ⟨u, w2, h1, h2⟩ := genVC_sound H h hK.no
      exact upon_val (run_vv (by rw [hfun]; exact h1)) h2
    · obtain ⟨u, s', h1, h2, h3, h4⟩ := readVC_sound H h
      exact upon_val (run_vv (by rw [hfun]; exact h1)) (hK _ _ _ h2 h3 (fun _ => Upd.refl _ _) h4)
    · obtain ⟨u, w2, h1, h2⟩ := genVC_sound H h hK.no
      exact upon_val (run_vv (by rw [hfun]; exact h1)) h2
    · split at h
      · obtain ⟨u, w2, h1, h2⟩ := nextVC_sound H h hK.no
        exact upon_val (run_vv (by rw [hfun]; exact h1)) h2
      · obtain ⟨u, w2, h1, h2⟩ := genVC_sound H h hK.no
        exact upon_val (run_vv (by rw [hfun]; exact h1)) h2
    · obtain ⟨w2, h1, h2⟩ := unitVC_sound H h hK.no
      exact upon_skip (run_uu (by rw [hfun]; exact h1)) h2
    · -- mapEntry
      obtain ⟨u, w2, h1, h2⟩ := entVC_sound H h hK.no
      exact upon_val (run_vv (by rw [hfun]; exact h1)) h2
    · -- entryStore
      obtain ⟨w2, h1, h2⟩ := unitVC_sound H h hK.no
      exact upon_skip (run_uu (by rw [hfun]; exact h1)) h2
    · -- panic
      rename_i x
      split at h
      · rename_i t v hx
        have := hX _ _ (H.flush h)
        unfold Oper.wp
        have hr : (execOp a.eval ⟨dst, .panic x, ty, pos, after, guard⟩).run E.P w = .halt (.panic (.iface t v)) w := by
          simp only [execOp, Sem.run_bind, hev, hx, Instr.panic, run_goPanic]; rfl
        rw [hr]; exact this
      · exact h.elim
    · -- call
      rename_i c
      obtain ⟨callee, args, tys⟩ := c
      simp only at h
      split at h
      · rename_i f
        split at h
        · rename_i fn fs caps hfv
          split at h
          · rename_i hF
            have hc := callVC_sound H h hK.no (Q := Q) hX
            unfold Oper.wp
            have hr : (execOp a.eval ⟨dst, .call ⟨.value f, args, tys⟩, ty, pos, after, guard⟩).run E.P w = .ok (.enter fn (fs ++ args.map a.eval ++ caps)) w := by
              simp only [execOp, resolve, Sem.run_bind, hev, hfv, Deferred.ofValue, Sem.run_pure, Result.andThen_ok, invoke, enter_run hE hF]
            rw [hr]
            have hargs : (fs.toList ++ args.toList.map (fun x => (s.ev x).v) ++ caps.toList).toArray = fs ++ args.map a.eval ++ caps := by
              rw [hfun]; simp
            rw [hargs] at hc
            exact hc
          · exact h.elim
        · exact h.elim
      · exact h.elim
      · rename_i b
        split at h
        · rename_i sm hsm
          have hst : stillOp (.call ⟨.builtin b, args, tys⟩) = false := by cases b <;> first | rfl | (simp only [semB, reduceCtorEq] at hsm)
          rw [hst] at hK
          obtain ⟨u, w2, h1, h2⟩ := genVC_sound H h hK.no
          refine upon_val (v := u) (w2 := w2) ?_ h2
          simp only [execOp, resolve, Sem.run_bind, Sem.run_pure, Result.andThen_ok, invoke]
          rw [hfun]
          exact semB_run hsm _ h1
        · split at h
          · rename_i sm hsm
            obtain ⟨u, s', h1, h2, h3, h4⟩ := readVC_sound H h
            refine upon_val (v := u) (w2 := w) ?_ (hK _ _ _ h2 h3 (fun _ => Upd.refl _ _) h4)
            simp only [execOp, resolve, Sem.run_bind, Sem.run_pure, Result.andThen_ok, invoke]
            rw [hfun]
            exact readB_run hsm _ h1
          · exact h.elim
    · exact h.elim
theorem stepX_sound (hE : E.Ok) (H : Holds s a w) {o : Oper} (h : stepX E s o K X) (hK : IntoW true w K s K') (hX : ∀ ch w', X ch w' → Q (.panic ch) a w') : o.wp E.P a w K' Q := by
  have hev := H.fr.ev
  have hfun : a.eval = fun x => (s.ev x).v := funext hev
  have old : ∀ {b : Bool}, stillOp o.op = true → step E s o K X → o.wp E.P a w K' Q := fun hs h => step_sound hE H h (by rw [hs]; exact hK) hX
  unfold stepX at h
  split at h
  · rename_i c hop
    split at h
    · rename_i f hcal
      split at h
      · rename_i fn fs caps hfv
        split at h
        · rename_i hF
          obtain ⟨dst, op, ty, pos, after, guard⟩ := o
          obtain ⟨callee, args, tys⟩ := c
          simp only at hop hcal h
          subst hop; subst hcal
          have hc := callXVC_sound H h hK (Q := Q) hX
          unfold Oper.wp
          have hr : (execOp a.eval ⟨dst, .call ⟨.value f, args, tys⟩, ty, pos, after, guard⟩).run E.P w = .ok (.enter fn (fs ++ args.map a.eval ++ caps)) w := by
            simp only [execOp, resolve, Sem.run_bind, hev, hfv, Deferred.ofValue, Sem.run_pure, Result.andThen_ok, invoke, enter_run hE hF]
          rw [hr]
          have hargs : (fs.toList ++ args.toList.map (fun x => (s.ev x).v) ++ caps.toList).toArray = fs ++ args.map a.eval ++ caps := by
            rw [hfun]; simp
          rw [hargs] at hc
          exact hc
        · exact h.elim
      · exact h.elim
    · split at h
      · rename_i hs; exact old (b := true) hs h
      · exact h.elim
  · split at h
    · rename_i hs; exact old (b := true) hs h
    · exact h.elim
end
end
section
open Go
theorem setSh_holds {s : St} {a : Act} {w : World} (H : Holds s a w) {d : Nat} {b : Bool} {e : Ent} (he : s.tm[d]? = some e) (hv : e.v = .bool b) : Holds (s.setSh d (.lb b)) a w ∧ Agree s (s.setSh d (.lb b)) := by
  have hs : s.setSh d (.lb b) = { s with tm := s.tm.set d { e with sh := .lb b } } := by simp [St.setSh, he]
  rw [hs]
  refine ⟨⟨⟨?_, H.fr.df, fun x hx => ?_, H.fr.sc⟩, H.bl, H.nd, fun x hx => ?_, H.cb, H.up, H.cl, H.nb⟩, Nat.le_refl _, by simp, fun j x hx hs => ?_, (Agree.refl s).bl⟩
  · rw [H.fr.tm]
    congr 1
    apply List.ext_getElem?
    intro i
    simp only [List.getElem?_map, List.getElem?_set]
    split
    · rename_i hi
      subst hi
      split
      · simp [he]
      · rename_i hl
        simp [List.getElem?_eq_none (Nat.le_of_not_lt hl)]
    · rfl
  · rcases List.mem_or_eq_of_mem_set hx with hx | rfl
    · exact H.fr.sh x hx
    · exact hv
  · rcases List.mem_or_eq_of_mem_set hx with hx | rfl
    · exact H.tk x hx
    · exact H.tk e (List.mem_of_getElem? he)
  · simp only [List.getElem?_set] at hx
    split at hx
    · rename_i hi
      subst hi
      split at hx
      · cases hx; exact ⟨e, he, rfl, rfl⟩
      · cases hx
    · exact ⟨x, hx, rfl, rfl⟩
theorem wanted_of {ops : Array Oper} {o : Oper} {s : St} {a : Act} {w : World} (H : Holds s a w) {j d : Nat} {want b : Bool} {e : Ent} (hg : o.guard = some (j, want)) (hd : (ops[j]?).bind (·.dst) = some d)
    (he : s.tm[d]? = some e) (hv : e.v = .bool b) : Region.wanted o (yielded ops a.tmps) = (b == want) := by
  simp only [Region.wanted, hg, yielded, hd, Option.bind_some, H.fr.tm, List.getElem?_toArray, List.getElem?_map, he, Option.map_some, hv]
  cases b <;> cases want <;> rfl
theorem guard_cases {ops : Array Oper} {o : Oper} {s : St} {a : Act} {w : World} (H : Holds s a w) :
    (guardOf ops s o = .yes → Region.wanted o (yielded ops a.tmps) = true) ∧ (guardOf ops s o = .off → Region.wanted o (yielded ops a.tmps) = false) ∧
    (∀ d b, guardOf ops s o = .ask d b → ∃ e, s.tm[d]? = some e ∧ e.v = .bool b ∧ Region.wanted o (yielded ops a.tmps) = (b == wantOf o)) := by
  unfold guardOf
  split
  · rename_i hg
    exact ⟨fun _ => by simp [Region.wanted, hg], fun h => (nomatch h), fun d b h => (nomatch h)⟩
  · rename_i j want hg
    split
    · exact ⟨fun h => (nomatch h), fun h => (nomatch h), fun d b h => (nomatch h)⟩
    · rename_i d hd
      split
      · exact ⟨fun h => (nomatch h), fun h => (nomatch h), fun d b h => (nomatch h)⟩
      · rename_i e he
        split
        · rename_i b hb
          have hsh := H.fr.sh e (List.mem_of_getElem? he)
          simp only [ShOk, hb] at hsh
          have hw := wanted_of H hg hd he hsh
          split
          · rename_i hbw
            exact ⟨fun _ => by rw [hw, hbw], fun h => (nomatch h), fun d b h => (nomatch h)⟩
          · rename_i hbw
            exact ⟨fun h => (nomatch h), fun _ => by rw [hw]; simpa using hbw, fun d b h => (nomatch h)⟩
        · split
          · rename_i b hv
            refine ⟨fun h => (nomatch h), fun h => (nomatch h), fun d' b' h => ?_⟩
            cases h
            exact ⟨e, he, hv, by rw [wanted_of H hg hd he hv]; simp [wantOf, hg]⟩
          · rename_i vs hv
            refine ⟨fun h => (nomatch h), fun _ => ?_, fun d b h => (nomatch h)⟩
            simp only [Region.wanted, hg, yielded, hd, Option.bind_some, H.fr.tm, List.getElem?_toArray, List.getElem?_map, he, Option.map_some, hv]
            rfl
          · exact ⟨fun h => (nomatch h), fun h => (nomatch h), fun d b h => (nomatch h)⟩
section
variable {E : Env} {ops : Array Oper} {K : St → Prop} {X : ContX} {Q : Exit → Act → World → Prop}
theorem execOps_sound (hE : E.Ok) (hX : ∀ ch a' w', a'.defers = [] → X ch w' → Q (.panic ch) a' w') : ∀ (l : List Oper) (s : St) (a : Act) (w : World), Holds s a w → execOps E ops X K l s → Into K s (Q .normal) → wpList E.P ops Q l a w := by
  intro l
  induction l with
  | nil => intro s a w H h hK; exact hK s a w H (Agree.refl s) h
  | cons o l ih =>
    intro s a w H h hK
    obtain ⟨hy, hn, hq⟩ := guard_cases (ops := ops) (o := o) H
    have doit : ∀ s', Holds s' a w → Agree s s' → Region.wanted o (yielded ops a.tmps) = true → step E s' o (execOps E ops X K l) X → wpList E.P ops Q (o :: l) a w := fun s' H' A hw hs => by
      unfold wpList
      rw [if_pos hw]
      exact .inl (step_sound hE H' hs (fun s2 a2 w2 H2 A2 _ h2 => ih s2 a2 w2 H2 h2 (hK.after (A.trans A2))) (fun ch w' hx => hX ch a w' H'.fr.df hx))
    have skip : ∀ s', Holds s' a w → Agree s s' → Region.wanted o (yielded ops a.tmps) = false → execOps E ops X K l (s'.put o.dst undef .no) → wpList E.P ops Q (o :: l) a w := fun s' H' A hw hs => by
      unfold wpList
      rw [if_neg (by rw [hw]; exact Bool.false_ne_true)]
      exact ih _ _ _ (H'.put (sh := .no) o.dst undef trivial) hs (hK.after (A.trans (Agree.put _ _ _ _)))
    simp only [execOps] at h
    cases hg : guardOf ops s o with
    | yes => rw [hg] at h; exact doit s H (Agree.refl s) (hy hg) h
    | off => rw [hg] at h; exact skip s H (Agree.refl s) (hn hg) h
    | bad => rw [hg] at h; exact h.elim
    | ask d b =>
      rw [hg] at h
      obtain ⟨e, he, hv, hw⟩ := hq d b hg
      have hset := setSh_holds H he hv
      cases b with
      | true =>
        have h1 := h.1 rfl
        cases hwo : wantOf o with
        | true => rw [hwo] at h1 hw; exact doit _ hset.1 hset.2 hw h1
        | false => rw [hwo] at h1 hw; exact skip _ hset.1 hset.2 hw h1
      | false =>
        have h1 := h.2 rfl
        cases hwo : wantOf o with
        | true => rw [hwo] at h1 hw; exact skip _ hset.1 hset.2 hw h1
        | false => rw [hwo] at h1 hw; exact doit _ hset.1 hset.2 hw h1
end
/-! ### The state at a loop's head -/
theorem junk_get (ck : Nat) (tgt : Nat → Value) : ∀ (ws : List Nat) (tm : List Ent), (junkAll ck tgt ws tm).length = tm.length ∧
    ((∀ (j : Nat) (e : Ent), tm[j]? = some e → e.v = tgt j ∨ j ∈ ws) → ∀ (j : Nat) (e : Ent), (junkAll ck tgt ws tm)[j]? = some e → e.v = tgt j) ∧
    (∀ e ∈ junkAll ck tgt ws tm, e ∈ tm ∨ (e.sh = .no ∧ e.st = ck)) ∧ Old ck tm (junkAll ck tgt ws tm) ∧ (∀ j, j ∉ ws → (junkAll ck tgt ws tm)[j]? = tm[j]?) := by
  intro ws
  induction ws with
  | nil => intro tm; exact ⟨rfl, fun h j e he => (h j e he).resolve_right (by simp), fun e he => .inl he, Old.refl _ _, fun _ _ => rfl⟩
  | cons i ws ih =>
    intro tm
    obtain ⟨h1, h2, h3, h4, h5⟩ := ih (tm.set i ⟨tgt i, .no, ck⟩)
    refine ⟨by simp only [junkAll, h1, List.length_set], fun h => h2 fun j e he => ?_, fun e he => ?_, (Old.set _ _ _ _ (Nat.le_refl _)).trans (Nat.le_refl _) h4, fun j hj => ?_⟩
    · simp only [List.getElem?_set] at he
      split at he
      · rename_i hi
        subst hi
        split at he
        · cases he; exact .inl rfl
        · cases he
      · rename_i hi
        rcases h j e he with h | h
        · exact .inl h
        · rcases List.mem_cons.1 h with h | h
          · exact absurd h.symm hi
          · exact .inr h
    · rcases h3 e he with he | he
      · rcases List.mem_or_eq_of_mem_set he with he | rfl
        · exact .inl he
        · exact .inr ⟨rfl, rfl⟩
      · exact .inr he
    · simp only [junkAll]
      rw [h5 j (fun h => hj (List.mem_cons_of_mem _ h)), List.getElem?_set_ne (fun h => hj (by rw [← h]; exact List.mem_cons_self))]
theorem putMany_get (ck : Nat) (tgt : Nat → Value) : ∀ (ms : List (Nat × CK)) (vs : List Value) (tm : List Ent), (putMany ck ms vs tm).length = tm.length ∧
    ((∀ (i : Nat) (p : Nat × CK), ms[i]? = some p → ∀ v : Value, vs[i]? = some v → v = tgt p.1) → (∀ (j : Nat) (e : Ent), tm[j]? = some e → e.v = tgt j) → ∀ (j : Nat) (e : Ent), (putMany ck ms vs tm)[j]? = some e → e.v = tgt j) ∧
    (∀ e ∈ putMany ck ms vs tm, e ∈ tm ∨ (e.sh = .no ∧ e.st = ck)) ∧ Old ck tm (putMany ck ms vs tm) ∧ (∀ j, (∀ p ∈ ms, p.1 ≠ j) → (putMany ck ms vs tm)[j]? = tm[j]?) := by
  intro ms
  induction ms with
  | nil => intro vs tm; exact ⟨rfl, fun _ h => h, fun e he => .inl he, Old.refl _ _, fun _ _ => rfl⟩
  | cons m ms ih =>
    intro vs tm
    obtain ⟨i, c⟩ := m
    cases vs with
    | nil => exact ⟨rfl, fun _ h => h, fun e he => .inl he, Old.refl _ _, fun _ _ => rfl⟩
    | cons v vs =>
      obtain ⟨h1, h2, h3, h4, h5⟩ := ih vs (tm.set i ⟨v, .no, ck⟩)
      refine ⟨by simp only [putMany, h1, List.length_set], fun hv h => h2 (fun k p hk u hu => hv (k + 1) p (by simpa using hk) u (by simpa using hu)) fun j e he => ?_, fun e he => ?_, (Old.set _ _ _ _ (Nat.le_refl _)).trans (Nat.le_refl _) h4, fun j hj => ?_⟩
      · simp only [List.getElem?_set] at he
        split at he
        · rename_i hi
          subst hi
          split at he
          · cases he; exact hv 0 (i, c) rfl v rfl
          · cases he
        · exact h j e he
      · rcases h3 e he with he | he
        · rcases List.mem_or_eq_of_mem_set he with he | rfl
          · exact .inl he
          · exact .inr ⟨rfl, rfl⟩
        · exact .inr he
      · simp only [putMany]
        rw [h5 j (fun p hp => hj p (List.mem_cons_of_mem _ hp)), List.getElem?_set_ne (hj (i, c) List.mem_cons_self)]
def Like (bl bl' : List Blk) : Prop := ∀ (k : Nat) (b : Blk), bl[k]? = some b → ∃ b' : Blk, bl'[k]? = some b' ∧ b'.id = b.id ∧ b'.ty = b.ty ∧ b'.rw = b.rw ∧ b'.cs.length = b.cs.length
theorem putCells_get (ck : Nat) (tgt : Nat → Nat → Value) : ∀ (ms : List (Nat × Nat × CK)) (vs : List Value) (bl : List Blk), vs.length = ms.length →
    (putCells ck ms vs bl).length = bl.length ∧ Like bl (putCells ck ms vs bl) ∧
    ((∀ (i : Nat) (p : Nat × Nat × CK), ms[i]? = some p → ∀ v : Value, vs[i]? = some v → v = tgt p.1 p.2.1) → (∀ (k : Nat) (b : Blk), bl[k]? = some b → ∀ (j : Nat) (e : Ent), b.cs[j]? = some e → e.v = tgt k j ∨ ∃ p ∈ ms, p.1 = k ∧ p.2.1 = j) →
      ∀ (k : Nat) (b : Blk), (putCells ck ms vs bl)[k]? = some b → ∀ (j : Nat) (e : Ent), b.cs[j]? = some e → e.v = tgt k j) ∧
    (∀ (k : Nat) (b' : Blk), (putCells ck ms vs bl)[k]? = some b' → ∃ b : Blk, bl[k]? = some b ∧ ∀ e ∈ b'.cs, e ∈ b.cs ∨ (e.sh = .no ∧ e.st = ck)) ∧
    (∀ (k : Nat) (b : Blk), bl[k]? = some b → ∀ b' : Blk, (putCells ck ms vs bl)[k]? = some b' → Old ck b.cs b'.cs ∧ ∀ j, (∀ p ∈ ms, ¬ (p.1 = k ∧ p.2.1 = j)) → b'.cs[j]? = b.cs[j]?) := by
  intro ms
  induction ms with
  | nil =>
    intro vs bl _
    refine ⟨rfl, fun k b h => ⟨b, h, rfl, rfl, rfl, rfl⟩, fun _ h k b hb j e he => (h k b hb j e he).resolve_right (by simp), fun k b' h => ⟨b', h, fun e he => .inl he⟩, fun k b h b' h' => ?_⟩
    have : b = b' := Option.some.inj (h.symm.trans h')
    subst this
    exact ⟨Old.refl _ _, fun _ _ => rfl⟩
  | cons m ms ih =>
    intro vs bl hl
    obtain ⟨k0, j0, c⟩ := m
    cases vs with
    | nil => simp at hl
    | cons v vs =>
      have hl' : vs.length = ms.length := by simpa using hl
      let bl1 := (match bl[k0]? with | some b => bl.set k0 { b with cs := b.cs.set j0 ⟨v, .no, ck⟩ } | none => bl)
      have hb1 : ∀ (k : Nat) (b1 : Blk), bl1[k]? = some b1 → ∃ b : Blk, bl[k]? = some b ∧ b1.id = b.id ∧ b1.ty = b.ty ∧ b1.rw = b.rw ∧ ((k = k0 ∧ b1.cs = b.cs.set j0 ⟨v, .no, ck⟩) ∨ (k ≠ k0 ∧ b1.cs = b.cs)) := by
        intro k b1 h
        simp only [bl1] at h
        split at h
        · rename_i b hb
          rw [List.getElem?_set] at h
          split at h
          · rename_i hk
            subst hk
            split at h
            · cases h; exact ⟨b, hb, rfl, rfl, rfl, .inl ⟨rfl, rfl⟩⟩
            · cases h
          · rename_i hk
            exact ⟨b1, h, rfl, rfl, rfl, .inr ⟨Ne.symm hk, rfl⟩⟩
        · rename_i hn
          refine ⟨b1, h, rfl, rfl, rfl, .inr ⟨fun hk => ?_, rfl⟩⟩
          rw [hk] at h; rw [hn] at h; cases h
      have hlen : bl1.length = bl.length := by simp only [bl1]; split <;> simp
      have hb2 : ∀ (k : Nat) (b : Blk), bl[k]? = some b → ∃ b1 : Blk, bl1[k]? = some b1 := fun k b h => by
        have hk := (List.getElem?_eq_some_iff.1 h).1
        exact ⟨bl1[k]'(by omega), List.getElem?_eq_getElem _⟩
      obtain ⟨h1, h2, h3, h4, h5⟩ := ih vs bl1 hl'
      have hdef : putCells ck ((k0, j0, c) :: ms) (v :: vs) bl = putCells ck ms vs bl1 := rfl
      rw [hdef]
      refine ⟨h1.trans hlen, fun k b hb => ?_, fun hv h => h3 (fun i p hi u hu => hv (i + 1) p (by simpa using hi) u (by simpa using hu)) fun k b1 hk j e he => ?_, fun k b' hk => ?_, fun k b hb b' hb' => ?_⟩
      · obtain ⟨b1, hk1⟩ := hb2 k b hb
        obtain ⟨b0, hb0, i0, t0, r0, hcs⟩ := hb1 k b1 hk1
        rw [hb] at hb0; cases hb0
        obtain ⟨b', hk', i', t', r', l'⟩ := h2 k b1 hk1
        refine ⟨b', hk', i'.trans i0, t'.trans t0, r'.trans r0, l'.trans ?_⟩
        rcases hcs with ⟨_, hcs⟩ | ⟨_, hcs⟩ <;> rw [hcs]
        simp
      · obtain ⟨b, hb, _, _, _, hcs⟩ := hb1 k b1 hk
        rcases hcs with ⟨rfl, hcs⟩ | ⟨hne, hcs⟩
        · rw [hcs, List.getElem?_set] at he
          split at he
          · rename_i hj
            subst hj
            split at he
            · cases he; exact .inl (hv 0 _ rfl v rfl)
            · cases he
          · rename_i hj
            rcases h k b hb j e he with h | ⟨p, hp, h1, h2⟩
            · exact .inl h
            · rcases List.mem_cons.1 hp with rfl | hp
              · exact absurd h2 hj
              · exact .inr ⟨p, hp, h1, h2⟩
        · rw [hcs] at he
          rcases h k b hb j e he with h | ⟨p, hp, h1, h2⟩
          · exact .inl h
          · rcases List.mem_cons.1 hp with rfl | hp
            · exact absurd h1.symm hne
            · exact .inr ⟨p, hp, h1, h2⟩
      · obtain ⟨b1, hk1, hm⟩ := h4 k b' hk
        obtain ⟨b, hb, _, _, _, hcs⟩ := hb1 k b1 hk1
        refine ⟨b, hb, fun e he => ?_⟩
        rcases hm e he with he | he
        · rcases hcs with ⟨_, hcs⟩ | ⟨_, hcs⟩
          · rw [hcs] at he
            rcases List.mem_or_eq_of_mem_set he with he | rfl
            · exact .inl he
            · exact .inr ⟨rfl, rfl⟩
          · rw [hcs] at he; exact .inl he
        · exact .inr he
      · obtain ⟨b1, hk1⟩ := hb2 k b hb
        obtain ⟨b0, hb0, _, _, _, hcs⟩ := hb1 k b1 hk1
        rw [hb] at hb0; cases hb0
        obtain ⟨o1, o2⟩ := h5 k b1 hk1 b' hb'
        refine ⟨Old.trans (Nat.le_refl _) ?_ o1, fun j hj => ?_⟩
        · rcases hcs with ⟨_, hcs⟩ | ⟨_, hcs⟩ <;> rw [hcs]
          · exact Old.set _ _ _ _ (Nat.le_refl _)
          · exact Old.refl _ _
        · rw [o2 j (fun p hp => hj p (List.mem_cons_of_mem _ hp))]
          rcases hcs with ⟨hk, hcs⟩ | ⟨_, hcs⟩ <;> rw [hcs]
          rw [List.getElem?_set_ne]
          intro hj0
          exact hj (k0, j0, c) List.mem_cons_self ⟨hk.symm, hj0⟩
end
section
open Go
theorem modsOk_use {s : St} {M : Mods} {ws : List Nat} (h : modsOk s M ws = true) : (∀ p ∈ M.tm, p.1 ∈ ws ∧ p.1 < s.tm.length) ∧ ∀ p ∈ M.ce, ∃ b : Blk, s.bl[p.1]? = some b ∧ p.2.1 < b.cs.length := by
  simp only [modsOk, Bool.and_eq_true, List.all_eq_true, decide_eq_true_eq] at h
  refine ⟨fun p hp => ⟨by simpa using (h.1 p hp).1, (h.1 p hp).2⟩, fun p hp => ?_⟩
  have := h.2 p hp
  split at this
  · rename_i b hb; exact ⟨b, hb, by simpa using this⟩
  · cases this
theorem stampOk_use {s : St} {M : Mods} {ws : List Nat} {c m : Nat} (h : stampOk s M ws c m = true) : (∀ (j : Nat) (e : Ent), s.tm[j]? = some e → e.st < c ∨ j ∈ ws) ∧
    ∀ (k : Nat) (b : Blk), k < m → s.bl[k]? = some b → ∀ (j : Nat) (e : Ent), b.cs[j]? = some e → e.st < c ∨ ∃ p ∈ M.ce, p.1 = k ∧ p.2.1 = j := by
  simp only [stampOk, Bool.and_eq_true] at h
  constructor
  · have : ∀ (l : List Ent) (i : Nat), stampOk.goT ws c i l = true → ∀ (j : Nat) (e : Ent), l[j]? = some e → e.st < c ∨ (i + j) ∈ ws := by
      intro l
      induction l with
      | nil => intro i _ j e he; simp at he
      | cons x l ih =>
        intro i h j e he
        simp only [stampOk.goT, Bool.and_eq_true, Bool.or_eq_true, decide_eq_true_eq] at h
        cases j with
        | zero => simp only [List.getElem?_cons_zero, Option.some.injEq] at he; subst he; simpa using h.1
        | succ j =>
          have := ih (i + 1) h.2 j e (by simpa using he)
          rwa [Nat.add_assoc, Nat.add_comm 1 j] at this
    intro j e he
    simpa using this s.tm 0 h.1 j e he
  · have hc : ∀ (k : Nat) (l : List Ent) (i : Nat), stampOk.goC M c k i l = true → ∀ (j : Nat) (e : Ent), l[j]? = some e → e.st < c ∨ ∃ p ∈ M.ce, p.1 = k ∧ p.2.1 = i + j := by
      intro k l
      induction l with
      | nil => intro i _ j e he; simp at he
      | cons x l ih =>
        intro i h j e he
        simp only [stampOk.goC, Bool.and_eq_true, Bool.or_eq_true, decide_eq_true_eq] at h
        cases j with
        | zero =>
          simp only [List.getElem?_cons_zero, Option.some.injEq] at he; subst he
          refine h.1.imp id fun h => ?_
          obtain ⟨p, hp, hh⟩ := List.any_eq_true.1 h
          simp only [Bool.and_eq_true, beq_iff_eq] at hh
          exact ⟨p, hp, hh.1, by simpa using hh.2⟩
        | succ j =>
          have := ih (i + 1) h.2 j e (by simpa using he)
          rwa [Nat.add_assoc, Nat.add_comm 1 j] at this
    have hb : ∀ (l : List Blk) (i : Nat), stampOk.goB M c i l = true → ∀ (k : Nat) (b : Blk), l[k]? = some b → stampOk.goC M c (i + k) 0 b.cs = true := by
      intro l
      induction l with
      | nil => intro i _ k b hk; simp at hk
      | cons x l ih =>
        intro i h k b hk
        simp only [stampOk.goB, Bool.and_eq_true] at h
        cases k with
        | zero => simp only [List.getElem?_cons_zero, Option.some.injEq] at hk; subst hk; exact h.1
        | succ k =>
          have := ih (i + 1) h.2 k b (by simpa using hk)
          rwa [Nat.add_assoc, Nat.add_comm 1 k] at this
    intro k b hk hbk j e he
    have h1 := hb _ 0 h.2 k b (by rw [List.getElem?_take_of_lt hk]; exact hbk)
    simp only [Nat.zero_add] at h1
    simpa using hc k b.cs 0 h1 j e he
theorem vals_get (s' : St) (M : Mods) : (∀ (i : Nat) (p : Nat × CK), M.tm[i]? = some p → ∀ v : Value, (valsOf s' M)[i]? = some v → v = (s'.tm.getD p.1 undefE).v) ∧
    (∀ (i : Nat) (p : Nat × Nat × CK), M.ce[i]? = some p → ∀ v : Value, ((valsOf s' M).drop M.tm.length)[i]? = some v → v = (match s'.bl[p.1]? with | some b => (b.cs.getD p.2.1 undefE).v | none => undef)) ∧
    (valsOf s' M).length = M.cks.length ∧ ((valsOf s' M).drop M.tm.length).length = M.ce.length := by
  refine ⟨fun i p hp v hv => ?_, fun i p hp v hv => ?_, by simp [valsOf, Mods.cks], by simp [valsOf]⟩
  · simp only [valsOf] at hv
    rw [List.getElem?_append_left (by simpa using (List.getElem?_eq_some_iff.1 hp).1)] at hv
    simp only [List.getElem?_map, hp, Option.map_some, Option.some.injEq] at hv
    exact hv.symm
  · simp only [valsOf] at hv
    rw [List.drop_append_of_le_length (by simp), List.drop_eq_nil_of_le (by simp), List.nil_append] at hv
    simp only [List.getElem?_map, hp, Option.map_some, Option.some.injEq] at hv
    exact hv.symm
theorem map_v_eq {l l' : List Ent} (hl : l.length = l'.length) (h : ∀ (j : Nat) (e e' : Ent), l[j]? = some e → l'[j]? = some e' → e.v = e'.v) : l.map Ent.v = l'.map Ent.v := by
  apply List.ext_getElem?
  intro i
  simp only [List.getElem?_map]
  rcases Nat.lt_or_ge i l.length with hi | hi
  · have h1 : l[i]? = some l[i] := List.getElem?_eq_getElem hi
    have h2 : l'[i]? = some (l'[i]'(by omega)) := List.getElem?_eq_getElem _
    rw [h1, h2]; simp [h i _ _ h1 h2]
  · rw [List.getElem?_eq_none hi, List.getElem?_eq_none (by omega)]
theorem head_tm (s : St) (M : Mods) (ws : List Nat) (jk : Nat → Value) (vs : List Value) (w : World) (hm : modsOk s M ws = true) :
    (headSt s M ws jk vs w).tm.length = s.tm.length ∧ (∀ j, j ∉ ws → (headSt s M ws jk vs w).tm[j]? = s.tm[j]?) ∧ Old s.ck s.tm (headSt s M ws jk vs w).tm ∧
    (∀ e ∈ (headSt s M ws jk vs w).tm, e ∈ s.tm ∨ (e.sh = .no ∧ e.st = s.ck)) := by
  obtain ⟨j1, _, j3, j4, j5⟩ := junk_get s.ck jk ws s.tm
  obtain ⟨p1, _, p3, p4, p5⟩ := putMany_get s.ck jk M.tm vs (junkAll s.ck jk ws s.tm)
  obtain ⟨m1, _⟩ := modsOk_use hm
  refine ⟨p1.trans j1, fun j hj => ?_, j4.trans (Nat.le_refl _) p4, fun e he => ?_⟩
  · show (putMany s.ck M.tm vs _)[j]? = _
    rw [p5 j (fun p hp h => hj (h ▸ (m1 p hp).1)), j5 j hj]
  · rcases p3 e he with he | he
    · exact j3 e he
    · exact .inr he
theorem head_holds {s s' : St} {a0 a' : Act} {w0 w' : World} (H0 : Holds s a0 w0) (H' : Holds s' a' w') {M : Mods} {ws : List Nat} (hm : modsOk s M ws = true) (htl : s'.tm.length = s.tm.length)
    (h1 : ∀ (j : Nat) (e' : Ent), s'.tm[j]? = some e' → ∀ e : Ent, s.tm[j]? = some e → e.v = e'.v ∨ j ∈ ws)
    (h2 : ∀ (k : Nat) (b : Blk), s.bl[k]? = some b → ∃ b' : Blk, s'.bl[k]? = some b' ∧ b'.id = b.id ∧ b'.ty = b.ty ∧ b'.cs.length = b.cs.length ∧
      ∀ (j : Nat) (e e' : Ent), b.cs[j]? = some e → b'.cs[j]? = some e' → e.v = e'.v ∨ ∃ p ∈ M.ce, p.1 = k ∧ p.2.1 = j) :
    Holds (headSt s M ws (fun j => (s'.tm.getD j undefE).v) (valsOf s' M) w') a' w' := by
  obtain ⟨v1, v2, v3, v4⟩ := vals_get s' M
  obtain ⟨t1, t2, t3, t4⟩ := head_tm s M ws (fun j => (s'.tm.getD j undefE).v) (valsOf s' M) w' hm
  obtain ⟨j1, j2, _⟩ := junk_get s.ck (fun j => (s'.tm.getD j undefE).v) ws s.tm
  obtain ⟨p1, p2, _⟩ := putMany_get s.ck (fun j => (s'.tm.getD j undefE).v) M.tm (valsOf s' M) (junkAll s.ck (fun j => (s'.tm.getD j undefE).v) ws s.tm)
  obtain ⟨c1, c2, c3, c4, c5⟩ := putCells_get s.ck (fun k j => match s'.bl[k]? with | some b => (b.cs.getD j undefE).v | none => undef) M.ce ((valsOf s' M).drop M.tm.length) s.bl v4
  have hids : (headSt s M ws (fun j => (s'.tm.getD j undefE).v) (valsOf s' M) w').ids = s.ids := by
    show (putCells s.ck M.ce ((valsOf s' M).drop M.tm.length) s.bl).map Blk.id = s.bl.map Blk.id
    apply List.ext_getElem?
    intro k
    simp only [List.getElem?_map]
    cases hb : s.bl[k]? with
    | none => rw [List.getElem?_eq_none (by rw [c1]; exact List.getElem?_eq_none_iff.1 hb)]
    | some b => obtain ⟨b', hb', hi, _⟩ := c2 k b hb; rw [hb']; simp [hi]
  have hcv : ∀ (k : Nat) (b : Blk), (putCells s.ck M.ce ((valsOf s' M).drop M.tm.length) s.bl)[k]? = some b → ∀ (j : Nat) (e : Ent), b.cs[j]? = some e → e.v = (match s'.bl[k]? with | some b => (b.cs.getD j undefE).v | none => undef) := by
    refine c3 v2 fun k b hb j e he => ?_
    obtain ⟨b', hb', _, _, hl, hv⟩ := h2 k b hb
    have hj := (List.getElem?_eq_some_iff.1 he).1
    have he' : b'.cs[j]? = some (b'.cs[j]'(by omega)) := List.getElem?_eq_getElem _
    rcases hv j e _ he he' with h | h
    · refine .inl ?_
      rw [hb']
      simp only [List.getD_eq_getElem?_getD, he']
      exact h
    · exact .inr h
  refine ⟨⟨?_, H'.fr.df, fun e he => ?_, fun b hb e he => ?_⟩, fun b hb => ?_, by rw [hids]; exact H0.nd, fun e he => ?_, fun b hb e he => ?_, Upd.refl _ _, fun _ => rfl, fun b hb => ?_⟩
  · rw [H'.fr.tm]
    congr 1
    refine map_v_eq (by rw [t1]; exact htl) fun j e e' he he' => ?_
    have hfin := p2 v1 (j2 fun j e hj => ?_) j e' he'
    · rw [hfin]; simp [List.getD_eq_getElem?_getD, he]
    · have hjl := (List.getElem?_eq_some_iff.1 hj).1
      have hs' : s'.tm[j]? = some (s'.tm[j]'(by omega)) := List.getElem?_eq_getElem _
      rcases h1 j _ hs' e hj with h | h
      · refine .inl ?_
        simp only [List.getD_eq_getElem?_getD, hs']
        exact h
      · exact .inr h
  · rw [hids]
    rcases t4 e he with he | ⟨he, _⟩
    · exact H0.fr.sh e he
    · simp only [ShOk, he]
  · rw [hids]
    obtain ⟨k, hk⟩ := List.getElem?_of_mem hb
    obtain ⟨b0, hb0, hm0⟩ := c4 k b hk
    rcases hm0 e he with he | ⟨he, _⟩
    · exact H0.fr.sc b0 (List.mem_of_getElem? hb0) e he
    · simp only [ShOk, he]
  · obtain ⟨k, hk⟩ := List.getElem?_of_mem hb
    have hk2 : (putCells s.ck M.ce ((valsOf s' M).drop M.tm.length) s.bl)[k]? = some b := hk
    obtain ⟨b0, hb0, _⟩ := c4 k b hk2
    obtain ⟨b1, hb1, i1, t1', r1', l1⟩ := c2 k b0 hb0
    rw [hk2] at hb1; cases hb1
    obtain ⟨b', hb', i2, t2', l2, _⟩ := h2 k b0 hb0
    have hat := H'.bl.get hb'
    unfold Blk.at at hat ⊢
    rw [i1, ← i2, hat, t1', ← t2']
    congr 3
    refine map_v_eq (by omega) fun j e e' he he' => ?_
    rw [hcv k b hk2 j e' he', hb']
    simp [List.getD_eq_getElem?_getD, he]
  · rcases t4 e he with he | ⟨_, he⟩
    · exact Nat.le_succ_of_le (H0.tk e he)
    · exact he ▸ Nat.le_succ _
  · obtain ⟨k, hk⟩ := List.getElem?_of_mem hb
    obtain ⟨b0, hb0, hm0⟩ := c4 k b hk
    rcases hm0 e he with he | ⟨_, he⟩
    · exact Nat.le_succ_of_le (H0.cb b0 (List.mem_of_getElem? hb0) e he)
    · exact he ▸ Nat.le_succ _
  · simp only [headSt] at hb
    rw [List.drop_eq_nil_of_le (by rw [c1]; exact Nat.le_refl _)] at hb
    cases hb
theorem head_agree {s : St} {M : Mods} {ws : List Nat} {jk : Nat → Value} {vs : List Value} {w : World} (hm : modsOk s M ws = true) (hl : vs.length = M.cks.length) : Agree s (headSt s M ws jk vs w) := by
  obtain ⟨t1, t2, t3, t4⟩ := head_tm s M ws jk vs w hm
  have hl' : (vs.drop M.tm.length).length = M.ce.length := by simp [hl, Mods.cks]
  obtain ⟨c1, c2, c3, c4, c5⟩ := putCells_get s.ck (fun _ _ => undef) M.ce (vs.drop M.tm.length) s.bl hl'
  refine ⟨Nat.le_succ _, t1, t3, fun k b hb => ?_⟩
  obtain ⟨b', hb', i, t, r, l⟩ := c2 k b hb
  exact ⟨b', hb', i, t, r, l, (c5 k b hb b' hb').1⟩
theorem round_ok {s s' sh : St} {M : Mods} {ws : List Nat} (hst : stampOk s' M ws (s.ck + 1) s.bl.length = true) (hA : Agree sh s') (hck : sh.ck = s.ck + 1)
    (hl : sh.tm.length = s.tm.length) (ht : ∀ j, j ∉ ws → sh.tm[j]? = s.tm[j]?)
    (hb : ∀ (k : Nat) (b : Blk), s.bl[k]? = some b → ∃ b' : Blk, sh.bl[k]? = some b' ∧ b'.id = b.id ∧ b'.ty = b.ty ∧ b'.cs.length = b.cs.length ∧ ∀ j, (∀ p ∈ M.ce, ¬ (p.1 = k ∧ p.2.1 = j)) → b'.cs[j]? = b.cs[j]?) :
    s'.tm.length = s.tm.length ∧ (∀ (j : Nat) (e' : Ent), s'.tm[j]? = some e' → ∀ e : Ent, s.tm[j]? = some e → e.v = e'.v ∨ j ∈ ws) ∧
    (∀ (k : Nat) (b : Blk), s.bl[k]? = some b → ∃ b' : Blk, s'.bl[k]? = some b' ∧ b'.id = b.id ∧ b'.ty = b.ty ∧ b'.cs.length = b.cs.length ∧
      ∀ (j : Nat) (e e' : Ent), b.cs[j]? = some e → b'.cs[j]? = some e' → e.v = e'.v ∨ ∃ p ∈ M.ce, p.1 = k ∧ p.2.1 = j) := by
  obtain ⟨s1, s2⟩ := stampOk_use hst
  refine ⟨hA.tl.trans hl, fun j e' he' e he => ?_, fun k b hk => ?_⟩
  · by_cases hj : j ∈ ws
    · exact .inr hj
    · refine .inl ?_
      have hlt := (s1 j e' he').resolve_right hj
      obtain ⟨e0, h0, hv, _⟩ := hA.tm j e' he' (by rw [hck]; exact hlt)
      rw [ht j hj, he] at h0
      cases h0; exact hv
  · obtain ⟨b1, hb1, i1, t1, l1, f1⟩ := hb k b hk
    obtain ⟨b2, hb2, i2, t2, _, l2, f2⟩ := hA.bl k b1 hb1
    refine ⟨b2, hb2, i2.trans i1, t2.trans t1, l2.trans l1, fun j e e' he he' => ?_⟩
    rcases s2 k b2 (List.getElem?_eq_some_iff.1 hk).1 hb2 j e' he' with hlt | h
    · by_cases hc : ∃ p ∈ M.ce, p.1 = k ∧ p.2.1 = j
      · exact .inr hc
      · refine .inl ?_
        obtain ⟨e0, h0, hv, _⟩ := f2 j e' he' (by rw [hck]; exact hlt)
        rw [f1 j (fun p hp h => hc ⟨p, hp, h⟩), he] at h0
        cases h0; exact hv
    · exact .inr h
end
section
open Go
theorem CK.ex_mono {c : CK} {f g : Value → Prop} (h : ∀ v, f v → g v) (k : c.ex f) : c.ex g := by
  cases c <;> simp only [CK.ex] at k ⊢
  case slc => obtain ⟨a, n, c, k⟩ := k; exact ⟨a, n, c, h _ k⟩
  all_goals (obtain ⟨x, k⟩ := k; exact ⟨x, h _ k⟩)
theorem exL_mono : ∀ {cs : List CK} {f g : List Value → Prop}, (∀ v, f v → g v) → exL cs f → exL cs g
  | [], _, _, h, k => h _ k
  | _ :: _, _, _, h, k => CK.ex_mono (fun _ k => exL_mono (fun _ k => h _ k) k) k
theorem exT_go_mono {T : Nat → Option TyI} : ∀ (ts : List Nat) (acc : List Value) {f g : Value → Prop}, (∀ v, f v → g v) → exT.go T ts acc f → exT.go T ts acc g
  | [], _, _, _, h, k => h _ k
  | t :: ts, acc, f, g, h, k => by
    simp only [exT.go] at k ⊢
    split
    · rename_i ht
      simp only [ht] at k
      obtain ⟨v, k⟩ := k; exact ⟨v, exT_go_mono _ _ h k⟩
    · rename_i i ht
      simp only [ht] at k
      split
      · rename_i ha
        simp only [ha, if_true] at k
        exact exL_mono (fun _ k => exT_go_mono _ _ h k) k
      · rename_i ha
        simp only [ha] at k
        split
        · rename_i c _ hc
          simp only [hc] at k
          exact CK.ex_mono (fun _ k => exT_go_mono _ _ h k) k
        · rename_i hc
          simp only [hc] at k
          obtain ⟨v, k⟩ := k; exact ⟨v, exT_go_mono _ _ h k⟩
theorem exT_mono {T : Nat → Option TyI} {U : Nat → List Nat} {t : Nat} {f g : Value → Prop} (h : ∀ v, f v → g v) (k : exT T U t f) : exT T U t g := by
  unfold exT at k ⊢
  split
  · rename_i hu
    simp only [hu] at k
    split
    · rename_i ht
      simp only [ht] at k
      obtain ⟨v, k⟩ := k; exact ⟨v, h _ k⟩
    · rename_i i ht
      simp only [ht] at k
      split
      · rename_i ha
        simp only [ha, if_true] at k
        exact exL_mono (fun _ k => h _ k) k
      · rename_i ha
        simp only [ha] at k
        split
        · rename_i c _ hc
          simp only [hc] at k
          exact CK.ex_mono h k
        · rename_i hc
          simp only [hc] at k
          obtain ⟨v, k⟩ := k; exact ⟨v, h _ k⟩
  · rename_i ts hts
    split at k
    · rename_i hu; exact absurd hu hts
    · exact exT_go_mono _ _ h k
theorem impL_mono {l : List Prop} {p q : Prop} (h : p → q) (k : impL l p) : impL l q := by
  induction l with
  | nil => exact h k
  | cons x l ih => exact fun hx => ih (k hx)
theorem flush_mono {s : St} {l : List Nat} {K K2 : St → World → Prop} (h : ∀ w1, K (s.show w1) w1 → K2 (s.show w1) w1) (k : flush s l K) : flush s l K2 := by
  unfold flush at k ⊢
  split
  · rename_i hc
    simp only [hc, if_true] at k
    exact impL_mono (h _) k
  · rename_i hc
    simp only [hc] at k
    exact fun w1 hU => impL_mono (impL_mono (h _)) (k w1 hU)
theorem touch_mono {T : Nat → Option TyI} {w : World} {K K2 : St → Prop} : ∀ (tch : List Nat) (s : St), (∀ s', K s' → K2 s') → touch T w tch s K → touch T w tch s K2 := by
  intro tch
  induction tch with
  | nil => intro s hk h; exact hk s h
  | cons k r ih =>
    intro s hk h
    simp only [touch] at h ⊢
    cases hb : s.bl[k]? with
    | none => rw [hb] at h; exact h
    | some b =>
      rw [hb] at h
      simp only at h ⊢
      exact exL_mono (fun vs h => ⟨h.1, h.2.1, ih _ hk h.2.2⟩) h
def Grows (s s' : St) : Prop := ∃ t, s'.bl = s.bl ++ t
theorem Grows.same {s s' : St} (h : s'.bl = s.bl) : Grows s s' := ⟨[], by rw [h, List.append_nil]⟩
def Keeps (rb : List Nat) (s s' : St) : Prop := ∀ k, k ∈ rb → ∀ b, s.bl[k]? = some b → s'.bl[k]? = some b
theorem Grows.keeps {rb : List Nat} {s s' : St} (h : Grows s s') : Keeps rb s s' := fun k _ b hb => by
  obtain ⟨t, ht⟩ := h
  rw [ht, List.getElem?_append_left (List.getElem?_eq_some_iff.1 hb).1]; exact hb
theorem touch_keeps {T : Nat → Option TyI} {w : World} {K : St → Prop} {rb : List Nat} : ∀ (tch : List Nat) (s : St), (∀ k ∈ tch, k ∉ rb) → touch T w tch s K → touch T w tch s (fun s' => K s' ∧ Keeps rb s s') := by
  intro tch
  induction tch with
  | nil => intro s _ h; exact ⟨h, fun _ _ _ hb => hb⟩
  | cons k r ih =>
    intro s hn h
    simp only [touch] at h ⊢
    cases hb : s.bl[k]? with
    | none => rw [hb] at h; exact h
    | some b =>
      rw [hb] at h
      simp only at h ⊢
      refine exL_mono (fun vs h => ⟨h.1, h.2.1, ?_⟩) h
      have := ih _ (fun k hk => hn k (List.mem_cons_of_mem _ hk)) h.2.2
      exact touch_mono _ _ (fun s' hk => ⟨hk.1, fun j hj c hc => hk.2 j hj c (by
        have hne : k ≠ j := fun he => hn k List.mem_cons_self (he ▸ hj)
        simp only [St.setBlk, List.getElem?_set_ne hne]; exact hc)⟩) this
section
variable {E : Env} {s : St} {K : St → Prop} {X : ContX}
theorem readVC_calm {dst : Option Nat} {ty : Nat} {sm : Sem Value} (h : readVC E s dst ty sm K) : readVC E s dst ty sm (fun s' => K s' ∧ Grows s s') :=
  flush_mono (fun _ h => exT_mono (fun _ h => ⟨h.1, h.2, Grows.same (put_bl _ _ _ _)⟩) h) h
theorem loadVC_calm {dst : Option Nat} {t : Nat} {x : Value} (h : loadVC E s dst t x K) : loadVC E s dst t x (fun s' => K s' ∧ Grows s s') := by
  unfold loadVC at h ⊢
  split
  · rename_i i p hi
    simp only [hi] at h
    refine flush_mono (fun w1 h => exT_mono (fun u h => ?_) h) h
    split
    · rename_i cs ha
      simp only [ha] at h
      split
      · rename_i hl
        simp only [hl, if_true] at h
        exact ⟨h.1, h.2, Grows.same (put_bl _ _ _ _)⟩
      · rename_i hl
        simp only [hl, if_false] at h
    · rename_i ha
      simp only [ha] at h
      exact ⟨h.1, h.2, Grows.same (put_bl _ _ _ _)⟩
    · rename_i hno1 hno2
      split at h
      · rename_i cs ha; exact (hno2 cs rfl ha).elim
      · rename_i ha; exact (hno1 ha).elim
      · exact h
  · rename_i hno
    split at h
    · rename_i i p hi; exact (hno i p hi rfl).elim
    · exact readVC_calm h
theorem genVC_calm {dst : Option Nat} {ty : Nat} {sm : Sem Value} (h : genVC E s dst ty sm K) : genVC E s dst ty sm (fun s' => K s' ∧ Grows s s') :=
  flush_mono (fun _ ⟨R, h1, h2⟩ => ⟨R, h1, fun v w2 hr => exT_mono (fun _ ⟨e, S, hU, hA, k⟩ => ⟨e, S, hU, hA, k, Grows.same (put_bl _ _ _ _)⟩) (h2 v w2 hr)⟩) h
theorem nextVC_calm {dst : Option Nat} {sm : Sem Value} (h : nextVC E s dst sm K) : nextVC E s dst sm (fun s' => K s' ∧ Grows s s') :=
  flush_mono (fun _ ⟨R, h1, h2⟩ => ⟨R, h1, fun v w2 hr => by
    obtain ⟨S, hU, hA, ⟨e, k⟩ | ⟨i, r, e, k⟩⟩ := h2 v w2 hr
    · exact ⟨S, hU, hA, .inl ⟨e, k, Grows.same (put_bl _ _ _ _)⟩⟩
    · exact ⟨S, hU, hA, .inr ⟨i, r, e, k, Grows.same (put_bl _ _ _ _)⟩⟩⟩) h
theorem entVC_calm {dst : Option Nat} {sm : Sem Value} (h : entVC E s dst sm K) : entVC E s dst sm (fun s' => K s' ∧ Grows s s') :=
  flush_mono (fun _ ⟨R, h1, h2⟩ => ⟨R, h1, fun v w2 hr => by obtain ⟨u, x, e, S, hU, hA, k⟩ := h2 v w2 hr; exact ⟨u, x, e, S, hU, hA, k, Grows.same (put_bl _ _ _ _)⟩⟩) h
theorem unitVC_calm {dst : Option Nat} {sm : Sem Unit} (h : unitVC E s dst sm K) : unitVC E s dst sm (fun s' => K s' ∧ Grows s s') :=
  flush_mono (fun _ ⟨R, h1, h2⟩ => ⟨R, h1, fun w2 hr => by obtain ⟨S, hU, hA, k⟩ := h2 w2 hr; exact ⟨S, hU, hA, k, Grows.same (put_bl _ _ _ _)⟩⟩) h
theorem newVC_calm {dst : Option Nat} {ty : Nat} {rw : Bool} {cs : List Ent} {v : Nat → Value} {sh : Sh} (h : newVC s dst ty rw cs v sh K) : newVC s dst ty rw cs v sh (fun s' => K s' ∧ Grows s s') :=
  fun id hid => ⟨h id hid, [⟨id, ty, rw, cs⟩], by rw [put_bl]; rfl⟩
theorem keep_of {K : St → Prop} {s s' : St} {rb : List Nat} (h : K s' ∧ Grows s s') : K s' ∧ Keeps rb s s' := ⟨h.1, h.2.keeps⟩
theorem readVC_keep {rb : List Nat} {dst : Option Nat} {ty : Nat} {sm : Sem Value} (h : readVC E s dst ty sm (fun s' => K s' ∧ Grows s s')) : readVC E s dst ty sm (fun s' => K s' ∧ Keeps rb s s') :=
  flush_mono (fun _ h => exT_mono (fun _ h => ⟨h.1, keep_of h.2⟩) h) h
theorem genVC_keep {rb : List Nat} {dst : Option Nat} {ty : Nat} {sm : Sem Value} (h : genVC E s dst ty sm (fun s' => K s' ∧ Grows s s')) : genVC E s dst ty sm (fun s' => K s' ∧ Keeps rb s s') :=
  flush_mono (fun _ ⟨R, h1, h2⟩ => ⟨R, h1, fun v w2 hr => exT_mono (fun _ ⟨e, S, hU, hA, k⟩ => ⟨e, S, hU, hA, keep_of k⟩) (h2 v w2 hr)⟩) h
theorem nextVC_keep {rb : List Nat} {dst : Option Nat} {sm : Sem Value} (h : nextVC E s dst sm (fun s' => K s' ∧ Grows s s')) : nextVC E s dst sm (fun s' => K s' ∧ Keeps rb s s') :=
  flush_mono (fun _ ⟨R, h1, h2⟩ => ⟨R, h1, fun v w2 hr => by
    obtain ⟨S, hU, hA, ⟨e, k⟩ | ⟨i, r, e, k⟩⟩ := h2 v w2 hr
    · exact ⟨S, hU, hA, .inl ⟨e, keep_of k⟩⟩
    · exact ⟨S, hU, hA, .inr ⟨i, r, e, keep_of k⟩⟩⟩) h
theorem entVC_keep {rb : List Nat} {dst : Option Nat} {sm : Sem Value} (h : entVC E s dst sm (fun s' => K s' ∧ Grows s s')) : entVC E s dst sm (fun s' => K s' ∧ Keeps rb s s') :=
  flush_mono (fun _ ⟨R, h1, h2⟩ => ⟨R, h1, fun v w2 hr => by obtain ⟨u, x, e, S, hU, hA, k⟩ := h2 v w2 hr; exact ⟨u, x, e, S, hU, hA, keep_of k⟩⟩) h
theorem unitVC_keep {rb : List Nat} {dst : Option Nat} {sm : Sem Unit} (h : unitVC E s dst sm (fun s' => K s' ∧ Grows s s')) : unitVC E s dst sm (fun s' => K s' ∧ Keeps rb s s') :=
  flush_mono (fun _ ⟨R, h1, h2⟩ => ⟨R, h1, fun w2 hr => by obtain ⟨S, hU, hA, k⟩ := h2 w2 hr; exact ⟨S, hU, hA, keep_of k⟩⟩) h
theorem newVC_keep {rb : List Nat} {dst : Option Nat} {ty : Nat} {rw : Bool} {cs : List Ent} {v : Nat → Value} {sh : Sh} (h : newVC s dst ty rw cs v sh (fun s' => K s' ∧ Grows s s')) : newVC s dst ty rw cs v sh (fun s' => K s' ∧ Keeps rb s s') :=
  fun id hid => keep_of (h id hid)
theorem loadVC_keep {rb : List Nat} {dst : Option Nat} {t : Nat} {x : Value} (h : loadVC E s dst t x (fun s' => K s' ∧ Grows s s')) : loadVC E s dst t x (fun s' => K s' ∧ Keeps rb s s') := by
  unfold loadVC at h ⊢
  split
  · rename_i i p hi
    simp only [hi] at h
    refine flush_mono (fun w1 h => exT_mono (fun u h => ?_) h) h
    split
    · rename_i cs ha
      simp only [ha] at h
      split at h
      · rename_i hl
        simp only [hl, if_true]
        exact ⟨h.1, keep_of h.2⟩
      · exact h.elim
    · rename_i ha
      simp only [ha] at h
      exact ⟨h.1, keep_of h.2⟩
    · rename_i hno1 hno2
      split at h
      · rename_i cs ha; exact (hno2 cs rfl ha).elim
      · rename_i ha; exact (hno1 ha).elim
      · exact h
  · rename_i hno
    split at h
    · rename_i i p hi; exact (hno i p hi rfl).elim
    · exact readVC_keep h
theorem assertVC_keep {rb : List Nat} {dst : Option Nat} {u : Nat} {ok : Bool} {ty : Nat} {sm : Sem Value} (h : assertVC E s dst u ok ty sm K) : assertVC E s dst u ok ty sm (fun s' => K s' ∧ Keeps rb s s') := by
  unfold assertVC at h ⊢
  split
  · rename_i ho
    rw [if_pos ho] at h
    exact flush_mono (fun _ ⟨is, h⟩ => ⟨is, exT_mono (fun _ h => ⟨h.1, h.2, fun k hk b hb => by rw [put_bl]; exact hb⟩) h⟩) h
  · rename_i ho
    rw [if_neg ho] at h
    exact readVC_keep (readVC_calm h)
theorem step_calm {rb : List Nat} {o : Oper} (hc : calm s rb o.op = true) (h : step E s o K X) : step E s o (fun s' => K s' ∧ Keeps rb s s') X := by
  unfold step at h ⊢
  cases hq : quiet E.T s o.op with
  | some p => rw [hq] at h; exact ⟨h, (Grows.same (put_bl _ _ _ _)).keeps⟩
  | none =>
    rw [hq] at h
    simp only at h ⊢
    obtain ⟨dst, op, ty, pos, after, guard⟩ := o
    simp only at hc hq
    unfold loud at h ⊢
    simp only at h ⊢
    cases op with
    | alloc t =>
      simp only at h ⊢
      split at h
      · exact h.elim
      · exact newVC_keep (newVC_calm h)
    | box t x => exact newVC_keep (newVC_calm h)
    | buildSlice t len parts =>
      simp only at h ⊢
      split at h
      · exact h.elim
      · rename_i i hi
        split at h
        · exact h.elim
        · rename_i e he
          split at h
          · exact h.elim
          · rename_i ie hie
            split at h
            · rename_i hcc
              split at h
              · exact h.elim
              · rename_i vs hv
                simp only [hcc, and_self, if_true]
                exact newVC_keep (newVC_calm h)
            · exact h.elim
    | store t p x =>
      simp only [calm] at hc
      simp only [storeVC] at h ⊢
      cases hsh : (s.ev p).sh with
      | ptr k off =>
        rw [hsh] at hc h
        simp only at hc h ⊢
        cases hT : E.T t with
        | none => rw [hT] at h; exact unitVC_keep (unitVC_calm h)
        | some i =>
          rw [hT] at h
          simp only at h ⊢
          cases hb : s.bl[k]? with
          | none => rw [hb] at h; exact h
          | some b =>
            rw [hb] at h
            simp only at h ⊢
            split at h
            · rename_i hcc
              · rw [if_pos hcc]
                refine oneOf_mono _ _ (fun h => ⟨h, fun j hj c hcj => ?_⟩) h
                have hne : k ≠ j := fun he => by subst he; simp at hc; exact hc hj
                rw [put_bl]
                simp only [storeIn, List.getElem?_set_ne hne]; exact hcj
            · exact h.elim
      | no => rw [hsh] at h; exact unitVC_keep (unitVC_calm h)
      | row k => rw [hsh] at h; exact unitVC_keep (unitVC_calm h)
      | lb b => rw [hsh] at h; exact unitVC_keep (unitVC_calm h)
      | clo ks => rw [hsh] at h; exact unitVC_keep (unitVC_calm h)
    | load t x => exact loadVC_keep (loadVC_calm h)
    | indexAddr t x i =>
      simp only at h ⊢
      split at h
      · rename_i it A n cp kk j hi hx hj
        split at h
        · exact h.elim
        · rename_i e he
          split at h
          · exact h.elim
          · rename_i ie hie
            obtain ⟨h1, ad, h2, hk⟩ := h
            exact ⟨h1, ad, h2, hk, (Grows.same (put_bl _ _ _ _)).keeps⟩
      · exact h.elim
    | index t x i =>
      simp only at h ⊢
      split at h
      · rename_i it b kk j hi hx hj
        split at h
        · rename_i hkd
          simp only [hkd, if_true]
          exact ⟨h.1, h.2, (Grows.same (put_bl _ _ _ _)).keeps⟩
        · exact h.elim
      · exact readVC_keep (readVC_calm h)
    | slice t x lo hi mx => exact readVC_keep (readVC_calm h)
    | binOp op t x y t2 => exact readVC_keep (readVC_calm h)
    | convert src dst x => exact genVC_keep (genVC_calm h)
    | typeAssert x t u ok => exact assertVC_keep h
    | makeMap t r => exact genVC_keep (genVC_calm h)
    | makeSlice t l c => exact genVC_keep (genVC_calm h)
    | lookup t x i ok => exact readVC_keep (readVC_calm h)
    | range t x => exact genVC_keep (genVC_calm h)
    | next it str =>
      cases str with
      | true => exact nextVC_keep (nextVC_calm h)
      | false => exact genVC_keep (genVC_calm h)
    | mapUpdate t m k x => exact unitVC_keep (unitVC_calm h)
    | mapEntry t m k => exact entVC_keep (entVC_calm h)
    | entryStore t m k x => exact unitVC_keep (unitVC_calm h)
    | panic x => exact h
    | call c =>
      simp only [calm] at hc
      obtain ⟨callee, args, tys⟩ := c
      simp only at h hc ⊢
      have htch : ∀ k ∈ ptrsOf s args.toList, k ∉ rb := fun k hk => by
        have := List.all_eq_true.1 hc k hk
        simpa using this
      cases callee with
      | value f =>
        simp only at h ⊢
        split at h
        · rename_i fn fs caps hfv
          split at h
          · rename_i hF
            simp only [hF, if_true]
            refine flush_mono (fun w1 ⟨R, X', h1, h2, h3⟩ => ⟨R, X', h1, fun v w2 hr => exT_mono (fun _ ⟨e, S, hU, hA, k⟩ => ⟨e, S, hU, hA, ?_⟩) (h2 v w2 hr), h3⟩) h
            exact touch_mono _ _ (fun s' hk => ⟨hk.1, fun j hj c hcj => by rw [put_bl]; exact hk.2 j hj c hcj⟩) (touch_keeps _ _ htch k)
          · exact h.elim
        · exact h.elim
      | invoke r m => exact h.elim
      | builtin b =>
        simp only at h ⊢
        split at h
        · exact genVC_keep (genVC_calm h)
        · split at h
          · exact readVC_keep (readVC_calm h)
          · exact h.elim
    | _ => exact h
theorem stepX_calm {rb : List Nat} {o : Oper} (hc : calm s rb o.op = true) (h : stepX E s o K X) : stepX E s o (fun s' => K s' ∧ Keeps rb s s') X := by
  unfold stepX at h ⊢
  split at h
  · rename_i c hop
    try simp only
    split at h
    · rename_i f hcal
      try simp only
      split at h
      · rename_i fn fs caps hfv
        try simp only
        split at h
        · rename_i hF
          rw [if_pos hF]
          rw [hop] at hc
          simp only [calm] at hc
          have htch : ∀ k ∈ ptrsOf s c.args.toList, k ∉ rb := fun k hk => by
            have := List.all_eq_true.1 hc k hk
            simpa using this
          refine flush_mono (fun w1 ⟨R, X', h1, h2, h3⟩ => ⟨R, X', h1, fun v w2 hr => exT_mono (fun _ ⟨e, hU, k⟩ => ⟨e, hU, ?_⟩) (h2 v w2 hr), h3⟩) h
          exact touch_mono _ _ (fun s' hk => ⟨hk.1, fun j hj c hcj => by rw [put_bl]; exact hk.2 j hj c hcj⟩) (touch_keeps _ _ htch k)
        · exact h.elim
      · exact h.elim
    · split at h
      · rename_i hs
        rw [if_pos hs]; exact step_calm hc h
      · exact h.elim
  · split at h
    · rename_i hs
      rw [if_pos hs]; exact step_calm hc h
    · exact h.elim
end
def cnt (l : Array Bool) : Nat := l.toList.count false
theorem cnt_set {l : Array Bool} {i : Nat} (h : l.getD i true = false) : cnt l = cnt (l.setIfInBounds i true) + 1 := by
  obtain ⟨l⟩ := l
  have hi : i < l.length := by
    rcases Nat.lt_or_ge i l.length with h' | h'
    · exact h'
    · rw [Array.getD_eq_getD_getElem?, List.getElem?_toArray, List.getElem?_eq_none h'] at h; cases h
  have hl : l[i] = false := by
    rw [Array.getD_eq_getD_getElem?, List.getElem?_toArray, List.getElem?_eq_getElem hi] at h; exact h
  simp only [cnt, List.setIfInBounds_toArray]
  have h1 : l = l.take i ++ (l[i] :: l.drop (i + 1)) := by
    rw [← List.drop_eq_getElem_cons hi, List.take_append_drop]
  have h2 : l.set i true = l.take i ++ (true :: l.drop (i + 1)) := by
    rw [List.set_eq_take_append_cons_drop, if_pos hi]
  rw [h2]
  conv => lhs; rw [h1, hl]
  simp only [List.count_append, List.count_cons, beq_self_eq_true, if_true]
  have : (true == false) = false := rfl
  simp only [this, Bool.false_eq_true, if_false]
  omega
end
end Go.Vx
