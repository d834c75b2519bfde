/-
  Parts of one proof, in their order: The abstract side of a walk: values with slices as lists, blocks of the call's own by number, and for each operation of the model's code what it makes of them. Conditions: none; definitions alone. · What each operation of the model's code makes of abstract values, and the condition that a body's code comes to an end that is wanted. Conditions: none; definitions alone. · How abstract values stand for the model's values and memory. Conditions: those in each statement. · Memory as a state says it is; what an operation must do; the operations that only reckon. Conditions: those in each statement. · The type table, and the operations that only reckon, are sound. Conditions: those in each statement. · Operations that only reckon, and those that read memory, are sound. Conditions: those in each statement. · Rows that are written no more; operations that read memory, or lay new blocks, are sound. Conditions: those in each statement. · Indexing, lengths, cuts, loads, new blocks and stores are sound. Conditions: those in each statement. · Loads, new blocks and stores are sound. Conditions: those in each statement. · Stores, made values and literals of slices are sound. Conditions: those in each statement. · Literals of structs and slices, made rows, appends and copies are sound. Conditions: those in each statement. · Rows: what they hold, cell by cell; what an append or a new row does to memory. Conditions: those in each statement.
-/
import Derived.Calls
import Derived.Orders
import Derived.KernelRfl
import Derived.Laws.Cells
import Derived.Laws.CopyRow
import Derived.Laws.Tables
import Derived.Laws.StructEq
import Derived.Laws.Small
import Derived.Laws.OwnMore
import Derived.Laws.MakeOwn
import Derived.Maps.AppendAt
set_option linter.all false
namespace Go.Cw

/-- A value: slices that nobody writes any more are lists; `osl`, `ptr`, `rptr` name blocks of the call's own by a number. -/
inductive AV where
  | int (k : IntKind) (n : Int)
  | bool (b : Bool)
  | nilsl
  | nilp
  | ag (cs : List AV)
  | sl (z : Option Nat) (es : List AV)
  | slx (z : Option Nat) (es : List AV)
  | ptr (id off : Nat)
  | osl (id : Nat)
  | rptr (id : Nat) (z : Option Nat) (i f : Nat)
  | eptr (z : Option Nat) (es : List AV) (i f : Nat)
  | fn (f : FuncId) (caps : List AV)
  | tup (vs : List AV)
  | any

/-- A block: cells; a row that a slice of the call's own has; one that is written no more; nothing. -/
inductive ABlk where
  | cells (t : TypeId) (cs : List AV)
  | row (e : TypeId) (z : Option Nat) (es : List AV)
  | frz (z : Option Nat) (es : List AV)
  | dead

def AV.cells : AV → List AV
  | .ag cs => cs
  | v => [v]

def zsize : Option Nat → Nat
  | some n => n
  | none => 1

def alook {α : Type} (d : α) : List (Nat × α) → Nat → α
  | [], _ => d
  | (k, v) :: r, t => match Nat.beq k t with | true => v | false => alook d r t

/-- A test. -/
def BM (t : Bool) (A B : Prop) : Prop := match t with | true => A | false => B
theorem BM.split {t : Bool} {A B : Prop} (h1 : t = true → A) (h2 : t = false → B) : BM t A B := by cases t; exact h2 rfl; exact h1 rfl
theorem BM.yes {t : Bool} {A B : Prop} (h : t = true) (k : A) : BM t A B := by subst h; exact k
theorem BM.no {t : Bool} {A B : Prop} (h : t = false) (k : B) : BM t A B := by subst h; exact k
theorem BM.elim {t : Bool} {A B : Prop} (h : BM t A B) : (t = true ∧ A) ∨ (t = false ∧ B) := by cases t; exact .inr ⟨rfl, h⟩; exact .inl ⟨rfl, h⟩

/-- A check. -/
def CK (t : Bool) (A : Prop) : Prop := match t with | true => A | false => False
theorem CK.elim {t : Bool} {A : Prop} (h : CK t A) : t = true ∧ A := by cases t; exact False.elim h; exact ⟨rfl, h⟩

/-- The check of a drawn order. -/
def CL (t : Bool) (A : Prop) : Prop := match t with | true => A | false => False
theorem CL.elim {t : Bool} {A : Prop} (h : CL t A) : t = true ∧ A := by cases t; exact False.elim h; exact ⟨rfl, h⟩
theorem CL.yes {t : Bool} {A : Prop} (h : t = true) (k : A) : CL t A := by subst h; exact k

/-- What is there. -/
def WE {α : Type} (o : Option α) (K : α → Prop) : Prop := match o with | some e => K e | none => False
theorem WE.intro {α : Type} {o : Option α} {K : α → Prop} {e : α} (h : o = some e) (k : K e) : WE o K := by subst h; exact k
theorem WE.elim {α : Type} {o : Option α} {K : α → Prop} (h : WE o K) : ∃ e, o = some e ∧ K e := by cases o with | none => exact False.elim h | some e => exact ⟨e, rfl, h⟩

inductive TD where
  | struct (fs : List (Nat × Nat))
  | array (len : Nat) (e : TypeId)
  | slice (e : TypeId)
  | int (k : IntKind)
  | bool
  | ptr
  | other

structure TI where
  size : Nat
  bytes : Nat
  d : TD
  zero : List AV
  ft : List TypeId := []
  cmp : Bool := false

def TI.agg (i : TI) : Bool := match i.d with | .struct _ => true | .array _ _ => true | _ => false
def TI.z (i : TI) : Option Nat := match i.agg with | true => some i.size | false => none

/-- What an operation does: its value, the blocks it looks at, the blocks as they are behind it, how many numbers it takes. -/
structure Ent where
  val : AV
  rb : List Nat := []
  up : List (Nat × ABlk) := []
  nf : Nat := 0

def constAV : Value → AV
  | .int k n => .int k n
  | .bool b => .bool b
  | .slice none 0 0 => .nilsl
  | .pointer none => .nilp
  | _ => .any

/-- A cell that may be stored: no aggregate. -/
def AV.isCell : AV → Bool
  | .any => false
  | .tup _ => false
  | .ag _ => false
  | _ => true
def allC : List AV → Bool
  | [] => true
  | v :: r => match v.isCell with | true => allC r | false => false
def AV.isLeaf : AV → Bool
  | .tup _ => false
  | .ag _ => false
  | .fn _ _ => false
  | _ => true
def allF : List AV → Bool
  | [] => true
  | v :: r => match v.isLeaf with | true => allF r | false => false
/-- A value that may be stored. -/
def AV.okv (v : AV) : Bool := allC v.cells

/-- Nothing of the call's own in it. -/
def AV.closedL : AV → Bool
  | .int _ _ => true
  | .bool _ => true
  | .nilsl => true
  | .nilp => true
  | .sl _ _ => true
  | .slx _ _ => true
  | _ => false
def allL : List AV → Bool
  | [] => true
  | v :: r => match v.closedL with | true => allL r | false => false
def AV.closed0 : AV → Bool
  | .fn _ caps => allL caps
  | v => v.closedL
def all0 : List AV → Bool
  | [] => true
  | v :: r => match v.closed0 with | true => all0 r | false => false
def AV.closed : AV → Bool
  | .ag cs => all0 cs
  | v => v.closed0
def all1 : List AV → Bool
  | [] => true
  | v :: r => match v.closed with | true => all1 r | false => false
def AV.closedT : AV → Bool
  | .tup vs => all1 vs
  | v => v.closed

/-- Other numbers. -/
def renL (p : Nat → Option Nat) : AV → AV
  | .ptr id off => match p id with | some j => .ptr j off | none => .any
  | .osl id => match p id with | some j => .osl j | none => .any
  | .rptr id z i f => match p id with | some j => .rptr j z i f | none => .any
  | v => v
def ren0 (p : Nat → Option Nat) : AV → AV
  | .fn f caps => .fn f (caps.map (renL p))
  | v => renL p v
def ren1 (p : Nat → Option Nat) : AV → AV
  | .ag cs => .ag (cs.map (ren0 p))
  | v => ren0 p v
def ren2 (p : Nat → Option Nat) : AV → AV
  | .tup vs => .tup (vs.map (ren1 p))
  | v => ren1 p v
def ABlk.ren (p : Nat → Option Nat) : ABlk → ABlk
  | .cells t cs => .cells t (cs.map (ren0 p))
  | x => x

/-- A leaf, its own row read as a list. -/
def clo0 (b : Nat → ABlk) : AV → AV
  | .osl id => match b id with
    | .row _ z es => .sl z es
    | .frz z es => .sl z es
    | _ => .osl id
  | v => v
def clo (b : Nat → ABlk) : AV → AV
  | .ag cs => .ag (cs.map (clo0 b))
  | v => clo0 b v
def cloT (b : Nat → ABlk) : AV → AV
  | .tup vs => .tup (vs.map (clo b))
  | v => clo b v
def ids0 : AV → List Nat
  | .osl id => [id]
  | _ => []
def ids : AV → List Nat
  | .ag cs => cs.flatMap ids0
  | v => ids0 v
def idsT : AV → List Nat
  | .tup vs => vs.flatMap ids
  | v => ids v
def frz (b : Nat → ABlk) (id : Nat) : ABlk := match b id with
  | .row _ z es => .frz z es
  | x => x
def frzs (b : Nat → ABlk) (l : List Nat) : List (Nat × ABlk) := l.map fun id => (id, frz b id)

def splice (cs : List AV) (off : Nat) (vs : List AV) : List AV := cs.take off ++ vs ++ cs.drop (off + vs.length)

def fillAV (place : Nat → Option (Nat × Nat)) (cells : List AV) : List (Nat × AV) → Option (List AV)
  | [] => some cells
  | (i, v) :: r => match place i with
    | some (off, size) => match Nat.beq v.cells.length size && Nat.ble (off + size) cells.length && v.okv with
      | true => fillAV place (splice cells off v.cells) r
      | false => none
    | none => none

def kbeq (k k' : IntKind) : Bool := match decide (k = k') with | true => true | false => false
def zbeq : Option Nat → Option Nat → Bool
  | none, none => true
  | some a, some b => Nat.beq a b
  | _, _ => false
/-- Two values are equal: cell by cell; the cells are of the zero value's kinds. -/
def ceq : AV → AV → AV → Option Bool
  | .int k _, .int k1 a, .int k2 b => match kbeq k k1 && kbeq k k2 with | true => some (a == b) | false => none
  | .bool _, .bool a, .bool b => some (a == b)
  | _, _, _ => none
def ceqs : List AV → List AV → List AV → Option Bool
  | [], [], [] => some true
  | z :: zs, x :: xs, y :: ys => match ceq z x y, ceqs zs xs ys with
    | some a, some b => some (a && b)
    | _, _ => none
  | _, _, _ => none

/-- A zero value, as values. -/
def zval : AV → Value
  | .int k n => .int k n
  | .bool b => .bool b
  | .nilsl => .slice none 0 0
  | .nilp => .pointer none
  | _ => undef
def zok : AV → Bool
  | .int _ _ => true
  | .bool _ => true
  | .nilsl => true
  | .nilp => true
  | _ => false

def idxIn (m : List Nat) (id : Nat) : Option Nat := match m with
  | [] => none
  | x :: r => match Nat.beq x id with | true => some 0 | false => (idxIn r id).map (· + 1)
def nodup : List Nat → Bool
  | [] => true
  | x :: r => match idxIn r x with | some _ => false | none => nodup r
def disj (l m : List Nat) : Bool := match l with
  | [] => true
  | x :: r => match idxIn m x with | some _ => false | none => disj r m

end Go.Cw

namespace Go.Cw

/-- What calls come to: the function, the blocks handed in, the arguments; the result, and the blocks behind the call. -/
structure Cx where
  ty : TypeId → Option TI
  calls : FuncId → List ABlk → List AV → AV → List ABlk → Prop

def abinInt (op : BinOp) (k : IntKind) (x y : Int) (K : AV → Prop) : Prop :=
  match op with
  | .add => K (.int k (k.wrap (x + y)))
  | .sub => K (.int k (k.wrap (x - y)))
  | .mul => K (.int k (k.wrap (x * y)))
  | .quo => BM (y == 0) False (K (.int k (k.wrap (x.tdiv y))))
  | .rem => BM (y == 0) False (K (.int k (x.tmod y)))
  | .and => K (.int k (k.wrap (BitVec.ofInt k.bits x &&& BitVec.ofInt k.bits y).toNat))
  | .or => K (.int k (k.wrap (BitVec.ofInt k.bits x ||| BitVec.ofInt k.bits y).toNat))
  | .xor => K (.int k (k.wrap (BitVec.ofInt k.bits x ^^^ BitVec.ofInt k.bits y).toNat))
  | .eql => K (.bool (x == y))
  | .neq => K (.bool (x != y))
  | .lss => K (.bool (decide (x < y)))
  | .leq => K (.bool (decide (x ≤ y)))
  | .gtr => K (.bool (decide (x > y)))
  | .geq => K (.bool (decide (x ≥ y)))
  | _ => False

def abin (i : TI) (op : BinOp) (x y : AV) (K : AV → Prop) : Prop :=
  match x, y with
  | .int k a, .int k' c => match op with
    | .shl => BM (decide (c < 0)) False (K (.int k (k.wrap (a * 2 ^ (min c.toNat k.bits)))))
    | .shr => BM (decide (c < 0)) False (K (.int k (a.fdiv (2 ^ (min c.toNat k.bits)))))
    | _ => BM (kbeq k k') (abinInt op k a c K) False
  | .bool a, .bool c => match i.d with
    | .bool => match op with
      | .eql => K (.bool (a == c))
      | .neq => K (.bool (!(a == c)))
      | _ => False
    | _ => False
  | .ag xs, .ag ys => match i.cmp with
    | true => (match op with
      | .eql => WE (ceqs i.zero xs ys) fun r => K (.bool r)
      | .neq => WE (ceqs i.zero xs ys) fun r => K (.bool (!r))
      | _ => False)
    | false => False
  | _, _ => False

def aun (op : UnOp) (x : AV) (K : AV → Prop) : Prop :=
  match op, x with
  | .neg, .int k n => K (.int k (k.wrap (0 - n)))
  | .xor, .int k n => K (.int k (k.wrap (BitVec.ofInt k.bits (if k.signed then -1 else k.max) ^^^ BitVec.ofInt k.bits n).toNat))
  | .not, .bool t => K (.bool !t)
  | _, _ => False

/-- What a part of some cells is, of a type. -/
def apart (i : TI) (cs : List AV) (off : Nat) (K : AV → Prop) : Prop :=
  match i.agg with
  | true => BM (Nat.ble (off + i.size) cs.length) (K (.ag ((cs.drop off).take i.size))) False
  | false => WE cs[off]? K

/-- An element, or a part of one. -/
def aelem (i : TI) (z : Option Nat) (es : List AV) (j f : Nat) (K : AV → Prop) : Prop :=
  WE es[j]? fun e => match z with
    | none => match i.agg with
      | true => False
      | false => match f with | 0 => K e | _ => False
    | some n => match e with
      | .ag cs => match i.agg with
        | true => BM (Nat.ble (f + i.size) n) (K (.ag ((cs.drop f).take i.size))) False
        | false => BM (Nat.blt f n) (WE cs[f]? K) False
      | _ => False

def aload (C : Cx) (b : Nat → ABlk) (t : TypeId) (x : AV) (K : Ent → Prop) : Prop :=
  WE (C.ty t) fun i => match x with
    | .ptr id off => match b id with
      | .cells _ cs => apart i cs off fun v => K { val := v, rb := [id] }
      | _ => False
    | .eptr z es j f => aelem i z es j f fun v => K { val := v }
    | .rptr id z' j f => match b id with
      | .row _ z es => BM (zbeq z z') (aelem i z es j f fun v => K { val := v, rb := [id] }) False
      | _ => False
    | _ => False

/-- An element with a part of it written. -/
def setPart (z : Option Nat) (e : AV) (f : Nat) (v : AV) : AV :=
  match z with
  | none => v
  | some _ => match e with
    | .ag cs => .ag (splice cs f v.cells)
    | _ => e

def setOk (z : Option Nat) (v el : AV) (f : Nat) : Bool :=
  match z with
  | none => v.isCell && Nat.beq f 0
  | some _ => match el with
    | .ag _ => true
    | _ => false

def astore (C : Cx) (b : Nat → ABlk) (t : TypeId) (x v : AV) (K : Ent → Prop) : Prop :=
  WE (C.ty t) fun i => BM (v.okv && Nat.beq v.cells.length i.size) (match x with
    | .ptr id off => match b id with
      | .cells t' cs => BM (Nat.ble (off + i.size) cs.length) (K { val := .any, rb := [id], up := [(id, .cells t' (splice cs off v.cells))] }) False
      | _ => False
    | .rptr id z' j f => match b id with
      | .row e z es => WE es[j]? fun el => BM (zbeq z z' && Nat.ble (f + i.size) (zsize z) && (clo b v).closed && setOk z v el f && disj (ids v) [id])
          (K { val := .any, rb := id :: ids v, up := (id, .row e z (es.set j (setPart z el f (clo b v)))) :: frzs b (ids v) }) False
      | _ => False
    | _ => False) False

def aindexAddr (C : Cx) (b : Nat → ABlk) (t : TypeId) (x ix : AV) (K : Ent → Prop) : Prop :=
  match ix with
  | .int _ n => WE (C.ty t) fun i => match i.d with
    | .array len e => match x with
      | .ptr id off => WE (C.ty e) fun ei => BM (decide (0 ≤ n) && decide (n < len)) (K { val := .ptr id (off + n.toNat * ei.size) }) False
      | _ => False
    | .slice e => WE (C.ty e) fun ei => match x with
      | .sl z es => BM (Nat.beq (zsize z) ei.size && decide (0 ≤ n) && decide (n < es.length)) (K { val := .eptr z es n.toNat 0 }) False
      | .slx z es => BM (Nat.beq (zsize z) ei.size && decide (0 ≤ n) && decide (n < es.length)) (K { val := .eptr z es n.toNat 0 }) False
      | .osl id => match b id with
        | .row _ z es => BM (Nat.beq (zsize z) ei.size && decide (0 ≤ n) && decide (n < es.length)) (K { val := .rptr id z n.toNat 0, rb := [id] }) False
        | .frz z es => BM (Nat.beq (zsize z) ei.size && decide (0 ≤ n) && decide (n < es.length)) (K { val := .eptr z es n.toNat 0, rb := [id] }) False
        | _ => False
      | _ => False
    | _ => False
  | _ => False

def afieldAddr (C : Cx) (t : TypeId) (x : AV) (f : Nat) (K : Ent → Prop) : Prop :=
  WE (C.ty t) fun i => match i.d with
    | .struct fs => WE fs[f]? fun p => BM (Nat.blt 0 p.2) (match x with
      | .ptr id off => K { val := .ptr id (off + p.1) }
      | .eptr z es j f => K { val := .eptr z es j (f + p.1) }
      | .rptr id z j f => K { val := .rptr id z j (f + p.1) }
      | _ => False) False
    | _ => False

/-- An own row's, or a list's, elements. -/
def alist (b : Nat → ABlk) : AV → Option (Option Nat × List AV)
  | .sl z es => some (z, es)
  | .slx z es => some (z, es)
  | .nilsl => some (none, [])
  | .osl id => match b id with
    | .row _ z es => some (z, es)
    | .frz z es => some (z, es)
    | _ => none
  | _ => none

def rbOf : AV → List Nat
  | .osl id => [id]
  | _ => []

def alen (b : Nat → ABlk) (x : AV) (K : Ent → Prop) : Prop :=
  WE (alist b x) fun p => K { val := .int .i64 p.2.length, rb := rbOf x }

def asliceP (b : Nat → ABlk) (x : AV) (z : Option Nat) (es : List AV) (lo hi mx : Option AV) (K : Ent → Prop) : Prop :=
  match lo, hi, mx with
  | none, some (.int _ h), none => BM (decide (0 ≤ h) && decide (h ≤ es.length)) (K { val := .sl z (es.take h.toNat), rb := rbOf x, up := frzs b (rbOf x) }) False
  | some (.int _ l), none, none => BM (decide (0 ≤ l) && decide (l ≤ es.length)) (K { val := .sl z (es.drop l.toNat), rb := rbOf x, up := frzs b (rbOf x) }) False
  | some (.int _ l), some (.int _ h), none => BM (decide (0 ≤ l) && decide (l ≤ h) && decide (h ≤ es.length)) (K { val := .sl z ((es.take h.toNat).drop l.toNat), rb := rbOf x, up := frzs b (rbOf x) }) False
  | none, some (.int _ h), some (.int _ m) => BM (decide (0 ≤ h) && decide (h = m) && decide (h ≤ es.length)) (K { val := .slx z (es.take h.toNat), rb := rbOf x, up := frzs b (rbOf x) }) False
  | _, _, _ => False
def asliceL (sz : Nat) (b : Nat → ABlk) (x : AV) (lo hi mx : Option AV) (K : Ent → Prop) : Prop :=
  WE (alist b x) fun p => BM (Nat.beq (zsize p.1) sz) (asliceP b x p.1 p.2 lo hi mx K) False
def aslice (sz : Nat) (b : Nat → ABlk) (x : AV) (lo hi mx : Option AV) (K : Ent → Prop) : Prop :=
  match x with
  | .nilsl => match lo, hi, mx with
    | none, some (.int _ h), none => BM (h == 0) (K { val := .nilsl }) False
    | some (.int _ l), none, none => BM (l == 0) (K { val := .nilsl }) False
    | _, _, _ => False
  | .sl z es => asliceL sz b (.sl z es) lo hi mx K
  | .slx z es => asliceL sz b (.slx z es) lo hi mx K
  | .osl id => asliceL sz b (.osl id) lo hi mx K
  | _ => False

/-- append(x, y..): onto a row of one's own; onto nil; onto a slice without room. -/
def aappend (C : Cx) (b : Nat → ABlk) (n : Nat) (t : TypeId) (x y : AV) (K : Ent → Prop) : Prop :=
  WE (C.ty t) fun i => match i.d with
    | .slice e => WE (C.ty e) fun ei => WE (alist b y) fun q => match x with
      | .osl id => match b id with
        | .row e' z es => BM (Nat.beq e e' && zbeq z ei.z && Nat.blt 0 ei.size && disj (rbOf y) [id]) ((es.length + q.2.length) * ei.bytes ≤ 140737488355328 ∧ es.length + q.2.length ≤ 140737488355328 ∧ (q.2 = [] ∨ q.1 = z) ∧
            K { val := .osl n, rb := id :: rbOf y, up := (id, .dead) :: (n, .row e' z (es ++ q.2)) :: frzs b (rbOf y), nf := 1 }) False
        | _ => False
      | .nilsl => BM (Nat.blt 0 ei.size) (q.2.length * ei.bytes ≤ 140737488355328 ∧ q.2.length ≤ 140737488355328 ∧ (q.2 = [] ∨ q.1 = ei.z) ∧
            K { val := .osl n, rb := rbOf y, up := (n, .row e ei.z q.2) :: frzs b (rbOf y), nf := 1 }) False
      | .slx z es => BM (Nat.blt 0 ei.size) (BM (decide (0 < q.2.length)) ((es.length + q.2.length) * ei.bytes ≤ 140737488355328 ∧ es.length + q.2.length ≤ 140737488355328 ∧ q.1 = ei.z ∧ (es = [] ∨ z = ei.z) ∧
            K { val := .osl n, rb := rbOf y, up := (n, .row e ei.z (es ++ q.2)) :: frzs b (rbOf y), nf := 1 }) (K { val := .slx z es, rb := rbOf y, up := frzs b (rbOf y) })) False
      | _ => False
    | _ => False

def zeroEl (ei : TI) : AV := match ei.z with | none => ei.zero.getD 0 .any | some _ => .ag ei.zero

def amake (C : Cx) (n : Nat) (t : TypeId) (l c : AV) (K : Ent → Prop) : Prop :=
  WE (C.ty t) fun i => match i.d with
    | .slice e => WE (C.ty e) fun ei => match l, c with
      | .int _ x, .int _ y => BM (Nat.blt 0 ei.size) (0 ≤ x ∧ x = y ∧ x * ei.bytes ≤ 140737488355328 ∧ x ≤ 140737488355328 ∧
          K { val := .osl n, up := [(n, .row e ei.z (List.replicate x.toNat (zeroEl ei)))], nf := 1 }) False
      | _, _ => False
    | _ => False

/-- copy(x, y): a row of one's own is written, all of it. -/
def acopy (C : Cx) (b : Nat → ABlk) (t : TypeId) (x y : AV) (K : Ent → Prop) : Prop :=
  WE (C.ty t) fun i => match i.d with
    | .slice e => WE (C.ty e) fun ei => match x with
      | .osl id => match b id with
        | .row e' z es => WE (alist b y) fun q => BM (Nat.beq e e' && zbeq z ei.z && Nat.blt 0 ei.size && disj (rbOf y) [id] && Nat.beq q.2.length es.length) ((q.2 = [] ∨ q.1 = z) ∧
            K { val := .int .i64 (es.length : Nat), rb := id :: rbOf y, up := (id, .row e' z q.2) :: frzs b (rbOf y) }) False
        | _ => False
      | _ => False
    | _ => False

def aminmax (mx : Bool) : List AV → Option AV
  | [.int k x, .int _ y] => some (.int k (match mx with | true => if y > x then y else x | false => if y < x then y else x))
  | _ => none

/-- The elements of a slice's literal. -/
def litRow (es : List AV) : List (Nat × AV) → List AV
  | [] => es
  | (i, v) :: r => litRow (es.set i v) r

def abuildSlice (C : Cx) (b : Nat → ABlk) (n : Nat) (t : TypeId) (len : Nat) (ps : List (Nat × AV)) (K : Ent → Prop) : Prop :=
  WE (C.ty t) fun i => match i.d with
    | .slice e => WE (C.ty e) fun ei =>
      BM (Nat.blt 0 ei.size && Nat.ble (len * ei.size) 16777216 && ps.all (fun p => p.2.okv && Nat.blt p.1 len && Nat.beq p.2.cells.length ei.size && (clo b p.2).closed && match ei.z, p.2 with | some _, .ag _ => true | none, .ag _ => false | none, _ => true | some _, _ => false))
        (K { val := .osl n, rb := ps.flatMap (fun p => ids p.2), nf := 1,
             up := (n, .row e ei.z (litRow (List.replicate len (zeroEl ei)) (ps.map fun p => (p.1, clo b p.2)))) :: frzs b (ps.flatMap (fun p => ids p.2)) }) False
    | _ => False

def abuild (C : Cx) (t : TypeId) (ps : List (Nat × AV)) (K : Ent → Prop) : Prop :=
  WE (C.ty t) fun i => match i.d with
    | .struct fs => WE (fillAV (fun j => fs[j]?) i.zero ps) fun cs => K { val := .ag cs }
    | .array _ e => WE (C.ty e) fun ei => WE (fillAV (fun j => some (j * ei.size, ei.size)) i.zero ps) fun cs => K { val := .ag cs }
    | _ => False

/-- A call of a function with arguments that hold nothing of the call's own but rows, which are read as lists from now on. -/
def RC (C : Cx) (f : FuncId) (args : List AV) (K : AV → Prop) (alt : Prop) : Prop := (∃ r, C.calls f [] args r [] ∧ r.closedT = true ∧ K r) ∨ alt
theorem RC.use {C : Cx} {f : FuncId} {args : List AV} {K : AV → Prop} {alt : Prop} {r : AV} (h : C.calls f [] args r []) (hc : r.closedT = true) (k : K r) : RC C f args K alt := .inl ⟨r, h, hc, k⟩
theorem RC.use_eq {C : Cx} {f : FuncId} {args args' : List AV} {K : AV → Prop} {alt : Prop} {r : AV} (e : args = args') (h : C.calls f [] args' r []) (hc : r.closedT = true) (k : K r) : RC C f args K alt := .inl ⟨r, e ▸ h, hc, k⟩
/-- The function lays blocks that come back. -/
theorem RC.new {C : Cx} {f : FuncId} {args : List AV} {K : AV → Prop} {alt : Prop} (h : alt) : RC C f args K alt := .inr h

/-- Behind a call: the numbers that blocks of the callee have here. -/
def backNo (n : Nat) (m : List Nat) (bs : List ABlk) (j : Nat) : Option Nat :=
  match bs[j]? with
  | some (.cells _ _) => match m[j]? with
    | some id => some id
    | none => some (n + j)
  | some _ => some (n + j)
  | none => none
def backUp1 (n : Nat) (p : Nat → Option Nat) (id j : Nat) : ABlk → List (Nat × ABlk)
  | .cells t cs => [(id, ABlk.ren p (.cells t cs))]
  | x => [(id, .dead), (n + j, x)]
def backUp (n : Nat) (p : Nat → Option Nat) : List Nat → List ABlk → Nat → List (Nat × ABlk)
  | id :: m, x :: r, j => backUp1 n p id j x ++ backUp n p m r (j + 1)
  | [], x :: r, j => (n + j, x.ren p) :: backUp n p [] r (j + 1)
  | _, _, _ => []

def shape1 : ABlk → ABlk → Bool
  | .cells _ _, .cells _ _ => true
  | .cells _ _, _ => false
  | _, _ => true
/-- The numbers are numbers of this call's, the blocks behind of the kinds of those ahead. -/
def shapeOk (b : Nat → ABlk) (n : Nat) : List Nat → List ABlk → Bool
  | id :: m, x :: r => Nat.blt id n && shape1 x (b id) && shapeOk b n m r
  | [], _ => true
  | _, _ => false

/-- A call of a function that is handed blocks of the call's own. -/
def OC (C : Cx) (b : Nat → ABlk) (n : Nat) (f : FuncId) (args : List AV) (K : Ent → Prop) : Prop :=
  ∃ (m : List Nat) (r : AV) (bs : List ABlk), nodup m = true ∧ C.calls f (m.map fun id => (b id).ren (idxIn m)) (args.map fun x => ren1 (idxIn m) x) r bs ∧ shapeOk b n m bs = true ∧
    K { val := ren2 (backNo n m bs) r, rb := m, up := backUp n (backNo n m bs) m bs 0, nf := bs.length }
theorem OC.use {C : Cx} {b : Nat → ABlk} {n : Nat} {f : FuncId} {args : List AV} {K : Ent → Prop} (m : List Nat) {r : AV} {bs : List ABlk} (hn : nodup m = true)
    (h : C.calls f (m.map fun id => (b id).ren (idxIn m)) (args.map fun x => ren1 (idxIn m) x) r bs) (hl : shapeOk b n m bs = true)
    (k : K { val := ren2 (backNo n m bs) r, rb := m, up := backUp n (backNo n m bs) m bs 0, nf := bs.length }) : OC C b n f args K := ⟨m, r, bs, hn, h, hl, k⟩

def noTup : List AV → Bool
  | [] => true
  | .tup _ :: _ => false
  | _ :: r => noTup r
def acallF (C : Cx) (b : Nat → ABlk) (n : Nat) (f : FuncId) (args : List AV) (K : Ent → Prop) : Prop :=
  BM (all1 (args.map (clo b))) (RC C f (args.map (clo b)) (fun r => K { val := r, rb := args.flatMap ids, up := frzs b (args.flatMap ids) }) (BM (noTup args) (OC C b n f args K) False)) (BM (noTup args) (OC C b n f args K) False)

def acall (C : Cx) (b : Nat → ABlk) (n : Nat) (g : Operand → AV) (c : Call) (K : Ent → Prop) : Prop :=
  match c.callee with
  | .value x => match g x with
    | .fn f caps => acallF C b n f (c.args.toList.map g ++ caps) K
    | _ => False
  | .builtin .len => match c.args.toList, c.argTypes.toList with
    | [x], [t] => WE (C.ty t) fun i => match i.d with
      | .slice _ => alen b (g x) K
      | _ => False
    | _, _ => False
  | .builtin .append => match c.args.toList, c.argTypes.toList with
    | [x, y], [t, t'] => BM (Nat.beq t t') (aappend C b n t (g x) (g y) K) False
    | _, _ => False
  | .builtin .copy => match c.args.toList, c.argTypes.toList.head? with
    | [x, y], some t => acopy C b t (g x) (g y) K
    | _, _ => False
  | .builtin .min => WE (aminmax false (c.args.toList.map g)) fun v => K { val := v }
  | .builtin .max => WE (aminmax true (c.args.toList.map g)) fun v => K { val := v }
  | _ => False

def aop (C : Cx) (b : Nat → ABlk) (n : Nat) (g : Operand → AV) (op : Op) (K : Ent → Prop) : Prop :=
  match op with
  | .move x => K { val := g x }
  | .assign x => K { val := g x }
  | .pick c x y => match g c with
    | .bool t => BM t (K { val := g x }) (K { val := g y })
    | _ => False
  | .alloc t => WE (C.ty t) fun i => K { val := .ptr n 0, up := [(n, .cells t i.zero)], nf := 1 }
  | .box t x => BM (g x).okv (K { val := .ptr n 0, up := [(n, .cells t (g x).cells)], nf := 1 }) False
  | .build t ps => abuild C t (ps.toList.map fun p => (p.1, g p.2)) K
  | .buildSlice t len ps => abuildSlice C b n t len (ps.toList.map fun p => (p.1, g p.2)) K
  | .load t x => aload C b t (g x) K
  | .store t x v => astore C b t (g x) (g v) K
  | .nilCheck x => match g x with
    | .ptr id off => K { val := .ptr id off }
    | .rptr id z i f => K { val := .rptr id z i f }
    | .eptr z es i f => K { val := .eptr z es i f }
    | _ => False
  | .binOp op t x y _ => WE (C.ty t) fun i => abin i op (g x) (g y) fun v => K { val := v }
  | .unOp op _ x => aun op (g x) fun v => K { val := v }
  | .convert s d x => WE (C.ty s) fun _ => WE (C.ty d) fun i => match i.d, g x with
    | .int k, .int _ n => K { val := .int k (k.wrap n) }
    | _, _ => False
  | .makeFunc (.func f) first caps => match first.toList with
    | [] => BM (allF (caps.toList.map g)) (K { val := .fn f (caps.toList.map g) }) False
    | _ => False
  | .makeSlice t l c => amake C n t (g l) (g c) K
  | .slice t x lo hi mx => WE (C.ty t) fun i => match i.d with
    | .slice e => WE (C.ty e) fun ei => aslice ei.size b (g x) (lo.map g) (hi.map g) (mx.map g) K
    | _ => False
  | .fieldAddr t x f => afieldAddr C t (g x) f K
  | .field t x f => WE (C.ty t) fun i => match i.d, g x with
    | .struct fs, .ag cs => WE fs[f]? fun p => WE i.ft[f]? fun t' => WE (C.ty t') fun i' => apart i' cs p.1 fun v => K { val := v }
    | _, _ => False
  | .indexAddr t x i => aindexAddr C b t (g x) (g i) K
  | .index t x ix => WE (C.ty t) fun i => match i.d, g x, g ix with
    | .array len e, .ag cs, .int _ n => WE (C.ty e) fun ei => BM (decide (0 ≤ n) && decide (n < len)) (apart ei cs (n.toNat * ei.size) fun v => K { val := v }) False
    | _, _, _ => False
  | .extract x i => match g x with
    | .tup vs => WE vs[i]? fun v => K { val := v }
    | _ => False
  | .call c => acall C b n g c K
  | _ => False

/-! ### A state, a region, a body -/
structure St where
  env : List (Nat × AV)
  blks : List (Nat × ABlk)
  nid : Nat

def St.get (s : St) (t : Nat) : AV := alook .any s.env t
def St.blk (s : St) (id : Nat) : ABlk := alook .dead s.blks id
def St.ev (s : St) : Operand → AV
  | .tmp t => s.get t
  | .const v => constAV v
  | .func f => .fn f []
  | .global _ => .any
def St.put (s : St) (t : Nat) (v : AV) : St := { s with env := (t, v) :: s.env }
def St.putO (s : St) (t : Option Nat) (v : AV) : St := match t with | some t => s.put t v | none => s
def St.app (s : St) (dst : Option Nat) (e : Ent) : St :=
  { env := (match dst with | some t => (t, e.val) :: s.env | none => s.env), blks := e.up ++ s.blks, nid := s.nid + e.nf }

/-- What an operation of a region looked at, and wrote. -/
structure Log where
  rb : List Nat
  wb : List Nat

def opTmps (o : Op) : List Nat := o.operands.toList.filterMap fun | .tmp t => some t | _ => none
def rdOf (all : List Oper) (o : Oper) : List Nat :=
  opTmps o.op ++ (match o.guard with
    | some (j, _) => (match (all[j]?).bind (·.dst) with | some d => [d] | none => [])
    | none => [])

/-- Two operations don't hinder each other. -/
def calm (all : List Oper) (o o' : Oper) (e e' : Log) : Bool :=
  disj o.dst.toList (rdOf all o') && disj o'.dst.toList (rdOf all o) && disj o.dst.toList o'.dst.toList && disj e.wb (e'.rb ++ e'.wb) && disj e'.wb e.rb

/-- Each later operation waits for an earlier one, or the two are calm. -/
def okPairs (all : List Oper) (bef : List Nat) : List (Nat × Oper × Log) → Bool
  | [] => true
  | (j, o, e) :: r => (r.all fun q => (bef.getD q.1 0).testBit j || calm all o q.2.1 e q.2.2) && okPairs all bef r

def number {α : Type} : Nat → List α → List (Nat × α)
  | _, [] => []
  | i, x :: r => (i, x) :: number (i + 1) r

/-- What an operation waits for, directly or not. -/
def befO (look : Nat → Nat) : List Edge → Nat
  | [] => 0
  | e :: r => match Region.binds .any e with
    | true => 2 ^ e.on ||| (look e.on ||| befO look r)
    | false => befO look r
def forceN {α : Type} (n : Nat) (k : Nat → α) : α := match n with | 0 => k 0 | m + 1 => k (m + 1)
def befs : List Oper → List Nat → List Nat
  | [], acc => acc
  | o :: r, acc => forceN (befO (fun i => acc.getD i 0) o.after.toList) fun v => befs r (acc ++ [v])
/-- An operation waits for earlier ones alone. -/
def earlier : Nat → List Oper → Bool
  | _, [] => true
  | k, o :: r => (o.after.toList.all fun e => !Region.binds .any e || Nat.blt e.on k) && earlier (k + 1) r

def okLog (all : List Oper) (log : List Log) : Bool :=
  Nat.beq all.length log.length && earlier 0 all && okPairs all (befs all []) (number 0 (all.zip log))

def allLt (n : Nat) : List (Nat × ABlk) → Bool
  | [] => true
  | (id, _) :: r => match Nat.blt id n with | true => allLt n r | false => false
def newIds (n : Nat) : Nat → List Nat
  | 0 => []
  | k + 1 => (n + k) :: newIds n k
def logOf (n : Nat) (e : Ent) : Log := ⟨e.rb, e.up.map (·.1) ++ newIds n e.nf⟩

/-- An operation of a region, `ih` what is asked of the rest. -/
def astep (C : Cx) (N : Nat) (all : List Oper) (o : Oper) (ih : St → List Log → Prop) (s : St) (log : List Log) : Prop :=
  let go (s : St) : Prop := aop C s.blk s.nid s.ev o.op fun e => CK (allLt (s.nid + e.nf) e.up) (match o.dst with
    | some d => CK (Nat.blt d N) (ih (s.app o.dst e) (logOf s.nid e :: log))
    | none => ih (s.app o.dst e) (logOf s.nid e :: log))
  let skip (s : St) : Prop := ih (s.putO o.dst (.tup [])) (⟨[], []⟩ :: log)
  match o.guard with
  | none => go s
  | some (j, want) => WE ((all[j]?).bind (·.dst)) fun d => match s.get d with
    | .bool t => BM t (match want with | true => go (s.put d (.bool true)) | false => skip (s.put d (.bool true)))
        (match want with | true => skip (s.put d (.bool false)) | false => go (s.put d (.bool false)))
    | .tup _ => skip s
    | _ => False
def aseq (C : Cx) (N : Nat) (all : List Oper) (r : List Oper) (s : St) (log : List Log) (K : St → List Log → Prop) : Prop :=
  @List.rec Oper (fun _ => St → List Log → Prop) K (fun o _ ih => astep C N all o ih) r s log
theorem aseq_nil (C : Cx) (N : Nat) (all : List Oper) (s : St) (log : List Log) (K : St → List Log → Prop) : aseq C N all [] s log K = K s log := rfl
theorem aseq_cons (C : Cx) (N : Nat) (all : List Oper) (o : Oper) (r : List Oper) (s : St) (log : List Log) (K : St → List Log → Prop) :
    aseq C N all (o :: r) s log K = astep C N all o (fun s log => aseq C N all r s log K) s log := rfl

/-- Every number in it has another. -/
def mappedL (p : Nat → Option Nat) : AV → Bool
  | .ptr id _ => (p id).isSome
  | .osl id => (p id).isSome
  | .rptr id _ _ _ => (p id).isSome
  | _ => true
def mappedLs (p : Nat → Option Nat) : List AV → Bool
  | [] => true
  | v :: r => match mappedL p v with | true => mappedLs p r | false => false
def mapped0 (p : Nat → Option Nat) : AV → Bool
  | .fn _ caps => mappedLs p caps
  | v => mappedL p v
def mapped0s (p : Nat → Option Nat) : List AV → Bool
  | [] => true
  | v :: r => match mapped0 p v with | true => mapped0s p r | false => false
def mapped1 (p : Nat → Option Nat) : AV → Bool
  | .ag cs => mapped0s p cs
  | v => mapped0 p v
def mapped1s (p : Nat → Option Nat) : List AV → Bool
  | [] => true
  | v :: r => match mapped1 p v with | true => mapped1s p r | false => false
def mapped2 (p : Nat → Option Nat) : AV → Bool
  | .tup vs => mapped1s p vs
  | v => mapped1 p v
def mappedB (p : Nat → Option Nat) : ABlk → Bool
  | .cells _ cs => mapped0s p cs
  | _ => true

/-- What a state says of its temporaries and blocks another one says too, the blocks under other numbers. -/
def envLe (s : St) (p : Nat → Option Nat) : List (Nat × AV) → Prop
  | [] => True
  | (t, v) :: r => s.get t = ren2 p v ∧ mapped2 p v = true ∧ envLe s p r
def blkLe (s : St) (p : Nat → Option Nat) : List (Nat × ABlk) → Prop
  | [] => True
  | (id, x) :: r => (match p id with | some j => s.blk j = x.ren p | none => False) ∧ mappedB p x = true ∧ blkLe s p r
def pmap (l : List (Nat × Nat)) (id : Nat) : Option Nat := alook none (l.map fun q => (q.1, some q.2)) id
def keysLt (n : Nat) : List (Nat × Nat) → Bool
  | [] => true
  | (k, _) :: r => match Nat.blt k n with | true => keysLt n r | false => false
/-- The numbers that were handed in stay. -/
def baseOk (l : List (Nat × Nat)) : Nat → Bool
  | 0 => true
  | k + 1 => match pmap l k with
    | some j => match Nat.beq j k with | true => baseOk l k | false => false
    | none => false
structure St.le (nb : Nat) (l : List (Nat × Nat)) (s s' : St) : Prop where
  base : baseOk l nb = true
  inj : nodup (l.map (·.2)) = true
  lt : keysLt s'.nid l = true
  env : envLe s (pmap l) s'.env
  blks : blkLe s (pmap l) s'.blks

def AW (C : Cx) (N nb : Nat) (c : Code) (Q : Exit → St → Prop) (s : St) : Prop :=
  @Code.rec (fun _ => (Exit → St → Prop) → St → Prop)
    (fun Q s => Q .normal s)
    (fun _ ops draw Q s => aseq C N ops.toList ops.toList s [] fun s' log => match draw with
      | true => CL (okLog ops.toList log.reverse) (Q .normal s')
      | false => Q .normal s')
    (fun _ _ x y Q s => x (fun e s => match e with | .normal => y Q s | e => Q e s) s)
    (fun c _ _ x y Q s => match s.ev c with
      | .bool t => BM t (x Q s) (y Q s)
      | _ => False)
    (fun id _ x Q s => x (fun e s => match e with
      | .exit id' => match Nat.beq id' id with | true => Q .normal s | false => Q (.exit id') s
      | e => Q e s) s)
    (fun _ x Q s => ∃ (X : Type) (σ : X → St) (I : X → Prop) (μ : X → Nat) (x0 : X) (l : List (Nat × Nat)), I x0 ∧ St.le nb l s (σ x0) ∧
      ∀ x0, I x0 → x (fun e s' => match e with
        | .normal => ∃ x' l', I x' ∧ μ x' < μ x0 ∧ St.le nb l' s' (σ x')
        | e => Q e s') (σ x0))
    (fun _ _ _ _ _ _ _ _ => False)
    (fun id Q s => Q (.exit id) s)
    (fun _ _ _ _ => False)
    (fun _ Q s => Q .normal s)
    (fun _ _ _ => False)
    (fun Q s => Q .ret s)
    (fun _ _ _ => False) c Q s

/-- What a function hands back. -/
def araw1 (C : Cx) (s : St) : ResultVar → Option AV
  | .tmp t => some (s.get t)
  | .cell a t => match s.get a, C.ty t with
    | .ptr id off, some i => match s.blk id with
      | .cells _ cs => match i.agg with
        | true => match Nat.ble (off + i.size) cs.length with | true => some (.ag ((cs.drop off).take i.size)) | false => none
        | false => cs[off]?
      | _ => none
    | _, _ => none
def arawL (C : Cx) (s : St) : List ResultVar → Option (List AV)
  | [] => some []
  | x :: r => match araw1 C s x, arawL C s r with
    | some v, some vs => some (v :: vs)
    | _, _ => none
def one1 : List AV → AV
  | [v] => v
  | vs => .tup vs

/-- The blocks that were handed in, as they are at the end. -/
def aback (B : Nat → ABlk) : Nat → List ABlk → Prop
  | _, [] => True
  | j, x :: r => B j = x ∧ aback B (j + 1) r

/-- The end of a body: the result, closed, and the blocks. -/
def AFin (C : Cx) (fn : Func) (r : AV) (bs : List ABlk) (s : St) : Prop :=
  WE (arawL C s fn.results.toList) fun vs => r = one1 (vs.map (clo s.blk)) ∧ (one1 (vs.map (clo s.blk))).closedT = true ∧ aback (fun id => alook (s.blk id) (frzs s.blk (vs.flatMap ids)) id) 0 bs
def AEnd (C : Cx) (fn : Func) (r : AV) (bs : List ABlk) : Exit → St → Prop
  | .normal, s => AFin C fn r bs s
  | .ret, s => AFin C fn r bs s
  | _, _ => False

/-- The same, where blocks come back that the function laid. -/
def AFin2 (C : Cx) (fn : Func) (r : AV) (bs : List ABlk) (s : St) : Prop :=
  WE (arawL C s fn.results.toList) fun vs => r = one1 vs ∧ noTup vs = true ∧ aback s.blk 0 bs
def AEnd2 (C : Cx) (fn : Func) (r : AV) (bs : List ABlk) : Exit → St → Prop
  | .normal, s => AFin2 C fn r bs s
  | .ret, s => AFin2 C fn r bs s
  | _, _ => False

def argEnv : Nat → List AV → List (Nat × AV)
  | _, [] => []
  | i, v :: r => (i, v) :: argEnv (i + 1) r
def astart (bs : List ABlk) (args : List AV) : St := { env := argEnv 0 args, blks := number 0 bs, nid := bs.length }

end Go.Cw

set_option linter.unusedVariables false
set_option linter.unusedSimpArgs false
namespace Go.Cw

theorem BM_true {A B : Prop} : BM true A B = A := rfl
theorem BM_false {A B : Prop} : BM false A B = B := rfl

/-! ### Memory that nobody writes any more -/
abbrev PH := Nat → Option Obj
def PH.cell (h : PH) (a : Addr) : Option Value :=
  match h a.block with
  | some (.cells c _ _) => if a.spot.isSome then none else c[a.off]?
  | _ => none
def PH.le (h h' : PH) : Prop := ∀ g o, h g = some o → h' g = some o
def PH.In (h : PH) (w : World) : Prop := ∀ g o, h g = some o → w.heap[g]? = some o
theorem PH.le_refl (h : PH) : h.le h := fun _ _ e => e
theorem PH.le.trans {h h' h'' : PH} (a : h.le h') (b : h'.le h'') : h.le h'' := fun g o e => b g o (a g o e)
theorem PH.le.cell {h h' : PH} (l : h.le h') {a : Addr} {v : Value} (e : h.cell a = some v) : h'.cell a = some v := by
  unfold PH.cell at *
  cases hb : h a.block with
  | none => simp [hb] at e
  | some o => rw [l _ _ hb]; rw [hb] at e; exact e
theorem PH.In.cell {h : PH} {w : World} (l : h.In w) {a : Addr} {v : Value} (e : h.cell a = some v) : w.cell? a = some v := by
  unfold PH.cell at e
  unfold World.cell?
  cases hb : h a.block with
  | none => simp [hb] at e
  | some o => rw [l _ _ hb]; rw [hb] at e; exact e

def zform (z : Option Nat) (e : AV) : Prop :=
  match z with
  | none => e.isCell = true ∧ e.closed0 = true
  | some n => ∃ cs, e = .ag cs ∧ cs.length = n ∧ allC cs = true ∧ all0 cs = true

theorem zform_cells {z : Option Nat} {e : AV} (h : zform z e) : e.cells.length = zsize z := by
  cases z with
  | none => cases e <;> simp_all [zform, AV.isCell, AV.cells, zsize]
  | some n => obtain ⟨cs, rfl, hl, _⟩ := h; exact hl

theorem zform_closed {z : Option Nat} {e : AV} (h : zform z e) : e.closed = true := by
  cases z with
  | none => obtain ⟨h1, h2⟩ := h; cases e <;> first | exact h2 | cases h1
  | some n => obtain ⟨cs, rfl, _, _, h⟩ := h; exact h

/-- A closed value stands for one of the model's, in memory that nobody writes. -/
inductive Rv (h : PH) : AV → Value → Prop
  | int (k : IntKind) (n : Int) : Rv h (.int k n) (.int k n)
  | bool (b : Bool) : Rv h (.bool b) (.bool b)
  | nilsl : Rv h .nilsl (.slice none 0 0)
  | nilp : Rv h .nilp (.pointer none)
  | ag (cs : List AV) (vs : List Value) (hl : vs.length = cs.length) (hv : ∀ (j : Nat) c v, cs[j]? = some c → vs[j]? = some v → Rv h c v) : Rv h (.ag cs) (.agg vs.toArray)
  | sl0 (z : Option Nat) (a : Option Addr) (c : Nat) : Rv h (.sl z []) (.slice a 0 c)
  | sl (z : Option Nat) (es : List AV) (ad : Addr) (c : Nat) (f : Nat → Nat → Value) (hc : es.length ≤ c) (hz : ∀ e ∈ es, zform z e)
      (hr : ∀ (i : Nat) e (j : Nat) x, es[i]? = some e → e.cells[j]? = some x → h.cell (ad.add (i * zsize z + j)) = some (f i j))
      (hv : ∀ (i : Nat) e (j : Nat) x, es[i]? = some e → e.cells[j]? = some x → Rv h x (f i j)) : Rv h (.sl z es) (.slice (some ad) es.length c)
  | slx (z : Option Nat) (es : List AV) (a : Option Addr) (hs : Rv h (.sl z es) (.slice a es.length es.length)) : Rv h (.slx z es) (.slice a es.length es.length)
  | fn (f : FuncId) (caps : List AV) (vs : List Value) (hl : vs.length = caps.length) (hv : ∀ (j : Nat) c v, caps[j]? = some c → vs[j]? = some v → Rv h c v) : Rv h (.fn f caps) (.func (.func f) #[] vs.toArray)

theorem Rv.mono {h h' : PH} (l : h.le h') {a : AV} {v : Value} (r : Rv h a v) : Rv h' a v := by
  induction r with
  | int k n => exact .int k n
  | bool b => exact .bool b
  | nilsl => exact .nilsl
  | nilp => exact .nilp
  | ag cs vs hl hv ih => exact .ag cs vs hl ih
  | sl0 z a c => exact .sl0 z a c
  | sl z es ad c f hc hz hr hv ih => exact .sl z es ad c f hc hz (fun i e j x h1 h2 => l.cell (hr i e j x h1 h2)) ih
  | slx z es a hs ih => exact .slx z es a ih
  | fn f caps vs hl hv ih => exact .fn f caps vs hl ih

/-- What a list is in memory. -/
structure SlOk (h : PH) (z : Option Nat) (es : List AV) (a : Option Addr) (n c : Nat) : Prop where
  len : n = es.length
  cap : n ≤ c
  form : ∀ e ∈ es, zform z e
  some_ : 0 < n → ∃ ad, a = some ad
  read : ∀ ad, a = some ad → ∀ (i : Nat) e (j : Nat) x, es[i]? = some e → e.cells[j]? = some x → ∃ v, h.cell (ad.add (i * zsize z + j)) = some v ∧ Rv h x v

theorem Rv.sl_inv {h : PH} {z : Option Nat} {es : List AV} {v : Value} (r : Rv h (.sl z es) v) : ∃ a c, v = .slice a es.length c ∧ SlOk h z es a es.length c := by
  cases r with
  | sl0 _ a c => exact ⟨a, c, rfl, ⟨rfl, Nat.zero_le _, (fun e he => by cases he), (fun h0 => absurd h0 (by simp)), (fun ad _ i e j x h1 _ => by simp at h1)⟩⟩
  | sl _ _ ad c f hc hz hr hv => exact ⟨some ad, c, rfl, ⟨rfl, hc, hz, (fun _ => ⟨ad, rfl⟩), (fun ad' e0 i e j x h1 h2 => by cases e0; exact ⟨_, hr i e j x h1 h2, hv i e j x h1 h2⟩)⟩⟩

theorem SlOk.rv {h : PH} {z : Option Nat} {es : List AV} {a : Option Addr} {n c : Nat} (s : SlOk h z es a n c) : Rv h (.sl z es) (.slice a n c) := by
  obtain ⟨rfl, hc, hz, hs, hr⟩ := s
  cases es with
  | nil => exact .sl0 z a c
  | cons e0 r =>
    obtain ⟨ad, rfl⟩ := hs (by simp)
    classical
    refine .sl z (e0 :: r) ad c (fun i j => (h.cell (ad.add (i * zsize z + j))).getD undef) hc hz (fun i e j x h1 h2 => ?_) (fun i e j x h1 h2 => ?_)
    · obtain ⟨v, hv, _⟩ := hr ad rfl i e j x h1 h2
      rw [hv]; rfl
    · obtain ⟨v, hv, hx⟩ := hr ad rfl i e j x h1 h2
      rw [hv]; exact hx

theorem Rv.slx_inv {h : PH} {z : Option Nat} {es : List AV} {v : Value} (r : Rv h (.slx z es) v) : ∃ a, v = .slice a es.length es.length ∧ SlOk h z es a es.length es.length := by
  cases r with
  | slx _ _ a hs =>
    obtain ⟨a', c', e, s⟩ := hs.sl_inv
    injection e with e1 e2 e3
    subst e1; subst e3
    exact ⟨_, rfl, s⟩

/-! ### The numbers of blocks -/
abbrev Ro := Nat → Option Value
def Ro.le (r r' : Ro) : Prop := ∀ i v, r i = some v → r' i = some v
theorem Ro.le_refl (r : Ro) : r.le r := fun _ _ e => e
theorem Ro.le.trans {r r' r'' : Ro} (a : r.le r') (b : r'.le r'') : r.le r'' := fun i v e => b i v (a i v e)

inductive RL (h : PH) (ρ : Ro) : AV → Value → Prop
  | cl {a : AV} {v : Value} (hc : a.closedL = true) (hv : Rv h a v) : RL h ρ a v
  | any (v : Value) : RL h ρ .any v
  | ptr (id off g : Nat) (hi : ρ id = some (.pointer (some ⟨g, 0, none⟩))) : RL h ρ (.ptr id off) (.pointer (some ⟨g, off, none⟩))
  | osl (id : Nat) (a : Option Addr) (n c : Nat) (hi : ρ id = some (.slice a n c)) : RL h ρ (.osl id) (.slice a n c)
  | rptr (id : Nat) (z : Option Nat) (i f g n c : Nat) (hi : ρ id = some (.slice (some ⟨g, 0, none⟩) n c)) : RL h ρ (.rptr id z i f) (.pointer (some ⟨g, i * zsize z + f, none⟩))
  | eptr (z : Option Nat) (es : List AV) (i f : Nat) (ad : Addr) (n c : Nat) (hs : SlOk h z es (some ad) n c) : RL h ρ (.eptr z es i f) (.pointer (some (ad.add (i * zsize z + f))))
inductive R0 (h : PH) (ρ : Ro) : AV → Value → Prop
  | lf {a : AV} {v : Value} (hv : RL h ρ a v) : R0 h ρ a v
  | fn (f : FuncId) (caps : List AV) (vs : List Value) (hl : vs.length = caps.length) (hv : ∀ (j : Nat) c v, caps[j]? = some c → vs[j]? = some v → RL h ρ c v) : R0 h ρ (.fn f caps) (.func (.func f) #[] vs.toArray)
inductive R1 (h : PH) (ρ : Ro) : AV → Value → Prop
  | lf {a : AV} {v : Value} (hv : R0 h ρ a v) : R1 h ρ a v
  | ag (cs : List AV) (vs : List Value) (hl : vs.length = cs.length) (hv : ∀ (j : Nat) c v, cs[j]? = some c → vs[j]? = some v → R0 h ρ c v) : R1 h ρ (.ag cs) (.agg vs.toArray)
inductive R2 (h : PH) (ρ : Ro) : AV → Value → Prop
  | lf {a : AV} {v : Value} (hv : R1 h ρ a v) : R2 h ρ a v
  | tup (cs : List AV) (vs : List Value) (hl : vs.length = cs.length) (hv : ∀ (j : Nat) c v, cs[j]? = some c → vs[j]? = some v → R1 h ρ c v) : R2 h ρ (.tup cs) (.tuple vs.toArray)

theorem SlOk.mono {h h' : PH} (l : h.le h') {z : Option Nat} {es : List AV} {a : Option Addr} {n c : Nat} (s : SlOk h z es a n c) : SlOk h' z es a n c :=
  ⟨s.len, s.cap, s.form, s.some_, fun ad e i el j x h1 h2 => let ⟨v, a1, a2⟩ := s.read ad e i el j x h1 h2; ⟨v, l.cell a1, a2.mono l⟩⟩

section mono
variable {h h' : PH} {ρ ρ' : Ro} (l : h.le h') (m : ρ.le ρ') {a : AV} {v : Value}
include l m
theorem RL.mono (r : RL h ρ a v) : RL h' ρ' a v := by
  cases r with
  | cl hc hv => exact .cl hc (hv.mono l)
  | any v => exact .any v
  | ptr id off g hi => exact .ptr id off g (m _ _ hi)
  | osl id a n c hi => exact .osl id a n c (m _ _ hi)
  | rptr id z i f g n c hi => exact .rptr id z i f g n c (m _ _ hi)
  | eptr z es i f ad n c hs => exact .eptr z es i f ad n c (hs.mono l)
theorem R0.mono (r : R0 h ρ a v) : R0 h' ρ' a v := by
  cases r with
  | lf hv => exact .lf (hv.mono l m)
  | fn f caps vs hl hv => exact .fn f caps vs hl fun j c v h1 h2 => (hv j c v h1 h2).mono l m
theorem R1.mono (r : R1 h ρ a v) : R1 h' ρ' a v := by
  cases r with
  | lf hv => exact .lf (hv.mono l m)
  | ag cs vs hl hv => exact .ag cs vs hl fun j c v h1 h2 => (hv j c v h1 h2).mono l m
theorem R2.mono (r : R2 h ρ a v) : R2 h' ρ' a v := by
  cases r with
  | lf hv => exact .lf (hv.mono l m)
  | tup cs vs hl hv => exact .tup cs vs hl fun j c v h1 h2 => (hv j c v h1 h2).mono l m
end mono

/-- A closed value stands for the same under whatever numbers. -/
theorem R0.of_rv {h : PH} {ρ : Ro} {a : AV} {v : Value} (hc : a.closed0 = true) (r : Rv h a v) : R0 h ρ a v := by
  cases r with
  | fn f caps vs hl hv =>
    refine .fn f caps vs hl fun j c v h1 h2 => .cl ?_ (hv j c v h1 h2)
    have : ∀ (l : List AV), allL l = true → ∀ c ∈ l, c.closedL = true := by
      intro l
      induction l with
      | nil => intro _ c hc; cases hc
      | cons x r ih =>
        intro ha c hm
        simp only [allL] at ha
        split at ha
        · rename_i hx
          rcases List.mem_cons.1 hm with rfl | hm
          · exact hx
          · exact ih ha c hm
        · cases ha
    exact this caps hc c (List.mem_of_getElem? h1)
  | int k n => exact .lf (.cl rfl (.int k n))
  | bool b => exact .lf (.cl rfl (.bool b))
  | nilsl => exact .lf (.cl rfl .nilsl)
  | nilp => exact .lf (.cl rfl .nilp)
  | ag cs vs hl hv => cases hc
  | sl0 z a c => exact .lf (.cl rfl (.sl0 z a c))
  | sl z es ad c f h1 h2 h3 h4 => exact .lf (.cl rfl (.sl z es ad c f h1 h2 h3 h4))
  | slx z es a hs => exact .lf (.cl rfl (.slx z es a hs))

end Go.Cw

set_option linter.unusedVariables false
set_option linter.unusedSimpArgs false
namespace Go.Cw

/-! ### Closed values -/
theorem allL_mem {l : List AV} (h : allL l = true) : ∀ c ∈ l, c.closedL = true := by
  induction l with
  | nil => intro c hc; cases hc
  | cons x r ih =>
    intro c hm
    simp only [allL] at h
    split at h
    · rename_i hx
      rcases List.mem_cons.1 hm with rfl | hm
      · exact hx
      · exact ih h c hm
    · cases h
theorem all0_mem {l : List AV} (h : all0 l = true) : ∀ c ∈ l, c.closed0 = true := by
  induction l with
  | nil => intro c hc; cases hc
  | cons x r ih =>
    intro c hm
    simp only [all0] at h
    split at h
    · rename_i hx
      rcases List.mem_cons.1 hm with rfl | hm
      · exact hx
      · exact ih h c hm
    · cases h
theorem all1_mem {l : List AV} (h : all1 l = true) : ∀ c ∈ l, c.closed = true := by
  induction l with
  | nil => intro c hc; cases hc
  | cons x r ih =>
    intro c hm
    simp only [all1] at h
    split at h
    · rename_i hx
      rcases List.mem_cons.1 hm with rfl | hm
      · exact hx
      · exact ih h c hm
    · cases h
theorem allC_mem {l : List AV} (h : allC l = true) : ∀ c ∈ l, c.isCell = true := by
  induction l with
  | nil => intro c hc; cases hc
  | cons x r ih =>
    intro c hm
    simp only [allC] at h
    split at h
    · rename_i hx
      rcases List.mem_cons.1 hm with rfl | hm
      · exact hx
      · exact ih h c hm
    · cases h

section closed
variable {h : PH} {ρ : Ro} {a : AV} {v : Value}
theorem RL.rv (hc : a.closedL = true) (r : RL h ρ a v) : Rv h a v := by
  cases r with
  | cl _ hv => exact hv
  | _ => cases hc
theorem R0.rv (hc : a.closed0 = true) (r : R0 h ρ a v) : Rv h a v := by
  cases r with
  | lf hv =>
    cases hv with
    | cl _ hv => exact hv
    | _ => cases hc
  | fn f caps vs hl hv => exact .fn f caps vs hl fun j c v h1 h2 => (hv j c v h1 h2).rv (allL_mem hc c (List.mem_of_getElem? h1))
theorem R1.rv (hc : a.closed = true) (r : R1 h ρ a v) : Rv h a v := by
  cases r with
  | lf hv =>
    refine hv.rv ?_
    cases a with
    | ag cs => cases hv with | lf hv => cases hv with | cl h1 _ => cases h1
    | _ => exact hc
  | ag cs vs hl hv => exact .ag cs vs hl fun j c v h1 h2 => (hv j c v h1 h2).rv (all0_mem hc c (List.mem_of_getElem? h1))
theorem R1.of_rv (hc : a.closed = true) (r : Rv h a v) : R1 h ρ a v := by
  cases r with
  | ag cs vs hl hv => exact .ag cs vs hl fun j c v h1 h2 => .of_rv (all0_mem hc c (List.mem_of_getElem? h1)) (hv j c v h1 h2)
  | int k n => exact .lf (.of_rv hc (.int k n))
  | bool b => exact .lf (.of_rv hc (.bool b))
  | nilsl => exact .lf (.of_rv hc .nilsl)
  | nilp => exact .lf (.of_rv hc .nilp)
  | sl0 z a c => exact .lf (.of_rv hc (.sl0 z a c))
  | sl z es ad c f h1 h2 h3 h4 => exact .lf (.of_rv hc (.sl z es ad c f h1 h2 h3 h4))
  | slx z es a hs => exact .lf (.of_rv hc (.slx z es a hs))
  | fn f caps vs hl hv => exact .lf (.of_rv hc (.fn f caps vs hl hv))
theorem R2.closed_any {ρ' : Ro} (hc : a.closedT = true) (r : R2 h ρ a v) : R2 h ρ' a v := by
  cases r with
  | tup cs vs hl hv => exact .tup cs vs hl fun j c v h1 h2 => .of_rv (all1_mem hc c (List.mem_of_getElem? h1)) ((hv j c v h1 h2).rv (all1_mem hc c (List.mem_of_getElem? h1)))
  | lf hv =>
    have hc' : a.closed = true := by
      cases a with
      | tup vs => cases hv with | lf hv => cases hv with | lf hv => cases hv with | cl h1 _ => cases h1
      | _ => exact hc
    exact .lf (.of_rv hc' (hv.rv hc'))

/-- Reading off what a value is. -/
theorem R2.r1 (ht : ∀ vs, a ≠ .tup vs) (r : R2 h ρ a v) : R1 h ρ a v := by
  cases r with
  | lf hv => exact hv
  | tup cs vs hl hv => exact absurd rfl (ht cs)
theorem R2.int_inv {k : IntKind} {n : Int} (r : R2 h ρ (.int k n) v) : v = .int k n := by
  cases r with | lf r => cases r with | lf r => cases r with | lf r => cases r with | cl _ r => cases r with | int => rfl
theorem R2.bool_inv {t : Bool} (r : R2 h ρ (.bool t) v) : v = .bool t := by
  cases r with | lf r => cases r with | lf r => cases r with | lf r => cases r with | cl _ r => cases r with | bool => rfl
theorem R2.nilsl_inv (r : R2 h ρ .nilsl v) : v = .slice none 0 0 := by
  cases r with | lf r => cases r with | lf r => cases r with | lf r => cases r with | cl _ r => cases r with | nilsl => rfl
theorem R2.ptr_inv {id off : Nat} (r : R2 h ρ (.ptr id off) v) : ∃ g, ρ id = some (.pointer (some ⟨g, 0, none⟩)) ∧ v = .pointer (some ⟨g, off, none⟩) := by
  cases r with | lf r => cases r with | lf r => cases r with | lf r => cases r with
    | cl h1 _ => cases h1
    | ptr _ _ g hi => exact ⟨g, hi, rfl⟩
theorem R2.osl_inv {id : Nat} (r : R2 h ρ (.osl id) v) : ∃ a n c, ρ id = some (.slice a n c) ∧ v = .slice a n c := by
  cases r with | lf r => cases r with | lf r => cases r with | lf r => cases r with
    | cl h1 _ => cases h1
    | osl _ a n c hi => exact ⟨a, n, c, hi, rfl⟩
theorem R2.rptr_inv {id : Nat} {z : Option Nat} {i f : Nat} (r : R2 h ρ (.rptr id z i f) v) : ∃ g n c, ρ id = some (.slice (some ⟨g, 0, none⟩) n c) ∧ v = .pointer (some ⟨g, i * zsize z + f, none⟩) := by
  cases r with | lf r => cases r with | lf r => cases r with | lf r => cases r with
    | cl h1 _ => cases h1
    | rptr _ _ _ _ g n c hi => exact ⟨g, n, c, hi, rfl⟩
theorem R2.eptr_inv {z : Option Nat} {es : List AV} {i f : Nat} (r : R2 h ρ (.eptr z es i f) v) : ∃ ad n c, SlOk h z es (some ad) n c ∧ v = .pointer (some (ad.add (i * zsize z + f))) := by
  cases r with | lf r => cases r with | lf r => cases r with | lf r => cases r with
    | cl h1 _ => cases h1
    | eptr _ _ _ _ ad n c hs => exact ⟨ad, n, c, hs, rfl⟩
theorem R2.sl_inv {z : Option Nat} {es : List AV} (r : R2 h ρ (.sl z es) v) : ∃ a c, v = .slice a es.length c ∧ SlOk h z es a es.length c := by
  cases r with | lf r => cases r with | lf r => cases r with | lf r => cases r with | cl _ r => exact r.sl_inv
theorem R2.slx_inv {z : Option Nat} {es : List AV} (r : R2 h ρ (.slx z es) v) : ∃ a, v = .slice a es.length es.length ∧ SlOk h z es a es.length es.length := by
  cases r with | lf r => cases r with | lf r => cases r with | lf r => cases r with | cl _ r => exact r.slx_inv
theorem R2.ag_inv {cs : List AV} (r : R2 h ρ (.ag cs) v) : ∃ vs : List Value, v = .agg vs.toArray ∧ vs.length = cs.length ∧ ∀ (j : Nat) c v, cs[j]? = some c → vs[j]? = some v → R0 h ρ c v := by
  cases r with
  | lf r => cases r with
    | ag _ vs hl hv => exact ⟨vs, rfl, hl, hv⟩
    | lf r => cases r with | lf r => cases r with | cl h1 _ => cases h1
theorem R2.tup_inv {cs : List AV} (r : R2 h ρ (.tup cs) v) : ∃ vs : List Value, v = .tuple vs.toArray ∧ vs.length = cs.length ∧ ∀ (j : Nat) c v, cs[j]? = some c → vs[j]? = some v → R1 h ρ c v := by
  cases r with
  | tup _ vs hl hv => exact ⟨vs, rfl, hl, hv⟩
  | lf r => cases r with | lf r => cases r with | lf r => cases r with | cl h1 _ => cases h1
theorem R2.fn_inv {f : FuncId} {caps : List AV} (r : R2 h ρ (.fn f caps) v) : ∃ vs : List Value, v = .func (.func f) #[] vs.toArray ∧ vs.length = caps.length ∧ ∀ (j : Nat) c v, caps[j]? = some c → vs[j]? = some v → RL h ρ c v := by
  cases r with
  | lf r => cases r with
    | lf r => cases r with
      | fn _ _ vs hl hv => exact ⟨vs, rfl, hl, hv⟩
      | lf r => cases r with | cl h1 _ => cases h1
theorem R2.int (k : IntKind) (n : Int) : R2 h ρ (.int k n) (.int k n) := .lf (.lf (.lf (.cl rfl (.int k n))))
theorem R2.bool (b : Bool) : R2 h ρ (.bool b) (.bool b) := .lf (.lf (.lf (.cl rfl (.bool b))))
theorem R2.any (v : Value) : R2 h ρ .any v := .lf (.lf (.lf (.any v)))
theorem R2.of_r0 (r : R0 h ρ a v) : R2 h ρ a v := .lf (.lf r)

/-- A cell's value is one cell. -/
theorem R0.one (hc : a.isCell = true) (r : R0 h ρ a v) : v.oneCell' = true := by
  cases r with
  | fn => rfl
  | lf r => cases r with
    | cl h1 h2 => cases h2 <;> first | rfl | cases hc
    | any => cases hc
    | _ => rfl
theorem R0.cells1 (hc : a.isCell = true) (r : R0 h ρ a v) : v.cells = #[v] := by
  have := r.one hc
  cases v <;> first | rfl | cases this
/-- A value's cells. -/
theorem R1.cells (hc : a.okv = true) (r : R1 h ρ a v) : ∃ vs : List Value, v.cells = vs.toArray ∧ vs.length = a.cells.length ∧ (∀ (j : Nat) c v, a.cells[j]? = some c → vs[j]? = some v → R0 h ρ c v) ∧ ∀ u ∈ vs, u.oneCell' = true := by
  cases r with
  | ag cs vs hl hv =>
    refine ⟨vs, rfl, hl, hv, fun u hu => ?_⟩
    obtain ⟨j, hj, rfl⟩ := List.mem_iff_getElem.1 hu
    have hj' : j < cs.length := by omega
    exact (hv j cs[j] _ (List.getElem?_eq_getElem hj') (List.getElem?_eq_getElem hj)).one (allC_mem hc _ (List.getElem_mem hj'))
  | lf r =>
    have hcell : a.isCell = true := by
      cases a with
      | ag cs => cases r with | lf r => cases r with | cl h1 _ => cases h1
      | _ => first | rfl | (simp [AV.okv, AV.cells, allC, AV.isCell] at hc)
    have h1 : a.cells = [a] := by cases a <;> first | rfl | cases hcell
    refine ⟨[v], by rw [r.cells1 hcell], by rw [h1]; rfl, fun j c v' e1 e2 => ?_, fun u hu => ?_⟩
    · rw [h1] at e1
      cases j with
      | zero => simp at e1 e2; subst e1; subst e2; exact r
      | succ j => simp at e1
    · simp at hu; subst hu; exact r.one hcell
end closed

/-! ### Memory -/
def vblk : Value → Option Nat
  | .pointer (some a) => some a.block
  | .slice (some a) _ _ => some a.block
  | _ => none
def blkOf (ρ : Ro) (x : ABlk) (id : Nat) : Option Nat :=
  match x with
  | .cells _ _ => (ρ id).bind vblk
  | .row _ _ _ => (ρ id).bind vblk
  | _ => none

structure ElemsOk (h : PH) (z : Option Nat) (es : List AV) (xs : List Value) : Prop where
  form : ∀ e ∈ es, zform z e
  closed : ∀ e ∈ es, e.closed = true
  read : ∀ (i : Nat) e (j : Nat) x, es[i]? = some e → e.cells[j]? = some x → ∃ v, xs[i * zsize z + j]? = some v ∧ Rv h x v

def RB (h : PH) (ρ : Ro) (w : World) (id : Nat) : ABlk → Prop
  | .cells t cs => ∃ (g : Nat) (vs : List Value), ρ id = some (.pointer (some ⟨g, 0, none⟩)) ∧ w.heap[g]? = some (.cells vs.toArray t (0, 0)) ∧ vs.length = cs.length ∧ ∀ (j : Nat) c v, cs[j]? = some c → vs[j]? = some v → R0 h ρ c v
  | .row e z es => ∃ (v : Value) (xs : List Value), ρ id = some v ∧ w.ownsRow 0 e (zsize z) v es.length xs ∧ ElemsOk h z es xs
  | .frz z es => ∃ v, ρ id = some v ∧ Rv h (.sl z es) v
  | .dead => True

/-- What is outside a call: the world it began in, the blocks it was handed, the memory that nobody writes. -/
structure Ctx where
  w0 : World
  own : Nat → Prop
  h0 : PH

structure Sat (cx : Ctx) (h : PH) (ρ : Ro) (B : Nat → ABlk) (w : World) : Prop where
  os : w.os = cx.w0.os
  tape : w.tape = cx.w0.tape
  output : w.output = cx.w0.output
  size : cx.w0.heap.size ≤ w.heap.size
  frame : ∀ i, i < cx.w0.heap.size → ¬ cx.own i → w.heap[i]? = cx.w0.heap[i]?
  inn : h.In w
  hle : cx.h0.le h
  hnew : ∀ g o, h g = some o → cx.h0 g = some o ∨ cx.w0.heap.size ≤ g ∨ cx.own g
  new : ∀ id g, blkOf ρ (B id) id = some g → cx.own g ∨ cx.w0.heap.size ≤ g
  hok : ∀ id g, blkOf ρ (B id) id = some g → h g = none
  inj : ∀ id id' g, blkOf ρ (B id) id = some g → blkOf ρ (B id') id' = some g → id = id'
  rb : ∀ id, RB h ρ w id (B id)

def upd (B : Nat → ABlk) (up : List (Nat × ABlk)) (id : Nat) : ABlk := alook (B id) up id
theorem upd_nil (B : Nat → ABlk) : upd B [] = B := rfl

/-- An operation comes to a value and a world. -/
def Does (P : Program) (o : Oper) (a : Act) (w : World) (R : Value → World → Prop) : Prop :=
  ∀ (next : Act → World → Prop) (Q : Exit → Act → World → Prop), (∀ v w', R v w' → next (a.put o.dst v) w') → o.wp P a w next Q

theorem Does.value {P : Program} {o : Oper} {a : Act} {w : World} {R : Value → World → Prop} {v : Value} {w' : World} (h : (execOp a.eval o).run P w = .ok (.value v) w') (hr : R v w') : Does P o a w R := by
  intro next Q hn
  unfold Oper.wp
  rw [h]
  exact hn v w' hr
theorem Does.skip {P : Program} {o : Oper} {a : Act} {w : World} {R : Value → World → Prop} {w' : World} (h : (execOp a.eval o).run P w = .ok .skip w') (hr : R undef w') : Does P o a w R := by
  intro next Q hn
  unfold Oper.wp
  rw [h]
  exact hn undef w' hr

def Step (cx : Ctx) (h : PH) (ρ : Ro) (B : Nat → ABlk) (n : Nat) (e : Ent) (v : Value) (w' : World) : Prop :=
  ∃ h' ρ', Sat cx h' ρ' (upd B e.up) w' ∧ h.le h' ∧ ρ.le ρ' ∧ (∀ id, ρ id = none → ¬ (n ≤ id ∧ id < n + e.nf) → ρ' id = none) ∧ R2 h' ρ' e.val v

theorem Step.pure {cx : Ctx} {h : PH} {ρ : Ro} {B : Nat → ABlk} {n : Nat} {rb : List Nat} {x : AV} {v : Value} {w : World} (s : Sat cx h ρ B w) (r : R2 h ρ x v) : Step cx h ρ B n { val := x, rb := rb } v w :=
  ⟨h, ρ, s, h.le_refl, ρ.le_refl, fun id hi _ => hi, r⟩

/-- An operation does what an entry says, whatever else there is. -/
def Good (P : Program) (op : Op) (b : Nat → ABlk) (n : Nat) (g : Operand → AV) (e : Ent) : Prop :=
  ∀ (o : Oper) (_ : o.op = op) (cx : Ctx) (h : PH) (ρ : Ro) (B : Nat → ABlk) (a : Act) (w : World), Sat cx h ρ B w →
    (∀ x ∈ op.operands, R2 h ρ (g x) (a.eval x)) → (∀ id ∈ e.rb, B id = b id) → (∀ k, k < e.nf → ρ (n + k) = none ∧ B (n + k) = .dead) → Does P o a w (Step cx h ρ B n e)

theorem run_v {P : Program} {s : Sem Value} {w w' : World} {v : Value} (h : s.run P w = .ok v w') : Sem.run P (do pure (Next.value (← s))) w = .ok (.value v) w' := by
  simp [h]
theorem run_u {P : Program} {s : Sem Unit} {w w' : World} (h : s.run P w = .ok () w') : Sem.run P (do s; pure Next.skip) w = .ok .skip w' := by
  simp [h]

end Go.Cw

set_option linter.unusedVariables false
set_option linter.unusedSimpArgs false
namespace Go.Cw

/-! ### The type table -/
def isAggD : TypeDesc → Bool
  | .struct _ => true
  | .array _ _ => true
  | _ => false

def leafGo (P : Program) (rec : TypeId → List AV → Bool) : List Field → Nat → List AV → Bool
  | [], _, zs => zs.isEmpty
  | f :: r, off, zs => (f.name != "_") && Nat.beq f.offset off && (match P.info? f.type with
    | some i => Nat.ble i.size zs.length && rec f.type (zs.take i.size) && leafGo P rec r (off + i.size) (zs.drop i.size)
    | none => false)
/-- Types that == may compare: by cells. -/
def leafOk (P : Program) : Nat → TypeId → List AV → Bool
  | 0, _, _ => false
  | d + 1, t, zs => match P.underlying t, P.info? t with
    | some (.int k), some _ => (match zs with | [.int k' _] => kbeq k' k | _ => false)
    | some .bool, some _ => (match zs with | [.bool _] => true | _ => false)
    | some (.struct fs), some i => !P.stoodInHeld t && Nat.beq i.size zs.length &&
        leafGo P (leafOk P d) fs.toList 0 zs
    | _, _ => false

structure TDOk (P : Program) (t : TypeId) (i : TI) (d : TypeDesc) : Prop where
  agg : i.agg = isAggD d
  struct : ∀ fs, i.d = .struct fs → ∃ fields, d = .struct fields ∧ fields.toList.map (·.type) = i.ft ∧ fields.toList.mapM (fun f => (P.info? f.type).map fun j => (f.offset, j.size)) = some fs
  array : ∀ n e, i.d = .array n e → d = .array n e
  slice : ∀ e, i.d = .slice e → d = .slice e
  int : ∀ k, i.d = .int k → d = .int k
  bool : i.d = .bool → d = .bool
structure TyOk (P : Program) (ty : TypeId → Option TI) : Prop where
  info : ∀ t i, ty t = some i → ∃ j d, P.info? t = some j ∧ j.size = i.size ∧ j.bytes = i.bytes ∧ P.underlying t = some d ∧ TDOk P t i d ∧
    (∃ z, j.zero = some z ∧ z.cells = (i.zero.map zval).toArray) ∧ (∀ x ∈ i.zero, zok x = true) ∧ i.zero.length = i.size ∧ (i.agg = false → i.size = 1)
  eq : ∀ t i, ty t = some i → i.cmp = true → i.agg = true ∧ leafOk P 20 t i.zero = true ∧ P.eqGuardType P.depth t = false

section
variable {P : Program} {ty : TypeId → Option TI}

theorem run_sizeOf {t : TypeId} {j : TypeInfo} (h : P.info? t = some j) (w : World) : (sizeOf t).run P w = .ok j.size w := by simp [sizeOf, typeInfo, h]
theorem run_isAgg {t : TypeId} {d : TypeDesc} (h : P.underlying t = some d) (w : World) : (isAgg t).run P w = .ok (isAggD d) w := by
  unfold isAgg
  rw [Sem.run_bind, run_underlying h, Result.andThen_ok]
  cases d <;> rfl

theorem getElem?_extract (vs : List Value) (a b : Nat) : (vs.toArray.extract a b) = ((vs.drop a).take (b - a)).toArray := by
  simp [List.extract_eq_take_drop]

/-! ### Parts -/
theorem run_part {t : TypeId} {i : TI} {cs : List AV} {vs : List Value} {off : Nat} {K : AV → Prop} {h : PH} {ρ : Ro} (T : TyOk P ty) (ht : ty t = some i) (hl : vs.length = cs.length)
    (hv : ∀ (j : Nat) c v, cs[j]? = some c → vs[j]? = some v → R0 h ρ c v) (ha : apart i cs off K) :
    ∃ x v, K x ∧ R1 h ρ x v ∧ (∀ w, (part t vs.toArray off).run P w = .ok v w) := by
  obtain ⟨j, d, hj, hs, _, hd, ok, _⟩ := T.info t i ht
  unfold apart at ha
  cases hag : i.agg with
  | true =>
    rw [hag] at ha
    rcases BM.elim ha with ⟨hb, hk⟩ | ⟨_, hk⟩
    · have hb' : off + i.size ≤ cs.length := Nat.le_of_ble_eq_true hb
      refine ⟨_, .agg ((vs.drop off).take i.size).toArray, hk, .ag _ _ (by simp; omega) fun q c v e1 e2 => ?_, fun w => ?_⟩
      · simp only [List.getElem?_take, List.getElem?_drop] at e1 e2
        split at e1
        · rename_i hq
          rw [if_pos hq] at e2
          exact hv _ c v e1 e2
        · cases e1
      · unfold part
        rw [Sem.run_bind, run_isAgg hd, Result.andThen_ok, ← ok.agg, hag]
        simp [run_sizeOf hj, hs]
    · exact hk.elim
  | false =>
    rw [hag] at ha
    obtain ⟨x, hx, hk⟩ := WE.elim ha
    have hlt : off < cs.length := (List.getElem?_eq_some_iff.1 hx).1
    refine ⟨x, vs[off], hk, .lf (hv off x _ hx (List.getElem?_eq_getElem (by omega))), fun w => ?_⟩
    unfold part
    rw [Sem.run_bind, run_isAgg hd, Result.andThen_ok, ← ok.agg, hag]
    simp [List.getElem?_eq_getElem (show off < vs.length by omega)]

/-! ### Operations on numbers -/
variable {g : Operand → AV} {b : Nat → ABlk} {n : Nat} {K : Ent → Prop}

/-- What reckons alone. -/
theorem good_pure {op : Op} {x : AV} {rb : List Nat}
    (hp : ∀ (o : Oper) (_ : o.op = op) (cx : Ctx) (h : PH) (ρ : Ro) (B : Nat → ABlk) (a : Act) (w : World), Sat cx h ρ B w → (∀ x ∈ op.operands, R2 h ρ (g x) (a.eval x)) → (∀ id ∈ rb, B id = b id) →
      ∃ v, (execOp a.eval o).run P w = .ok (.value v) w ∧ R2 h ρ x v) : Good P op b n g { val := x, rb := rb } := by
  intro o ho cx h ρ B a w s hx hb hn
  obtain ⟨v, hr, hv⟩ := hp o ho cx h ρ B a w s hx hb
  exact Does.value hr (Step.pure s hv)

theorem sound_move (x : Operand) : Good P (.move x) b n g { val := g x } :=
  good_pure fun o ho cx h ρ B a w s hx _ => ⟨a.eval x, by simp [execOp, ho], hx x (by simp [Op.operands])⟩
theorem sound_assign (x : Operand) : Good P (.assign x) b n g { val := g x } :=
  good_pure fun o ho cx h ρ B a w s hx _ => ⟨a.eval x, by simp [execOp, ho], hx x (by simp [Op.operands])⟩

theorem sound_pick (c x y : Operand) (H : aop ⟨ty, fun _ _ _ _ _ => True⟩ b n g (.pick c x y) K) : ∃ e, K e ∧ Good P (.pick c x y) b n g e := by
  simp only [aop] at H
  cases hc : g c with
  | bool t =>
    rw [hc] at H
    rcases BM.elim H with ⟨ht, hk⟩ | ⟨ht, hk⟩
    · refine ⟨_, hk, good_pure fun o ho cx h ρ B a w s hx _ => ⟨a.eval x, ?_, hx x (by simp [Op.operands])⟩⟩
      have h1 := hx c (by simp [Op.operands])
      rw [hc, ht] at h1
      simp [execOp, ho, h1.bool_inv, asBool]
    · refine ⟨_, hk, good_pure fun o ho cx h ρ B a w s hx _ => ⟨a.eval y, ?_, hx y (by simp [Op.operands])⟩⟩
      have h1 := hx c (by simp [Op.operands])
      rw [hc, ht] at h1
      simp [execOp, ho, h1.bool_inv, asBool]
  | _ => rw [hc] at H; exact H.elim

theorem kbeq_eq {k k' : IntKind} (h : kbeq k k' = true) : k = k' := by
  unfold kbeq at h
  split at h
  · rename_i hd; simpa using hd
  · cases h
theorem zbeq_eq {z z' : Option Nat} (h : zbeq z z' = true) : z = z' := by
  cases z <;> cases z' <;> simp_all [zbeq]

theorem run_abinInt {op : BinOp} {k : IntKind} {x y : Int} {K : AV → Prop} (hsh : op ≠ .shl ∧ op ≠ .shr) (H : abinInt op k x y K) : ∃ r v, K r ∧ (∀ h ρ, R2 h ρ r v) ∧ ∀ t w, (binOp op t (.int k x) (.int k y)).run P w = .ok v w := by
  cases op <;> simp only [abinInt] at H
  case add => exact ⟨_, _, H, fun _ _ => .int _ _, fun t w => by simp [binOp, Op.intArith]⟩
  case sub => exact ⟨_, _, H, fun _ _ => .int _ _, fun t w => by simp [binOp, Op.intArith]⟩
  case mul => exact ⟨_, _, H, fun _ _ => .int _ _, fun t w => by simp [binOp, Op.intArith]⟩
  case quo =>
    rcases BM.elim H with ⟨_, h⟩ | ⟨hy, hk⟩
    · exact h.elim
    · have hy' : y ≠ 0 := by simpa using hy
      exact ⟨_, _, hk, fun _ _ => .int _ _, fun t w => by simp [binOp, Op.intDiv, hy']⟩
  case rem =>
    rcases BM.elim H with ⟨_, h⟩ | ⟨hy, hk⟩
    · exact h.elim
    · have hy' : y ≠ 0 := by simpa using hy
      exact ⟨_, _, hk, fun _ _ => .int _ _, fun t w => by simp [binOp, Op.intDiv, hy']⟩
  case and => exact ⟨_, _, H, fun _ _ => .int _ _, fun t w => by simp [binOp, Op.intBits]⟩
  case or => exact ⟨_, _, H, fun _ _ => .int _ _, fun t w => by simp [binOp, Op.intBits]⟩
  case xor => exact ⟨_, _, H, fun _ _ => .int _ _, fun t w => by simp [binOp, Op.intBits]⟩
  case eql => exact ⟨_, _, H, fun _ _ => .bool _, fun t w => by simp [binOp, Op.intCmp]⟩
  case neq => exact ⟨_, _, H, fun _ _ => .bool _, fun t w => by simp [binOp, Op.intCmp]⟩
  case lss => exact ⟨_, _, H, fun _ _ => .bool _, fun t w => by simp [binOp, Op.intCmp]⟩
  case leq => exact ⟨_, _, H, fun _ _ => .bool _, fun t w => by simp [binOp, Op.intCmp]⟩
  case gtr => exact ⟨_, _, H, fun _ _ => .bool _, fun t w => by simp [binOp, Op.intCmp]⟩
  case geq => exact ⟨_, _, H, fun _ _ => .bool _, fun t w => by simp [binOp, Op.intCmp]⟩
  all_goals exact H.elim

/-! ### == on structs, cell by cell -/
theorem ceqs_split {zs xs ys : List AV} {r : Bool} (m : Nat) (h : ceqs zs xs ys = some r) :
    ∃ r1 r2, ceqs (zs.take m) (xs.take m) (ys.take m) = some r1 ∧ ceqs (zs.drop m) (xs.drop m) (ys.drop m) = some r2 ∧ r = (r1 && r2) := by
  induction m generalizing zs xs ys r with
  | zero => exact ⟨true, r, by simp [ceqs], by simpa using h, by simp⟩
  | succ m ih =>
    cases zs with
    | nil => cases xs <;> cases ys <;> simp_all [ceqs]
    | cons z zs =>
      cases xs with
      | nil => simp [ceqs] at h
      | cons x xs =>
        cases ys with
        | nil => simp [ceqs] at h
        | cons y ys =>
          simp only [ceqs] at h
          split at h
          · rename_i a q h1 h2
            obtain ⟨r1, r2, e1, e2, e3⟩ := ih h2
            injection h with h
            refine ⟨a && r1, r2, by simp [ceqs, h1, e1], by simpa using e2, ?_⟩
            rw [← h, e3, Bool.and_assoc]
          · cases h
theorem ceqs_length {zs xs ys : List AV} {r : Bool} (h : ceqs zs xs ys = some r) : xs.length = zs.length ∧ ys.length = zs.length := by
  induction zs generalizing xs ys r with
  | nil => cases xs <;> cases ys <;> simp_all [ceqs]
  | cons z zs ih =>
    cases xs with
    | nil => simp [ceqs] at h
    | cons x xs =>
      cases ys with
      | nil => simp [ceqs] at h
      | cons y ys =>
        simp only [ceqs] at h
        split at h
        · rename_i a q h1 h2
          have := ih h2
          simp [this]
        · cases h

def CellsR (h : PH) (ρ : Ro) (cs : List AV) (vs : List Value) : Prop := vs.length = cs.length ∧ ∀ (j : Nat) c v, cs[j]? = some c → vs[j]? = some v → R0 h ρ c v
theorem CellsR.sub {h : PH} {ρ : Ro} {cs : List AV} {vs : List Value} (r : CellsR h ρ cs vs) (o m : Nat) : CellsR h ρ ((cs.drop o).take m) ((vs.drop o).take m) := by
  refine ⟨by simp [r.1], fun j c v e1 e2 => ?_⟩
  simp only [List.getElem?_take, List.getElem?_drop] at e1 e2
  split at e1
  · rename_i hq; rw [if_pos hq] at e2; exact r.2 _ c v e1 e2
  · cases e1
theorem CellsR.drop {h : PH} {ρ : Ro} {cs : List AV} {vs : List Value} (r : CellsR h ρ cs vs) (o : Nat) : CellsR h ρ (cs.drop o) (vs.drop o) := by
  refine ⟨by simp [r.1], fun j c v e1 e2 => ?_⟩
  simp only [List.getElem?_drop] at e1 e2
  exact r.2 _ c v e1 e2

theorem run_equal (h : PH) (ρ : Ro) (w : World) : ∀ (d D : Nat) (t : TypeId) (zs xs ys : List AV) (us vs : List Value) (r : Bool), d ≤ D → leafOk P d t zs = true → ceqs zs xs ys = some r → CellsR h ρ xs us → CellsR h ρ ys vs →
    (∀ v v', (match P.underlying t with | some d => isAggD d | none => false) = true → v = .agg us.toArray → v' = .agg vs.toArray → (Op.equalIn D t v v').run P w = .ok r w) ∧
    (∀ v v', (match P.underlying t with | some d => isAggD d | none => false) = false → us = [v] → vs = [v'] → (Op.equalIn D t v v').run P w = .ok r w) := by
  intro d
  induction d with
  | zero => intro D t zs xs ys us vs r _ hl; simp [leafOk] at hl
  | succ d ih =>
    intro D t zs xs ys us vs r hD hl hc hx hy
    obtain ⟨D, rfl⟩ : ∃ m, D = m + 1 := ⟨D - 1, by omega⟩
    unfold leafOk at hl
    split at hl
    · -- int
      rename_i k i hu hi
      refine ⟨fun v v' hag => by simp [hu, isAggD] at hag, fun v v' _ e1 e2 => ?_⟩
      subst e1; subst e2
      split at hl
      · rename_i k' m
        have hk := kbeq_eq hl
        subst hk
        have hlx := ceqs_length hc
        match xs, ys, hlx with
        | [x], [y], _ =>
          simp only [ceqs] at hc
          cases hq : ceq (.int k' m) x y with
          | none => simp [hq] at hc
          | some q =>
            simp [hq] at hc
            subst hc
            cases x <;> cases y <;> simp [ceq] at hq
            rename_i k1 a1 k2 a2
            split at hq
            · rename_i hkk
              simp only [Bool.and_eq_true] at hkk
              have := kbeq_eq hkk.1
              have := kbeq_eq hkk.2
              subst_vars
              have e1 := (R2.of_r0 (hx.2 0 _ _ rfl rfl)).int_inv
              have e2 := (R2.of_r0 (hy.2 0 _ _ rfl rfl)).int_inv
              subst e1; subst e2
              simp at hq
              simp [Op.equalIn, run_underlying hu, hq]
            · cases hq
      · cases hl
    · -- bool
      rename_i i hu hi
      refine ⟨fun v v' hag => by simp [hu, isAggD] at hag, fun v v' _ e1 e2 => ?_⟩
      subst e1; subst e2
      split at hl
      · rename_i m
        have hlx := ceqs_length hc
        match xs, ys, hlx with
        | [x], [y], _ =>
          simp only [ceqs] at hc
          cases hq : ceq (.bool m) x y with
          | none => simp [hq] at hc
          | some q =>
            simp [hq] at hc
            subst hc
            cases x <;> cases y <;> simp [ceq] at hq
            have e1 := (R2.of_r0 (hx.2 0 _ _ rfl rfl)).bool_inv
            have e2 := (R2.of_r0 (hy.2 0 _ _ rfl rfl)).bool_inv
            subst e1; subst e2
            simp [Op.equalIn, run_underlying hu, hq]
      · cases hl
    · -- struct
      rename_i fs i hu hi
      simp only [Bool.and_eq_true, Bool.not_eq_true'] at hl
      obtain ⟨⟨hst, hsz⟩, hgo⟩ := hl
      refine ⟨fun v v' _ e1 e2 => ?_, fun v v' hag => by simp [hu, isAggD] at hag⟩
      subst e1; subst e2
      rw [run_equalIn_struct (P := P) w D t us.toArray vs.toArray (by simp [Program.fieldsOf, hu]) hst]
      have hfo : (P.fieldsOf t) = fs := by simp [Program.fieldsOf, hu]
      rw [hfo]
      clear hfo hu hi hsz
      -- the fields, one by one, from an offset on
      have key : ∀ (l : List Field) (off : Nat) (zs : List AV) (r : Bool), leafGo P (leafOk P d) l off zs = true → ceqs zs (xs.drop off) (ys.drop off) = some r → (Op.eqFields D us.toArray vs.toArray l).run P w = .ok r w := by
        intro l
        induction l with
        | nil =>
          intro off zs r hg hc
          simp only [leafGo] at hg
          have : zs = [] := by simpa using hg
          subst this
          have hll := ceqs_length hc
          simp at hll
          have e1 : xs.drop off = [] := by simp; omega
          have e2 : ys.drop off = [] := by simp; omega
          rw [e1, e2] at hc
          simp [ceqs] at hc
          subst hc
          simp [Op.eqFields]
        | cons f l ihl =>
          intro off zs r hg hc
          simp only [leafGo, Bool.and_eq_true] at hg
          obtain ⟨⟨hname, hoff⟩, hg⟩ := hg
          cases hfi : P.info? f.type with
          | none => simp [hfi] at hg
          | some fi =>
            simp only [hfi, Bool.and_eq_true] at hg
            obtain ⟨⟨hle, hlf⟩, hrest⟩ := hg
            have hoff' : f.offset = off := Nat.eq_of_beq_eq_true hoff
            obtain ⟨r1, r2, c1, c2, rfl⟩ := ceqs_split fi.size hc
            have hll := ceqs_length c1
            simp only [List.drop_drop] at c2
            have IH := ih D f.type (zs.take fi.size) _ _ ((us.drop off).take fi.size) ((vs.drop off).take fi.size) r1 (by omega) hlf c1 (hx.sub off fi.size) (hy.sub off fi.size)
            have hr : ∃ a a', (part f.type us.toArray f.offset).run P w = .ok a w ∧ (part f.type vs.toArray f.offset).run P w = .ok a' w ∧ (Op.equalIn D f.type a a').run P w = .ok r1 w := by
              have hag : ∀ dd, P.underlying f.type = some dd → isAggD dd = true → ∃ a a', (part f.type us.toArray f.offset).run P w = .ok a w ∧ (part f.type vs.toArray f.offset).run P w = .ok a' w ∧ (Op.equalIn D f.type a a').run P w = .ok r1 w := by
                intro dd hdd hag
                refine ⟨_, _, ?_, ?_, IH.1 _ _ (by rw [hdd]; exact hag) rfl rfl⟩
                · unfold part
                  rw [Sem.run_bind, run_isAgg hdd, Result.andThen_ok, hag]
                  simp [run_sizeOf hfi, hoff', List.extract_eq_take_drop]
                · unfold part
                  rw [Sem.run_bind, run_isAgg hdd, Result.andThen_ok, hag]
                  simp [run_sizeOf hfi, hoff', List.extract_eq_take_drop]
              have hsc : ∀ dd, P.underlying f.type = some dd → isAggD dd = false → fi.size = 1 → ∃ a a', (part f.type us.toArray f.offset).run P w = .ok a w ∧ (part f.type vs.toArray f.offset).run P w = .ok a' w ∧ (Op.equalIn D f.type a a').run P w = .ok r1 w := by
                intro dd hdd hag h1
                have hz : 1 ≤ zs.length := by rw [← h1]; exact Nat.le_of_ble_eq_true hle
                have h3 := ceqs_length c1
                rw [h1] at h3
                simp at h3
                have h4 := hx.1
                have h5 := hy.1
                have o1 : off < us.length := by omega
                have o2 : off < vs.length := by omega
                have IH2 := IH.2 us[off] vs[off] (by rw [hdd]; exact hag) (by rw [h1, List.drop_eq_getElem_cons o1]; rfl) (by rw [h1, List.drop_eq_getElem_cons o2]; rfl)
                refine ⟨_, _, ?_, ?_, IH2⟩
                · unfold part
                  rw [Sem.run_bind, run_isAgg hdd, Result.andThen_ok, hag]
                  simp [hoff', o1]
                · unfold part
                  rw [Sem.run_bind, run_isAgg hdd, Result.andThen_ok, hag]
                  simp [hoff', o2]
              have hszz : fi.size ≤ zs.length := Nat.le_of_ble_eq_true hle
              cases d with
              | zero => simp [leafOk] at hlf
              | succ d' =>
                unfold leafOk at hlf
                split at hlf
                · rename_i k i' hu' hi'
                  refine hsc _ hu' rfl ?_
                  split at hlf
                  · rename_i e; have := congrArg List.length e; simp at this; omega
                  · cases hlf
                · rename_i i' hu' hi'
                  refine hsc _ hu' rfl ?_
                  split at hlf
                  · rename_i e; have := congrArg List.length e; simp at this; omega
                  · cases hlf
                · rename_i fs' i' hu' hi'
                  exact hag _ hu' rfl
                · cases hlf
            obtain ⟨a, a', q1, q2, q3⟩ := hr
            have hne : f.name ≠ "_" := by simpa using hname
            simp only [Op.eqFields, hne, ne_eq, not_false_eq_true, if_true, Sem.run_bind, q1, q2, q3, Result.andThen_ok]
            cases r1 with
            | false => simp
            | true =>
              simp
              exact ihl (off + fi.size) _ _ hrest c2
      exact key fs.toList 0 zs r hgo (by simpa using hc)
    · cases hl
end

end Go.Cw

set_option linter.unusedVariables false
set_option linter.unusedSimpArgs false
namespace Go.Cw
section
variable {P : Program} {ty : TypeId → Option TI} {g : Operand → AV} {b : Nat → ABlk} {n : Nat} {K : Ent → Prop}

theorem run_eqGuard_int {op : BinOp} {t : TypeId} {x y : Operand} {k k' : IntKind} {a c : Int} (w : World) : (eqGuard op t x y (.int k a) (.int k' c)).run P w = .ok () w := by
  cases op <;> simp [eqGuard]
theorem run_eqGuard_bool {op : BinOp} {t : TypeId} {x y : Operand} {a c : Bool} (w : World) : (eqGuard op t x y (.bool a) (.bool c)).run P w = .ok () w := by
  cases op <;> simp [eqGuard]
theorem run_eqGuard_agg {op : BinOp} {t : TypeId} {x y : Operand} {a c : Array Value} (h : P.eqGuardType P.depth t = false) (w : World) : (eqGuard op t x y (.agg a) (.agg c)).run P w = .ok () w := by
  cases op <;> simp [eqGuard, h]

theorem ceqs_zero {zs xs ys : List AV} {r : Bool} (h : ceqs zs xs ys = some r) : (zs.all fun x => match x with | .int _ _ => true | .bool _ => true | _ => false) = true := by
  induction zs generalizing xs ys r with
  | nil => rfl
  | cons z zs ih =>
    cases xs with
    | nil => simp [ceqs] at h
    | cons x xs =>
      cases ys with
      | nil => simp [ceqs] at h
      | cons y ys =>
        simp only [ceqs] at h
        split at h
        · rename_i a q h1 h2
          simp only [List.all_cons, Bool.and_eq_true]
          refine ⟨?_, ih h2⟩
          cases z <;> first | rfl | (simp [ceq] at h1)
        · cases h

theorem run_ag_equal {t : TypeId} {i : TI} {xs ys : List AV} {us vs : List Value} {r : Bool} {h : PH} {ρ : Ro} (T : TyOk P ty) (ht : ty t = some i) (hcm : i.cmp = true) (hc : ceqs i.zero xs ys = some r) (hx : CellsR h ρ xs us) (hy : CellsR h ρ ys vs) (w : World) :
    (Op.equal t (.agg us.toArray) (.agg vs.toArray)).run P w = .ok r w ∧ P.eqGuardType P.depth t = false := by
  obtain ⟨hag, hl, hg⟩ := T.eq t i ht hcm
  obtain ⟨j, d, hj, hs, _, hd, ok, _⟩ := T.info t i ht
  exact ⟨(run_equal h ρ w 20 Op.maxDepth t i.zero xs ys us vs r (by decide) hl hc hx hy).1 _ _ (by rw [hd]; show isAggD d = true; rw [← ok.agg, hag]) rfl rfl, hg⟩

theorem sound_binOp {C : Cx} (T : TyOk P C.ty) {op : BinOp} {t : TypeId} {x y : Operand} {yt : TypeId} (H : aop C b n g (.binOp op t x y yt) K) : ∃ e, K e ∧ Good P (.binOp op t x y yt) b n g e := by
  simp only [aop] at H
  obtain ⟨i, hi, H⟩ := WE.elim H
  cases hx : g x with
  | int k a =>
    cases hy : g y with
    | int k' c =>
      rw [hx, hy] at H
      have fin : ∀ r v, K { val := r } → (∀ h ρ, R2 h ρ r v) → (∀ t w, (binOp op t (.int k a) (.int k' c)).run P w = .ok v w) → ∃ e, K e ∧ Good P (.binOp op t x y yt) b n g e := by
        intro r v hk hr hrun
        refine ⟨_, hk, good_pure fun o ho cx h ρ B ac w s hxs _ => ⟨v, ?_, hr h ρ⟩⟩
        have e1 := hxs x (by simp [Op.operands])
        have e2 := hxs y (by simp [Op.operands])
        rw [hx] at e1
        rw [hy] at e2
        simp only [execOp, ho, e1.int_inv, e2.int_inv]
        exact run_v (by simp [run_eqGuard_int, hrun])
      by_cases hs : op = .shl
      · subst hs
        simp only [abin] at H
        rcases BM.elim H with ⟨_, h⟩ | ⟨hc, hk⟩
        · exact h.elim
        · have hc' : ¬ c < 0 := by simpa using hc
          exact fin _ _ hk (fun _ _ => .int _ _) fun t w => by simp [binOp, Op.shift, hc']
      · by_cases hs' : op = .shr
        · subst hs'
          simp only [abin] at H
          rcases BM.elim H with ⟨_, h⟩ | ⟨hc, hk⟩
          · exact h.elim
          · have hc' : ¬ c < 0 := by simpa using hc
            exact fin _ _ hk (fun _ _ => .int _ _) fun t w => by simp [binOp, Op.shift, hc']
        · have H' : BM (kbeq k k') (abinInt op k a c fun v => K { val := v }) False := by
            cases op <;> first | exact H | exact absurd rfl hs | exact absurd rfl hs'
          rcases BM.elim H' with ⟨hkk, h⟩ | ⟨_, h⟩
          · have := kbeq_eq hkk
            subst this
            obtain ⟨r, v, h1, h2, h3⟩ := run_abinInt (P := P) ⟨hs, hs'⟩ h
            exact fin r v h1 h2 h3
          · exact h.elim
    | _ => rw [hx, hy] at H; exact H.elim
  | bool a =>
    cases hy : g y with
    | bool c =>
      rw [hx, hy] at H
      simp only [abin] at H
      cases hd : i.d <;> rw [hd] at H <;> try exact H.elim
      obtain ⟨j, d, hj, hs, _, hu, ok, _⟩ := T.info t i hi
      have hu' := ok.bool hd
      subst hu'
      have fin : ∀ r : Bool, K { val := .bool r } → (∀ w, (binOp op t (.bool a) (.bool c)).run P w = .ok (.bool r) w) → ∃ e, K e ∧ Good P (.binOp op t x y yt) b n g e := by
        intro r hk hrun
        refine ⟨_, hk, good_pure fun o ho cx h ρ B ac w s hxs _ => ⟨.bool r, ?_, .bool r⟩⟩
        have e1 := hxs x (by simp [Op.operands])
        have e2 := hxs y (by simp [Op.operands])
        rw [hx] at e1
        rw [hy] at e2
        simp only [execOp, ho, e1.bool_inv, e2.bool_inv]
        exact run_v (by simp [run_eqGuard_bool, hrun])
      cases op <;> try exact H.elim
      · exact fin _ H fun w => run_eql_bool w t a c hu
      · exact fin _ H fun w => run_neq_bool w t a c hu
    | _ => rw [hx, hy] at H; exact H.elim
  | ag xs =>
    cases hy : g y with
    | ag ys =>
      rw [hx, hy] at H
      simp only [abin] at H
      cases hag : i.cmp with
      | false => rw [hag] at H; exact H.elim
      | true =>
      rw [hag] at H
      have fin : ∀ (r : Bool) (q : Bool), ceqs i.zero xs ys = some r → K { val := .bool q } → (∀ (u v : Value) w, (Op.equal t u v).run P w = .ok r w → (∀ k m, u ≠ .int k m) → (∃ l, u = .agg l) → (∃ l, v = .agg l) → (binOp op t u v).run P w = .ok (.bool q) w) → ∃ e, K e ∧ Good P (.binOp op t x y yt) b n g e := by
        intro r q hc hk hrun
        refine ⟨_, hk, good_pure fun o ho cx h ρ B ac w s hxs _ => ?_⟩
        have e1 := hxs x (by simp [Op.operands])
        have e2 := hxs y (by simp [Op.operands])
        rw [hx] at e1
        rw [hy] at e2
        obtain ⟨us, q1, q2, q3⟩ := e1.ag_inv
        obtain ⟨vs, p1, p2, p3⟩ := e2.ag_inv
        obtain ⟨h1, h2⟩ := run_ag_equal T hi hag hc ⟨q2, q3⟩ ⟨p2, p3⟩ w
        refine ⟨.bool q, ?_, .bool q⟩
        simp only [execOp, ho, q1, p1]
        exact run_v (by simp [run_eqGuard_agg h2, hrun _ _ _ h1 (by simp) ⟨_, rfl⟩ ⟨_, rfl⟩])
      cases op <;> try exact H.elim
      · obtain ⟨r, hc, hk⟩ := WE.elim H
        exact fin r r hc hk fun u v w hr hu hl hm => by
          obtain ⟨l, rfl⟩ := hl
          obtain ⟨m, rfl⟩ := hm
          show (do pure (Value.bool (← Op.equal t (.agg l) (.agg m))) : Sem Value).run P w = _
          simp [hr]
      · obtain ⟨r, hc, hk⟩ := WE.elim H
        exact fin r (!r) hc hk fun u v w hr hu hl hm => by
          obtain ⟨l, rfl⟩ := hl
          obtain ⟨m, rfl⟩ := hm
          show (do pure (Value.bool (!(← Op.equal t (.agg l) (.agg m)))) : Sem Value).run P w = _
          simp [hr]
    | _ => rw [hx, hy] at H; exact H.elim
  | _ => rw [hx] at H; exact H.elim


theorem sound_unOp {C : Cx} {op : UnOp} {t : TypeId} {x : Operand} (H : aop C b n g (.unOp op t x) K) : ∃ e, K e ∧ Good P (.unOp op t x) b n g e := by
  simp only [aop] at H
  have fin : ∀ (r : AV) (u v : Value), K { val := r } → (∀ h ρ, R2 h ρ r v) → (∀ h ρ u', R2 h ρ (g x) u' → u' = u) → (∀ w, (Op.unary op u).run P w = .ok v w) → ∃ e, K e ∧ Good P (.unOp op t x) b n g e := by
    intro r u v hk hr hu hrun
    refine ⟨_, hk, good_pure fun o ho cx h ρ B ac w s hxs _ => ⟨v, ?_, hr h ρ⟩⟩
    have e1 := hu h ρ _ (hxs x (by simp [Op.operands]))
    simp only [execOp, ho, e1]
    exact run_v (hrun w)
  cases op <;> cases hx : g x <;> rw [hx] at H <;> try exact H.elim
  · rename_i k m
    exact fin _ (.int k m) (.int k (k.wrap (0 - m))) H (fun _ _ => .int _ _) (fun h ρ u r => by rw [hx] at r; exact r.int_inv) fun w => by simp [Op.unary, Op.intArith]
  · rename_i k m
    exact fin _ (.int k m) _ H (fun _ _ => .int _ _) (fun h ρ u r => by rw [hx] at r; exact r.int_inv) fun w => by simp [Op.unary, Op.intBits]
  · rename_i m
    exact fin _ (.bool m) (.bool (!m)) H (fun _ _ => .bool _) (fun h ρ u r => by rw [hx] at r; exact r.bool_inv) fun w => by simp [Op.unary]

theorem sound_convert {C : Cx} (T : TyOk P C.ty) {s d : TypeId} {x : Operand} (H : aop C b n g (.convert s d x) K) : ∃ e, K e ∧ Good P (.convert s d x) b n g e := by
  simp only [aop] at H
  obtain ⟨i0, hi0, H⟩ := WE.elim H
  obtain ⟨i, hi, H⟩ := WE.elim H
  cases hd : i.d <;> rw [hd] at H <;> try exact H.elim
  rename_i k
  cases hx : g x <;> rw [hx] at H <;> try exact H.elim
  rename_i k' m
  obtain ⟨j, dd, hj, hs, _, hu, ok, _⟩ := T.info d i hi
  obtain ⟨j0, d0, hj0, hs0, _, hu0, ok0, _⟩ := T.info s i0 hi0
  have hu' := ok.int k hd
  subst hu'
  refine ⟨_, H, good_pure fun o ho cx h ρ B ac w sa hxs _ => ⟨.int k (k.wrap m), ?_, .int _ _⟩⟩
  have e1 := hxs x (by simp [Op.operands])
  rw [hx] at e1
  simp only [execOp, ho, e1.int_inv]
  refine run_v ?_
  unfold convert
  rw [Sem.run_bind, run_underlying hu0, Result.andThen_ok, Sem.run_bind, run_underlying hu, Result.andThen_ok]
  cases d0 <;> simp [Conv.intToInt]

theorem sound_makeFunc {C : Cx} {fn : Fn} {first caps : Array Operand} (H : aop C b n g (.makeFunc fn first caps) K) : ∃ e, K e ∧ Good P (.makeFunc fn first caps) b n g e := by
  cases fn <;> simp only [aop] at H
  rename_i f
  cases hf : first.toList <;> rw [hf] at H <;> try exact H.elim
  have hf' : first = #[] := by rw [← Array.toArray_toList (xs := first), hf]
  subst hf'
  rcases BM.elim H with ⟨hl, H⟩ | ⟨_, h⟩
  case inr => exact h.elim
  refine ⟨_, H, good_pure fun o ho cx h ρ B ac w s hxs _ => ⟨.func (.func f) #[] (caps.toList.map ac.eval).toArray, ?_, .lf (.lf (.fn f _ _ (by simp) fun j c v h1 h2 => ?_))⟩⟩
  · simp only [execOp, ho]
    refine run_v ?_
    have : (caps.map ac.eval) = (caps.toList.map ac.eval).toArray := by apply Array.ext'; simp
    simp [Instr.makeFunc, this]
  · simp only [List.getElem?_map, Option.map_eq_some_iff] at h1 h2
    obtain ⟨x, q1, rfl⟩ := h1
    obtain ⟨x', q2, rfl⟩ := h2
    rw [q1] at q2
    injection q2 with q2
    subst q2
    have hm : x ∈ caps.toList := List.mem_of_getElem? q1
    have r := hxs x (by simpa [Op.operands] using hm)
    have hlf : (g x).isLeaf = true := by
      have : ∀ (l : List AV), allF l = true → ∀ c ∈ l, c.isLeaf = true := by
        intro l
        induction l with
        | nil => intro _ c hc; cases hc
        | cons y r ih =>
          intro ha c hm
          simp only [allF] at ha
          split at ha
          · rename_i hy
            rcases List.mem_cons.1 hm with rfl | hm
            · exact hy
            · exact ih ha c hm
          · cases ha
      exact this _ hl _ (List.mem_map.2 ⟨x, hm, rfl⟩)
    generalize g x = q at r hlf ⊢
    generalize ac.eval x = u at r ⊢
    cases r with
    | tup => cases hlf
    | lf r => cases r with
      | ag => cases hlf
      | lf r => cases r with
        | fn => cases hlf
        | lf r => exact r

theorem sound_nilCheck {C : Cx} {x : Operand} (H : aop C b n g (.nilCheck x) K) : ∃ e, K e ∧ Good P (.nilCheck x) b n g e := by
  simp only [aop] at H
  have fin : ∀ (a : AV), g x = a → K { val := a } → (∀ h ρ v, R2 h ρ a v → ∃ ad, v = .pointer (some ad)) → ∃ e, K e ∧ Good P (.nilCheck x) b n g e := by
    intro a hx hk hp
    refine ⟨_, hk, good_pure fun o ho cx h ρ B ac w s hxs _ => ?_⟩
    have e1 := hxs x (by simp [Op.operands])
    rw [hx] at e1
    obtain ⟨ad, e2⟩ := hp _ _ _ e1
    refine ⟨.pointer (some ad), ?_, by rw [← e2]; exact e1⟩
    simp [execOp, ho, e2]
  cases hx : g x <;> rw [hx] at H <;> try exact H.elim
  · exact fin _ hx H fun h ρ v r => by obtain ⟨g, _, rfl⟩ := r.ptr_inv; exact ⟨_, rfl⟩
  · exact fin _ hx H fun h ρ v r => by obtain ⟨g, _, _, _, rfl⟩ := r.rptr_inv; exact ⟨_, rfl⟩
  · exact fin _ hx H fun h ρ v r => by obtain ⟨ad, _, _, _, rfl⟩ := r.eptr_inv; exact ⟨_, rfl⟩

theorem add_add' (a : Addr) (m k : Nat) : (a.add m).add k = a.add (m + k) := by
  unfold Addr.add
  by_cases h1 : m = 0 <;> by_cases h2 : k = 0 <;> simp [h1, h2, Nat.add_assoc]
theorem add_flat (b o m : Nat) : (⟨b, o, none⟩ : Addr).add m = ⟨b, o + m, none⟩ := by
  unfold Addr.add; split <;> simp_all

theorem run_fieldPlace {fd : Field} {j : TypeInfo} (h : P.info? fd.type = some j) (h0 : j.size ≠ 0) (a : Addr) (w : World) : (fieldPlace a fd).run P w = .ok (a.add fd.offset) w := by
  simp [fieldPlace, run_sizeOf h, h0]

theorem mapM_get {fields : List Field} {fs : List (Nat × Nat)} (h : fields.mapM (fun f => (P.info? f.type).map fun j => (f.offset, j.size)) = some fs) :
    fs.length = fields.length ∧ ∀ (k : Nat) p, fs[k]? = some p → ∃ fd j, fields[k]? = some fd ∧ P.info? fd.type = some j ∧ p = (fd.offset, j.size) := by
  induction fields generalizing fs with
  | nil => simp at h; subst h; simp
  | cons f r ih =>
    simp only [List.mapM_cons, Option.bind_eq_bind, Option.pure_def] at h
    cases hi : P.info? f.type with
    | none => simp [hi] at h
    | some j =>
      cases hr : r.mapM (fun f => (P.info? f.type).map fun j => (f.offset, j.size)) with
      | none => simp [hi, hr] at h
      | some rest =>
        simp [hi, hr] at h
        subst h
        obtain ⟨h1, h2⟩ := ih hr
        refine ⟨by simp [h1], fun k p hp => ?_⟩
        cases k with
        | zero => simp at hp; exact ⟨f, j, rfl, hi, hp.symm⟩
        | succ k => simp at hp; simpa using h2 k p hp

theorem field_of {C : Cx} (T : TyOk P C.ty) {t : TypeId} {i : TI} {fs : List (Nat × Nat)} {f : Nat} {p : Nat × Nat} (ht : C.ty t = some i) (hd : i.d = .struct fs) (hf : fs[f]? = some p) :
    ∃ (fields : Array Field) (fd : Field) (j : TypeInfo), P.underlying t = some (.struct fields) ∧ fields[f]? = some fd ∧ P.info? fd.type = some j ∧ p = (fd.offset, j.size) := by
  obtain ⟨j, dd, hj, hs, _, hu, ok, _⟩ := T.info t i ht
  obtain ⟨fields, rfl, _, hm⟩ := ok.struct fs hd
  obtain ⟨_, h2⟩ := mapM_get hm
  obtain ⟨fd, j, h1, h3, h4⟩ := h2 f p hf
  exact ⟨fields, fd, j, hu, by simpa using h1, h3, h4⟩

theorem sound_fieldAddr {C : Cx} (T : TyOk P C.ty) {t : TypeId} {x : Operand} {f : Nat} (H : aop C b n g (.fieldAddr t x f) K) : ∃ e, K e ∧ Good P (.fieldAddr t x f) b n g e := by
  simp only [aop, afieldAddr] at H
  obtain ⟨i, hi, H⟩ := WE.elim H
  cases hd : i.d <;> rw [hd] at H <;> try exact H.elim
  rename_i fs
  obtain ⟨p, hp, H⟩ := WE.elim H
  rcases BM.elim H with ⟨h0, H⟩ | ⟨_, h⟩
  case inr => exact h.elim
  have h0' : 0 < p.2 := Nat.le_of_ble_eq_true h0
  obtain ⟨fields, fd, j, hu, hfd, hj, hpe⟩ := field_of T hi hd hp
  have fin : ∀ (a r : AV), g x = a → K { val := r } → (∀ h ρ v, R2 h ρ a v → ∃ ad, v = .pointer (some ad) ∧ R2 h ρ r (.pointer (some (ad.add p.1)))) → ∃ e, K e ∧ Good P (.fieldAddr t x f) b n g e := by
    intro a r hx hk hq
    refine ⟨_, hk, good_pure fun o ho cx h ρ B ac w s hxs _ => ?_⟩
    have e1 := hxs x (by simp [Op.operands])
    rw [hx] at e1
    obtain ⟨ad, e2, e3⟩ := hq _ _ _ e1
    refine ⟨_, ?_, e3⟩
    simp only [execOp, ho, e2]
    refine run_v ?_
    have : j.size ≠ 0 := by rw [hpe] at h0'; exact Nat.ne_of_gt h0'
    unfold Instr.fieldAt
    rw [Sem.run_bind, run_underlying hu, Result.andThen_ok]
    simp [hfd, Instr.sureAddr, run_fieldPlace hj this, hpe]
  cases hx : g x <;> rw [hx] at H <;> try exact H.elim
  · rename_i id off
    refine fin _ _ hx H fun h ρ v r => ?_
    obtain ⟨q, hi, rfl⟩ := r.ptr_inv
    exact ⟨_, rfl, by rw [add_flat]; exact .lf (.lf (.lf (.ptr id _ q hi)))⟩
  · rename_i id z k m
    refine fin _ _ hx H fun h ρ v r => ?_
    obtain ⟨q, l, c, hi, rfl⟩ := r.rptr_inv
    exact ⟨_, rfl, by rw [add_flat, Nat.add_assoc]; exact .lf (.lf (.lf (.rptr id z k _ q l c hi)))⟩
  · rename_i z es k m
    refine fin _ _ hx H fun h ρ v r => ?_
    obtain ⟨ad, l, c, hs, rfl⟩ := r.eptr_inv
    exact ⟨_, rfl, by rw [add_add', Nat.add_assoc]; exact .lf (.lf (.lf (.eptr z es k _ ad l c hs)))⟩

theorem sound_field {C : Cx} (T : TyOk P C.ty) {t : TypeId} {x : Operand} {f : Nat} (H : aop C b n g (.field t x f) K) : ∃ e, K e ∧ Good P (.field t x f) b n g e := by
  simp only [aop] at H
  obtain ⟨i, hi, H⟩ := WE.elim H
  cases hd : i.d <;> rw [hd] at H <;> try exact H.elim
  rename_i fs
  cases hx : g x <;> rw [hx] at H <;> try exact H.elim
  rename_i cs
  obtain ⟨p, hp, H⟩ := WE.elim H
  obtain ⟨t', ht', H⟩ := WE.elim H
  obtain ⟨i', hi', H⟩ := WE.elim H
  obtain ⟨j, dd, hj, hs, _, hu, ok, _⟩ := T.info t i hi
  obtain ⟨fields, rfl, hft, hm⟩ := ok.struct fs hd
  obtain ⟨hl, h2⟩ := mapM_get hm
  obtain ⟨fd, j', h1, h3, h4⟩ := h2 f p hp
  have hty : fd.type = t' := by
    have := congrArg (·[f]?) hft
    simp only [List.getElem?_map, h1, ht', Option.map_some] at this
    injection this
  have hget : fields[f]? = some fd := by simpa using h1
  have key : ∀ (h : PH) (ρ : Ro) (us : List Value), CellsR h ρ cs us → ∃ x v, K { val := x } ∧ R1 h ρ x v ∧ (∀ w, (part t' us.toArray p.1).run P w = .ok v w) := fun h ρ us hr => run_part T hi' hr.1 hr.2 H
  -- the value hangs on the cells alone
  unfold apart at H
  cases hag : i'.agg with
  | true =>
    rw [hag] at H
    rcases BM.elim H with ⟨hb, hk⟩ | ⟨_, hk⟩
    case inr => exact hk.elim
    refine ⟨_, hk, good_pure fun o ho cx h ρ B ac w s hxs _ => ?_⟩
    have e1 := hxs x (by simp [Op.operands])
    rw [hx] at e1
    obtain ⟨us, q1, q2, q3⟩ := e1.ag_inv
    obtain ⟨x', v, hx', hv, hrun⟩ := run_part (K := fun x => x = .ag ((cs.drop p.1).take i'.size)) T hi' q2 q3 (by unfold apart; rw [hag]; exact BM.yes hb rfl)
    subst hx'
    refine ⟨v, ?_, .lf hv⟩
    simp only [execOp, ho, q1]
    refine run_v ?_
    unfold Instr.field
    rw [Sem.run_bind, run_underlying hu, Result.andThen_ok]
    simp only [hget, asAgg, Sem.run_bind, Sem.run_pure, Result.andThen_ok]
    have := hrun w
    rw [hty]
    rw [h4] at this
    exact this
  | false =>
    rw [hag] at H
    obtain ⟨y, hy, hk⟩ := WE.elim H
    refine ⟨_, hk, good_pure fun o ho cx h ρ B ac w s hxs _ => ?_⟩
    have e1 := hxs x (by simp [Op.operands])
    rw [hx] at e1
    obtain ⟨us, q1, q2, q3⟩ := e1.ag_inv
    obtain ⟨x', v, hx', hv, hrun⟩ := run_part (K := fun x => x = y) T hi' q2 q3 (by unfold apart; rw [hag]; exact WE.intro hy rfl)
    subst hx'
    refine ⟨v, ?_, .lf hv⟩
    simp only [execOp, ho, q1]
    refine run_v ?_
    unfold Instr.field
    rw [Sem.run_bind, run_underlying hu, Result.andThen_ok]
    simp only [hget, asAgg, Sem.run_bind, Sem.run_pure, Result.andThen_ok]
    have := hrun w
    rw [hty]
    rw [h4] at this
    exact this

theorem sound_extract {C : Cx} {x : Operand} {i : Nat} (H : aop C b n g (.extract x i) K) : ∃ e, K e ∧ Good P (.extract x i) b n g e := by
  simp only [aop] at H
  cases hx : g x <;> rw [hx] at H <;> try exact H.elim
  rename_i vs
  obtain ⟨v, hv, hk⟩ := WE.elim H
  refine ⟨_, hk, good_pure fun o ho cx h ρ B ac w s hxs _ => ?_⟩
  have e1 := hxs x (by simp [Op.operands])
  rw [hx] at e1
  obtain ⟨us, h1, h2, h3⟩ := e1.tup_inv
  have hlt : i < vs.length := (List.getElem?_eq_some_iff.1 hv).1
  have hu : us[i]? = some us[i] := List.getElem?_eq_getElem (by omega)
  refine ⟨us[i], ?_, .lf (h3 i v _ hv hu)⟩
  simp only [execOp, ho, h1]
  exact run_v (by simp [Instr.extract, hu])

end
end Go.Cw

set_option linter.unusedVariables false
set_option linter.unusedSimpArgs false
namespace Go.Cw

theorem alook_cons {α : Type} (d : α) (k : Nat) (v : α) (r : List (Nat × α)) (t : Nat) : alook d ((k, v) :: r) t = if k = t then v else alook d r t := by
  show (match Nat.beq k t with | true => v | false => alook d r t) = _
  by_cases h : k = t
  · subst h; simp
  · have : Nat.beq k t = false := by
      cases hb : Nat.beq k t with
      | false => rfl
      | true => exact absurd (Nat.eq_of_beq_eq_true hb) h
    rw [this, if_neg h]
theorem upd_cons (B : Nat → ABlk) (k : Nat) (x : ABlk) (up : List (Nat × ABlk)) (id : Nat) : upd B ((k, x) :: up) id = if k = id then x else upd B up id := alook_cons _ _ _ _ _
theorem upd_frzs (B b : Nat → ABlk) (l : List Nat) (id : Nat) : upd B (frzs b l) id = if id ∈ l then frz b id else B id := by
  induction l with
  | nil => rfl
  | cons k r ih =>
    show upd B ((k, frz b k) :: frzs b r) id = _
    rw [upd_cons, ih]
    by_cases h : k = id
    · subst h; simp
    · have : ¬ id = k := fun e => h e.symm
      simp [h, this]
theorem upd_append (B : Nat → ABlk) (u v : List (Nat × ABlk)) : upd B (u ++ v) = upd (upd B v) u := by
  funext id
  induction u with
  | nil => rfl
  | cons k r ih =>
    obtain ⟨k, x⟩ := k
    rw [List.cons_append, upd_cons, upd_cons, ih]

theorem RB.mono {h h' : PH} {ρ ρ' : Ro} (l : h.le h') (m : ρ.le ρ') {w : World} {id : Nat} {x : ABlk} (r : RB h ρ w id x) : RB h' ρ' w id x := by
  cases x with
  | cells t cs => obtain ⟨g, vs, h1, h2, h3, h4⟩ := r; exact ⟨g, vs, m _ _ h1, h2, h3, fun j c v e1 e2 => (h4 j c v e1 e2).mono l m⟩
  | row e z es => obtain ⟨v, xs, h1, h2, h3⟩ := r; exact ⟨v, xs, m _ _ h1, h2, h3.form, h3.closed, fun i e j x e1 e2 => let ⟨v, q1, q2⟩ := h3.read i e j x e1 e2; ⟨v, q1, q2.mono l⟩⟩
  | frz z es => obtain ⟨v, h1, h2⟩ := r; exact ⟨v, m _ _ h1, h2.mono l⟩
  | dead => trivial
/-- Another world, the block untouched. -/
theorem RB.world {h : PH} {ρ : Ro} {w w' : World} {id : Nat} {x : ABlk} (r : RB h ρ w id x) (hb : ∀ g, blkOf ρ x id = some g → w'.heap[g]? = w.heap[g]?) : RB h ρ w' id x := by
  cases x with
  | cells t cs =>
    obtain ⟨g, vs, h1, h2, h3⟩ := r
    exact ⟨g, vs, h1, by rw [hb g (by simp [blkOf, h1, vblk])]; exact h2, h3⟩
  | row e z es =>
    obtain ⟨v, xs, h1, ⟨h2, h4⟩, h3⟩ := r
    refine ⟨v, xs, h1, ⟨h2, ?_⟩, h3⟩
    rcases h4 with h4 | ⟨g, cap, cur, rfl, q1, q2, q3⟩
    · exact .inl h4
    · exact .inr ⟨g, cap, cur, rfl, q1, by rw [hb g (by simp [blkOf, h1, vblk])]; exact q2, q3⟩
  | frz z es => exact r
  | dead => trivial

section
variable {cx : Ctx} {h : PH} {ρ : Ro} {B b : Nat → ABlk} {w : World}

theorem rowRv {e : TypeId} {z : Option Nat} {es : List AV} {v : Value} {xs : List Value} {h' : PH} (ho : w.ownsRow 0 e (zsize z) v es.length xs) (hel : ElemsOk h z es xs) (hl : h.le h')
    (hc : ∀ g, vblk v = some g → h' g = w.heap[g]?) : Rv h' (.sl z es) v := by
  obtain ⟨h2, h4⟩ := ho
  rcases h4 with ⟨rfl, h5⟩ | ⟨g, cap, cur, rfl, q1, q2, q3, q4, q5, q6⟩
  · have : es = [] := List.eq_nil_of_length_eq_zero h5
    subst this
    exact .sl0 z none 0
  · refine SlOk.rv ⟨rfl, q3, hel.form, fun _ => ⟨_, rfl⟩, fun ad had i e j x e1 e2 => ?_⟩
    injection had with had
    subst had
    obtain ⟨u, hu, hr⟩ := hel.read i e j x e1 e2
    refine ⟨u, ?_, hr.mono hl⟩
    have hg := hc g rfl
    rw [add_flat]
    unfold PH.cell
    rw [hg, q2]
    have hlt : i * zsize z + j < xs.length := (List.getElem?_eq_some_iff.1 hu).1
    rw [← q6] at hu
    rw [List.getElem?_take] at hu
    split at hu
    · simpa using hu
    · cases hu

/-- One row is written no more. -/
theorem freeze_one (s : Sat cx h ρ B w) {id : Nat} {e : TypeId} {z : Option Nat} {es : List AV} (hB : B id = .row e z es) :
    ∃ h', Sat cx h' ρ (fun i => if id = i then .frz z es else B i) w ∧ h.le h' := by
  have r := s.rb id
  rw [hB] at r
  obtain ⟨v, xs, hv, ho, hel⟩ := r
  classical
  let h' : PH := fun g => if vblk v = some g then w.heap[g]? else h g
  have hb : blkOf ρ (B id) id = vblk v := by rw [hB]; simp [blkOf, hv]
  have hl : h.le h' := by
    intro g o hg
    by_cases hvg : vblk v = some g
    · have := s.hok id g (by rw [hb, hvg])
      rw [this] at hg
      cases hg
    · show (if vblk v = some g then w.heap[g]? else h g) = some o
      rw [if_neg hvg]; exact hg
  refine ⟨h', ?_, hl⟩
  refine ⟨s.os, s.tape, s.output, s.size, s.frame, ?_, s.hle.trans hl, ?_, ?_, ?_, ?_, ?_⟩
  · intro g o hg
    change (if vblk v = some g then w.heap[g]? else h g) = some o at hg
    by_cases hvg : vblk v = some g
    · rw [if_pos hvg] at hg; exact hg
    · rw [if_neg hvg] at hg; exact s.inn g o hg
  · intro g o hg
    change (if vblk v = some g then w.heap[g]? else h g) = some o at hg
    by_cases hvg : vblk v = some g
    · rcases s.new id g (by rw [hb, hvg]) with h1 | h1
      · exact .inr (.inr h1)
      · exact .inr (.inl h1)
    · rw [if_neg hvg] at hg; exact s.hnew g o hg
  · intro i g hg
    by_cases hi : id = i
    · subst hi; simp [blkOf] at hg
    · rw [if_neg hi] at hg; exact s.new i g hg
  · intro i g hg
    by_cases hi : id = i
    · subst hi; simp [blkOf] at hg
    · rw [if_neg hi] at hg
      show (if vblk v = some g then w.heap[g]? else h g) = none
      have hne : ¬ vblk v = some g := fun e => hi (s.inj id i g (by rw [hb, e]) hg)
      rw [if_neg hne]
      exact s.hok i g hg
  · intro i i' g hg hg'
    by_cases hi : id = i
    · subst hi; simp [blkOf] at hg
    · by_cases hi' : id = i'
      · subst hi'; simp [blkOf] at hg'
      · rw [if_neg hi] at hg; rw [if_neg hi'] at hg'; exact s.inj i i' g hg hg'
  · intro i
    by_cases hi : id = i
    · subst hi
      rw [if_pos rfl]
      refine ⟨v, hv, rowRv ho hel hl fun g hg => ?_⟩
      show (if vblk v = some g then w.heap[g]? else h g) = _
      rw [if_pos hg]
    · rw [if_neg hi]; exact (s.rb i).mono hl ρ.le_refl

/-- Rows are written no more. -/
theorem freeze_list (l : List Nat) (hl : ∀ id ∈ l, B id = b id) (s : Sat cx h ρ B w) : ∃ h', Sat cx h' ρ (upd B (frzs b l)) w ∧ h.le h' := by
  induction l with
  | nil => exact ⟨h, s, h.le_refl⟩
  | cons k r ih =>
    obtain ⟨h1, s1, l1⟩ := ih fun id hid => hl id (List.mem_cons_of_mem _ hid)
    have hk := hl k List.mem_cons_self
    have same : upd B (frzs b r) k = frz b k → ∃ h', Sat cx h' ρ (upd B (frzs b (k :: r))) w ∧ h.le h' := by
      intro e
      refine ⟨h1, ?_, l1⟩
      have : upd B (frzs b (k :: r)) = upd B (frzs b r) := by
        funext id
        show upd B ((k, frz b k) :: frzs b r) id = _
        rw [upd_cons]
        by_cases hi : k = id
        · subst hi; rw [if_pos rfl, e]
        · rw [if_neg hi]
      rw [this]; exact s1
    by_cases hm : k ∈ r
    · exact same (by rw [upd_frzs, if_pos hm])
    · have e0 : upd B (frzs b r) k = b k := by rw [upd_frzs, if_neg hm, hk]
      cases hbk : b k with
      | row e z es =>
        obtain ⟨h2, s2, l2⟩ := freeze_one s1 (id := k) (by rw [e0, hbk])
        refine ⟨h2, ?_, l1.trans l2⟩
        have : upd B (frzs b (k :: r)) = fun i => if k = i then .frz z es else upd B (frzs b r) i := by
          funext id
          show upd B ((k, frz b k) :: frzs b r) id = _
          rw [upd_cons]
          simp [frz, hbk]
        rw [this]; exact s2
      | _ => exact same (by rw [e0]; simp [frz, hbk])

theorem clo0_r0 {x : AV} {v : Value} (r : R0 h ρ x v) (hi : ∀ id ∈ ids0 x, RB h ρ w id (frz b id)) : R0 h ρ (clo0 b x) v := by
  cases x with
  | osl id =>
    have q := hi id (by simp [ids0])
    obtain ⟨a, n, c, h1, rfl⟩ := (R2.of_r0 r).osl_inv
    cases hb : b id with
    | row e z es =>
      have ec : clo0 b (.osl id) = .sl z es := by simp [clo0, hb]
      rw [frz, hb] at q
      obtain ⟨v', h2, h3⟩ := q
      rw [h1] at h2
      injection h2 with h2
      subst h2
      rw [ec]
      exact .lf (.cl rfl h3)
    | frz z es =>
      have ec : clo0 b (.osl id) = .sl z es := by simp [clo0, hb]
      rw [frz, hb] at q
      obtain ⟨v', h2, h3⟩ := q
      rw [h1] at h2
      injection h2 with h2
      subst h2
      rw [ec]
      exact .lf (.cl rfl h3)
    | cells t cs =>
      have ec : clo0 b (.osl id) = .osl id := by simp [clo0, hb]
      rw [ec]; exact r
    | dead =>
      have ec : clo0 b (.osl id) = .osl id := by simp [clo0, hb]
      rw [ec]; exact r
  | _ => exact r
theorem clo_r1 {x : AV} {v : Value} (r : R1 h ρ x v) (hi : ∀ id ∈ ids x, RB h ρ w id (frz b id)) : R1 h ρ (clo b x) v := by
  cases r with
  | ag cs vs hl hv =>
    refine .ag _ vs (by simpa using hl) fun j c v e1 e2 => ?_
    simp only [List.getElem?_map, Option.map_eq_some_iff] at e1
    obtain ⟨c', q1, rfl⟩ := e1
    exact clo0_r0 (hv j c' v q1 e2) fun id hid => hi id (List.mem_flatMap.2 ⟨c', List.mem_of_getElem? q1, hid⟩)
  | lf r =>
    cases x with
    | ag cs => cases r with | lf r => cases r with | cl h1 _ => cases h1
    | _ => exact .lf (clo0_r0 r hi)

/-- A value all of whose rows are read as lists. -/
theorem clo_rv {x : AV} {v : Value} {l : List Nat} (s : Sat cx h ρ (upd B (frzs b l)) w) (hsub : ∀ id ∈ ids x, id ∈ l) (r : R1 h ρ x v) (hc : (clo b x).closed = true) : Rv h (clo b x) v := by
  refine (clo_r1 (w := w) r fun id hid => ?_).rv hc
  have := s.rb id
  rwa [upd_frzs, if_pos (hsub id hid)] at this

/-- Another world that differs in new blocks, or in what nobody knows. -/
theorem Sat.world {w' : World} (s : Sat cx h ρ B w) (hos : w'.os = w.os) (htape : w'.tape = w.tape) (hout : w'.output = w.output) (hsz : w.heap.size ≤ w'.heap.size)
    (hold : ∀ i, i < w.heap.size → w'.heap[i]? = w.heap[i]?) : Sat cx h ρ B w' := by
  have lt : ∀ {i : Nat} {o : Obj}, w.heap[i]? = some o → i < w.heap.size := fun e => (Array.getElem?_eq_some_iff.1 e).1
  refine ⟨hos.trans s.os, htape.trans s.tape, hout.trans s.output, Nat.le_trans s.size hsz, fun i hi ho => ?_, fun g o hg => ?_, s.hle, s.hnew, s.new, s.hok, s.inj, fun id => ?_⟩
  · rw [hold i (Nat.lt_of_lt_of_le hi s.size)]; exact s.frame i hi ho
  · have := s.inn g o hg
    rw [hold g (lt this)]; exact this
  · refine (s.rb id).world fun g hg => ?_
    have r := s.rb id
    cases hB : B id with
    | cells t cs =>
      rw [hB] at r hg
      obtain ⟨g', vs, h1, h2, _⟩ := r
      simp [blkOf, h1, vblk] at hg
      subst hg
      exact hold _ (lt h2)
    | row e z es =>
      rw [hB] at r hg
      obtain ⟨v, xs, h1, ⟨_, h4⟩, _⟩ := r
      rcases h4 with ⟨rfl, _⟩ | ⟨g', cap, cur, rfl, _, q2, _⟩
      · simp [blkOf, h1, vblk] at hg
      · simp [blkOf, h1, vblk] at hg
        subst hg
        exact hold _ (lt q2)
    | frz z es => rw [hB] at hg; simp [blkOf] at hg
    | dead => rw [hB] at hg; simp [blkOf] at hg
end
end Go.Cw

set_option linter.unusedVariables false
set_option linter.unusedSimpArgs false
namespace Go.Cw
section
variable {P : Program} {g : Operand → AV} {b : Nat → ABlk} {n : Nat} {K : Ent → Prop}

/-- What a list, a row, or nil is. -/
theorem alist_val {cx : Ctx} {h : PH} {ρ : Ro} {B : Nat → ABlk} {w : World} (s : Sat cx h ρ B w) {x : AV} {v : Value} (r : R2 h ρ x v) (hb : ∀ id ∈ rbOf x, B id = b id) {z : Option Nat} {es : List AV} (ha : alist b x = some (z, es)) :
    ∃ a c, v = .slice a es.length c := by
  cases x <;> simp only [alist] at ha <;> try cases ha
  · exact ⟨none, 0, r.nilsl_inv⟩
  · obtain ⟨a, c, rfl, _⟩ := r.sl_inv; exact ⟨a, c, rfl⟩
  · obtain ⟨a, rfl, _⟩ := r.slx_inv; exact ⟨a, _, rfl⟩
  · rename_i id
    obtain ⟨a, m, c, h1, rfl⟩ := r.osl_inv
    have q := s.rb id
    rw [hb id (by simp [rbOf])] at q
    cases hbi : b id <;> rw [hbi] at ha q <;> simp at ha
    · obtain ⟨v', xs, h2, ho, _⟩ := q
      rw [h1] at h2
      injection h2 with h2
      subst h2
      obtain ⟨rfl, rfl⟩ := ha
      refine ⟨a, c, ?_⟩
      obtain ⟨_, h4⟩ := ho
      rcases h4 with ⟨e, h5⟩ | ⟨g, cap, cur, e, _⟩
      · injection e with e1 e2 e3; subst e1; subst e2; rw [h5]
      · injection e with e1 e2 e3; subst e2; rfl
    · obtain ⟨v', h2, h3⟩ := q
      rw [h1] at h2
      injection h2 with h2
      subst h2
      obtain ⟨rfl, rfl⟩ := ha
      obtain ⟨a', c', e, _⟩ := h3.sl_inv
      exact ⟨a', c', e⟩

theorem Does.mono {o : Oper} {a : Act} {w : World} {R R' : Value → World → Prop} (d : Does P o a w R) (hr : ∀ v w', R v w' → R' v w') : Does P o a w R' :=
  fun next Q hn => d next Q fun v w' r => hn v w' (hr v w' r)

theorem sound_len {C : Cx} (T : TyOk P C.ty) {c : Call} (hc : c.callee = .builtin .len) (H : acall C b n g c K) : ∃ e, K e ∧ Good P (.call c) b n g e := by
  simp only [acall, hc] at H
  split at H
  · rename_i x t ha hat
    obtain ⟨i, hi, H⟩ := WE.elim H
    split at H
    · rename_i e hd
      simp only [alen] at H
      obtain ⟨p, hp, hk⟩ := WE.elim H
      obtain ⟨z, es⟩ := p
      have hargs : c.args = #[x] := by rw [← Array.toArray_toList (xs := c.args), ha]
      refine ⟨_, hk, good_pure fun o ho cx h ρ B ac w s hxs hb => ?_⟩
      have e1 := hxs x (by simp [Op.operands, Call.operands, hargs])
      obtain ⟨a, cp, e2⟩ := alist_val s e1 hb hp
      refine ⟨.int .i64 es.length, ?_, .int _ _⟩
      obtain ⟨j, d, _, _, _, hu, htd, _⟩ := T.info t i hi
      have htd := htd.slice e hd
      subst htd
      have hat : c.argTypes = #[t] := by rw [← Array.toArray_toList (xs := c.argTypes), hat]
      simp [execOp, ho, resolve, hc, invoke, builtin, Builtin.len_, hargs, hat, e2, run_underlying hu, goInt]
    · exact H.elim
  · exact H.elim

theorem minmax_foldl (mx : Bool) (k k' : IntKind) (x y : Int) (w : World) :
    ((if mx then Builtin.max_ #[] 0 #[.int k x, .int k' y] else Builtin.min_ #[] 0 #[.int k x, .int k' y]) : Sem Value).run P w = .ok (.int k (match mx with | true => if y > x then y else x | false => if y < x then y else x)) w := by
  cases mx <;> simp [Builtin.max_, Builtin.min_, Builtin.max2, Builtin.min2]

theorem sound_minmax {C : Cx} (mx : Bool) {c : Call} (hc : c.callee = .builtin (if mx then .max else .min)) (H : WE (aminmax mx (c.args.toList.map g)) fun v => K { val := v }) : ∃ e, K e ∧ Good P (.call c) b n g e := by
  obtain ⟨r, hr, hk⟩ := WE.elim H
  refine ⟨_, hk, good_pure fun o ho cx h ρ B ac w s hxs hb => ?_⟩
  cases ha : c.args.toList with
  | nil => rw [ha] at hr; simp [aminmax] at hr
  | cons x l =>
    cases l with
    | nil => rw [ha] at hr; cases hx : g x <;> simp [aminmax, hx] at hr
    | cons y l =>
      cases l with
      | cons => rw [ha] at hr; cases hx : g x <;> cases hy : g y <;> simp [aminmax, hx, hy] at hr
      | nil =>
        rw [ha] at hr
        have hargs : c.args = #[x, y] := by rw [← Array.toArray_toList (xs := c.args), ha]
        cases hx : g x <;> cases hy : g y <;> simp [aminmax, hx, hy] at hr
        rename_i k p k' q
        have e1 := hxs x (by simp [Op.operands, Call.operands, hargs])
        have e2 := hxs y (by simp [Op.operands, Call.operands, hargs])
        rw [hx] at e1
        rw [hy] at e2
        refine ⟨_, ?_, by rw [← hr]; exact .int _ _⟩
        cases mx <;> simp [execOp, ho, resolve, hc, invoke, builtin, hargs, e1.int_inv, e2.int_inv, Builtin.max_, Builtin.min_, Builtin.max2, Builtin.min2]

theorem sound_indexAddr {C : Cx} (T : TyOk P C.ty) {t : TypeId} {x ix : Operand} (H : aop C b n g (.indexAddr t x ix) K) : ∃ e, K e ∧ Good P (.indexAddr t x ix) b n g e := by
  simp only [aop, aindexAddr] at H
  cases hix : g ix <;> rw [hix] at H <;> try exact H.elim
  rename_i k m
  obtain ⟨i, hi, H⟩ := WE.elim H
  obtain ⟨j, dd, hj, hs, _, hu, ok, _⟩ := T.info t i hi
  cases hd : i.d <;> rw [hd] at H <;> try exact H.elim
  · -- an array
    rename_i len e
    cases hx : g x <;> rw [hx] at H <;> try exact H.elim
    rename_i id off
    obtain ⟨ei, hei, H⟩ := WE.elim H
    rcases BM.elim H with ⟨hb, hk⟩ | ⟨_, h⟩
    case inr => exact h.elim
    simp only [Bool.and_eq_true, decide_eq_true_eq] at hb
    obtain ⟨je, de, hje, hse, _⟩ := T.info e ei hei
    refine ⟨_, hk, good_pure fun o ho cx h ρ B ac w s hxs _ => ?_⟩
    have e1 := hxs x (by simp [Op.operands])
    have e2 := hxs ix (by simp [Op.operands])
    rw [hx] at e1
    rw [hix] at e2
    obtain ⟨q, h1, h2⟩ := e1.ptr_inv
    refine ⟨.pointer (some ⟨q, off + m.toNat * ei.size, none⟩), ?_, .lf (.lf (.lf (.ptr id _ q h1)))⟩
    simp only [execOp, ho, h2, e2.int_inv]
    refine run_v ?_
    have hua := ok.array len e hd
    subst hua
    simp [Instr.indexAt, asIntOf, run_underlying hu, Instr.sureAddr, hb.1, hb.2, run_sizeOf hje, hse, add_flat]
  · -- a slice
    rename_i e
    obtain ⟨ei, hei, H⟩ := WE.elim H
    obtain ⟨je, de, hje, hse, _⟩ := T.info e ei hei
    have hus := ok.slice e hd
    subst hus
    have fin : ∀ (a : AV) (r : AV) (rb : List Nat) (L : Nat), g x = a → (0 ≤ m ∧ m < (L : Int)) → K { val := r, rb := rb } →
        (∀ cx h ρ B w v, Sat cx h ρ B w → (∀ id ∈ rb, B id = b id) → R2 h ρ a v → ∃ ad c, v = .slice (some ad) L c ∧ R2 h ρ r (.pointer (some (ad.add (m.toNat * ei.size))))) → ∃ e, K e ∧ Good P (.indexAddr t x ix) b n g e := by
      intro a r rb L hx hb hk hq
      refine ⟨_, hk, good_pure fun o ho cx h ρ B ac w s hxs hbb => ?_⟩
      have e1 := hxs x (by simp [Op.operands])
      have e2 := hxs ix (by simp [Op.operands])
      rw [hx] at e1
      rw [hix] at e2
      obtain ⟨ad, c, h2, h3⟩ := hq cx h ρ B w _ s hbb e1
      refine ⟨_, ?_, h3⟩
      simp only [execOp, ho, h2, e2.int_inv]
      refine run_v ?_
      simp [Instr.indexAt, asIntOf, run_underlying hu, hb.1, hb.2, run_sizeOf hje, hse]
    cases hx : g x <;> rw [hx] at H <;> try exact H.elim
    · rename_i z es
      rcases BM.elim H with ⟨hb, hk⟩ | ⟨_, h⟩
      case inr => exact h.elim
      simp only [Bool.and_eq_true, decide_eq_true_eq] at hb
      have hz := Nat.eq_of_beq_eq_true hb.1.1
      refine fin _ _ [] es.length hx ⟨hb.1.2, hb.2⟩ hk fun cx h ρ B w v s _ r => ?_
      obtain ⟨a, c, rfl, hs⟩ := r.sl_inv
      obtain ⟨ad, rfl⟩ := hs.some_ (by omega)
      refine ⟨ad, c, rfl, ?_⟩
      have := R2.of_r0 (ρ := ρ) (.lf (.eptr z es m.toNat 0 ad _ c hs))
      rwa [Nat.add_zero, hz] at this
    · rename_i z es
      rcases BM.elim H with ⟨hb, hk⟩ | ⟨_, h⟩
      case inr => exact h.elim
      simp only [Bool.and_eq_true, decide_eq_true_eq] at hb
      have hz := Nat.eq_of_beq_eq_true hb.1.1
      refine fin _ _ [] es.length hx ⟨hb.1.2, hb.2⟩ hk fun cx h ρ B w v s _ r => ?_
      obtain ⟨a, rfl, hs⟩ := r.slx_inv
      obtain ⟨ad, rfl⟩ := hs.some_ (by omega)
      refine ⟨ad, _, rfl, ?_⟩
      have := R2.of_r0 (ρ := ρ) (.lf (.eptr z es m.toNat 0 ad _ _ hs))
      rwa [Nat.add_zero, hz] at this
    · rename_i id
      dsimp only at H
      cases hbi : b id <;> rw [hbi] at H <;> try exact H.elim
      · rename_i e' z es
        rcases BM.elim H with ⟨hb, hk⟩ | ⟨_, h⟩
        case inr => exact h.elim
        simp only [Bool.and_eq_true, decide_eq_true_eq] at hb
        have hz := Nat.eq_of_beq_eq_true hb.1.1
        refine fin _ _ [id] es.length hx ⟨hb.1.2, hb.2⟩ hk fun cx h ρ B w v s hB r => ?_
        obtain ⟨a, l, c, h1, rfl⟩ := r.osl_inv
        have q := s.rb id
        rw [hB id (by simp), hbi] at q
        obtain ⟨v', xs, h2, ⟨_, h4⟩, _⟩ := q
        rw [h1] at h2
        injection h2 with h2
        subst h2
        rcases h4 with ⟨_, h5⟩ | ⟨gg, cap, cur, e, _⟩
        · omega
        · injection e with q1 q2 q3
          subst q1; subst q2; subst q3
          refine ⟨_, _, rfl, ?_⟩
          have := R2.of_r0 (h := h) (.lf (.rptr id z m.toNat 0 gg _ _ h1))
          rw [Nat.add_zero, hz] at this
          rw [add_flat, Nat.zero_add]
          exact this
      · rename_i z es
        rcases BM.elim H with ⟨hb, hk⟩ | ⟨_, h⟩
        case inr => exact h.elim
        simp only [Bool.and_eq_true, decide_eq_true_eq] at hb
        have hz := Nat.eq_of_beq_eq_true hb.1.1
        refine fin _ _ [id] es.length hx ⟨hb.1.2, hb.2⟩ hk fun cx h ρ B w v s hB r => ?_
        obtain ⟨a, l, c, h1, rfl⟩ := r.osl_inv
        have q := s.rb id
        rw [hB id (by simp), hbi] at q
        obtain ⟨v', h2, h3⟩ := q
        rw [h1] at h2
        injection h2 with h2
        subst h2
        obtain ⟨a', c', e, hs⟩ := h3.sl_inv
        injection e with q1 q2 q3
        subst q1; subst q2; subst q3
        obtain ⟨ad, rfl⟩ := hs.some_ (by omega)
        refine ⟨ad, _, rfl, ?_⟩
        have := R2.of_r0 (ρ := ρ) (.lf (.eptr z es m.toNat 0 ad _ _ hs))
        rwa [Nat.add_zero, hz] at this


/-! ### Cuts -/
theorem SlOk.take {h : PH} {z : Option Nat} {es : List AV} {a : Option Addr} {l c : Nat} (s : SlOk h z es a l c) (k : Nat) (hk : k ≤ es.length) (c' : Nat) (hc : k ≤ c') : SlOk h z (es.take k) a k c' := by
  refine ⟨by simp [hk], hc, fun e he => s.form e (List.mem_of_mem_take he), fun h0 => s.some_ (by have := s.len; omega), fun ad ha i e j x h1 h2 => ?_⟩
  rw [List.getElem?_take] at h1
  split at h1
  · exact s.read ad ha i e j x h1 h2
  · cases h1
theorem SlOk.drop {h : PH} {z : Option Nat} {es : List AV} {a : Option Addr} {l c : Nat} (s : SlOk h z es a l c) (k : Nat) (hk : k ≤ es.length) :
    SlOk h z (es.drop k) (if c = k then a else a.map (·.add (k * zsize z))) (l - k) (c - k) := by
  have hlen := s.len
  have hcap := s.cap
  refine ⟨by simp [s.len], by omega, fun e he => s.form e (List.mem_of_mem_drop he), fun h0 => ?_, fun ad ha i e j x h1 h2 => ?_⟩
  · obtain ⟨ad, rfl⟩ := s.some_ (by omega)
    split
    · exact ⟨_, rfl⟩
    · exact ⟨_, rfl⟩
  · have hlt : i < (es.drop k).length := (List.getElem?_eq_some_iff.1 h1).1
    simp at hlt
    rw [if_neg (by omega)] at ha
    cases a with
    | none => cases ha
    | some a0 =>
      simp at ha
      subst ha
      rw [List.getElem?_drop] at h1
      obtain ⟨v, q1, q2⟩ := s.read a0 rfl (k + i) e j x h1 h2
      refine ⟨v, ?_, q2⟩
      rw [add_add', ← Nat.add_assoc, ← Nat.add_mul]
      exact q1

/-- What a slice of the call's own, or a list, is once it is written no more. -/
theorem alist_sl {cx : Ctx} {h : PH} {ρ : Ro} {B : Nat → ABlk} {w : World} {x : AV} (s : Sat cx h ρ (upd B (frzs b (rbOf x))) w) {v : Value} (r : R2 h ρ x v) {z : Option Nat} {es : List AV} (ha : alist b x = some (z, es)) :
    ∃ a c, v = .slice a es.length c ∧ SlOk h z es a es.length c := by
  cases x <;> simp only [alist] at ha <;> try cases ha
  · exact ⟨none, 0, r.nilsl_inv, rfl, Nat.le_refl _, (fun e he => by cases he), (fun h0 => absurd h0 (by simp)), (fun ad _ i e j x h1 _ => by simp at h1)⟩
  · exact r.sl_inv
  · obtain ⟨a, h1, h2⟩ := r.slx_inv; exact ⟨a, _, h1, h2⟩
  · rename_i id
    obtain ⟨a, m, c, h1, rfl⟩ := r.osl_inv
    have q := s.rb id
    rw [upd_frzs, if_pos (by simp [rbOf])] at q
    cases hbi : b id <;> rw [hbi] at ha <;> simp at ha
    · rw [frz, hbi] at q
      obtain ⟨v', h2, h3⟩ := q
      rw [h1] at h2
      injection h2 with h2
      subst h2
      obtain ⟨rfl, rfl⟩ := ha
      exact h3.sl_inv
    · rw [frz, hbi] at q
      obtain ⟨v', h2, h3⟩ := q
      rw [h1] at h2
      injection h2 with h2
      subst h2
      obtain ⟨rfl, rfl⟩ := ha
      exact h3.sl_inv

theorem R2.of_sl {h : PH} {ρ : Ro} {z : Option Nat} {es : List AV} {a : Option Addr} {l c : Nat} (s : SlOk h z es a l c) : R2 h ρ (.sl z es) (.slice a l c) := .lf (.lf (.lf (.cl rfl s.rv)))

theorem run_sliceBound {x : Int} {k : IntKind} {y : Nat} {code : BoundsCode} (h : 0 ≤ x ∧ x ≤ y) (w : World) : (Instr.sliceBound (.int k x) y code).run P w = .ok x.toNat w := by
  simp [Instr.sliceBound, asIntOf, h]

theorem sound_slice {C : Cx} (T : TyOk P C.ty) {t : TypeId} {x : Operand} {lo hi mx : Option Operand} (H : aop C b n g (.slice t x lo hi mx) K) : ∃ e, K e ∧ Good P (.slice t x lo hi mx) b n g e := by
  simp only [aop] at H
  obtain ⟨i, hi', H⟩ := WE.elim H
  obtain ⟨j, dd, hj, hs, _, hu, ok, _⟩ := T.info t i hi'
  cases hd : i.d <;> rw [hd] at H <;> try exact H.elim
  rename_i e
  obtain ⟨ei, hei, H⟩ := WE.elim H
  obtain ⟨je, de, hje, hse, _⟩ := T.info e ei hei
  have hus := ok.slice e hd
  subst hus
  -- from the bounds to the cut
  have fin : ∀ (a : AV) (r : AV) (z : Option Nat) (es : List AV) (l hh : Nat) (mm : Option Nat), g x = a → alist b a = some (z, es) → zsize z = ei.size → l ≤ hh → hh ≤ es.length →
      (∀ w len cap (ac : Act), (∀ y ∈ lo.toList ++ hi.toList ++ mx.toList, ∀ k q, g y = .int k q → ac.eval y = .int k q) → len = es.length → len ≤ cap → (Instr.sliceBounds true len cap (lo.map ac.eval) (hi.map ac.eval) (mx.map ac.eval)).run P w = .ok (l, hh, mm.getD cap) w) →
      (∀ m, mm = some m → m = hh) →
      (∀ h ρ a c, SlOk h z ((es.take hh).drop l) a (hh - l) c → (∀ m, mm = some m → c = hh - l) → R2 h ρ r (.slice a (hh - l) c)) →
      K { val := r, rb := rbOf a, up := frzs b (rbOf a) } → ∃ e, K e ∧ Good P (.slice t x lo hi mx) b n g e := by
    intro a r z es l hh mm hx ha hz hl hhl hbound hmm hr hk
    refine ⟨_, hk, fun o ho cx h ρ B ac w s hxs hbb hn => ?_⟩
    have e1 := hxs x (by simp [Op.operands])
    rw [hx] at e1
    obtain ⟨h', s', hle⟩ := freeze_list (rbOf a) hbb s
    obtain ⟨ad, c, e2, hsl⟩ := alist_sl s' (e1.mono hle ρ.le_refl) ha
    have hcap := hsl.cap
    have hbd := hbound w es.length c ac (fun y hy k q hg => by
      have r := hxs y (by
        simp only [Op.operands, Array.mem_append, Array.mem_singleton, Option.mem_toArray, Option.mem_toList, List.mem_append] at hy ⊢
        rcases hy with (hy | hy) | hy
        · exact .inl (.inl (.inr hy))
        · exact .inl (.inr hy)
        · exact .inr hy)
      rw [hg] at r; exact r.int_inv) rfl hcap
    refine Does.value (v := .slice (if mm.getD c = l then ad else ad.map (·.add (l * je.size))) (hh - l) (mm.getD c - l)) (w' := w) ?_ ⟨h', ρ, s', hle, ρ.le_refl, fun id hi _ => hi, ?_⟩
    · simp only [execOp, ho, e2]
      refine run_v ?_
      unfold Instr.sliceAt
      rw [Sem.run_bind, run_underlying hu, Result.andThen_ok]
      simp only [Instr.slice, Sem.run_bind, run_underlying hu, Result.andThen_ok, hbd, run_sizeOf hje, Sem.run_pure]
    · cases mm with
      | none =>
        have h1 := (hsl.take hh hhl c (by omega)).drop l (by simp; omega)
        rw [hz, ← hse] at h1
        exact hr h' ρ _ _ (by simpa using h1) (fun m hm => by cases hm)
      | some m =>
        have := hmm m rfl
        subst this
        have h1 := (hsl.take m hhl m (Nat.le_refl _)).drop l (by simp; omega)
        rw [hz, ← hse] at h1
        exact hr h' ρ _ _ (by simpa using h1) (fun m' hm => by injection hm with hm; subst hm; rfl)
  have main : ∀ a, g x = a → asliceL ei.size b a (lo.map g) (hi.map g) (mx.map g) K → ∃ e, K e ∧ Good P (.slice t x lo hi mx) b n g e := by
    intro a hx H
    obtain ⟨p, hp, H⟩ := WE.elim H
    obtain ⟨z, es⟩ := p
    rcases BM.elim H with ⟨hz, H⟩ | ⟨_, h⟩
    case inr => exact h.elim
    have hz' : zsize z = ei.size := Nat.eq_of_beq_eq_true hz
    unfold asliceP at H
    split at H
    · rename_i k m e1 e2 e3
      rcases BM.elim H with ⟨hb, hk⟩ | ⟨_, h⟩
      case inr => exact h.elim
      simp only [Bool.and_eq_true, decide_eq_true_eq] at hb
      obtain ⟨oh, rfl, eh⟩ := Option.map_eq_some_iff.1 e2
      obtain rfl := Option.map_eq_none_iff.1 e1
      obtain rfl := Option.map_eq_none_iff.1 e3
      refine fin a _ z es 0 m.toNat none hx hp hz' (Nat.zero_le _) (by omega) (fun w len cap ac hev hlen hcap => ?_) (by simp) (fun h ρ ad c hs _ => ?_) hk
      · have := hev oh (by simp) _ _ eh
        simp [Instr.sliceBounds, this, run_sliceBound (P := P) (x := m) (k := k) (y := cap) (code := .sliceAcap) ⟨hb.1, by omega⟩ w]
      · have := R2.of_sl (ρ := ρ) hs
        simpa using this
    · rename_i k m e1 e2 e3
      rcases BM.elim H with ⟨hb, hk⟩ | ⟨_, h⟩
      case inr => exact h.elim
      simp only [Bool.and_eq_true, decide_eq_true_eq] at hb
      obtain ⟨oh, rfl, eh⟩ := Option.map_eq_some_iff.1 e1
      obtain rfl := Option.map_eq_none_iff.1 e2
      obtain rfl := Option.map_eq_none_iff.1 e3
      refine fin a _ z es m.toNat es.length none hx hp hz' (by omega) (Nat.le_refl _) (fun w len cap ac hev hlen hcap => ?_) (by simp) (fun h ρ ad c hs _ => ?_) hk
      · have := hev oh (by simp) _ _ eh
        subst hlen
        simp [Instr.sliceBounds, this, run_sliceBound (P := P) (x := m) (k := k) (y := es.length) (code := .sliceB) ⟨hb.1, by omega⟩ w]
      · have := R2.of_sl (ρ := ρ) hs
        simpa using this
    · rename_i k m k' m' e1 e2 e3
      rcases BM.elim H with ⟨hb, hk⟩ | ⟨_, h⟩
      case inr => exact h.elim
      simp only [Bool.and_eq_true, decide_eq_true_eq] at hb
      obtain ⟨ol, rfl, el⟩ := Option.map_eq_some_iff.1 e1
      obtain ⟨oh, rfl, eh⟩ := Option.map_eq_some_iff.1 e2
      obtain rfl := Option.map_eq_none_iff.1 e3
      refine fin a _ z es m.toNat m'.toNat none hx hp hz' (by omega) (by omega) (fun w len cap ac hev hlen hcap => ?_) (by simp) (fun h ρ ad c hs _ => ?_) hk
      · have h1 := hev ol (by simp) _ _ el
        have h2 := hev oh (by simp) _ _ eh
        simp [Instr.sliceBounds, h1, h2, run_sliceBound (P := P) (x := m') (k := k') (y := cap) (code := .sliceAcap) ⟨by omega, by omega⟩ w, run_sliceBound (P := P) (x := m) (k := k) (y := m'.toNat) (code := .sliceB) ⟨by omega, by omega⟩ w]
      · exact R2.of_sl (ρ := ρ) hs
    · rename_i k m k' m' e1 e2 e3
      rcases BM.elim H with ⟨hb, hk⟩ | ⟨_, h⟩
      case inr => exact h.elim
      simp only [Bool.and_eq_true, decide_eq_true_eq] at hb
      obtain rfl := Option.map_eq_none_iff.1 e1
      obtain ⟨oh, rfl, eh⟩ := Option.map_eq_some_iff.1 e2
      obtain ⟨om, rfl, em⟩ := Option.map_eq_some_iff.1 e3
      obtain ⟨⟨hb0, hb1⟩, hb2⟩ := hb
      subst hb1
      refine fin a _ z es 0 m.toNat (some m.toNat) hx hp hz' (Nat.zero_le _) (by omega) (fun w len cap ac hev hlen hcap => ?_) (by simp) (fun h ρ ad c hs hc => ?_) hk
      · have h1 := hev oh (by simp) _ _ eh
        have h2 := hev om (by simp) _ _ em
        simp [Instr.sliceBounds, h1, h2, run_sliceBound (P := P) (x := m) (k := k') (y := cap) (code := .slice3Acap) ⟨by omega, by omega⟩ w, run_sliceBound (P := P) (x := m) (k := k) (y := m.toNat) (code := .slice3B) ⟨by omega, by omega⟩ w]
      · have hc' := hc _ rfl
        subst hc'
        simp only [Nat.sub_zero, List.drop_zero] at hs ⊢
        have hlen : (es.take m.toNat).length = m.toNat := by simp; omega
        have h1 := hs.rv
        have h2 := Rv.slx z (es.take m.toNat) ad (by rw [hlen]; exact h1)
        rw [hlen] at h2
        exact .lf (.lf (.lf (.cl rfl h2)))
    · exact H.elim
  unfold aslice at H
  split at H
  · rename_i hx
    have nil : K { val := .nilsl } → (∀ w (ac : Act), (∀ y ∈ lo.toList ++ hi.toList ++ mx.toList, ∀ k q, g y = .int k q → ac.eval y = .int k q) → (Instr.sliceBounds true 0 0 (lo.map ac.eval) (hi.map ac.eval) (mx.map ac.eval)).run P w = .ok (0, 0, 0) w) → ∃ e, K e ∧ Good P (.slice t x lo hi mx) b n g e := by
      intro hk hbound
      refine ⟨_, hk, good_pure fun o ho cx h ρ B ac w s hxs _ => ⟨.slice none 0 0, ?_, .lf (.lf (.lf (.cl rfl .nilsl)))⟩⟩
      have e1 := hxs x (by simp [Op.operands])
      rw [hx] at e1
      have hbd := hbound w ac fun y hy k q hg => by
        have r := hxs y (by
          simp only [Op.operands, Array.mem_append, Array.mem_singleton, Option.mem_toArray, Option.mem_toList, List.mem_append] at hy ⊢
          rcases hy with (hy | hy) | hy
          · exact .inl (.inl (.inr hy))
          · exact .inl (.inr hy)
          · exact .inr hy)
        rw [hg] at r; exact r.int_inv
      simp only [execOp, ho, e1.nilsl_inv]
      refine run_v ?_
      unfold Instr.sliceAt
      rw [Sem.run_bind, run_underlying hu, Result.andThen_ok]
      simp only [Instr.slice, Sem.run_bind, run_underlying hu, Result.andThen_ok, hbd, run_sizeOf hje, Sem.run_pure]
      simp
    split at H
    · rename_i k m e1 e2 e3
      rcases BM.elim H with ⟨hb, hk⟩ | ⟨_, h⟩
      case inr => exact h.elim
      have hm : m = 0 := by simpa using hb
      subst hm
      obtain ⟨oh, rfl, eh⟩ := Option.map_eq_some_iff.1 e2
      obtain rfl := Option.map_eq_none_iff.1 e1
      obtain rfl := Option.map_eq_none_iff.1 e3
      refine nil hk fun w ac hev => ?_
      have := hev oh (by simp) _ _ eh
      simp [Instr.sliceBounds, this, run_sliceBound (P := P) (x := 0) (k := k) (y := 0) (code := .sliceAcap) ⟨by omega, by omega⟩ w]
    · rename_i k m e1 e2 e3
      rcases BM.elim H with ⟨hb, hk⟩ | ⟨_, h⟩
      case inr => exact h.elim
      have hm : m = 0 := by simpa using hb
      subst hm
      obtain ⟨oh, rfl, eh⟩ := Option.map_eq_some_iff.1 e1
      obtain rfl := Option.map_eq_none_iff.1 e2
      obtain rfl := Option.map_eq_none_iff.1 e3
      refine nil hk fun w ac hev => ?_
      have := hev oh (by simp) _ _ eh
      simp [Instr.sliceBounds, this, run_sliceBound (P := P) (x := 0) (k := k) (y := 0) (code := .sliceB) ⟨by omega, by omega⟩ w]
    · exact H.elim
  · exact main _ ‹_› H
  · exact main _ ‹_› H
  · exact main _ ‹_› H
  · exact H.elim

end
end Go.Cw

set_option linter.unusedVariables false
set_option linter.unusedSimpArgs false
namespace Go.Cw
section
variable {P : Program} {g : Operand → AV} {b : Nat → ABlk} {n : Nat} {K : Ent → Prop}

theorem run_loadVar {ty : TypeId → Option TI} (T : TyOk P ty) {t : TypeId} {i : TI} (ht : ty t = some i) (a : Addr) (us : List Value) (hl : us.length = i.size) (w : World) (hc : ∀ (j : Nat) v, us[j]? = some v → w.cell? (a.add j) = some v) :
    (i.agg = true → (loadVar t a).run P w = .ok (.agg us.toArray) w) ∧ (i.agg = false → ∃ v, us = [v] ∧ (loadVar t a).run P w = .ok v w) := by
  obtain ⟨j, d, hj, hs, _, hd, ok, _, _, _, h1⟩ := T.info t i ht
  constructor
  · intro hag
    unfold loadVar
    rw [Sem.run_bind, run_isAgg hd, Result.andThen_ok, ← ok.agg, hag]
    have := run_loadCells_list (P := P) w a us hc
    rw [hl, ← hs] at this
    simp [run_sizeOf hj, this]
  · intro hag
    have h1 := h1 hag
    rw [h1] at hl
    match us, hl with
    | [v], _ =>
      refine ⟨v, rfl, ?_⟩
      have := hc 0 v rfl
      have e : a.add 0 = a := by simp [Addr.add]
      rw [e] at this
      unfold loadVar
      rw [Sem.run_bind, run_isAgg hd, Result.andThen_ok, ← ok.agg, hag]
      simp [load, Sem.run, this]

/-- A part of cells that lie in memory. -/
theorem load_part {ty : TypeId → Option TI} (T : TyOk P ty) {t : TypeId} {i : TI} (ht : ty t = some i) {cs : List AV} {off : Nat} {K : AV → Prop} (ha : apart i cs off K) :
    ∃ x, K x ∧ ∀ (h : PH) (ρ : Ro) (w : World) (a : Addr) (vs : List Value), CellsR h ρ cs vs → (∀ (j : Nat) v, vs[off + j]? = some v → w.cell? (a.add j) = some v) → ∃ v, R1 h ρ x v ∧ (loadVar t a).run P w = .ok v w := by
  obtain ⟨j, d, hj, hs, _, hd, ok, _, _, _, h1⟩ := T.info t i ht
  unfold apart at ha
  cases hag : i.agg with
  | true =>
    rw [hag] at ha
    rcases BM.elim ha with ⟨hb, hk⟩ | ⟨_, hk⟩
    case inr => exact hk.elim
    have hb' : off + i.size ≤ cs.length := Nat.le_of_ble_eq_true hb
    refine ⟨_, hk, fun h ρ w a vs r hc => ?_⟩
    have hvl := r.1
    have hr := (run_loadVar T ht a ((vs.drop off).take i.size) (by simp; omega) w fun j v hv => by
      rw [List.getElem?_take, List.getElem?_drop] at hv
      split at hv
      · exact hc j v hv
      · cases hv).1 hag
    exact ⟨_, .ag _ _ (r.sub off i.size).1 (r.sub off i.size).2, hr⟩
  | false =>
    rw [hag] at ha
    obtain ⟨x, hx, hk⟩ := WE.elim ha
    refine ⟨x, hk, fun h ρ w a vs r hc => ?_⟩
    have hlt : off < cs.length := (List.getElem?_eq_some_iff.1 hx).1
    have hvl := r.1
    have hv : vs[off]? = some vs[off] := List.getElem?_eq_getElem (by omega)
    obtain ⟨v, hv', hr⟩ := (run_loadVar T ht a [vs[off]] (by simp [h1 hag]) w fun j v hv' => by
      cases j with
      | zero => simp at hv'; subst hv'; exact hc 0 _ (by simp)
      | succ j => simp at hv').2 hag
    injection hv' with hv'
    subst hv'
    exact ⟨_, .lf (r.2 off x _ hx hv), hr⟩

theorem load_elem {ty : TypeId → Option TI} (T : TyOk P ty) {t : TypeId} {i : TI} (ht : ty t = some i) {z : Option Nat} {es : List AV} {j f : Nat} {K : AV → Prop} (ha : aelem i z es j f K) :
    ∃ x e, es[j]? = some e ∧ K x ∧ ∀ (h : PH) (ρ : Ro) (w : World) (a : Addr), zform z e → (∀ (q : Nat) y, e.cells[q]? = some y → ∃ v, w.cell? (a.add (j * zsize z + q)) = some v ∧ Rv h y v) → ∃ v, R1 h ρ x v ∧ (loadVar t (a.add (j * zsize z + f))).run P w = .ok v w := by
  obtain ⟨jj, d, hj, hs, _, hd, ok, _, _, _, h1⟩ := T.info t i ht
  unfold aelem at ha
  obtain ⟨e, he, ha⟩ := WE.elim ha
  cases z with
  | none =>
    cases hag : i.agg with
    | true => rw [hag] at ha; exact ha.elim
    | false =>
      rw [hag] at ha
      cases f with
      | succ f => exact ha.elim
      | zero =>
        refine ⟨e, e, he, ha, fun h ρ w a hz hr => ?_⟩
        have hcs : e.cells = [e] := by cases e <;> first | rfl | (simp [zform, AV.isCell] at hz)
        have hcl := zform_closed hz
        obtain ⟨v, hv, hx⟩ := hr 0 e (by rw [hcs]; rfl)
        obtain ⟨v', hv', hrun⟩ := (run_loadVar T ht (a.add (j * zsize none + 0)) [v] (by simp [h1 hag]) w fun q u hu => by
          cases q with
          | zero => simp at hu; subst hu; simpa [Addr.add] using hv
          | succ q => simp at hu).2 hag
        injection hv' with hv'
        subst hv'
        exact ⟨_, .of_rv hcl hx, hrun⟩
  | some m =>
    cases e with
    | ag cs =>
      cases hag : i.agg with
      | true =>
        rw [hag] at ha
        rcases BM.elim ha with ⟨hb, hk⟩ | ⟨_, hk⟩
        case inr => exact hk.elim
        have hb' : f + i.size ≤ m := Nat.le_of_ble_eq_true hb
        refine ⟨_, _, he, hk, fun h ρ w a hz hr => ?_⟩
        obtain ⟨cs', e', hl, _, ha0⟩ := hz
        injection e' with e'
        subst e'
        have ha0' := all0_mem ha0
        classical
        let us : List Value := ((List.range cs.length).map fun q => (w.cell? (a.add (j * m + q))).getD undef)
        have hus : ∀ (q : Nat) y, cs[q]? = some y → ∃ v, us[q]? = some v ∧ w.cell? (a.add (j * m + q)) = some v ∧ Rv h y v := by
          intro q y hq
          obtain ⟨v, hv, hy⟩ := hr q y hq
          have hlt : q < cs.length := (List.getElem?_eq_some_iff.1 hq).1
          refine ⟨v, ?_, hv, hy⟩
          have hv' : w.cell? (a.add (j * m + q)) = some v := hv
          simp [us, hlt, hv']
        have hul : us.length = cs.length := by simp [us]
        have hrun := (run_loadVar T ht (a.add (j * zsize (some m) + f)) ((us.drop f).take i.size) (by simp; omega) w fun q u hu => by
          rw [List.getElem?_take, List.getElem?_drop] at hu
          split at hu
          · have hlt : f + q < cs.length := by omega
            obtain ⟨v, q1, q2, _⟩ := hus (f + q) _ (List.getElem?_eq_getElem hlt)
            rw [hu] at q1
            injection q1 with q1
            subst q1
            rw [add_add']
            show w.cell? (a.add (j * m + f + q)) = _
            rw [Nat.add_assoc]; exact q2
          · cases hu).1 hag
        refine ⟨_, .ag _ _ (by simp; omega) fun q y v e1 e2 => ?_, hrun⟩
        rw [List.getElem?_take, List.getElem?_drop] at e1 e2
        split at e1
        · rename_i hq
          rw [if_pos hq] at e2
          obtain ⟨v', q1, _, q3⟩ := hus _ _ e1
          rw [e2] at q1
          injection q1 with q1
          subst q1
          exact .of_rv (ha0' _ (List.mem_of_getElem? e1)) q3
        · cases e1
      | false =>
        rw [hag] at ha
        rcases BM.elim ha with ⟨hb, ha⟩ | ⟨_, hk⟩
        case inr => exact hk.elim
        obtain ⟨x, hx, hk⟩ := WE.elim ha
        refine ⟨x, _, he, hk, fun h ρ w a hz hr => ?_⟩
        obtain ⟨cs', e', _, _, ha0⟩ := hz
        injection e' with e'
        subst e'
        obtain ⟨v, hv, hy⟩ := hr f x hx
        obtain ⟨v', hv', hrun⟩ := (run_loadVar T ht (a.add (j * zsize (some m) + f)) [v] (by simp [h1 hag]) w fun q u hu => by
          cases q with
          | zero => simp at hu; subst hu; rw [add_add', Nat.add_zero]; exact hv
          | succ q => simp at hu).2 hag
        injection hv' with hv'
        subst hv'
        exact ⟨_, .lf (.of_rv (all0_mem ha0 _ (List.mem_of_getElem? hx)) hy), hrun⟩
    | _ => exact ha.elim

theorem sound_load {C : Cx} (T : TyOk P C.ty) {t : TypeId} {x : Operand} (H : aop C b n g (.load t x) K) : ∃ e, K e ∧ Good P (.load t x) b n g e := by
  simp only [aop, aload] at H
  obtain ⟨i, hi, H⟩ := WE.elim H
  cases hx : g x <;> rw [hx] at H <;> try exact H.elim
  · rename_i id off
    dsimp only at H
    cases hbi : b id <;> rw [hbi] at H <;> try exact H.elim
    rename_i t' cs
    obtain ⟨y, hk, hl⟩ := load_part T hi H
    refine ⟨_, hk, good_pure fun o ho cx h ρ B ac w s hxs hb => ?_⟩
    have e1 := hxs x (by simp [Op.operands])
    rw [hx] at e1
    obtain ⟨q, h1, h2⟩ := e1.ptr_inv
    have r := s.rb id
    rw [hb id (by simp), hbi] at r
    obtain ⟨q', vs, h3, h4, h5, h6⟩ := r
    rw [h1] at h3
    injection h3 with h3; injection h3 with h3; injection h3 with h3; injection h3 with h3
    subst h3
    obtain ⟨v, hv, hrun⟩ := hl h ρ w ⟨q, off, none⟩ vs ⟨h5, h6⟩ fun j v hv => by
      rw [add_flat]
      simp [World.cell?, h4, hv]
    refine ⟨v, ?_, .lf hv⟩
    simp only [execOp, ho, h2]
    exact run_v (by simp [Instr.loadAt, Instr.sureAddr, hrun])
  · rename_i id z' jj f
    dsimp only at H
    cases hbi : b id <;> rw [hbi] at H <;> try exact H.elim
    rename_i e z es
    rcases BM.elim H with ⟨hz, H2⟩ | ⟨_, h⟩
    case inr => exact h.elim
    have := zbeq_eq hz
    subst this
    obtain ⟨y, el, hel, hk, hl⟩ := load_elem T hi H2
    refine ⟨_, hk, good_pure fun o ho cx h ρ B ac w s hxs hb => ?_⟩
    have e1 := hxs x (by simp [Op.operands])
    rw [hx] at e1
    obtain ⟨q, m, c, h1, h2⟩ := e1.rptr_inv
    have r := s.rb id
    rw [hb id (by simp), hbi] at r
    obtain ⟨v', xs, h3, ho', hel'⟩ := r
    rw [h1] at h3
    injection h3 with h3
    subst h3
    obtain ⟨v, hv, hrun⟩ := hl h ρ w ⟨q, 0, none⟩ (hel'.form el (List.mem_of_getElem? hel)) fun k u hu => by
      obtain ⟨v, q1, q2⟩ := hel'.read jj el k u hel hu
      exact ⟨v, ho'.cells (g := q) rfl _ _ q1, q2⟩
    refine ⟨v, ?_, .lf hv⟩
    rw [add_flat, Nat.zero_add] at hrun
    simp only [execOp, ho, h2]
    exact run_v (by simp [Instr.loadAt, Instr.sureAddr, hrun])
  · rename_i z es jj f
    dsimp only at H
    obtain ⟨y, el, hel, hk, hl⟩ := load_elem T hi H
    refine ⟨_, hk, good_pure fun o ho cx h ρ B ac w s hxs hb => ?_⟩
    have e1 := hxs x (by simp [Op.operands])
    rw [hx] at e1
    obtain ⟨ad, m, c, hs, h2⟩ := e1.eptr_inv
    obtain ⟨v, hv, hrun⟩ := hl h ρ w ad (hs.form el (List.mem_of_getElem? hel)) fun k u hu => by
      obtain ⟨v, q1, q2⟩ := hs.read ad rfl jj el k u hel hu
      exact ⟨v, s.inn.cell q1, q2⟩
    refine ⟨v, ?_, .lf hv⟩
    simp only [execOp, ho, h2]
    exact run_v (by simp [Instr.loadAt, Instr.sureAddr, hrun])

/-! ### A new block -/
theorem Sat.alloc {cx : Ctx} {h : PH} {ρ : Ro} {B : Nat → ABlk} {w : World} (s : Sat cx h ρ B w) {n : Nat} (hn : ρ n = none) (hB : B n = .dead) (o : Obj) (v : Value) (hv : vblk v = some w.heap.size) (x : ABlk)
    (hx : ∀ ρ', ρ.le ρ' → ρ' n = some v → RB h ρ' (w.alloc o) n x) :
    ∃ ρ', Sat cx h ρ' (fun i => if n = i then x else B i) (w.alloc o) ∧ ρ.le ρ' ∧ ρ' n = some v ∧ ∀ id, ρ id = none → n ≠ id → ρ' id = none := by
  classical
  let ρ' : Ro := fun i => if n = i then some v else ρ i
  have hle : ρ.le ρ' := by
    intro i u hi
    show (if n = i then some v else ρ i) = some u
    have : n ≠ i := fun e => by subst e; rw [hn] at hi; cases hi
    rw [if_neg this]; exact hi
  have hnn : ρ' n = some v := if_pos rfl
  have s' := s.world (w' := w.alloc o) rfl rfl rfl (by simp) (fun i hi => by
    show (w.heap.push o)[i]? = _
    rw [Array.getElem?_push, if_neg (Nat.ne_of_lt hi)])
  have old : ∀ id, n ≠ id → blkOf ρ' (B id) id = blkOf ρ (B id) id := by
    intro id hne
    have : ρ' id = ρ id := if_neg hne
    cases B id <;> simp [blkOf, this]
  have small : ∀ id g, blkOf ρ (B id) id = some g → g < w.heap.size := by
    intro id g hg
    have r := s.rb id
    cases hBi : B id with
    | cells t cs =>
      rw [hBi] at r hg
      obtain ⟨g', vs, h1, h2, _⟩ := r
      simp [blkOf, h1, vblk] at hg
      subst hg
      exact (Array.getElem?_eq_some_iff.1 h2).1
    | row e z es =>
      rw [hBi] at r hg
      obtain ⟨v, xs, h1, ⟨_, h4⟩, _⟩ := r
      rcases h4 with ⟨rfl, _⟩ | ⟨g', cap, cur, rfl, _, q2, _⟩
      · simp [blkOf, h1, vblk] at hg
      · simp [blkOf, h1, vblk] at hg
        subst hg
        exact (Array.getElem?_eq_some_iff.1 q2).1
    | frz z es => rw [hBi] at hg; simp [blkOf] at hg
    | dead => rw [hBi] at hg; simp [blkOf] at hg
  have new : ∀ g, blkOf ρ' x n = some g → g = w.heap.size := by
    intro g hg
    cases x <;> simp [blkOf, hnn, hv] at hg <;> exact hg.symm
  refine ⟨ρ', ⟨s'.os, s'.tape, s'.output, s'.size, s'.frame, s'.inn, s'.hle, s'.hnew, fun id g hg => ?_, fun id g hg => ?_, fun id id' g hg hg' => ?_, fun id => ?_⟩, hle, hnn, fun id hi hne => by show (if n = id then some v else ρ id) = none; rw [if_neg hne]; exact hi⟩
  · by_cases hid : n = id
    · subst hid
      rw [if_pos rfl] at hg
      rw [new g hg]; exact .inr s.size
    · rw [if_neg hid, old id hid] at hg; exact s.new id g hg
  · by_cases hid : n = id
    · subst hid
      rw [if_pos rfl] at hg
      rw [new g hg]
      cases hh : h w.heap.size with
      | none => rfl
      | some o' =>
        have := s.inn _ _ hh
        have := (Array.getElem?_eq_some_iff.1 this).1
        omega
    · rw [if_neg hid, old id hid] at hg; exact s.hok id g hg
  · by_cases hid : n = id
    · by_cases hid' : n = id'
      · rw [← hid, ← hid']
      · subst hid
        rw [if_pos rfl] at hg
        rw [if_neg hid', old id' hid'] at hg'
        have := small id' g hg'
        have := new g hg
        omega
    · by_cases hid' : n = id'
      · subst hid'
        rw [if_pos rfl] at hg'
        rw [if_neg hid, old id hid] at hg
        have := small id g hg
        have := new g hg'
        omega
      · rw [if_neg hid, old id hid] at hg
        rw [if_neg hid', old id' hid'] at hg'
        exact s.inj id id' g hg hg'
  · by_cases hid : n = id
    · subst hid
      rw [if_pos rfl]; exact hx ρ' hle hnn
    · rw [if_neg hid]; exact (s'.rb id).mono h.le_refl hle

/-- A block of cells is laid. -/
theorem good_cells {op : Op} {t : TypeId} {cs : List AV} {rb : List Nat}
    (hp : ∀ (o : Oper) (_ : o.op = op) (cx : Ctx) (h : PH) (ρ : Ro) (B : Nat → ABlk) (a : Act) (w : World), Sat cx h ρ B w → (∀ x ∈ op.operands, R2 h ρ (g x) (a.eval x)) →
      ∃ vs : List Value, CellsR h ρ cs vs ∧ (execOp a.eval o).run P w = .ok (.value (.pointer (some ⟨w.heap.size, 0, none⟩))) (w.alloc (.cells vs.toArray t))) :
    Good P op b n g { val := .ptr n 0, rb := rb, up := [(n, .cells t cs)], nf := 1 } := by
  intro o ho cx h ρ B a w s hx hb hn
  obtain ⟨vs, hr, hrun⟩ := hp o ho cx h ρ B a w s hx
  have hn0 := hn 0 (by show 0 < 1; omega)
  obtain ⟨ρ', s', hle, hv, hfr⟩ := s.alloc (n := n) (by simpa using hn0.1) (by simpa using hn0.2) (.cells vs.toArray t) (.pointer (some ⟨w.heap.size, 0, none⟩)) rfl (.cells t cs) fun ρ' hle hv =>
    ⟨w.heap.size, vs, hv, by show (w.heap.push _)[w.heap.size]? = _; simp, hr.1, fun j c v e1 e2 => (hr.2 j c v e1 e2).mono h.le_refl hle⟩
  refine Does.value hrun ⟨h, ρ', ?_, h.le_refl, hle, fun id hi hne => hfr id hi fun e => hne (by show n ≤ id ∧ id < n + 1; omega), .lf (.lf (.lf (.ptr n 0 _ hv)))⟩
  have : upd B [(n, .cells t cs)] = fun i => if n = i then .cells t cs else B i := by
    funext i; rw [upd_cons]; rfl
  show Sat cx h ρ' (upd B [(n, .cells t cs)]) _
  rw [this]; exact s'

theorem zero_cells {ty : TypeId → Option TI} (T : TyOk P ty) {t : TypeId} {i : TI} (ht : ty t = some i) (h : PH) (ρ : Ro) :
    ∃ z j, P.info? t = some j ∧ j.zero = some z ∧ z.cells = (i.zero.map zval).toArray ∧ CellsR h ρ i.zero (i.zero.map zval) := by
  obtain ⟨j, d, hj, hs, _, hd, ok, ⟨z, hz, hzc⟩, hzo, _⟩ := T.info t i ht
  refine ⟨z, j, hj, hz, hzc, by simp, fun k c v e1 e2 => ?_⟩
  rw [List.getElem?_map, e1] at e2
  simp at e2
  subst e2
  have := hzo c (List.mem_of_getElem? e1)
  cases c <;> first | cases this | skip
  · exact .lf (.cl rfl (.int _ _))
  · exact .lf (.cl rfl (.bool _))
  · exact .lf (.cl rfl .nilsl)
  · exact .lf (.cl rfl .nilp)

theorem sound_alloc {C : Cx} (T : TyOk P C.ty) {t : TypeId} (H : aop C b n g (.alloc t) K) : ∃ e, K e ∧ Good P (.alloc t) b n g e := by
  simp only [aop] at H
  obtain ⟨i, hi, hk⟩ := WE.elim H
  refine ⟨_, hk, good_cells fun o ho cx h ρ B a w s hx => ?_⟩
  obtain ⟨z, j, hj, hz, hzc, hr⟩ := zero_cells T hi h ρ
  refine ⟨_, hr, ?_⟩
  simp only [execOp, ho]
  refine run_v ?_
  simp [Instr.alloc, zeroValue, typeInfo, hj, hz, newVar, newRow, newObj, Sem.run, hzc]

theorem AV.okv_tup {v : AV} (h : v.okv = true) : ∀ vs, v ≠ .tup vs := by
  intro vs e; subst e; simp [AV.okv, AV.cells, allC, AV.isCell] at h

theorem sound_box {C : Cx} {t : TypeId} {x : Operand} (H : aop C b n g (.box t x) K) : ∃ e, K e ∧ Good P (.box t x) b n g e := by
  simp only [aop] at H
  rcases BM.elim H with ⟨hok, hk⟩ | ⟨_, h⟩
  case inr => exact h.elim
  refine ⟨_, hk, good_cells fun o ho cx h ρ B a w s hx => ?_⟩
  have e1 := hx x (by simp [Op.operands])
  obtain ⟨vs, h1, h2, h3, _⟩ := (e1.r1 (AV.okv_tup hok)).cells hok
  refine ⟨vs, ⟨h2, h3⟩, ?_⟩
  simp only [execOp, ho]
  refine run_v ?_
  simp [Instr.box, newVar, newRow, newObj, Sem.run, h1]

end
end Go.Cw

set_option linter.unusedVariables false
set_option linter.unusedSimpArgs false
namespace Go.Cw
section
variable {P : Program} {g : Operand → AV} {b : Nat → ABlk} {n : Nat} {K : Ent → Prop}

/-- One block is written. -/
theorem Sat.write {cx : Ctx} {h : PH} {ρ : Ro} {B : Nat → ABlk} {w w' : World} (s : Sat cx h ρ B w) {id q : Nat} {x : ABlk} (hq : blkOf ρ (B id) id = some q)
    (hos : w'.os = w.os) (htape : w'.tape = w.tape) (hout : w'.output = w.output) (hsz : w'.heap.size = w.heap.size)
    (hold : ∀ i, i ≠ q → w'.heap[i]? = w.heap[i]?) (hx : RB h ρ w' id x) (hbx : ∀ g, blkOf ρ x id = some g → g = q) : Sat cx h ρ (fun i => if id = i then x else B i) w' := by
  refine ⟨hos.trans s.os, htape.trans s.tape, hout.trans s.output, by rw [hsz]; exact s.size, fun i hi ho => ?_, fun g o hg => ?_, s.hle, s.hnew, fun i g hg => ?_, fun i g hg => ?_, fun i i' g hg hg' => ?_, fun i => ?_⟩
  · rw [hold i ?_]
    · exact s.frame i hi ho
    · rintro rfl
      rcases s.new id i hq with h1 | h1
      · exact ho h1
      · omega
  · rw [hold g ?_]
    · exact s.inn g o hg
    · rintro rfl
      rw [s.hok id g hq] at hg; cases hg
  · by_cases hi : id = i
    · subst hi; rw [if_pos rfl] at hg; rw [hbx g hg]; exact s.new id q hq
    · rw [if_neg hi] at hg; exact s.new i g hg
  · by_cases hi : id = i
    · subst hi; rw [if_pos rfl] at hg; rw [hbx g hg]; exact s.hok id q hq
    · rw [if_neg hi] at hg; exact s.hok i g hg
  · by_cases hi : id = i
    · by_cases hi' : id = i'
      · rw [← hi, ← hi']
      · subst hi
        rw [if_pos rfl] at hg; rw [if_neg hi'] at hg'
        rw [hbx g hg] at hg'
        exact s.inj id i' q hq hg'
    · by_cases hi' : id = i'
      · subst hi'
        rw [if_neg hi] at hg; rw [if_pos rfl] at hg'
        rw [hbx g hg'] at hg
        exact s.inj i id q hg hq
      · rw [if_neg hi] at hg; rw [if_neg hi'] at hg'; exact s.inj i i' g hg hg'
  · by_cases hi : id = i
    · subst hi; rw [if_pos rfl]; exact hx
    · rw [if_neg hi]
      refine (s.rb i).world fun g hg => hold g ?_
      rintro rfl
      exact hi (s.inj id i g hq hg)

theorem setRow_heap_ne (w : World) (q : Nat) (cs : Array Value) (i : Nat) (h : i ≠ q) : (w.setRow q cs).heap[i]? = w.heap[i]? := by
  simp only [World.setRow, Array.getElem?_modify]
  rw [if_neg (Ne.symm h)]

theorem getElem?_splice {α : Type} (xs us : List α) (o : Nat) (h : o + us.length ≤ xs.length) (j : Nat) :
    (xs.take o ++ us ++ xs.drop (o + us.length))[j]? = if j < o then xs[j]? else if j < o + us.length then us[j - o]? else xs[j]? := by
  have h1 : (xs.take o).length = o := by simp; omega
  by_cases hj : j < o
  · rw [if_pos hj, List.append_assoc, List.getElem?_append_left (by omega), List.getElem?_take, if_pos hj]
  · rw [if_neg hj]
    by_cases hj' : j < o + us.length
    · rw [if_pos hj', List.append_assoc, List.getElem?_append_right (by omega), h1, List.getElem?_append_left (by omega)]
    · rw [if_neg hj', List.getElem?_append_right (by simp; omega), List.getElem?_drop]
      congr 1
      simp
      omega

theorem CellsR.splice {h : PH} {ρ : Ro} {cs us : List AV} {vs ws : List Value} (r : CellsR h ρ cs vs) (q : CellsR h ρ us ws) (o : Nat) (ho : o + us.length ≤ cs.length) :
    CellsR h ρ (splice cs o us) (vs.take o ++ ws ++ vs.drop (o + ws.length)) := by
  refine ⟨?_, fun j c v e1 e2 => ?_⟩
  · have h1 := r.1
    have h2 := q.1
    simp only [Go.Cw.splice, List.length_append, List.length_take, List.length_drop]
    omega
  · have h1 := r.1
    have h2 := q.1
    unfold Go.Cw.splice at e1
    rw [getElem?_splice _ _ _ ho] at e1
    rw [getElem?_splice _ _ _ (by omega), h2] at e2
    by_cases hj : j < o
    · rw [if_pos hj] at e1 e2; exact r.2 j c v e1 e2
    · rw [if_neg hj] at e1 e2
      by_cases hj' : j < o + us.length
      · rw [if_pos hj'] at e1 e2; exact q.2 _ c v e1 e2
      · rw [if_neg hj'] at e1 e2; exact r.2 j c v e1 e2

/-- What == of zforms is for rows of values. -/
theorem run_storeVar {ty : TypeId → Option TI} (T : TyOk P ty) {t : TypeId} {i : TI} (ht : ty t = some i) {v : Value} {us : List Value} (hv : v.cells = us.toArray) (hl : us.length = i.size) (h1 : ∀ u ∈ us, u.oneCell' = true) (q o : Nat) (bt : TypeId) (cur : Array Value) (w : World)
    (hq : w.heap[q]? = some (.cells cur bt (0, 0))) (ho : o + us.length ≤ cur.size) :
    (storeVar t ⟨q, o, none⟩ v).run P w = .ok () (w.setRow q (cur.toList.take o ++ us ++ cur.toList.drop (o + us.length)).toArray) := by
  obtain ⟨j, d, hj, hs, _⟩ := T.info t i ht
  have := run_storeCells_at (P := P) q o bt us 0 cur w hq (by omega) h1
  simp only [Nat.add_zero] at this
  simp [storeVar, run_sizeOf hj, hs, hv, hl, this]

theorem mul_lt_of {i j z l : Nat} (hj : j < z) (hi : i < l) : i * z + j < l * z := by
  have : (i + 1) * z ≤ l * z := Nat.mul_le_mul_right _ hi
  rw [Nat.add_mul, Nat.one_mul] at this
  omega
theorem mul_add_inj {i i' j j' z : Nat} (hj : j < z) (hj' : j' < z) (h : i * z + j = i' * z + j') : i = i' ∧ j = j' := by
  rcases Nat.lt_trichotomy i i' with h1 | h1 | h1
  · have : (i + 1) * z ≤ i' * z := Nat.mul_le_mul_right _ h1
    rw [Nat.add_mul, Nat.one_mul] at this
    omega
  · subst h1; omega
  · have : (i' + 1) * z ≤ i * z := Nat.mul_le_mul_right _ h1
    rw [Nat.add_mul, Nat.one_mul] at this
    omega

theorem idxIn_none {m : List Nat} {id : Nat} (h : idxIn m id = none) : id ∉ m := by
  induction m with
  | nil => simp
  | cons x r ih =>
    intro hm
    unfold idxIn at h
    split at h
    · cases h
    · rename_i hb
      simp at h
      rcases List.mem_cons.1 hm with rfl | hm
      · simp at hb
      · exact ih h hm
theorem disj_not {l m : List Nat} (h : disj l m = true) : ∀ x ∈ l, x ∉ m := by
  induction l with
  | nil => intro x hx; cases hx
  | cons y r ih =>
    unfold disj at h
    split at h
    · cases h
    · rename_i hb
      intro x hx
      rcases List.mem_cons.1 hx with rfl | hx
      · exact idxIn_none hb
      · exact ih h x hx

theorem clo0_cell {v : AV} (h : v.isCell = true) : (clo0 b v).isCell = true := by
  cases v <;> first | exact h | skip
  rename_i id
  have : clo0 b (.osl id) = match b id with | .row _ z es => .sl z es | .frz z es => .sl z es | _ => .osl id := rfl
  rw [this]
  cases b id <;> rfl
theorem clo_cells (v : AV) : (clo b v).cells = v.cells.map (clo0 b) := by
  cases v <;> first | rfl | skip
  rename_i id
  show (clo0 b (.osl id)).cells = [clo0 b (.osl id)]
  have : clo0 b (.osl id) = match b id with | .row _ z es => .sl z es | .frz z es => .sl z es | _ => .osl id := rfl
  rw [this]
  cases b id <;> rfl
theorem clo_cell {v : AV} (h : v.isCell = true) : clo b v = clo0 b v := by cases v <;> first | rfl | cases h
theorem allC_of {l : List AV} (h : ∀ c ∈ l, c.isCell = true) : allC l = true := by
  induction l with
  | nil => rfl
  | cons y r ih => simp [allC, h y (by simp), ih fun c hc => h c (by simp [hc])]
theorem all0_of {l : List AV} (h : ∀ c ∈ l, c.closed0 = true) : all0 l = true := by
  induction l with
  | nil => rfl
  | cons y r ih => simp [all0, h y (by simp), ih fun c hc => h c (by simp [hc])]
theorem clo_okv {v : AV} (h : v.okv = true) : ∀ c ∈ (clo b v).cells, c.isCell = true := by
  intro c hc
  rw [clo_cells] at hc
  obtain ⟨c', h1, rfl⟩ := List.mem_map.1 hc
  exact clo0_cell (allC_mem h c' h1)
theorem closed_cells {v : AV} (hc : v.closed = true) (hk : ∀ c ∈ v.cells, c.isCell = true) : ∀ c ∈ v.cells, c.closed0 = true := by
  intro c hm
  cases v with
  | ag cs => exact all0_mem hc c hm
  | _ => simp [AV.cells] at hm; subst hm; first | exact hc | (simp [AV.cells, AV.isCell] at hk)

theorem mem_splice {cs us : List AV} {o : Nat} {x : AV} (h : x ∈ Go.Cw.splice cs o us) : x ∈ cs ∨ x ∈ us := by
  unfold Go.Cw.splice at h
  simp only [List.mem_append] at h
  rcases h with (h | h) | h
  · exact .inl (List.mem_of_mem_take h)
  · exact .inr h
  · exact .inl (List.mem_of_mem_drop h)

/-- An element with a part written is one. -/
theorem setPart_form {z : Option Nat} {el v : AV} {f : Nat} (hz : zform z el) (hok : v.okv = true) (hcl : (clo b v).closed = true) (hf : f + v.cells.length ≤ zsize z)
    (hm : setOk z v el f = true) :
    zform z (setPart z el f (clo b v)) ∧ (setPart z el f (clo b v)).cells = Go.Cw.splice el.cells f (clo b v).cells := by
  have hk := clo_okv (b := b) hok
  have h0 := closed_cells hcl hk
  cases z with
  | none =>
    simp only [setOk, Bool.and_eq_true] at hm
    obtain ⟨hc, hf0⟩ := hm
    have hf0 := Nat.eq_of_beq_eq_true hf0
    subst hf0
    have hcs : el.cells = [el] := by cases el <;> first | rfl | (simp [zform, AV.isCell] at hz)
    have hv1 : (clo b v).cells = [clo b v] := by
      have : (clo b v).isCell = true := by rw [clo_cell hc]; exact clo0_cell hc
      cases hq : clo b v <;> first | rfl | (rw [hq] at this; cases this)
    refine ⟨⟨hk (clo b v) (by rw [hv1]; simp), h0 (clo b v) (by rw [hv1]; simp)⟩, ?_⟩
    show (clo b v).cells = _
    rw [hcs, hv1]
    simp [Go.Cw.splice]
  | some m =>
    obtain ⟨cs, rfl, hl, ha, h00⟩ := hz
    have hlen : (clo b v).cells.length = v.cells.length := by rw [clo_cells]; simp
    refine ⟨⟨_, rfl, ?_, allC_of fun c hc => ?_, all0_of fun c hc => ?_⟩, rfl⟩
    · simp only [Go.Cw.splice, List.length_append, List.length_take, List.length_drop, hlen]
      simp [zsize] at hf
      omega
    · rcases mem_splice hc with h | h
      · exact allC_mem ha c h
      · exact hk c h
    · rcases mem_splice hc with h | h
      · exact all0_mem h00 c h
      · exact h0 c h

theorem CellsR.rv {h : PH} {ρ : Ro} {cs : List AV} {vs : List Value} (r : CellsR h ρ cs vs) (hc : ∀ c ∈ cs, c.closed0 = true) (j : Nat) (c : AV) (v : Value) (e1 : cs[j]? = some c) (e2 : vs[j]? = some v) : Rv h c v :=
  (r.2 j c v e1 e2).rv (hc c (List.mem_of_getElem? e1))

/-- A row with a part of an element written. -/
theorem ElemsOk.set {h : PH} {z : Option Nat} {es : List AV} {xs : List Value} (E : ElemsOk h z es xs) {j f : Nat} {el el' : AV} {us : List AV} {ws : List Value} (hel : es[j]? = some el) (hl : xs.length = es.length * zsize z)
    (hform : zform z el') (hcells : el'.cells = Go.Cw.splice el.cells f us) (hf : f + us.length ≤ zsize z) (hws : ws.length = us.length) (hrv : ∀ (k : Nat) c v, us[k]? = some c → ws[k]? = some v → Rv h c v) :
    ElemsOk h z (es.set j el') (xs.take (j * zsize z + f) ++ ws ++ xs.drop (j * zsize z + f + ws.length)) := by
  have hj : j < es.length := (List.getElem?_eq_some_iff.1 hel).1
  have hsz := zform_cells (E.form el (List.mem_of_getElem? hel))
  have hend : j * zsize z + f + ws.length ≤ xs.length := by
    have : (j + 1) * zsize z ≤ es.length * zsize z := Nat.mul_le_mul_right _ hj
    rw [Nat.add_mul, Nat.one_mul] at this
    omega
  have mem : ∀ e ∈ es.set j el', e ∈ es ∨ e = el' := fun e he => List.mem_or_eq_of_mem_set he
  refine ⟨fun e he => ?_, fun e he => ?_, fun i e k x e1 e2 => ?_⟩
  · rcases mem e he with h1 | rfl
    · exact E.form e h1
    · exact hform
  · rcases mem e he with h1 | rfl
    · exact E.closed e h1
    · exact zform_closed hform
  · rw [getElem?_splice _ _ _ hend]
    by_cases hij : j = i
    · subst hij
      rw [List.getElem?_set_self hj] at e1
      injection e1 with e1
      subst e1
      rw [hcells] at e2
      unfold Go.Cw.splice at e2
      rw [getElem?_splice _ _ _ (by omega)] at e2
      by_cases h1 : k < f
      · rw [if_pos h1] at e2
        rw [if_pos (by omega)]
        exact E.read j el k x hel e2
      · rw [if_neg h1] at e2
        rw [if_neg (by omega)]
        by_cases h2 : k < f + us.length
        · rw [if_pos h2] at e2
          rw [if_pos (by omega)]
          have : j * zsize z + k - (j * zsize z + f) = k - f := by omega
          rw [this]
          have hlt : k - f < us.length := by omega
          have hw : ws[k - f]? = some ws[k - f] := List.getElem?_eq_getElem (by omega)
          exact ⟨_, hw, hrv _ _ _ e2 hw⟩
        · rw [if_neg h2] at e2
          rw [if_neg (by omega)]
          exact E.read j el k x hel e2
    · rw [List.getElem?_set_ne hij] at e1
      obtain ⟨v, q1, q2⟩ := E.read i e k x e1 e2
      refine ⟨v, ?_, q2⟩
      have hks : k < zsize z := by
        have := zform_cells (E.form e (List.mem_of_getElem? e1))
        have := (List.getElem?_eq_some_iff.1 e2).1
        omega
      by_cases h1 : i * zsize z + k < j * zsize z + f
      · rw [if_pos h1]; exact q1
      · rw [if_neg h1]
        have h2 : ¬ i * zsize z + k < j * zsize z + f + ws.length := by
          intro h2
          rcases Nat.lt_trichotomy i j with h3 | h3 | h3
          · have : (i + 1) * zsize z ≤ j * zsize z := Nat.mul_le_mul_right _ h3
            rw [Nat.add_mul, Nat.one_mul] at this
            omega
          · exact hij h3.symm
          · have : (j + 1) * zsize z ≤ i * zsize z := Nat.mul_le_mul_right _ h3
            rw [Nat.add_mul, Nat.one_mul] at this
            omega
        rw [if_neg h2]; exact q1

theorem sound_store {C : Cx} (T : TyOk P C.ty) {t : TypeId} {x v : Operand} (H : aop C b n g (.store t x v) K) : ∃ e, K e ∧ Good P (.store t x v) b n g e := by
  simp only [aop, astore] at H
  obtain ⟨i, hi, H⟩ := WE.elim H
  rcases BM.elim H with ⟨hok, H1⟩ | ⟨_, h⟩
  case inr => exact h.elim
  simp only [Bool.and_eq_true] at hok
  obtain ⟨hok, hlen⟩ := hok
  have hlen := Nat.eq_of_beq_eq_true hlen
  cases hx : g x <;> rw [hx] at H1 <;> try exact H1.elim
  · rename_i id off
    dsimp only at H1
    cases hbi : b id <;> rw [hbi] at H1 <;> try exact H1.elim
    rename_i t' cs
    rcases BM.elim H1 with ⟨hb, hk⟩ | ⟨_, h⟩
    case inr => exact h.elim
    have hb' : off + i.size ≤ cs.length := Nat.le_of_ble_eq_true hb
    refine ⟨_, hk, fun o ho cx h ρ B ac w s hxs hbb hn => ?_⟩
    have e1 := hxs x (by simp [Op.operands])
    rw [hx] at e1
    obtain ⟨q, h1, h2⟩ := e1.ptr_inv
    have hB := hbb id (by simp)
    have r := s.rb id
    rw [hB, hbi] at r
    obtain ⟨q', vs, h3, h4, h5, h6⟩ := r
    rw [h1] at h3
    injection h3 with h3; injection h3 with h3; injection h3 with h3; injection h3 with h3
    subst h3
    have e2 := hxs v (by simp [Op.operands])
    obtain ⟨us, u1, u2, u3, u4⟩ := (e2.r1 (AV.okv_tup hok)).cells hok
    have hrun := run_storeVar (P := P) T hi u1 (by omega) u4 q off t' vs.toArray w h4 (by simp; omega)
    refine Does.skip (w' := w.setRow q (vs.take off ++ us ++ vs.drop (off + us.length)).toArray) ?_ ⟨h, ρ, ?_, h.le_refl, ρ.le_refl, fun id hi _ => hi, R2.any _⟩
    · simp only [execOp, ho, h2]
      exact run_u (by simpa [Instr.storeAt, Instr.sureAddr] using hrun)
    · have hq : blkOf ρ (B id) id = some q := by rw [hB, hbi]; simp [blkOf, h1, vblk]
      have := s.write (w' := w.setRow q (vs.take off ++ us ++ vs.drop (off + us.length)).toArray) (x := .cells t' (Go.Cw.splice cs off (g v).cells)) hq rfl rfl rfl (by simp [World.setRow]) (fun k hk => setRow_heap_ne w q _ k hk)
        ⟨q, _, h1, setRow_heap w q vs.toArray _ t' (0, 0) h4, (CellsR.splice ⟨h5, h6⟩ ⟨u2, u3⟩ off (by omega)).1, (CellsR.splice ⟨h5, h6⟩ ⟨u2, u3⟩ off (by omega)).2⟩
        (fun k hk => by simp [blkOf, h1, vblk] at hk; exact hk.symm)
      have e : upd B [(id, .cells t' (Go.Cw.splice cs off (g v).cells))] = fun k => if id = k then .cells t' (Go.Cw.splice cs off (g v).cells) else B k := by
        funext k; rw [upd_cons]; rfl
      show Sat cx h ρ (upd B _) _
      rw [e]; exact this
  · rename_i id z' j f
    dsimp only at H1
    cases hbi : b id <;> rw [hbi] at H1 <;> try exact H1.elim
    rename_i et z es
    obtain ⟨el, hel, H2⟩ := WE.elim H1
    rcases BM.elim H2 with ⟨hb, hk⟩ | ⟨_, h⟩
    case inr => exact h.elim
    simp only [Bool.and_eq_true] at hb
    obtain ⟨⟨⟨⟨hz, hf⟩, hcl⟩, hm⟩, hdis⟩ := hb
    have hz := zbeq_eq hz
    have hf : f + i.size ≤ zsize z := Nat.le_of_ble_eq_true hf
    refine ⟨_, hk, fun o ho cx h ρ B ac w s hxs hbb hn => ?_⟩
    have e1 := hxs x (by simp [Op.operands])
    rw [hx] at e1
    obtain ⟨q, m, c, h1, h2⟩ := e1.rptr_inv
    have hB := hbb id (by simp)
    have hnot : id ∉ ids (g v) := fun hm => disj_not hdis id hm (by simp)
    obtain ⟨h', s', hle⟩ := freeze_list (ids (g v)) (fun k hk => hbb k (by simp [hk])) s
    have hB' : upd B (frzs b (ids (g v))) id = .row et z es := by rw [upd_frzs, if_neg hnot, hB, hbi]
    have r := s'.rb id
    rw [hB'] at r
    obtain ⟨v', xs, h3, ho', E⟩ := r
    rw [h1] at h3
    injection h3 with h3
    subst h3
    have e2 := hxs v (by simp [Op.operands])
    have e2' := (e2.r1 (AV.okv_tup hok)).mono hle ρ.le_refl
    obtain ⟨us, u1, u2, u3, u4⟩ := e2'.cells hok
    have hfo := setPart_form (b := b) (E.form el (List.mem_of_getElem? hel)) hok hcl (by rw [hlen]; exact hf) hm
    have hcr : CellsR h' ρ (clo b (g v)).cells us := by
      rw [clo_cells]
      refine ⟨by simpa using u2, fun k c u q1 q2 => ?_⟩
      rw [List.getElem?_map, Option.map_eq_some_iff] at q1
      obtain ⟨c', q1, rfl⟩ := q1
      refine clo0_r0 (w := w) (u3 k c' u q1 q2) fun id' hid' => ?_
      have hin : id' ∈ ids (g v) := by
        have hmem : c' ∈ (g v).cells := List.mem_of_getElem? q1
        cases hgv : g v with
        | ag l => rw [hgv] at hmem; exact List.mem_flatMap.2 ⟨c', hmem, hid'⟩
        | _ => rw [hgv] at hmem; simp [AV.cells] at hmem; subst hmem; first | exact hid' | (simp [ids0] at hid')
      have := s'.rb id'
      rwa [upd_frzs, if_pos hin] at this
    have hlc : (clo b (g v)).cells.length = i.size := by rw [clo_cells]; simpa using hlen
    obtain ⟨hlx, h4⟩ := ho'
    have hj : j < es.length := (List.getElem?_eq_some_iff.1 hel).1
    rcases h4 with ⟨e, _⟩ | ⟨q', cap, cur, e, q0, q1, q2, q3, q4, q5⟩
    · cases e
    injection e with e3 e4 e5
    injection e3 with e3
    injection e3 with e3
    subst e3; subst e4; subst e5
    have hjj : j * zsize z + f + us.length ≤ es.length * zsize z := by
      have : (j + 1) * zsize z ≤ es.length * zsize z := Nat.mul_le_mul_right _ hj
      rw [Nat.add_mul, Nat.one_mul] at this
      omega
    have hcapm : es.length * zsize z ≤ c * zsize z := Nat.mul_le_mul_right _ q2
    have hrun := run_storeVar (P := P) T hi u1 (by omega) u4 q (j * zsize z + f) et cur w q1 (by omega)
    refine Does.skip (w' := w.setRow q (cur.toList.take (j * zsize z + f) ++ us ++ cur.toList.drop (j * zsize z + f + us.length)).toArray) ?_ ⟨h', ρ, ?_, hle, ρ.le_refl, fun id hi _ => hi, R2.any _⟩
    · simp only [execOp, ho, h2]
      rw [← hz]
      exact run_u (by simpa [Instr.storeAt, Instr.sureAddr] using hrun)
    · have hq : blkOf ρ (upd B (frzs b (ids (g v))) id) id = some q := by rw [hB']; simp [blkOf, h1, vblk]
      have hE := E.set hel hlx hfo.1 hfo.2 (by rw [hlc]; exact hf) (by rw [hlc]; omega) (hcr.rv (closed_cells hcl (clo_okv hok)))
      have hws : us.length ≤ es.length * zsize z := by omega
      have := s'.write (w' := w.setRow q (cur.toList.take (j * zsize z + f) ++ us ++ cur.toList.drop (j * zsize z + f + us.length)).toArray) (x := .row et z (es.set j (setPart z el f (clo b (g v))))) hq rfl rfl rfl (by simp [World.setRow]) (fun k hk => setRow_heap_ne w q _ k hk)
        ⟨_, _, h1, ⟨by
            simp only [List.length_append, List.length_take, List.length_drop, List.length_set, hlx]
            omega, .inr ⟨q, c, _, by simp, Nat.zero_le _, setRow_heap w q cur _ et (0, 0) q1, by simpa using q2, q3, by
              simp only [List.size_toArray, List.length_append, List.length_take, List.length_drop, Array.length_toList]
              omega, ?_⟩⟩, hE⟩
        (fun k hk => by simp [blkOf, h1, vblk] at hk; exact hk.symm)
      · have e : upd B ((id, .row et z (es.set j (setPart z el f (clo b (g v))))) :: frzs b (ids (g v))) = fun k => if id = k then .row et z (es.set j (setPart z el f (clo b (g v)))) else upd B (frzs b (ids (g v))) k := by
          funext k; rw [upd_cons]
        show Sat cx h' ρ (upd B _) _
        rw [e]; exact this
      · rw [← q5]
        simp only [List.length_set]
        apply List.ext_getElem?
        intro k
        rw [List.getElem?_take]
        have hcl : cur.toList.length = c * zsize z := by simpa using q4
        have htl : (cur.toList.take (es.length * zsize z)).length = es.length * zsize z := by simp; omega
        have hl1 : (List.take (j * zsize z + f) cur.toList ++ us ++ List.drop (j * zsize z + f + us.length) cur.toList)[k]? = if k < j * zsize z + f then cur.toList[k]? else if k < j * zsize z + f + us.length then us[k - (j * zsize z + f)]? else cur.toList[k]? := getElem?_splice _ _ _ (by omega) k
        have hl2 : (List.take (j * zsize z + f) (cur.toList.take (es.length * zsize z)) ++ us ++ List.drop (j * zsize z + f + us.length) (cur.toList.take (es.length * zsize z)))[k]? = if k < j * zsize z + f then (cur.toList.take (es.length * zsize z))[k]? else if k < j * zsize z + f + us.length then us[k - (j * zsize z + f)]? else (cur.toList.take (es.length * zsize z))[k]? := getElem?_splice _ _ _ (by omega) k
        simp only [List.toList_toArray] at *
        rw [hl2]
        by_cases hk : k < es.length * zsize z
        · rw [if_pos hk, hl1, List.getElem?_take, if_pos hk]
        · rw [if_neg hk, if_neg (by omega), if_neg (by omega), List.getElem?_take, if_neg hk]

end
end Go.Cw

set_option linter.unusedVariables false
set_option linter.unusedSimpArgs false
namespace Go.Cw
section
variable {P : Program} {g : Operand → AV} {b : Nat → ABlk} {n : Nat} {K : Ent → Prop}

theorem foldl_set (off : Nat) : ∀ (us : List Value) (k : Nat) (a : List Value), off + k + us.length ≤ a.length →
    (us.zipIdx k).foldl (fun (cs : Array Value) (p : Value × Nat) => cs.setIfInBounds (off + p.2) p.1) a.toArray = (a.take (off + k) ++ us ++ a.drop (off + k + us.length)).toArray
  | [], k, a, _ => by simp
  | u :: r, k, a, h => by
    simp only [List.length_cons] at h
    have hset : a.toArray.setIfInBounds (off + k) u = (a.set (off + k) u).toArray := by simp
    simp only [List.zipIdx_cons, List.foldl_cons, hset]
    rw [foldl_set off r (k + 1) (a.set (off + k) u) (by simp; omega)]
    congr 1
    apply List.ext_getElem?
    intro j
    have e1 : (List.take (off + (k + 1)) (a.set (off + k) u) ++ r ++ List.drop (off + (k + 1) + r.length) (a.set (off + k) u))[j]? = _ := getElem?_splice _ _ _ (by simp; omega) j
    have e2 : (List.take (off + k) a ++ (u :: r) ++ List.drop (off + k + (u :: r).length) a)[j]? = _ := getElem?_splice _ _ _ (by simp; omega) j
    rw [e1, e2]
    simp only [List.length_cons]
    by_cases h1 : j < off + k
    · rw [if_pos (by omega), if_pos h1, List.getElem?_set_ne (by omega)]
    · by_cases h2 : j = off + k
      · subst h2
        rw [if_pos (by omega), if_neg (by omega), if_pos (by omega), List.getElem?_set_self (by omega)]
        simp
      · rw [if_neg (by omega), if_neg h1]
        by_cases h3 : j < off + k + (r.length + 1)
        · rw [if_pos (by omega), if_pos h3]
          have : j - (off + k) = (j - (off + (k + 1))) + 1 := by omega
          rw [this]
          simp
        · rw [if_neg (by omega), if_neg h3, List.getElem?_set_ne (by omega)]

theorem fill_rel {h : PH} {ρ : Ro} {place : Nat → Option (Nat × Nat)} : ∀ (l : List (Nat × AV)) (lv : List (Nat × Value)) (cs cs' : List AV) (vs : List Value), fillAV place cs l = some cs' → CellsR h ρ cs vs →
    lv.length = l.length → (∀ (k : Nat) p q, l[k]? = some p → lv[k]? = some q → p.1 = q.1 ∧ R2 h ρ p.2 q.2) → ∃ vs', Instr.fill place vs.toArray lv = some vs'.toArray ∧ CellsR h ρ cs' vs'
  | [], lv, cs, cs', vs, hf, hr, hl, _ => by
    have : lv = [] := List.eq_nil_of_length_eq_zero (by simpa using hl)
    subst this
    simp [fillAV] at hf
    subst hf
    exact ⟨vs, rfl, hr⟩
  | (i, v) :: r, lv, cs, cs', vs, hf, hr, hl, hp => by
    cases lv with
    | nil => simp at hl
    | cons q lr =>
      obtain ⟨i', v'⟩ := q
      obtain ⟨hi, hv⟩ := hp 0 _ _ rfl rfl
      simp at hi
      subst hi
      unfold fillAV at hf
      cases hpl : place i with
      | none => simp [hpl] at hf
      | some os =>
        obtain ⟨off, size⟩ := os
        simp only [hpl] at hf
        split at hf
        · rename_i hc
          simp only [Bool.and_eq_true] at hc
          obtain ⟨⟨hc1, hc2⟩, hok⟩ := hc
          have hc1 := Nat.eq_of_beq_eq_true hc1
          have hc2 : off + size ≤ cs.length := Nat.le_of_ble_eq_true hc2
          have hv : R2 h ρ v v' := hv
          obtain ⟨us, u1, u2, u3, _⟩ := (hv.r1 (AV.okv_tup hok)).cells hok
          have hl1 := hr.1
          obtain ⟨vs', f1, f2⟩ := fill_rel r lr _ cs' _ hf (hr.splice ⟨u2, u3⟩ off (by omega)) (by simpa using hl) fun k p q e1 e2 => hp (k + 1) p q e1 e2
          refine ⟨vs', ?_, f2⟩
          unfold Instr.fill
          have hcond : ¬ ((us.toArray.size ≠ size) = true ∨ (off + us.toArray.size > vs.toArray.size) = true) := by simp; omega
          have hfold : (us.toArray.zipIdx.foldl (fun (cs : Array Value) (p : Value × Nat) => cs.setIfInBounds (off + p.2) p.1) vs.toArray) = (vs.take off ++ us ++ vs.drop (off + us.length)).toArray := by
            have := foldl_set off us 0 vs (by omega)
            simp only [Nat.add_zero] at this
            rw [← this]
            simp
          simp only [hpl, u1]
          rw [if_neg (by simp; omega)]
          rw [hfold]; exact f1
        · cases hf

theorem fold_ty {ty : TypeId → Option TI} (T : TyOk P ty) {t : TypeId} {i : TI} (ht : ty t = some i) : ∃ j d, P.info? t = some j ∧ j.size = i.size ∧ j.bytes = i.bytes ∧ P.underlying t = some d ∧ TDOk P t i d ∧ (i.agg = false → i.size = 1) := by
  obtain ⟨j, d, hj, hs, hb, hd, ok, _, _, _, h1⟩ := T.info t i ht
  exact ⟨j, d, hj, hs, hb, hd, ok, h1⟩

theorem parts_rel {h : PH} {ρ : Ro} {ac : Act} {ps : Array (Nat × Operand)} (hx : ∀ x ∈ ps.toList.map (·.2), R2 h ρ (g x) (ac.eval x)) :
    ((ps.map fun (i, x) => (i, ac.eval x)).toList).length = (ps.toList.map fun p => (p.1, g p.2)).length ∧
    ∀ (k : Nat) p q, (ps.toList.map fun p => (p.1, g p.2))[k]? = some p → (ps.map fun (i, x) => (i, ac.eval x)).toList[k]? = some q → p.1 = q.1 ∧ R2 h ρ p.2 q.2 := by
  refine ⟨by simp, fun k p q e1 e2 => ?_⟩
  simp only [Array.toList_map, List.getElem?_map, Option.map_eq_some_iff] at e1 e2
  obtain ⟨p0, q1, rfl⟩ := e1
  obtain ⟨q0, q2, rfl⟩ := e2
  rw [q1] at q2
  injection q2 with q2
  subst q2
  exact ⟨rfl, hx _ (List.mem_map.2 ⟨p0, List.mem_of_getElem? q1, rfl⟩)⟩

theorem sound_build {C : Cx} (T : TyOk P C.ty) {t : TypeId} {ps : Array (Nat × Operand)} (H : aop C b n g (.build t ps) K) : ∃ e, K e ∧ Good P (.build t ps) b n g e := by
  simp only [aop, abuild] at H
  obtain ⟨i, hi, H⟩ := WE.elim H
  obtain ⟨j, d, hj, hs, hb, hd, ok, _⟩ := fold_ty T hi
  have fin : ∀ (place : Nat → Option (Nat × Nat)) (cs : List AV), fillAV place i.zero (ps.toList.map fun p => (p.1, g p.2)) = some cs → K { val := .ag cs } →
      (∀ (z : Value) parts cells, j.zero = some z → Instr.fill place z.cells parts = some cells → P.built t parts = some cells) → ∃ e, K e ∧ Good P (.build t ps) b n g e := by
    intro place cs hf hk hbt
    refine ⟨_, hk, good_pure fun o ho cx h ρ B ac w s hxs _ => ?_⟩
    obtain ⟨z, j', hj', hz, hzc, hr⟩ := zero_cells T hi h ρ
    rw [hj] at hj'
    injection hj' with hj'
    subst hj'
    obtain ⟨p1, p2⟩ := parts_rel (g := g) (ps := ps) (ac := ac) (h := h) (ρ := ρ) fun x hx => hxs x (by simpa [Op.operands] using hx)
    obtain ⟨vs, f1, f2⟩ := fill_rel _ _ _ _ _ hf hr p1 p2
    rw [← hzc] at f1
    refine ⟨.agg vs.toArray, ?_, .lf (.ag _ _ f2.1 f2.2)⟩
    simp only [execOp, ho]
    exact run_v (run_build (P := P) w t _ _ (hbt z _ _ hz f1))
  cases hdd : i.d <;> rw [hdd] at H <;> try exact H.elim
  · rename_i fs
    obtain ⟨cs, hf, hk⟩ := WE.elim H
    obtain ⟨fields, hd', _, hm⟩ := ok.struct fs hdd
    subst hd'
    refine fin _ cs hf hk fun z parts cells hz hfl => ?_
    simp only [Program.built, hj, hd, hz, hm]
    simpa using hfl
  · rename_i len e
    obtain ⟨ei, hei, H⟩ := WE.elim H
    obtain ⟨cs, hf, hk⟩ := WE.elim H
    obtain ⟨je, de, hje, hse, _⟩ := fold_ty T hei
    have hd' := ok.array len e hdd
    subst hd'
    refine fin _ cs hf hk fun z parts cells hz hfl => ?_
    simp only [Program.built, hj, hd, hz, hje, hse]
    exact hfl

end
end Go.Cw

set_option linter.unusedVariables false
set_option linter.unusedSimpArgs false
namespace Go.Cw

def flat (es : List AV) : List AV := es.flatMap AV.cells
theorem flat_nil : flat [] = [] := rfl
theorem flat_cons (e : AV) (r : List AV) : flat (e :: r) = e.cells ++ flat r := rfl
theorem flat_append (a b : List AV) : flat (a ++ b) = flat a ++ flat b := by simp [flat]
theorem flat_len {m : Nat} : ∀ {es : List AV}, (∀ e ∈ es, e.cells.length = m) → (flat es).length = es.length * m
  | [], _ => by simp [flat]
  | e :: r, h => by
    rw [flat_cons, List.length_append, h e (by simp), flat_len fun x hx => h x (by simp [hx]), List.length_cons, Nat.add_mul, Nat.one_mul, Nat.add_comm]
theorem flat_get {m : Nat} : ∀ {es : List AV}, (∀ e ∈ es, e.cells.length = m) → ∀ (i j : Nat) e, es[i]? = some e → j < m → (flat es)[i * m + j]? = e.cells[j]?
  | [], _, i, j, e, h1, _ => by simp at h1
  | x :: r, h, i, j, e, h1, hj => by
    have hx := h x (by simp)
    cases i with
    | zero =>
      simp at h1
      subst h1
      rw [flat_cons, Nat.zero_mul, Nat.zero_add, List.getElem?_append_left (by omega)]
    | succ i =>
      simp at h1
      rw [flat_cons, List.getElem?_append_right (by rw [hx, Nat.add_mul]; omega), hx]
      have : (i + 1) * m + j - m = i * m + j := by rw [Nat.add_mul]; omega
      rw [this]
      exact flat_get (fun e he => h e (by simp [he])) i j e h1 hj

theorem forms_len {z : Option Nat} {es : List AV} (h : ∀ e ∈ es, zform z e) : ∀ e ∈ es, e.cells.length = zsize z := fun e he => zform_cells (h e he)
theorem form_cell {z : Option Nat} {e : AV} (h : zform z e) : ∀ c ∈ e.cells, c.isCell = true ∧ c.closed0 = true := by
  intro c hc
  cases z with
  | none =>
    have : e.cells = [e] := by cases e <;> first | rfl | (simp [zform, AV.isCell] at h)
    rw [this] at hc
    simp at hc
    subst hc
    exact h
  | some m =>
    obtain ⟨cs, rfl, _, ha, h0⟩ := h
    exact ⟨allC_mem ha c hc, all0_mem h0 c hc⟩

/-- A row's cells, one behind the other. -/
def FlatR (h : PH) (es : List AV) (xs : List Value) : Prop := ∀ (k : Nat) c, (flat es)[k]? = some c → ∃ v, xs[k]? = some v ∧ Rv h c v
theorem ElemsOk.of_flat {h : PH} {z : Option Nat} {es : List AV} {xs : List Value} (hz : ∀ e ∈ es, zform z e) (hf : FlatR h es xs) : ElemsOk h z es xs := by
  refine ⟨hz, fun e he => zform_closed (hz e he), fun i e j x h1 h2 => ?_⟩
  have hj : j < zsize z := by
    have := zform_cells (hz e (List.mem_of_getElem? h1))
    have := (List.getElem?_eq_some_iff.1 h2).1
    omega
  exact hf _ x (by rw [flat_get (forms_len hz) i j e h1 hj]; exact h2)
theorem flat_index {m : Nat} (hm : 0 < m) {es : List AV} (hl : ∀ e ∈ es, e.cells.length = m) {k : Nat} {c : AV} (h : (flat es)[k]? = some c) : ∃ e, es[k / m]? = some e ∧ e.cells[k % m]? = some c := by
  have hlt : k < es.length * m := by rw [← flat_len hl]; exact (List.getElem?_eq_some_iff.1 h).1
  have hi : k / m < es.length := by rw [Nat.div_lt_iff_lt_mul hm]; exact hlt
  have hj : k % m < m := Nat.mod_lt _ hm
  refine ⟨es[k / m], List.getElem?_eq_getElem hi, ?_⟩
  rw [← flat_get hl (k / m) (k % m) _ (List.getElem?_eq_getElem hi) hj, Nat.div_add_mod' k m]
  exact h
theorem ElemsOk.flat {h : PH} {z : Option Nat} {es : List AV} {xs : List Value} (hm : 0 < zsize z) (E : ElemsOk h z es xs) : FlatR h es xs := by
  intro k c hk
  obtain ⟨e, h1, h2⟩ := flat_index hm (forms_len E.form) hk
  obtain ⟨v, q1, q2⟩ := E.read _ e _ c h1 h2
  rw [Nat.div_add_mod' k] at q1
  exact ⟨v, q1, q2⟩
theorem FlatR.append {h : PH} {es fs : List AV} {xs ys : List Value} (hl : xs.length = (Go.Cw.flat es).length) (a : FlatR h es xs) (b : FlatR h fs ys) : FlatR h (es ++ fs) (xs ++ ys) := by
  intro k c hk
  rw [flat_append] at hk
  by_cases h1 : k < (Go.Cw.flat es).length
  · rw [List.getElem?_append_left h1] at hk
    obtain ⟨v, q1, q2⟩ := a k c hk
    exact ⟨v, by rw [List.getElem?_append_left (by omega)]; exact q1, q2⟩
  · rw [List.getElem?_append_right (by omega)] at hk
    obtain ⟨v, q1, q2⟩ := b _ c hk
    exact ⟨v, by rw [List.getElem?_append_right (by omega), hl]; exact q1, q2⟩

/-- The cells of a list in memory. -/
theorem SlOk.news {h : PH} {z : Option Nat} {es : List AV} {ad : Addr} {l c : Nat} (hm : 0 < zsize z) (s : SlOk h z es (some ad) l c) {w : World} (hin : h.In w) :
    ∃ news : List Value, news.length = es.length * zsize z ∧ (∀ (k : Nat) u, news[k]? = some u → w.cell? (ad.add k) = some u) ∧ (∀ u ∈ news, u.oneCell' = true) ∧ FlatR h es news := by
  classical
  have key : ∀ k, k < es.length * zsize z → ∃ v x, w.cell? (ad.add k) = some v ∧ (Go.Cw.flat es)[k]? = some x ∧ Rv h x v ∧ v.oneCell' = true := by
    intro k hk
    have hlt : k < (Go.Cw.flat es).length := by rw [flat_len (forms_len s.form)]; exact hk
    obtain ⟨e, h1, h2⟩ := flat_index hm (forms_len s.form) (List.getElem?_eq_getElem hlt)
    obtain ⟨v, q1, q2⟩ := s.read ad rfl _ e _ _ h1 h2
    rw [Nat.div_add_mod' k] at q1
    have hc := form_cell (s.form e (List.mem_of_getElem? h1)) _ (List.mem_of_getElem? h2)
    exact ⟨v, _, hin.cell q1, List.getElem?_eq_getElem hlt, q2, (R0.of_rv (ρ := fun _ => none) hc.2 q2).one hc.1⟩
  refine ⟨(List.range (es.length * zsize z)).map fun k => (w.cell? (ad.add k)).getD undef, by simp, fun k u hu => ?_, fun u hu => ?_, fun k x hx => ?_⟩
  · rw [List.getElem?_map, Option.map_eq_some_iff] at hu
    obtain ⟨k', h1, rfl⟩ := hu
    have hk := (List.getElem?_eq_some_iff.1 h1).1
    have h2 := (List.getElem?_eq_some_iff.1 h1).2
    simp at hk h2
    subst h2
    obtain ⟨v, x, q1, _⟩ := key k hk
    rw [q1]; rfl
  · obtain ⟨k, hk, rfl⟩ := List.mem_map.1 hu
    obtain ⟨v, x, q1, _, _, q4⟩ := key k (List.mem_range.1 hk)
    rw [q1]; exact q4
  · have hk : k < es.length * zsize z := by rw [← flat_len (forms_len s.form)]; exact (List.getElem?_eq_some_iff.1 hx).1
    obtain ⟨v, x', q1, q2, q3, _⟩ := key k hk
    rw [hx] at q2
    injection q2 with q2
    subst q2
    exact ⟨v, by simp [hk, q1], q3⟩

/-- Memory has grown by a row, or one of one's own rows has been written. -/
theorem Sat.grow {cx : Ctx} {h : PH} {ρ : Ro} {B : Nat → ABlk} {w w' : World} (s : Sat cx h ρ B w) {n : Nat} (hn : ρ n = none) (hB : B n = .dead) (D : Nat → Bool) (hDn : D n = false) {q : Option Nat}
    (hq : ∀ i g, blkOf ρ (B i) i = some g → q = some g → D i = true) (hq' : ∀ g, q = some g → (cx.own g ∨ cx.w0.heap.size ≤ g) ∧ h g = none) (hg : w.grownBy w' q)
    {v : Value} (hv : ∀ g, vblk v = some g → q = some g ∨ g = w.heap.size) (hlt : ∀ g, vblk v = some g → g < w'.heap.size) (x : ABlk) (hx : ∀ ρ', ρ.le ρ' → ρ' n = some v → RB h ρ' w' n x) :
    ∃ ρ', Sat cx h ρ' (fun i => if n = i then x else if D i = true then .dead else B i) w' ∧ ρ.le ρ' ∧ ρ' n = some v ∧ ∀ id, ρ id = none → n ≠ id → ρ' id = none := by
  classical
  let ρ' : Ro := fun i => if n = i then some v else ρ i
  have hle : ρ.le ρ' := by
    intro i u hi
    show (if n = i then some v else ρ i) = some u
    have : n ≠ i := fun e => by subst e; rw [hn] at hi; cases hi
    rw [if_neg this]; exact hi
  have hnn : ρ' n = some v := if_pos rfl
  have old : ∀ id, n ≠ id → blkOf ρ' (B id) id = blkOf ρ (B id) id := by
    intro id hne
    have : ρ' id = ρ id := if_neg hne
    cases B id <;> simp [blkOf, this]
  have small : ∀ id g, blkOf ρ (B id) id = some g → g < w.heap.size := by
    intro id g hg
    have r := s.rb id
    cases hBi : B id with
    | cells t cs =>
      rw [hBi] at r hg
      obtain ⟨g', vs, h1, h2, _⟩ := r
      simp [blkOf, h1, vblk] at hg
      subst hg
      exact (Array.getElem?_eq_some_iff.1 h2).1
    | row e z es =>
      rw [hBi] at r hg
      obtain ⟨v, xs, h1, ⟨_, h4⟩, _⟩ := r
      rcases h4 with ⟨rfl, _⟩ | ⟨g', cap, cur, rfl, _, q2, _⟩
      · simp [blkOf, h1, vblk] at hg
      · simp [blkOf, h1, vblk] at hg
        subst hg
        exact (Array.getElem?_eq_some_iff.1 q2).1
    | frz z es => rw [hBi] at hg; simp [blkOf] at hg
    | dead => rw [hBi] at hg; simp [blkOf] at hg
  have newb : ∀ g, blkOf ρ' x n = some g → q = some g ∨ g = w.heap.size := by
    intro g hgx
    cases x <;> simp [blkOf, hnn] at hgx <;> exact hv g hgx
  have keep : ∀ i g, n ≠ i → ¬ D i = true → blkOf ρ (B i) i = some g → w'.heap[g]? = w.heap[g]? := fun i g h1 h2 h3 => hg.block g (small i g h3) fun e => h2 (hq i g h3 e.symm)
  have hfree : h w.heap.size = none := by
    cases hh : h w.heap.size with
    | none => rfl
    | some o' =>
      have := (Array.getElem?_eq_some_iff.1 (s.inn _ _ hh)).1
      omega
  refine ⟨ρ', ⟨hg.os.trans s.os, hg.tape.trans s.tape, hg.output.trans s.output, Nat.le_trans s.size hg.size, fun i hi ho => ?_, fun g o hgo => ?_, s.hle, s.hnew, fun id g hgi => ?_, fun id g hgi => ?_, fun id id' g hgi hgi' => ?_, fun id => ?_⟩, hle, hnn, fun id hi hne => by show (if n = id then some v else ρ id) = none; rw [if_neg hne]; exact hi⟩
  · rw [hg.block i (Nat.lt_of_lt_of_le hi s.size) ?_]
    · exact s.frame i hi ho
    · intro e
      rcases (hq' i e.symm).1 with h1 | h1
      · exact ho h1
      · omega
  · have h1 := s.inn g o hgo
    rw [hg.block g (Array.getElem?_eq_some_iff.1 h1).1 ?_]
    · exact h1
    · intro e; rw [(hq' g e.symm).2] at hgo; cases hgo
  · by_cases hid : n = id
    · subst hid
      rw [if_pos rfl] at hgi
      rcases newb g hgi with h1 | h1
      · exact (hq' g h1).1
      · rw [h1]; exact .inr s.size
    · rw [if_neg hid] at hgi
      by_cases hD : D id = true
      · rw [if_pos hD] at hgi; simp [blkOf] at hgi
      · rw [if_neg hD, old id hid] at hgi; exact s.new id g hgi
  · by_cases hid : n = id
    · subst hid
      rw [if_pos rfl] at hgi
      rcases newb g hgi with h1 | h1
      · exact (hq' g h1).2
      · rw [h1]; exact hfree
    · rw [if_neg hid] at hgi
      by_cases hD : D id = true
      · rw [if_pos hD] at hgi; simp [blkOf] at hgi
      · rw [if_neg hD, old id hid] at hgi; exact s.hok id g hgi
  · have one : ∀ i, n ≠ i → blkOf ρ' (if D i = true then ABlk.dead else B i) i = some g → blkOf ρ' x n = some g → False := by
      intro i hi h1 h2
      by_cases hD : D i = true
      · rw [if_pos hD] at h1; simp [blkOf] at h1
      · rw [if_neg hD, old i hi] at h1
        rcases newb g h2 with h3 | h3
        · exact hD (hq i g h1 h3)
        · have := small i g h1; omega
    by_cases hid : n = id
    · by_cases hid' : n = id'
      · rw [← hid, ← hid']
      · subst hid
        rw [if_pos rfl] at hgi; rw [if_neg hid'] at hgi'
        exact (one id' hid' hgi' hgi).elim
    · by_cases hid' : n = id'
      · subst hid'
        rw [if_neg hid] at hgi; rw [if_pos rfl] at hgi'
        exact (one id hid hgi hgi').elim
      · rw [if_neg hid] at hgi; rw [if_neg hid'] at hgi'
        by_cases hD : D id = true
        · rw [if_pos hD] at hgi; simp [blkOf] at hgi
        · by_cases hD' : D id' = true
          · rw [if_pos hD'] at hgi'; simp [blkOf] at hgi'
          · rw [if_neg hD, old id hid] at hgi
            rw [if_neg hD', old id' hid'] at hgi'
            exact s.inj id id' g hgi hgi'
  · by_cases hid : n = id
    · subst hid
      rw [if_pos rfl]; exact hx ρ' hle hnn
    · rw [if_neg hid]
      by_cases hD : D id = true
      · rw [if_pos hD]; trivial
      · rw [if_neg hD]
        exact ((s.rb id).world fun g hgi => keep id g hid hD hgi).mono h.le_refl hle

theorem ownsRow_vblk {w : World} {e : TypeId} {size l : Nat} {v : Value} {xs : List Value} (h : w.ownsRow 0 e size v l xs) : vblk v = v.ownBlock ∧ ∀ g, vblk v = some g → g < w.heap.size := by
  rcases h.2 with ⟨rfl, _⟩ | ⟨g, cap, cur, rfl, _, hg, _⟩
  · exact ⟨rfl, fun g hg => by cases hg⟩
  · refine ⟨rfl, fun g' hg' => ?_⟩
    injection hg' with hg'
    subst hg'
    exact (Array.getElem?_eq_some_iff.1 hg).1

end Go.Cw
