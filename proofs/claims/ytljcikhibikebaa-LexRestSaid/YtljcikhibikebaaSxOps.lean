/- What an operation does to an abstract state: definitions only. Nothing of a program. -/
import Derived.Test.YtljcikhibikebaaSxMem2
namespace Go.Sx
open Go Go.RowKit

universe u

/-- A number laid open. -/
def frcN {α : Sort u} (n : Nat) (K : Nat → α) : α :=
  match n with
  | 0 => K 0
  | m + 1 => match m with
    | 0 => K (0 + 1)
    | k + 1 => K (k + 1 + 1)

theorem frcN_eq {α : Sort u} (n : Nat) (K : Nat → α) : frcN n K = K n := by
  cases n with
  | zero => rfl
  | succ m => cases m <;> rfl

/-- A value of one cell laid open, so that what is kept is no open term. -/
def frc1 {α : Sort u} (v : AV) (K : AV → α) : α :=
  match v with
  | .any => K .any
  | .int k n => K (.int k n)
  | .bool b => K (.bool b)
  | .str l => K (.str l)
  | .nils => K .nils
  | .slc sz n f => K (.slc sz n f)
  | .own r i e n => frcN r fun r => K (.own r i e n)
  | .ptr b o => frcN b fun b => K (.ptr b o)
  | .eptr r i e n sz k o => K (.eptr r i e n sz k o)
  | .mapv b => K (.mapv b)
  | .ifc t v => K (.ifc t v)
  | .nili => K .nili
  | .rptr cs => K (.rptr cs)
  | .nilp => K .nilp
  | .agg cs => K (.agg cs)
  | .tup vs => K (.tup vs)
  | .fn f cs => K (.fn f cs)
  | .cnd b v => K (.cnd b v)

theorem frc1_eq {α : Sort u} (v : AV) (K : AV → α) : frc1 v K = K v := by cases v <;> simp only [frc1, frcN_eq]

def frcL1 {α : Sort u} : List AV → (List AV → α) → α
  | [], K => K []
  | x :: xs, K => frc1 x fun x' => frcL1 xs fun xs' => K (x' :: xs')

theorem frcL1_eq {α : Sort u} : ∀ (xs : List AV) (K : List AV → α), frcL1 xs K = K xs
  | [], _ => rfl
  | x :: xs, K => by simp only [frcL1, frc1_eq]; exact frcL1_eq xs _

inductive Kd where
  | int (k : IntKind) | bool | str | slice (e : TypeId) | struct (fs : List (Nat × TypeId)) | array (n : Nat) (e : TypeId) | ptr (e : TypeId) | other

structure TI where
  kd : Kd
  size : Nat
  bytes : Nat
  zero : List AV
  cmp : Bool

def ofVal1 : Value → AV
  | .int k n => .int k n
  | .bool b => .bool b
  | .string s => .str s.data.toList
  | .slice none 0 0 => .nils
  | .pointer none => .nilp
  | _ => .any

def ofVal : Value → AV
  | .agg cs => .agg (cs.toList.map ofVal1)
  | v => ofVal1 v

def kdOf : TypeDesc → Kd
  | .int k => .int k
  | .bool => .bool
  | .string => .str
  | .slice e => .slice e
  | .struct fs => .struct (fs.toList.map fun f => (f.offset, f.type))
  | .array n e => .array n e
  | .pointer e => .ptr e
  | _ => .other

def zeroOf (i : TypeInfo) : List AV :=
  match i.zero with
  | some z => z.cells.toList.map ofVal1
  | none => []

/-- May two structs of the type be compared field by field, with nothing of the model's own in the way? -/
def cmpOf (P : Program) (t : TypeId) : TypeDesc → Bool
  | .struct fs => !P.stoodInHeld t && !P.eqGuardType P.depth t && fs.toList.all fun f => f.name != "_"
  | _ => false

def tab (P : Program) (t : TypeId) : TI :=
  match P.info? t, P.underlying t with
  | some i, some d => ⟨kdOf d, i.size, i.bytes, zeroOf i, cmpOf P t d⟩
  | _, _ => ⟨.other, 0, 0, [], false⟩

/-- What is to be kept wrapping, which slots bear rows of the call's own, which slots bear a row that is cut anew. -/
structure Cfg where
  wraps : List Nat := []
  owns : List (Nat × (TypeId × Nat)) := []
  cuts : List Nat := []

def inR (k : IntKind) (n : Int) : Prop := k.min ≤ n ∧ n ≤ k.max

def strip : AV → AV
  | .cnd _ v => v
  | v => v

def scond : AV → Option Prop
  | .cnd q _ => some (q = true)
  | _ => none

def scondO : Option AV → Option Prop
  | some x => scond x
  | none => none

def andO : Option Prop → Option Prop → Option Prop
  | none, q => q
  | some p, none => some p
  | some p, some q => some (p ∧ q)

def obT : Option Prop → Prop
  | none => True
  | some p => p

def scondL : List AV → Option Prop
  | [] => none
  | x :: xs => andO (scond x) (scondL xs)

theorem obT_andO (p q : Option Prop) : obT (andO p q) ↔ obT p ∧ obT q := by
  cases p <;> cases q <;> simp [andO, obT]

inductive OR where
  | ok (ob : Option Prop) (v : AV)
  | mem (ob : Option Prop) (v : AV) (st : List (Nat × SO)) (nx : Nat)
  | call (f : FuncId) (args : List AV)
  | bad

def ev (s : ASt) : Operand → AV
  | .tmp t => s.get t
  | .const v => ofVal v
  | .global _ => .any
  | .func f => .fn f []

/-- A value that one cell can bear. -/
def AV.one : AV → Bool
  | .any | .agg .. | .tup .. | .cnd .. | .own .. | .eptr .. | .ifc .. => false
  | _ => true

def AV.oneOwn : AV → Bool
  | .own .. => true
  | x => x.one

def isAggK : Kd → Bool
  | .struct _ | .array _ _ => true
  | _ => false

def byteAt (l : List UInt8) (i : Int) : Int := ((l.getD i.toNat 0).toNat : Int)

def wrapN (C : Cfg) (dst : Option Nat) : Bool :=
  match dst with
  | some d => C.wraps.any (Nat.beq d)
  | none => false

def arith (wr : Bool) (k : IntKind) (n : Int) : OR := bif wr then .ok none (.int k (k.wrap n)) else .ok (some (inR k n)) (.int k n)

/-- The bits of two numbers together. -/
def bitI (op : BinOp) (k : IntKind) (a b : Int) : Int :=
  match op with
  | .and => k.wrap (BitVec.ofInt k.bits a &&& BitVec.ofInt k.bits b).toNat
  | .or => k.wrap (BitVec.ofInt k.bits a ||| BitVec.ofInt k.bits b).toNat
  | _ => k.wrap (BitVec.ofInt k.bits a ^^^ BitVec.ofInt k.bits b).toNat

def shlI (k : IntKind) (a b : Int) : Int := a * 2 ^ (min b.toNat k.bits)
def shrI (k : IntKind) (a b : Int) : Int := a.fdiv (2 ^ (min b.toNat k.bits))

def intO (wr : Bool) : BinOp → IntKind → Int → Int → OR
  | .add, k, a, b => arith wr k (a + b)
  | .sub, k, a, b => arith wr k (a - b)
  | .mul, k, a, b => arith wr k (a * b)
  | .quo, k, a, b => .ok (some (b ≠ 0 ∧ inR k (a.tdiv b))) (.int k (a.tdiv b))
  | .rem, k, a, b => .ok (some (b ≠ 0)) (.int k (a.tmod b))
  | .and, k, a, b => .ok none (.int k (bitI .and k a b))
  | .or, k, a, b => .ok none (.int k (bitI .or k a b))
  | .xor, k, a, b => .ok none (.int k (bitI .xor k a b))
  | .eql, _, a, b => .ok none (.bool (a == b))
  | .neq, _, a, b => .ok none (.bool (a != b))
  | .lss, _, a, b => .ok none (.bool (decide (a < b)))
  | .leq, _, a, b => .ok none (.bool (decide (a ≤ b)))
  | .gtr, _, a, b => .ok none (.bool (decide (b < a)))
  | .geq, _, a, b => .ok none (.bool (decide (b ≤ a)))
  | _, _, _, _ => .bad

def strO : BinOp → List UInt8 → List UInt8 → OR
  | .add, a, b => .ok (some (a.length + b.length ≤ 9223372036854775807)) (.str (a ++ b))
  | .eql, a, b => .ok none (.bool (a == b))
  | .neq, a, b => .ok none (.bool (!(a == b)))
  | .lss, a, b => .ok none (.bool (Op.bytesLess a b))
  | _, _, _ => .bad

/-- Two lists of plain cells, of a struct's fields: are they alike? -/
def eqCells (T : Nat → TI) : Nat → List (Nat × TypeId) → List AV → List AV → Option Bool
  | _, [], [], [] => some true
  | i, (o, t) :: fs, x :: xs, y :: ys =>
    bif Nat.beq o i then
      match (T t).kd, x, y with
      | .int _, .int k a, .int k' b => bif decide (k = k') then (eqCells T (i + 1) fs xs ys).map ((a == b) && ·) else none
      | .bool, .bool a, .bool b => (eqCells T (i + 1) fs xs ys).map ((a == b) && ·)
      | .str, .str a, .str b => (eqCells T (i + 1) fs xs ys).map ((a == b) && ·)
      | _, _, _ => none
    else none
  | _, _, _, _ => none

def aggO (T : Nat → TI) (neg : Bool) (t : TypeId) (xs ys : List AV) : OR :=
  match (T t).kd with
  | .struct fs =>
    match eqCells T 0 fs xs ys with
    | some b => .ok (some ((T t).cmp = true)) (.bool (bif neg then !b else b))
    | none => .bad
  | _ => .bad

def also (p : Option Prop) : OR → OR
  | .ok ob v => .ok (andO p ob) v
  | .mem ob v st nx => .mem (andO p ob) v st nx
  | _ => .bad

def binO (T : Nat → TI) (C : Cfg) (dst : Option Nat) (op : BinOp) (t : TypeId) : AV → AV → OR
  | .int k a, .int k' b =>
    match op with
    | .shl => also (some (0 ≤ b)) (arith (wrapN C dst) k (shlI k a b))
    | .shr => .ok (some (0 ≤ b)) (.int k (shrI k a b))
    | op => bif decide (k = k') then intO (wrapN C dst) op k a b else .bad
  | .str a, .str b => strO op a b
  | .bool a, .bool b =>
    match op, (T t).kd with
    | .eql, .bool => .ok none (.bool (a == b))
    | .neq, .bool => .ok none (.bool (!(a == b)))
    | _, _ => .bad
  | .agg xs, .agg ys =>
    match op with
    | .eql => aggO T false t xs ys
    | .neq => aggO T true t xs ys
    | _ => .bad
  | _, _ => .bad

def pickO : AV → AV → AV → OR
  | .bool p, .bool x, .bool y => .ok none (.bool (bif p then x else y))
  | .bool p, .cnd q (.bool x), .bool y => .ok (some (p = true → q = true)) (.bool (bif p then x else y))
  | .bool p, .bool x, .cnd q (.bool y) => .ok (some (p = false → q = true)) (.bool (bif p then x else y))
  | _, _, _ => .bad

def andP : AV → AV → OR
  | .bool p, .bool x => .ok none (.bool (p && x))
  | .bool p, .cnd q (.bool x) => .ok (some (p = true → q = true)) (.bool (p && x))
  | _, _ => .bad

def orP : AV → AV → OR
  | .bool p, .bool y => .ok none (.bool (p || y))
  | .bool p, .cnd q (.bool y) => .ok (some (p = false → q = true)) (.bool (p || y))
  | _, _ => .bad

def unO (C : Cfg) (dst : Option Nat) : UnOp → AV → OR
  | .not, .bool b => .ok none (.bool (!b))
  | .neg, .int k n => arith (wrapN C dst) k (0 - n)
  | _, _ => .bad

def indexO (T : Nat → TI) (t : TypeId) : AV → AV → OR
  | .str l, .int _ i => match (T t).kd with | .str => .ok (some (0 ≤ i ∧ i < l.length)) (.int .u8 (byteAt l i)) | _ => .bad
  | .agg cs, .int _ i =>
    match (T t).kd with
    | .array n e => bif Nat.beq (T e).size 1 && !isAggK (T e).kd && Nat.beq cs.length n then .ok (some (0 ≤ i ∧ i < n)) (cs.getD i.toNat .any) else .bad
    | _ => .bad
  | _, _ => .bad

def sliceO (T : Nat → TI) (t : TypeId) : AV → Option AV → Option AV → Option AV → OR
  | .str l, none, none, none => match (T t).kd with | .str => .ok none (.str l) | _ => .bad
  | .str l, some (.int _ a), none, none => match (T t).kd with | .str => .ok (some (0 ≤ a ∧ a ≤ l.length)) (.str (l.drop a.toNat)) | _ => .bad
  | .str l, none, some (.int _ b), none => match (T t).kd with | .str => .ok (some (0 ≤ b ∧ b ≤ l.length)) (.str (l.take b.toNat)) | _ => .bad
  | .str l, some (.int _ a), some (.int _ b), none => match (T t).kd with | .str => .ok (some (0 ≤ a ∧ a ≤ b ∧ b ≤ l.length)) (.str ((l.take b.toNat).drop a.toNat)) | _ => .bad
  | .slc sz n f, some (.int _ a), none, none =>
    match (T t).kd with
    | .slice e => bif Nat.beq (T e).size sz && Nat.ble 1 sz then .ok (some (0 ≤ a ∧ a ≤ n)) (.slc sz (n - a.toNat) (fun i => f (a.toNat + i))) else .bad
    | _ => .bad
  | .slc sz n f, none, some (.int _ b), none =>
    match (T t).kd with
    | .slice e => bif Nat.beq (T e).size sz && Nat.ble 1 sz then .ok (some (0 ≤ b ∧ b ≤ n)) (.slc sz b.toNat f) else .bad
    | _ => .bad
  | .slc sz n f, some (.int _ a), some (.int _ b), none =>
    match (T t).kd with
    | .slice e => bif Nat.beq (T e).size sz && Nat.ble 1 sz then .ok (some (0 ≤ a ∧ a ≤ b ∧ b ≤ n)) (.slc sz (b.toNat - a.toNat) (fun i => f (a.toNat + i))) else .bad
    | _ => .bad
  | _, _, _, _ => .bad

def upd {α : Type} (g : Nat → α) (i : Nat) (x : α) : Nat → α := fun j => if j = i then x else g j

/-- A row by its name: what is owed for it to be there, and what it is. -/
def rowAt (st : List (Nat × SO)) (r i : Nat) : Option (Option Prop × RowV) :=
  match look st r with
  | some (.row ids e sz ep n f) => bif Nat.beq i 0 then some (none, ⟨ids, e, sz, ep, n, f⟩) else none
  | some (.fam e sz cnt ep len f) => some (some (i < cnt), ⟨[], e, sz, ep i, len i, f i⟩)
  | _ => none

def setRowAt (st : List (Nat × SO)) (r i ep n : Nat) (f : Nat → List AV) : List (Nat × SO) :=
  match look st r with
  | some (.row ids e sz _ _ _) => setSt st r (.row ids e sz ep n f)
  | some (.fam e sz cnt eps len fs) => setSt st r (.fam e sz cnt (upd eps i ep) (upd len i n) (upd fs i f))
  | _ => st

/-- The row is as it was told. -/
def now (e n : Nat) (R : RowV) : Prop := e = R.ep ∧ n = R.n

def indexAddrO (T : Nat → TI) (st : List (Nat × SO)) (t : TypeId) : AV → AV → OR
  | .slc sz n f, .int _ i =>
    match (T t).kd with
    | .slice e => bif Nat.beq (T e).size sz && Nat.ble 1 sz then .ok (some (0 ≤ i ∧ i < n)) (.rptr (f i.toNat)) else .bad
    | _ => .bad
  | .own r i e n, .int _ k =>
    match (T t).kd, rowAt st r i with
    | .slice el, some (ob, R) => bif Nat.beq (T el).size R.sz && Nat.ble 1 R.sz then .ok (andO ob (some ((e = R.ep ∧ n = R.n) ∧ 0 ≤ k ∧ k < n))) (.eptr r i e n R.sz k.toNat 0) else .bad
    | _, _ => .bad
  | _, _ => .bad

def fieldAddrO (T : Nat → TI) (st : List (Nat × SO)) (t : TypeId) (fi : Nat) (x : AV) : OR :=
  match (T t).kd with
  | .struct fs =>
    match fs[fi]? with
    | some (off, ft) =>
      bif Nat.ble 1 (T ft).size then
        match x with
        | .ptr b o => .ok none (.ptr b (o + off))
        | .eptr r i e n sz k o => match rowAt st r i with | some (ob, R) => .ok (andO ob (some (e = R.ep ∧ n = R.n))) (.eptr r i e n sz k (o + off)) | _ => .bad
        | .rptr cs => .ok none (.rptr (cs.drop off))
        | _ => .bad
      else .bad
    | none => .bad
  | _ => .bad

/-- Of a row of cells the value of a type that lies at a place. -/
def cellsO (ti : TI) (cs : List AV) : OR :=
  bif isAggK ti.kd then (bif Nat.ble ti.size cs.length then .ok none (.agg (cs.take ti.size)) else .bad)
  else bif Nat.beq ti.size 1 then
    match cs with
    | x :: _ => .ok none x
    | [] => .bad
  else .bad

def loadO (T : Nat → TI) (st : List (Nat × SO)) (t : TypeId) : AV → OR
  | .rptr cs => cellsO (T t) cs
  | .ptr b o => match look st b with | some (.box _ cs) => cellsO (T t) (cs.drop o) | _ => .bad
  | .eptr r i e n sz' k o => match rowAt st r i with | some (ob, R) => bif Nat.beq sz' R.sz then also (andO ob (some ((e = R.ep ∧ n = R.n) ∧ k < n))) (cellsO (T t) ((R.f k).drop o)) else .bad | _ => .bad
  | _ => .bad

def setAll : List AV → Nat → List AV → List AV
  | cs, _, [] => cs
  | cs, o, x :: r => setAll (cs.set o x) (o + 1) r

/-- The cells of a value that is to be stored. -/
def cellsOf : AV → List AV
  | .agg cs => cs
  | x => [x]

/-- The own rows among some cells are as they are just now. -/
def ownOb (st : List (Nat × SO)) : List AV → Option Prop
  | [] => none
  | .own r i e n :: l => match rowAt st r i with | some (ob, R) => andO (andO ob (some (e = R.ep ∧ n = R.n))) (ownOb st l) | _ => some False
  | _ :: l => ownOb st l

/-- May a value be laid into cells? (A struct's cells, or one cell.) -/
def partOk : AV → Bool
  | .agg _ => true
  | x => x.oneOwn

def partOb (st : List (Nat × SO)) : AV → Option Prop
  | .agg _ => none
  | x => ownOb st [x]

/-- May a value lie in a cell of a row whose cells may name the rows 'ids'? -/
def cellOk (ids : List Nat) : AV → Bool
  | .own r .. => ids.any (Nat.beq r)
  | y => y.one && y.pure1

def storeO (T : Nat → TI) (st : List (Nat × SO)) (nx : Nat) (t : TypeId) : AV → AV → OR
  | .ptr b o, x =>
    match look st b with
    | some (.box ty cs) =>
      bif Nat.ble 1 (T t).size && Nat.beq (cellsOf x).length (T t).size && (cellsOf x).all AV.oneOwn && Nat.ble (o + (cellsOf x).length) cs.length
      then .mem (ownOb st (cellsOf x)) .any (setSt st b (.box ty (setAll cs o (cellsOf x)))) nx else .bad
    | _ => .bad
  | .eptr r i e n sz' k o, x =>
    match rowAt st r i with
    | some (ob, R) =>
      bif Nat.ble 1 (T t).size && Nat.beq sz' R.sz && Nat.beq (cellsOf x).length (T t).size && (cellsOf x).all (cellOk R.ids) && Nat.ble (o + (cellsOf x).length) R.sz
      then .mem (andO (andO ob (some ((e = R.ep ∧ n = R.n) ∧ k < n))) (ownOb st (cellsOf x))) .any (setRowAt st r i R.ep R.n (fun j => if j = k then setAll (R.f k) o (cellsOf x) else R.f j)) nx else .bad
    | _ => .bad
  | _, _ => .bad

/-- The cells of a struct or array that is built of parts. -/
def fillO (place : Nat → Option (Nat × Nat)) : List AV → List (Nat × AV) → Option (List AV)
  | cs, [] => some cs
  | cs, (i, x) :: r =>
    match place i with
    | some (off, size) => bif partOk x && Nat.beq (cellsOf x).length size && Nat.ble (off + size) cs.length then frcL1 (setAll cs off (cellsOf x)) fun cs' => fillO place cs' r else none
    | none => none

def partsOb (st : List (Nat × SO)) : List (Nat × AV) → Option Prop
  | [] => none
  | (_, x) :: r => andO (partOb st x) (partsOb st r)

def placeS (T : Nat → TI) (fs : List (Nat × TypeId)) (i : Nat) : Option (Nat × Nat) := (fs[i]?).map fun p => (p.1, (T p.2).size)

def buildO (T : Nat → TI) (st : List (Nat × SO)) (t : TypeId) (parts : List (Nat × AV)) : OR :=
  match (T t).kd with
  | .struct fs => bif Nat.ble 1 (T t).size && Nat.beq (T t).zero.length (T t).size && fs.all (fun p => Nat.ble 1 (T p.2).size) then (match fillO (placeS T fs) (T t).zero parts with | some cs => .ok (partsOb st parts) (.agg cs) | none => .bad) else .bad
  | .array _ e => bif Nat.ble 1 (T t).size && Nat.beq (T t).zero.length (T t).size && Nat.ble 1 (T e).size then (match fillO (fun i => some (i * (T e).size, (T e).size)) (T t).zero parts with | some cs => .ok (partsOb st parts) (.agg cs) | none => .bad) else .bad
  | _ => .bad

def chop (sz : Nat) (cs : List AV) (i : Nat) : List AV := (cs.drop (i * sz)).take sz

def zeros (z : List AV) : Nat → List AV
  | 0 => []
  | n + 1 => z ++ zeros z n

def buildSliceO (T : Nat → TI) (st : List (Nat × SO)) (t : TypeId) (len : Nat) (parts : List (Nat × AV)) : OR :=
  match (T t).kd with
  | .slice e =>
    bif Nat.ble 1 (T e).size && Nat.ble (len * (T e).size) 16777216 && Nat.beq (T e).zero.length (T e).size then
      match fillO (fun i => some (i * (T e).size, (T e).size)) (zeros (T e).zero len) parts with
      | some cs => frcL1 cs fun cs => bif cs.all (fun y => y.one && y.pure1) then frcN (T e).size fun sz => .ok (partsOb st parts) (.slc sz len (chop sz cs)) else .bad
      | none => .bad
    else .bad
  | _ => .bad

/-- A slice's literal: to be read, or a row of the call's own. -/
def buildSlO (T : Nat → TI) (C : Cfg) (s : ASt) (dst : Option Nat) (t : TypeId) (len : Nat) (parts : List (Nat × AV)) : OR :=
  match (dst.bind (look C.owns)), (T t).kd, buildSliceO T s.st t len parts with
  | some _, .slice e, .ok ob (.slc sz n f) => .mem ob (.own s.nx 0 0 n) ((s.nx, .row [] e sz 0 n f) :: s.st) (s.nx + 1)
  | some _, _, _ => .bad
  | none, _, r => r

def isCut (C : Cfg) (dst : Option Nat) : Bool :=
  match dst with
  | some d => C.cuts.any (Nat.beq d)
  | none => false

/-- A row of the call's own that is cut anew. -/
def cutO (T : Nat → TI) (C : Cfg) (s : ASt) (dst : Option Nat) (t : TypeId) : AV → Option AV → Option AV → Option AV → OR
  | .own r i e n, some (.int _ a), none, none =>
    match (T t).kd, rowAt s.st r i with
    | .slice el, some (ob, R) =>
      bif isCut C dst && Nat.beq (T el).size R.sz && Nat.ble 1 R.sz then
        .mem (andO ob (some ((e = R.ep ∧ n = R.n) ∧ 0 ≤ a ∧ a ≤ n))) (.own r i (R.ep + 1) (n - a.toNat)) (setRowAt s.st r i (R.ep + 1) (n - a.toNat) (fun j => R.f (a.toNat + j))) s.nx
      else .bad
    | _, _ => .bad
  | .own r i e n, none, some (.int _ b), none =>
    match (T t).kd, rowAt s.st r i with
    | .slice el, some (ob, R) =>
      bif isCut C dst && Nat.beq (T el).size R.sz && Nat.ble 1 R.sz then
        .mem (andO ob (some ((e = R.ep ∧ n = R.n) ∧ 0 ≤ b ∧ b ≤ n))) (.own r i (R.ep + 1) b.toNat) (setRowAt s.st r i (R.ep + 1) b.toNat R.f) s.nx
      else .bad
    | _, _ => .bad
  | x, lo, hi, mx => sliceO T t x lo hi mx

def fieldO (T : Nat → TI) (t : TypeId) (fi : Nat) : AV → OR
  | .agg cs =>
    match (T t).kd with
    | .struct fs => match fs[fi]? with | some (off, ft) => cellsO (T ft) (cs.drop off) | none => .bad
    | _ => .bad
  | _ => .bad

def extractO (i : Nat) : AV → OR
  | .tup vs => match vs[i]? with | some v => .ok none v | none => .bad
  | _ => .bad

/-- The bytes of a row of bytes. -/
def byteV : List AV → UInt8
  | [.int _ x] => x.toNat.toUInt8
  | _ => 0
def bytesV (n : Nat) (f : Nat → List AV) : List UInt8 := (List.range n).map fun i => byteV (f i)
def isBytes (n : Nat) (f : Nat → List AV) : Prop := ∀ i, i < n → ∃ b : UInt8, f i = [.int .u8 b.toNat]

def byteSl (T : Nat → TI) (src to : TypeId) : Bool :=
  match (T src).kd, (T to).kd with
  | .slice e, .str => Nat.beq (T e).size 1 && (match (T e).kd with | .int .u8 => true | _ => false)
  | _, _ => false

def convertO (T : Nat → TI) (C : Cfg) (st : List (Nat × SO)) (dst : Option Nat) (src to : TypeId) (x : AV) : OR :=
  bif Nat.ble 1 (T src).size then
    match x with
    | .slc sz n f => bif byteSl T src to && Nat.beq sz 1 then .ok (some (isBytes n f)) (.str (bytesV n f)) else .bad
    | .own r i e n =>
      match rowAt st r i with
      | some (ob, R) => bif byteSl T src to && Nat.beq R.sz 1 then .ok (andO ob (some ((e = R.ep ∧ n = R.n) ∧ isBytes n R.f))) (.str (bytesV n R.f)) else .bad
      | none => .bad
    | .nils => bif byteSl T src to then .ok none (.str []) else .bad
    | .int _ n => match (T to).kd with | .int k => arith (wrapN C dst) k n | _ => .bad
    | .str l => match (T to).kd with | .str => .ok none (.str l) | _ => .bad
    | _ => .bad
  else .bad

def appF (n : Nat) (f : Nat → List AV) (m : Nat) (g : Nat → List AV) : Nat → List AV :=
  fun i => if i < n then f i else if i < n + m then g (i - n) else f i

/-- append of a slice that reads to a row of the call's own, or to nil; of a row of the call's own to another one. -/
def appendO (T : Nat → TI) (s : ASt) (t : TypeId) : AV → AV → OR
  | .own r i ep n, .slc sz m g =>
    match (T t).kd, rowAt s.st r i with
    | .slice e, some (ob, R) =>
      bif Nat.beq (T e).size sz && Nat.beq e R.e && Nat.beq sz R.sz && Nat.ble 1 sz && Nat.beq (T e).zero.length sz then
        .mem (andO ob (some ((ep = R.ep ∧ n = R.n) ∧ n + m ≤ 9223372036854775807 ∧ (n + m) * (T e).bytes ≤ 140737488355328))) (.own r i ep (n + m)) (setRowAt s.st r i ep (n + m) (appF n R.f m g)) s.nx
      else .bad
    | _, _ => .bad
  | .own r i ep n, .own r' i' ep' m =>
    match (T t).kd, rowAt s.st r i, rowAt s.st r' i' with
    | .slice e, some (ob, R), some (ob', R') =>
      bif Nat.beq (T e).size R.sz && Nat.beq e R.e && Nat.beq R'.sz R.sz && Nat.ble 1 R.sz && Nat.beq (T e).zero.length R.sz && !Nat.beq r r' && R'.ids.isEmpty then
        .mem (andO ob (andO ob' (some ((ep = R.ep ∧ n = R.n) ∧ (ep' = R'.ep ∧ m = R'.n) ∧ n + m ≤ 9223372036854775807 ∧ (n + m) * (T e).bytes ≤ 140737488355328)))) (.own r i ep (n + m)) (setRowAt s.st r i ep (n + m) (appF n R.f m R'.f)) s.nx
      else .bad
    | _, _, _ => .bad
  | .nils, .slc sz m g =>
    match (T t).kd with
    | .slice e =>
      bif Nat.beq (T e).size sz && Nat.ble 1 sz && Nat.beq (T e).zero.length sz then
        .mem (some (m ≤ 9223372036854775807 ∧ m * (T e).bytes ≤ 140737488355328)) (.own s.nx 0 0 m) ((s.nx, .row [] e sz 0 m g) :: s.st) (s.nx + 1)
      else .bad
    | _ => .bad
  | _, _ => .bad

def makeO (T : Nat → TI) (s : ASt) (t : TypeId) : AV → AV → OR
  | .int _ l, .int _ c =>
    match (T t).kd with
    | .slice e => bif Nat.beq (T e).zero.length (T e).size && Nat.ble 1 (T e).size && (T e).zero.all (fun y => y.one && y.pure1) then
        .mem (some (0 ≤ l ∧ l ≤ c ∧ c ≤ 9223372036854775807 ∧ c * (T e).bytes ≤ 140737488355328)) (.own s.nx 0 0 l.toNat) ((s.nx, .row [] e (T e).size 0 l.toNat (fun _ => (T e).zero)) :: s.st) (s.nx + 1) else .bad
    | _ => .bad
  | _, _ => .bad

def lenO (st : List (Nat × SO)) : Kd → AV → OR
  | .str, .str l => .ok none (.int .i64 l.length)
  | .slice _, .slc _ n _ => .ok none (.int .i64 n)
  | .slice _, .own r i e n => match rowAt st r i with | some (ob, R) => .ok (andO ob (some (e = R.ep ∧ n = R.n))) (.int .i64 n) | _ => .bad
  | .slice _, .nils => .ok none (.int .i64 0)
  | _, _ => .bad

def minO (mx : Bool) : AV → AV → OR
  | .int .i64 a, .int .i64 b => .ok none (.int .i64 (bif mx then max a b else min a b))
  | _, _ => .bad

def builtinO (T : Nat → TI) (s : ASt) (b : Builtin) (ts : List TypeId) (args : List AV) : OR :=
  match b, ts, args with
  | .len, [t], [x] => lenO s.st (T t).kd x
  | .append, [t, t'], [x, y] => bif Nat.beq t t' then appendO T s t x y else .bad
  | .min, [_, _], [x, y] => minO false x y
  | .max, [_, _], [x, y] => minO true x y
  | _, _, _ => .bad

def nilCheckO : AV → OR
  | .ptr b o => .ok none (.ptr b o)
  | .rptr cs => .ok none (.rptr cs)
  | .fn f cs => .ok none (.fn f cs)
  | _ => .bad

def ownAt (l : List (Nat × (TypeId × Nat))) (d : Option Nat) : Option (TypeId × Nat) := d.bind (look l)

def assignO (C : Cfg) (s : ASt) (dst : Option Nat) (v : AV) : OR :=
  match v, ownAt C.owns dst with
  | .nils, some (e, sz) => .mem none (.own s.nx 0 0 0) ((s.nx, .row [] e sz 0 0 (fun _ => [])) :: s.st) (s.nx + 1)
  | v, _ => .ok none v

def boxO (s : ASt) (ty : TypeId) (cs : List AV) (ob : Option Prop) : OR := .mem ob (.ptr s.nx 0) ((s.nx, .box ty cs) :: s.st) (s.nx + 1)

def callO (args : List AV) : AV → OR
  | .fn f caps => .call f (args ++ caps)
  | _ => .bad

/-- An operation over an abstract state. -/
def aop (T : Nat → TI) (C : Cfg) (s : ASt) (dst : Option Nat) : Op → OR
  | .move x => .ok none (ev s x)
  | .assign x => assignO C s dst (ev s x)
  | .pick c a b =>
    match a, b with
    | _, .const (.bool false) => also (scond (ev s c)) (andP (strip (ev s c)) (ev s a))
    | .const (.bool true), _ => also (scond (ev s c)) (orP (strip (ev s c)) (ev s b))
    | _, _ => also (scond (ev s c)) (pickO (strip (ev s c)) (ev s a) (ev s b))
  | .alloc e => bif Nat.ble 1 (T e).size && Nat.beq (T e).zero.length (T e).size then boxO s e (T e).zero none else .bad
  | .box e x => bif partOk (strip (ev s x)) then also (scond (ev s x)) (boxO s e (cellsOf (strip (ev s x))) (partOb s.st (strip (ev s x)))) else .bad
  | .build t ps => also (scondL (ps.toList.map fun p => ev s p.2)) (buildO T s.st t (ps.toList.map fun p => (p.1, strip (ev s p.2))))
  | .buildSlice t n ps => also (scondL (ps.toList.map fun p => ev s p.2)) (buildSlO T C s dst t n (ps.toList.map fun p => (p.1, strip (ev s p.2))))
  | .load t a => also (scond (ev s a)) (loadO T s.st t (strip (ev s a)))
  | .store t a x => also (scond (ev s a)) (also (scond (ev s x)) (storeO T s.st s.nx t (strip (ev s a)) (strip (ev s x))))
  | .nilCheck x => also (scond (ev s x)) (nilCheckO (strip (ev s x)))
  | .binOp op t x y _ => also (scond (ev s x)) (also (scond (ev s y)) (binO T C dst op t (strip (ev s x)) (strip (ev s y))))
  | .unOp op _ x => also (scond (ev s x)) (unO C dst op (strip (ev s x)))
  | .convert src t x => also (scond (ev s x)) (convertO T C s.st dst src t (strip (ev s x)))
  | .makeFunc fn first captured => match fn, first.toList with | .func f, [] => .ok none (.fn f (captured.toList.map (ev s))) | _, _ => .bad
  | .makeSlice t l c => also (scond (ev s l)) (also (scond (ev s c)) (makeO T s t (strip (ev s l)) (strip (ev s c))))
  | .slice t x lo hi mx => also (scond (ev s x)) (also (scondO (lo.map (ev s))) (also (scondO (hi.map (ev s))) (cutO T C s dst t (strip (ev s x)) (lo.map fun y => strip (ev s y)) (hi.map fun y => strip (ev s y)) (mx.map fun y => strip (ev s y)))))
  | .fieldAddr t x i => also (scond (ev s x)) (fieldAddrO T s.st t i (strip (ev s x)))
  | .field t x i => also (scond (ev s x)) (fieldO T t i (strip (ev s x)))
  | .indexAddr t x i => also (scond (ev s x)) (also (scond (ev s i)) (indexAddrO T s.st t (strip (ev s x)) (strip (ev s i))))
  | .index t x i => also (scond (ev s x)) (also (scond (ev s i)) (indexO T t (strip (ev s x)) (strip (ev s i))))
  | .extract x i => also (scond (ev s x)) (extractO i (strip (ev s x)))
  | .call c =>
    match c.callee with
    | .builtin b => also (scondL (c.args.toList.map (ev s))) (builtinO T s b c.argTypes.toList (c.args.toList.map fun x => strip (ev s x)))
    | .value f => callO (c.args.toList.map (ev s)) (ev s f)
    | _ => .bad
  | _ => .bad

end Go.Sx
