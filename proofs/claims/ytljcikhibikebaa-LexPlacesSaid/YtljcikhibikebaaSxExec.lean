/- The abstract run of a function's code: what is left to prove. Definitions. Nothing of a program. -/
import Derived.Test.YtljcikhibikebaaSxOps
namespace Go.Sx
open Go Go.RowKit

inductive Itm where
  | code (c : Code)
  | blk (id : Nat)
  | mark (n : Nat)
  | ops (full : Array Oper) (l : List Oper)

structure SR (c : Ctx) (rd : Rd) (mp : Mp) (s : ASt) (a : Act) (w : World) : Prop where
  slots : ∀ t, Rel rd mp (s.get t) (a.tmps.getD t undef)
  defers : a.defers = []
  mem : Mem c rd mp s.st s.nx w

/-- How a function may end: with a value that an abstract one tells of; nothing that was there has turned. -/
def Post (c : Ctx) (Q : AV → Prop) : Ending → World → Prop
  | .returned v, w => ∃ x rd, Q x ∧ Rel rd Mp.none x v ∧ Rd.le c.rd0 rd ∧ (∀ g o v, rd g o = some v → w.cell? ⟨g, o, none⟩ = some v) ∧
      (∀ g o v, rd g o = some v → v.oneCell' = true) ∧ (∀ g o v, rd g o = some v → c.rd0 g o = some v ∨ c.w0.heap.size ≤ g) ∧ Fr c w
  | _, _ => False

structure Env where
  P : Program
  T : Nat → TI
  C : Cfg
  fn : Func
  c : Ctx
  Q : AV → Prop

def QK (E : Env) (B : Nat → ASt → Prop) : List Itm → Exit → Act → World → Prop
  | [], e, a, w => bodyPost E.P E.fn (Post E.c E.Q) e a w
  | .code x :: k, e, a, w => match e with | .normal => x.wp E.P (QK E B k) a w | e => QK E B k e a w
  | .blk id :: k, e, a, w => match e with | .exit id' => if id' = id then QK E B k .normal a w else QK E B k (.exit id') a w | e => QK E B k e a w
  | .mark n :: k, e, a, w => match e with | .normal => a.tmps.size = E.fn.ntmps ∧ ∃ rd mp s, SR E.c rd mp s a w ∧ Rd.le E.c.rd0 rd ∧ B n s | e => QK E B k e a w
  | .ops full l :: k, e, a, w => match e with | .normal => wpList E.P full (QK E B k) l a w | e => QK E B k e a w

def Ok (E : Env) (B : Nat → ASt → Prop) (k : List Itm) (s : ASt) : Prop := ∀ rd mp a w, SR E.c rd mp s a w → Rd.le E.c.rd0 rd → a.tmps.size = E.fn.ntmps → QK E B k .normal a w

def RelL (rd : Rd) (mp : Mp) (xs : List AV) (vs : Array Value) : Prop := vs.size = xs.length ∧ ∀ (j : Nat) x v, xs[j]? = some x → vs[j]? = some v → Rel rd mp x v

/-- A call of a function, whether it has a text or is the model's own. -/
def Invokes (P : Program) (f : FuncId) (vs : Array Value) (w : World) (R : Value → World → Prop) : Prop :=
  ((callFunc f vs).run P w = .ok (.enter f vs) w ∧ Calls P f vs w fun e w' => ∃ v, e = .returned v ∧ R v w') ∨
  ∃ v w', (callFunc f vs).run P w = .ok (.value v) w' ∧ R v w'

/-- A call stands next. -/
def CallG (E : Env) (B : Nat → ASt → Prop) (f : FuncId) (args : List AV) (dst : Option Nat) (full : Array Oper) (rest : List Oper) (k : List Itm) (s : ASt) : Prop :=
  ∀ rd mp a w vs, SR E.c rd mp s a w → Rd.le E.c.rd0 rd → a.tmps.size = E.fn.ntmps → RelL rd mp args vs →
    Invokes E.P f vs w fun v w' => wpList E.P full (QK E B k) rest (a.put dst v) w'

/-- A guarded call stands next. -/
def GCallG (E : Env) (B : Nat → ASt → Prop) (g : Bool) (f : FuncId) (args : List AV) (dst : Option Nat) (full : Array Oper) (rest : List Oper) (k : List Itm) (s : ASt) : Prop :=
  (g = true → CallG E B f args dst full rest k s) ∧
  (g = false → ∀ rd mp a w, SR E.c rd mp s a w → Rd.le E.c.rd0 rd → a.tmps.size = E.fn.ntmps → wpList E.P full (QK E B k) rest (a.put dst undef) w)

/-- A loop stands next. -/
def LoopG (E : Env) (B : Nat → ASt → Prop) (body : Code) (k : List Itm) (s : ASt) : Prop := Ok E B (.code (.loop body) :: k) s

/-- A region that draws its order stands next. -/
def DrawG (E : Env) (B : Nat → ASt → Prop) (id : Nat) (ops : Array Oper) (k : List Itm) (s : ASt) : Prop := Ok E B (.code (.region id ops true) :: k) s

/-- Own rows handed out: read-only from here on. -/
def frz1 (st : List (Nat × SO)) : AV → AV
  | .own r n => match look st r with | some (.row _ sz _ f) => .slc sz n f | _ => .any
  | x => x

/-- The handed out row is whole. -/
def frzOk1 (st : List (Nat × SO)) : AV → Prop
  | .own r n => match look st r with | some (.row _ _ n' _) => n = n' | _ => True
  | _ => True
def frzOkL (st : List (Nat × SO)) : List AV → Prop
  | [] => True
  | x :: r => frzOk1 st x ∧ frzOkL st r
def frzOk2 (st : List (Nat × SO)) : AV → Prop
  | .agg cs => frzOkL st cs
  | x => frzOk1 st x

def frz2 (st : List (Nat × SO)) : AV → AV
  | .agg cs => .agg (cs.map (frz1 st))
  | x => frz1 st x

def resV (T : Nat → TI) (s : ASt) : ResultVar → Option AV
  | .tmp t => some (frz2 s.st (s.get t))
  | .cell t ty => match s.get t with
    | .ptr b o => match look s.st b with
      | some (.box _ cs) => match cellsO (T ty) (cs.drop o) with | .ok _ v => some (frz2 s.st v) | _ => none
      | _ => none
    | _ => none

def resOk1 (T : Nat → TI) (s : ASt) : ResultVar → Prop
  | .tmp t => frzOk2 s.st (s.get t)
  | .cell t ty => match s.get t with
    | .ptr b o => match look s.st b with
      | some (.box _ cs) => match cellsO (T ty) (cs.drop o) with | .ok _ v => frzOk2 s.st v | _ => True
      | _ => True
    | _ => True

def resOkL (T : Nat → TI) (s : ASt) : List ResultVar → Prop
  | [] => True
  | r :: rs => resOk1 T s r ∧ resOkL T s rs

def resL (T : Nat → TI) (s : ASt) : List ResultVar → Option (List AV)
  | [] => some []
  | r :: rs => match resV T s r, resL T s rs with | some v, some vs => some (v :: vs) | _, _ => none

def resOf (T : Nat → TI) (s : ASt) (rs : List ResultVar) : Option AV :=
  match resL T s rs with
  | some [v] => some v
  | some vs => some (.tup vs)
  | none => none

/-- Something is owed, and the rest. -/
def Ob (p r : Prop) : Prop := p ∧ r
/-- Two ways. -/
def Br (b : Bool) (t e : Prop) : Prop := (b = true → t) ∧ (b = false → e)

theorem Ob.intro {p r : Prop} (h : p) (k : r) : Ob p r := ⟨h, k⟩
theorem Ob.left {p r : Prop} (h : Ob p r) : p := h.1
theorem Ob.right {p r : Prop} (h : Ob p r) : r := h.2
theorem Br.intro {b : Bool} {t e : Prop} (h : b = true → t) (k : b = false → e) : Br b t e := ⟨h, k⟩
theorem Br.yes {b : Bool} {t e : Prop} (h : Br b t e) : b = true → t := h.1
theorem Br.no {b : Bool} {t e : Prop} (h : Br b t e) : b = false → e := h.2

def frcA (v : AV) (K : AV → Prop) : Prop :=
  match v with
  | .agg cs => frcL1 cs fun cs => K (.agg cs)
  | .rptr cs => frcL1 cs fun cs => K (.rptr cs)
  | .cnd b v => frc1 v fun v => K (.cnd b v)
  | v => frc1 v K

theorem frcA_eq (v : AV) (K : AV → Prop) : frcA v K = K v := by cases v <;> simp only [frcA, frcL1_eq, frc1_eq]

def frcLA : List AV → (List AV → Prop) → Prop
  | [], K => K []
  | x :: xs, K => frcA x fun x' => frcLA xs fun xs' => K (x' :: xs')

theorem frcLA_eq : ∀ (xs : List AV) (K : List AV → Prop), frcLA xs K = K xs
  | [], _ => rfl
  | x :: xs, K => by simp only [frcLA, frcA_eq]; exact frcLA_eq xs _

def frc (v : AV) (K : AV → Prop) : Prop :=
  match v with
  | .tup vs => frcLA vs fun vs => K (.tup vs)
  | v => frcA v K

theorem frc_eq (v : AV) (K : AV → Prop) : frc v K = K v := by cases v <;> simp only [frc, frcLA_eq, frcA_eq]

def frcL : List AV → (List AV → Prop) → Prop
  | [], K => K []
  | x :: xs, K => frc x fun x' => frcL xs fun xs' => K (x' :: xs')

theorem frcL_eq : ∀ (xs : List AV) (K : List AV → Prop), frcL xs K = K xs
  | [], _ => rfl
  | x :: xs, K => by simp only [frcL, frc_eq]; exact frcL_eq xs _

def frcSt : List (Nat × SO) → (List (Nat × SO) → Prop) → Prop
  | [], K => K []
  | (i, .box t cs) :: r, K => frcL1 cs fun cs => frcSt r fun r => K ((i, .box t cs) :: r)
  | (i, .row e sz n f) :: r, K => frcSt r fun r => K ((i, .row e sz n f) :: r)

theorem frcSt_eq : ∀ (st : List (Nat × SO)) (K : List (Nat × SO) → Prop), frcSt st K = K st
  | [], _ => rfl
  | (i, .box t cs) :: r, K => by simp only [frcSt, frcL1_eq]; exact frcSt_eq r _
  | (i, .row e sz n f) :: r, K => by simp only [frcSt]; exact frcSt_eq r _

def RetG (E : Env) (s : ASt) : Prop :=
  match resOf E.T s E.fn.results.toList with
  | some v => Ob (resOkL E.T s E.fn.results.toList) (frc v fun v => Ob (v.pure = true) (E.Q v))
  | none => False

def cj : Option Prop → Prop → Prop
  | none, r => r
  | some p, r => Ob p r

def gob (g : Bool) : Option Prop → Option Prop
  | none => none
  | some p => some (g = true → p)

def popTo (id : Nat) : List Itm → Option (List Itm)
  | [] => none
  | .blk id' :: k => bif Nat.beq id' id then some k else popTo id k
  | _ :: k => popTo id k

def dstOk (E : Env) : Option Nat → Bool
  | some d => Nat.blt d E.fn.ntmps
  | none => true

/-- The Bool of a guard: the slot's Bool, and whether it is there at all. -/
def guardB : Bool → AV → Option Bool
  | true, .bool p => some p
  | false, .bool p => some (!p)
  | true, .cnd q (.bool p) => some (q && p)
  | false, .cnd q (.bool p) => some (q && !p)
  | _, _ => none

def guardSlot (full : Array Oper) (j : Nat) : Option Nat := (full.toList[j]?).bind (·.dst)

def putSl (sl : List (Nat × AV)) : Option Nat → AV → List (Nat × AV)
  | some d, v => (d, v) :: sl
  | none, _ => sl

/-- The slots with one more, laid open. -/
def frcSl (sl : List (Nat × AV)) (d : Option Nat) (K : List (Nat × AV) → Prop) (v : AV) : Prop :=
  match d with
  | some d => K ((d, v) :: sl)
  | none => K sl

theorem frcSl_eq (sl : List (Nat × AV)) (d : Option Nat) (K : List (Nat × AV) → Prop) (v : AV) : frcSl sl d K v = K (putSl sl d v) := by cases d <;> rfl

/-- The abstract run: n bounds the steps. -/
def exec (E : Env) (B : Nat → ASt → Prop) : Nat → List Itm → ASt → Prop
  | 0, _, _ => False
  | n + 1, k, ⟨sl, st, nx⟩ =>
    match k with
    | [] => RetG E ⟨sl, st, nx⟩
    | .blk _ :: k => exec E B n k ⟨sl, st, nx⟩
    | .mark m :: _ => B m ⟨sl, st, nx⟩
    | .code c :: k =>
      match c with
      | .skip => exec E B n k ⟨sl, st, nx⟩
      | .label _ => exec E B n k ⟨sl, st, nx⟩
      | .seq x y => exec E B n (.code x :: .code y :: k) ⟨sl, st, nx⟩
      | .block id x => exec E B n (.code x :: .blk id :: k) ⟨sl, st, nx⟩
      | .cond o x y =>
        match ev ⟨sl, st, nx⟩ o with
        | .bool p => Br p (exec E B n (.code x :: k) ⟨sl, st, nx⟩) (exec E B n (.code y :: k) ⟨sl, st, nx⟩)
        | .cnd q (.bool p) => Ob (q = true) (Br p (exec E B n (.code x :: k) ⟨sl, st, nx⟩) (exec E B n (.code y :: k) ⟨sl, st, nx⟩))
        | _ => False
      | .loop b => LoopG E B b k ⟨sl, st, nx⟩
      | .exit id => match popTo id k with | some k' => exec E B n k' ⟨sl, st, nx⟩ | none => False
      | .ret => RetG E ⟨sl, st, nx⟩
      | .region id ops d =>
        match d with
        | true => DrawG E B id ops k ⟨sl, st, nx⟩
        | false => exec E B n (.ops ops ops.toList :: k) ⟨sl, st, nx⟩
      | _ => False
    | .ops _ [] :: k => exec E B n k ⟨sl, st, nx⟩
    | .ops full (⟨dst, op, _, _, _, guard⟩ :: rest) :: k =>
      match dstOk E dst with
      | true =>
        match guard with
        | none =>
          match aop E.T E.C ⟨sl, st, nx⟩ dst op with
          | .ok ob v => cj ob (frc v (frcSl sl dst (fun sl' => exec E B n (.ops full rest :: k) ⟨sl', st, nx⟩)))
          | .mem ob v st' nx' => cj ob (frcSt st' fun st' => frc v (frcSl sl dst (fun sl' => exec E B n (.ops full rest :: k) ⟨sl', st', nx'⟩)))
          | .call f args => frcL args fun args => CallG E B f args dst full rest k ⟨sl, st, nx⟩
          | .bad => False
        | some (j, want) =>
          match (guardSlot full j).map (ASt.get ⟨sl, st, nx⟩) with
          | some x =>
            match guardB want x with
            | some g =>
              match aop E.T E.C ⟨sl, st, nx⟩ dst op with
              | .ok ob v => cj (gob g (andO (scond v) ob)) (frc (strip v) (fun v' => frcSl sl dst (fun sl' => exec E B n (.ops full rest :: k) ⟨sl', st, nx⟩) (.cnd g v')))
              | .mem ob v st' nx' => Br g (cj ob (frcSt st' fun st' => frc v (frcSl sl dst (fun sl' => exec E B n (.ops full rest :: k) ⟨sl', st', nx'⟩)))) (frcSl sl dst (fun sl' => exec E B n (.ops full rest :: k) ⟨sl', st, nx⟩) .any)
              | .call f args => frcL args fun args => GCallG E B g f args dst full rest k ⟨sl, st, nx⟩
              | .bad => Br g False (frcSl sl dst (fun sl' => exec E B n (.ops full rest :: k) ⟨sl', st, nx⟩) .any)
            | none => False
          | none => False
      | false => False

attribute [irreducible] CallG GCallG LoopG DrawG Ob Br

end Go.Sx
