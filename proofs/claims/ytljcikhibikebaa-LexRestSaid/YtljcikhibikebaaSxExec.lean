/- The abstract run of a function's code: what is left to prove. Definitions. Nothing of a program. -/
import Derived.Test.YtljcikhibikebaaSxOps
namespace Go.Sx
open Go Go.RowKit

inductive Itm where
  | code (c : Code)
  | blk (id : Nat)
  | mark (n : Nat)
  | ops (full : Array Oper) (l : List Oper)

structure SR (c : Ctx) (rd : Rd) (mp : Mp) (s : ASt) (a : Act) (w : World) : Prop where
  slots : ∀ t, Rel rd mp (s.get t) (a.tmps.getD t undef)
  defers : a.defers = []
  mem : Mem c rd mp s.st s.nx w

structure Env where
  P : Program
  T : Nat → TI
  C : Cfg
  fn : Func
  c : Ctx
  rdb : Rd
  mpb : Mp
  nxb : Nat
  R : List (Nat × SO) → Nat → AV → Prop
  X : List (Nat × SO) → Nat → AV → Prop

/-- What was known stays known. -/
structure Base (E : Env) (rd : Rd) (mp : Mp) : Prop where
  rd : Rd.le E.rdb rd
  mp : Mp.le E.mpb mp
  low : ∀ i, E.nxb ≤ i → E.mpb.blk i = none ∧ ∀ j, E.mpb.row i j = none

theorem Base.step {E : Env} {rd rd' : Rd} {mp mp' : Mp} (h : Base E rd mp) (hr : Rd.le rd rd') (hp : Mp.le mp mp') : Base E rd' mp' := ⟨h.rd.trans hr, h.mp.trans hp, h.low⟩

/-- How a function may end: with a value that an abstract one tells of, or in a panic; and the store. -/
def Post (E : Env) : Ending → World → Prop
  | .returned v, w => ∃ x rd mp st nx, E.R st nx x ∧ Rel rd mp x v ∧ Mem E.c rd mp st nx w ∧ Base E rd mp
  | .panicked [⟨v, false, false⟩], w => ∃ x rd mp st nx, E.X st nx x ∧ Rel rd mp x v ∧ Mem E.c rd mp st nx w ∧ Base E rd mp
  | _, _ => False

def QK (E : Env) (B : Nat → ASt → Prop) : List Itm → Exit → Act → World → Prop
  | [], e, a, w => bodyPost E.P E.fn (Post E) e a w
  | .code x :: k, e, a, w => match e with | .normal => x.wp E.P (QK E B k) a w | e => QK E B k e a w
  | .blk id :: k, e, a, w => match e with | .exit id' => if id' = id then QK E B k .normal a w else QK E B k (.exit id') a w | e => QK E B k e a w
  | .mark n :: k, e, a, w => match e with | .normal => a.tmps.size = E.fn.ntmps ∧ ∃ rd mp s, SR E.c rd mp s a w ∧ Base E rd mp ∧ B n s | e => QK E B k e a w
  | .ops full l :: k, e, a, w => match e with | .normal => wpList E.P full (QK E B k) l a w | e => QK E B k e a w

def Ok (E : Env) (B : Nat → ASt → Prop) (k : List Itm) (s : ASt) : Prop := ∀ rd mp a w, SR E.c rd mp s a w → Base E rd mp → a.tmps.size = E.fn.ntmps → QK E B k .normal a w

def RelL (rd : Rd) (mp : Mp) (xs : List AV) (vs : Array Value) : Prop := vs.size = xs.length ∧ ∀ (j : Nat) x v, xs[j]? = some x → vs[j]? = some v → Rel rd mp x v

/-- A call of a function, whether it has a text or is the model's own. -/
def Invokes (P : Program) (f : FuncId) (vs : Array Value) (w : World) (R : Value → World → Prop) (X : List PanicEntry → World → Prop) : Prop :=
  ((callFunc f vs).run P w = .ok (.enter f vs) w ∧ Calls P f vs w fun e w' => (∃ v, e = .returned v ∧ R v w') ∨ ∃ ch, e = .panicked ch ∧ X ch w') ∨
  ∃ v w', (callFunc f vs).run P w = .ok (.value v) w' ∧ R v w'

theorem Invokes.mono {P : Program} {f : FuncId} {vs : Array Value} {w : World} {R R' : Value → World → Prop} {X X' : List PanicEntry → World → Prop} (h : Invokes P f vs w R X) (hr : ∀ v w', R v w' → R' v w') (hx : ∀ ch w', X ch w' → X' ch w') : Invokes P f vs w R' X' := by
  rcases h with ⟨h1, h2⟩ | ⟨v, w', h1, h2⟩
  · refine .inl ⟨h1, h2.mono fun e w' he => ?_⟩
    rcases he with ⟨v, he, hv⟩ | ⟨ch, he, hv⟩
    · exact .inl ⟨v, he, hr _ _ hv⟩
    · exact .inr ⟨ch, he, hx _ _ hv⟩
  · exact .inr ⟨v, w', h1, hr _ _ h2⟩

/-- A call stands next. -/
def CallG (E : Env) (B : Nat → ASt → Prop) (f : FuncId) (args : List AV) (dst : Option Nat) (full : Array Oper) (rest : List Oper) (k : List Itm) (s : ASt) : Prop :=
  ∀ rd mp a w vs, SR E.c rd mp s a w → Base E rd mp → a.tmps.size = E.fn.ntmps → RelL rd mp args vs →
    Invokes E.P f vs w (fun v w' => wpList E.P full (QK E B k) rest (a.put dst v) w') (fun ch w' => QK E B k (.panic ch) a w')

/-- A guarded call stands next. -/
def GCallG (E : Env) (B : Nat → ASt → Prop) (g : Bool) (f : FuncId) (args : List AV) (dst : Option Nat) (full : Array Oper) (rest : List Oper) (k : List Itm) (s : ASt) : Prop :=
  (g = true → CallG E B f args dst full rest k s) ∧
  (g = false → ∀ rd mp a w, SR E.c rd mp s a w → Base E rd mp → a.tmps.size = E.fn.ntmps → wpList E.P full (QK E B k) rest (a.put dst undef) w)

/-- A loop stands next. -/
def LoopG (E : Env) (B : Nat → ASt → Prop) (body : Code) (k : List Itm) (s : ASt) : Prop := Ok E B (.code (.loop body) :: k) s

/-- A region that draws its order stands next. -/
def DrawG (E : Env) (B : Nat → ASt → Prop) (id : Nat) (ops : Array Oper) (k : List Itm) (s : ASt) : Prop := Ok E B (.code (.region id ops true) :: k) s

/-- A cell's value, handed out: rows and boxes are read-only from here on. -/
def frzC (st : List (Nat × SO)) : Nat → AV → AV
  | n + 1, .own r i _ m => match rowAt st r i with
    | some (_, R) => .slc R.sz m (match R.ids with | [] => R.f | _ => fun k => (R.f k).map (frzC st n))
    | none => .any
  | n + 1, .ptr b o => match look st b with
    | some (.box _ cs) => .rptr ((cs.drop o).map (frzC st n))
    | _ => .any
  | _, x => bif x.pure1 then x else .any

def allP {α : Type} (p : α → Prop) : List α → Prop
  | [] => True
  | x :: r => p x ∧ allP p r

theorem allP_get {α : Type} {p : α → Prop} : ∀ {l : List α}, allP p l → ∀ (j : Nat) x, l[j]? = some x → p x
  | [], _, j, x, h => by simp at h
  | y :: r, hk, 0, x, h => by simp at h; subst h; exact hk.1
  | y :: r, hk, j + 1, x, h => by simp at h; exact allP_get hk.2 j x h

/-- What is handed out is as it is just now. -/
def frzOkC (st : List (Nat × SO)) : Nat → AV → Prop
  | n + 1, .own r i e m => match rowAt st r i with
    | some (ob, R) => obT ob ∧ (e = R.ep ∧ m = R.n) ∧ (match R.ids with | [] => True | _ => ∀ k, k < m → allP (frzOkC st n) (R.f k))
    | none => True
  | n + 1, .ptr b o => match look st b with
    | some (.box _ cs) => ((cs.drop o).all AV.oneOwn = true ∧ obT (ownOb st (cs.drop o))) ∧ allP (frzOkC st n) (cs.drop o)
    | _ => True
  | _, _ => True

def frzB (st : List (Nat × SO)) : AV → AV
  | .agg cs => .agg (cs.map (frzC st 4))
  | .fn f [] => .fn f []
  | .cnd b x => .cnd b (frzC st 4 x)
  | x => frzC st 4 x
def frzOkB (st : List (Nat × SO)) : AV → Prop
  | .agg cs => allP (frzOkC st 4) cs
  | .fn _ [] => True
  | .cnd b x => b = true → frzOkC st 4 x
  | x => frzOkC st 4 x
def frzV (st : List (Nat × SO)) : AV → AV
  | .tup vs => .tup (vs.map (frzB st))
  | x => frzB st x
def frzOkV (st : List (Nat × SO)) : AV → Prop
  | .tup vs => allP (frzOkB st) vs
  | x => frzOkB st x

def resV (T : Nat → TI) (s : ASt) : ResultVar → Option AV
  | .tmp t => some (s.get t)
  | .cell t ty => match s.get t with
    | .ptr b o => match look s.st b with
      | some (.box _ cs) => match cellsO (T ty) (cs.drop o) with | .ok _ v => some v | _ => none
      | _ => none
    | _ => none

def resL (T : Nat → TI) (s : ASt) : List ResultVar → Option (List AV)
  | [] => some []
  | r :: rs => match resV T s r, resL T s rs with | some v, some vs => some (v :: vs) | _, _ => none

def resOf (T : Nat → TI) (s : ASt) (rs : List ResultVar) : Option AV :=
  match resL T s rs with
  | some [v] => some v
  | some vs => some (.tup vs)
  | none => none

/-- Something is owed, and the rest. -/
def Ob (p r : Prop) : Prop := p ∧ r
/-- Two ways. -/
def Br (b : Bool) (t e : Prop) : Prop := (b = true → t) ∧ (b = false → e)

theorem Ob.intro {p r : Prop} (h : p) (k : r) : Ob p r := ⟨h, k⟩
theorem Ob.left {p r : Prop} (h : Ob p r) : p := h.1
theorem Ob.right {p r : Prop} (h : Ob p r) : r := h.2
theorem Br.intro {b : Bool} {t e : Prop} (h : b = true → t) (k : b = false → e) : Br b t e := ⟨h, k⟩
theorem Br.yes {b : Bool} {t e : Prop} (h : Br b t e) : b = true → t := h.1
theorem Br.no {b : Bool} {t e : Prop} (h : Br b t e) : b = false → e := h.2

def frcA (v : AV) (K : AV → Prop) : Prop :=
  match v with
  | .agg cs => frcL1 cs fun cs => K (.agg cs)
  | .rptr cs => frcL1 cs fun cs => K (.rptr cs)
  | .cnd b v => frc1 v fun v => K (.cnd b v)
  | v => frc1 v K

theorem frcA_eq (v : AV) (K : AV → Prop) : frcA v K = K v := by cases v <;> simp only [frcA, frcL1_eq, frc1_eq]

def frcLA : List AV → (List AV → Prop) → Prop
  | [], K => K []
  | x :: xs, K => frcA x fun x' => frcLA xs fun xs' => K (x' :: xs')

theorem frcLA_eq : ∀ (xs : List AV) (K : List AV → Prop), frcLA xs K = K xs
  | [], _ => rfl
  | x :: xs, K => by simp only [frcLA, frcA_eq]; exact frcLA_eq xs _

def frc (v : AV) (K : AV → Prop) : Prop :=
  match v with
  | .tup vs => frcLA vs fun vs => K (.tup vs)
  | v => frcA v K

theorem frc_eq (v : AV) (K : AV → Prop) : frc v K = K v := by cases v <;> simp only [frc, frcLA_eq, frcA_eq]

def frcL : List AV → (List AV → Prop) → Prop
  | [], K => K []
  | x :: xs, K => frc x fun x' => frcL xs fun xs' => K (x' :: xs')

theorem frcL_eq : ∀ (xs : List AV) (K : List AV → Prop), frcL xs K = K xs
  | [], _ => rfl
  | x :: xs, K => by simp only [frcL, frc_eq]; exact frcL_eq xs _

def frcSt : List (Nat × SO) → (List (Nat × SO) → Prop) → Prop
  | [], K => K []
  | (i, .box t cs) :: r, K => frcN i fun i => frcL1 cs fun cs => frcSt r fun r => K ((i, .box t cs) :: r)
  | (i, .row ids e sz ep n f) :: r, K => frcN i fun i => frcN sz fun sz => frcSt r fun r => K ((i, .row ids e sz ep n f) :: r)
  | (i, .fam e sz cnt ep len f) :: r, K => frcSt r fun r => K ((i, .fam e sz cnt ep len f) :: r)

theorem frcSt_eq : ∀ (st : List (Nat × SO)) (K : List (Nat × SO) → Prop), frcSt st K = K st
  | [], _ => rfl
  | (i, .box t cs) :: r, K => by simp only [frcSt, frcN_eq, frcL1_eq]; exact frcSt_eq r _
  | (i, .row ids e sz ep n f) :: r, K => by simp only [frcSt, frcN_eq]; exact frcSt_eq r _
  | (i, .fam e sz cnt ep len f) :: r, K => by simp only [frcSt, frcN_eq]; exact frcSt_eq r _

def RetG (E : Env) (s : ASt) : Prop :=
  match resOf E.T s E.fn.results.toList with
  | some v => frc v fun v => E.R s.st s.nx v
  | none => False

def cj : Option Prop → Prop → Prop
  | none, r => r
  | some p, r => Ob p r

def gob (g : Bool) : Option Prop → Option Prop
  | none => none
  | some p => some (g = true → p)

def popTo (id : Nat) : List Itm → Option (List Itm)
  | [] => none
  | .blk id' :: k => bif Nat.beq id' id then some k else popTo id k
  | _ :: k => popTo id k

def dstOk (E : Env) : Option Nat → Bool
  | some d => Nat.blt d E.fn.ntmps
  | none => true

/-- The Bool of a guard: the slot's Bool, and whether it is there at all. -/
def guardB : Bool → AV → Option Bool
  | true, .bool p => some p
  | false, .bool p => some (!p)
  | true, .cnd q (.bool p) => some (q && p)
  | false, .cnd q (.bool p) => some (q && !p)
  | _, _ => none

def guardSlot (full : Array Oper) (j : Nat) : Option Nat := (full.toList[j]?).bind (·.dst)

def putSl (sl : List (Nat × AV)) : Option Nat → AV → List (Nat × AV)
  | some d, v => (d, v) :: sl
  | none, _ => sl

/-- The slots with one more, laid open. -/
def frcSl (sl : List (Nat × AV)) (d : Option Nat) (K : List (Nat × AV) → Prop) (v : AV) : Prop :=
  match d with
  | some d => K ((d, v) :: sl)
  | none => K sl

theorem frcSl_eq (sl : List (Nat × AV)) (d : Option Nat) (K : List (Nat × AV) → Prop) (v : AV) : frcSl sl d K v = K (putSl sl d v) := by cases d <;> rfl

/-- The abstract run: n bounds the steps. -/
def exec (E : Env) (B : Nat → ASt → Prop) : Nat → List Itm → ASt → Prop
  | 0, _, _ => False
  | n + 1, k, ⟨sl, st, nx⟩ =>
    match k with
    | [] => RetG E ⟨sl, st, nx⟩
    | .blk _ :: k => exec E B n k ⟨sl, st, nx⟩
    | .mark m :: _ => B m ⟨sl, st, nx⟩
    | .code c :: k =>
      match c with
      | .skip => exec E B n k ⟨sl, st, nx⟩
      | .label _ => exec E B n k ⟨sl, st, nx⟩
      | .seq x y => exec E B n (.code x :: .code y :: k) ⟨sl, st, nx⟩
      | .block id x => exec E B n (.code x :: .blk id :: k) ⟨sl, st, nx⟩
      | .cond o x y =>
        match ev ⟨sl, st, nx⟩ o with
        | .bool p => Br p (exec E B n (.code x :: k) ⟨sl, st, nx⟩) (exec E B n (.code y :: k) ⟨sl, st, nx⟩)
        | .cnd q (.bool p) => Ob (q = true) (Br p (exec E B n (.code x :: k) ⟨sl, st, nx⟩) (exec E B n (.code y :: k) ⟨sl, st, nx⟩))
        | _ => False
      | .loop b => LoopG E B b k ⟨sl, st, nx⟩
      | .exit id => match popTo id k with | some k' => exec E B n k' ⟨sl, st, nx⟩ | none => False
      | .ret => RetG E ⟨sl, st, nx⟩
      | .region id ops d =>
        match d with
        | true => DrawG E B id ops k ⟨sl, st, nx⟩
        | false => exec E B n (.ops ops ops.toList :: k) ⟨sl, st, nx⟩
      | _ => False
    | .ops _ [] :: k => exec E B n k ⟨sl, st, nx⟩
    | .ops full (⟨dst, op, _, _, _, guard⟩ :: rest) :: k =>
      match dstOk E dst with
      | true =>
        match guard with
        | none =>
          match aop E.T E.C ⟨sl, st, nx⟩ dst op with
          | .ok ob v => cj ob (frc v (frcSl sl dst (fun sl' => exec E B n (.ops full rest :: k) ⟨sl', st, nx⟩)))
          | .mem ob v st' nx' => cj ob (frcN nx' fun nx' => frcSt st' fun st' => frc v (frcSl sl dst (fun sl' => exec E B n (.ops full rest :: k) ⟨sl', st', nx'⟩)))
          | .call f args => frcL args fun args => CallG E B f args dst full rest k ⟨sl, st, nx⟩
          | .bad => False
        | some (j, want) =>
          match (guardSlot full j).map (ASt.get ⟨sl, st, nx⟩) with
          | some x =>
            match guardB want x with
            | some g =>
              match aop E.T E.C ⟨sl, st, nx⟩ dst op with
              | .ok ob v => cj (gob g (andO (scond v) ob)) (frc (strip v) (fun v' => frcSl sl dst (fun sl' => exec E B n (.ops full rest :: k) ⟨sl', st, nx⟩) (.cnd g v')))
              | .mem ob v st' nx' => Br g (cj ob (frcN nx' fun nx' => frcSt st' fun st' => frc v (frcSl sl dst (fun sl' => exec E B n (.ops full rest :: k) ⟨sl', st', nx'⟩)))) (frcSl sl dst (fun sl' => exec E B n (.ops full rest :: k) ⟨sl', st, nx⟩) .any)
              | .call f args => frcL args fun args => GCallG E B g f args dst full rest k ⟨sl, st, nx⟩
              | .bad => Br g False (frcSl sl dst (fun sl' => exec E B n (.ops full rest :: k) ⟨sl', st, nx⟩) .any)
            | none => False
          | none => False
      | false => False

attribute [irreducible] CallG GCallG LoopG DrawG Ob Br

end Go.Sx
