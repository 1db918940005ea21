/- A region that draws its order: one abstract run in the text's order serves every order. Nothing of a program. -/
import Derived.Test.YtljcikhibikebaaSxRule
import Derived.Orders
namespace Go.Sx
open Go Go.RowKit

/-- What one operation of such a region comes to: its value; whether it turns the store, and into what; what is owed. -/
structure Stp where
  v : AV
  wr : Bool
  st : List (Nat × SO)
  nx : Nat
  ob : Prop

def CallOb (P : Program) (f : FuncId) (args : List AV) (res : AV) : Prop := ∃ args', Con P f args' res ∧ args'.all AV.pure = true ∧ LeL args args'

/-- One operation; 'res': what a call hands back. -/
def dstep (E : Env) (full : Array Oper) (s : ASt) (o : Oper) (res : AV) : Option Stp :=
  match dstOk E o.dst with
  | false => none
  | true =>
    match o.guard with
    | none =>
      match aop E.T E.C s o.dst o.op with
      | .ok ob v => some ⟨v, false, s.st, s.nx, obT ob⟩
      | .mem ob v st nx => some ⟨v, true, st, nx, obT ob⟩
      | .call f args => some ⟨res, false, s.st, s.nx, CallOb E.P f args res⟩
      | .bad => none
    | some (j, want) =>
      match (guardSlot full j).map s.get with
      | some x =>
        match guardB want x with
        | some g =>
          match aop E.T E.C s o.dst o.op with
          | .ok ob v => some ⟨.cnd g (strip v), false, s.st, s.nx, g = true → obT (andO (scond v) ob)⟩
          | .call f args => some ⟨.cnd g res, false, s.st, s.nx, g = true → CallOb E.P f args res⟩
          | _ => none
        | none => none
      | none => none

def isCall : Op → Bool
  | .call c => match c.callee with | .value _ => true | _ => false
  | _ => false

def after (s : ASt) (o : Oper) (p : Stp) : ASt := ⟨putSl s.sl o.dst p.v, bif p.wr then p.st else s.st, bif p.wr then p.nx else s.nx⟩

/-- The run in the text's order; 'cs': what the calls hand back, in order. -/
def drun (E : Env) (full : Array Oper) : List Oper → List AV → ASt → Option (List (Oper × Stp))
  | [], _, _ => some []
  | o :: r, cs, s =>
    match isCall o.op, cs with
    | true, x :: cs =>
      match dstep E full s o x with
      | some p => (drun E full r cs (after s o p)).map ((o, p) :: ·)
      | none => none
    | true, [] => none
    | false, cs =>
      match dstep E full s o .any with
      | some p => (drun E full r cs (after s o p)).map ((o, p) :: ·)
      | none => none

/-- The state when the operations of a set are done. -/
def stateAt : List (Oper × Stp) → Nat → (Nat → Bool) → ASt → ASt
  | [], _, _, s => s
  | (o, p) :: r, i, S, s => stateAt r (i + 1) S (bif S i then after s o p else s)

def obAll : List (Oper × Stp) → Prop
  | [] => True
  | (_, p) :: r => p.ob ∧ obAll r

/-- The slots that an operation looks at. -/
def reads (full : Array Oper) (o : Oper) : List Nat :=
  (o.op.operands.toList.filterMap fun | .tmp t => some t | _ => none) ++ (match o.guard with | some (j, _) => (guardSlot full j).toList | none => [])

/-- All that comes ahead of an operation in every order. -/
def anc (full : Array Oper) : Nat → Nat → List Nat
  | 0, _ => []
  | n + 1, i =>
    match full.toList[i]? with
    | some o => (o.after.toList.filter (Region.binds .any)).flatMap fun e => e.on :: anc full n e.on
    | none => []

def hits (full : Array Oper) (x y : Oper) : Bool :=
  match x.dst with
  | some d => (reads full y).contains d || y.dst == some d
  | none => false

def clash (full : Array Oper) (x y : Oper × Stp) : Bool := (x.2.wr || y.2.wr) || (hits full x.1 y.1 || hits full y.1 x.1)

theorem clash_comm (full : Array Oper) (x y : Oper × Stp) : clash full x y = clash full y x := by
  simp only [clash, Bool.or_comm]

/-- Whatever clashes is in order; edges lead back. -/
def orderly (full : Array Oper) (L : List (Oper × Stp)) : Bool :=
  (List.range L.length).all fun j =>
    ((List.range j).all fun i => (match L[i]?, L[j]? with | some x, some y => !clash full x y || (anc full L.length j).contains i | _, _ => true)) &&
    (match full.toList[j]? with | some o => o.after.all fun e => !Region.binds .any e || Nat.blt e.on j | none => true)

theorem get_after (s : ASt) (o : Oper) (p : Stp) (t : Nat) : (after s o p).get t = if o.dst = some t then p.v else s.get t := by
  cases hd : o.dst with
  | none => simp [after, putSl, hd, ASt.get]
  | some d =>
    simp only [after, putSl, hd, ASt.get, look_cons, Option.some.injEq]
    split <;> rfl

/-- Two sets that agree on who writes a slot: the slot is the same. -/
theorem get_stateAt (t : Nat) : ∀ (L : List (Oper × Stp)) (i : Nat) (S S' : Nat → Bool) (s s' : ASt), s.get t = s'.get t →
    (∀ (j : Nat) x, L[j]? = some x → x.1.dst = some t → S (i + j) = S' (i + j)) → (stateAt L i S s).get t = (stateAt L i S' s').get t := by
  intro L
  induction L with
  | nil => intro i S S' s s' h _; exact h
  | cons x r ih =>
    intro i S S' s s' h hw
    obtain ⟨o, p⟩ := x
    simp only [stateAt]
    refine ih (i + 1) S S' _ _ ?_ (fun j x hx hd => by have := hw (j + 1) x (by simpa using hx) hd; rwa [show i + (j + 1) = i + 1 + j by omega] at this)
    by_cases hd : o.dst = some t
    · have h0 := hw 0 (o, p) rfl hd
      simp only [Nat.add_zero] at h0
      rw [h0]
      cases S' i
      · exact h
      · simp [get_after, hd]
    · cases S i <;> cases S' i <;> simp [get_after, hd, h]

theorem mem_stateAt : ∀ (L : List (Oper × Stp)) (i : Nat) (S S' : Nat → Bool) (s s' : ASt), s.st = s'.st → s.nx = s'.nx →
    (∀ (j : Nat) x, L[j]? = some x → x.2.wr = true → S (i + j) = S' (i + j)) → (stateAt L i S s).st = (stateAt L i S' s').st ∧ (stateAt L i S s).nx = (stateAt L i S' s').nx := by
  intro L
  induction L with
  | nil => intro i S S' s s' h h' _; exact ⟨h, h'⟩
  | cons x r ih =>
    intro i S S' s s' h h' hw
    obtain ⟨o, p⟩ := x
    simp only [stateAt]
    refine ih (i + 1) S S' _ _ ?_ ?_ (fun j x hx hd => by have := hw (j + 1) x (by simpa using hx) hd; rwa [show i + (j + 1) = i + 1 + j by omega] at this)
    · cases hp : p.wr with
      | true =>
        have h0 := hw 0 (o, p) rfl hp
        simp only [Nat.add_zero] at h0
        rw [h0]
        cases S' i
        · exact h
        · simp [after, hp]
      | false => cases S i <;> cases S' i <;> simp [after, hp, h]
    · cases hp : p.wr with
      | true =>
        have h0 := hw 0 (o, p) rfl hp
        simp only [Nat.add_zero] at h0
        rw [h0]
        cases S' i
        · exact h'
        · simp [after, hp]
      | false => cases S i <;> cases S' i <;> simp [after, hp, h']

/-- The run's steps are steps at the text's states. -/
theorem drun_step {E : Env} {full : Array Oper} : ∀ (l : List Oper) (cs : List AV) (s : ASt) (L : List (Oper × Stp)), drun E full l cs s = some L →
    L.map (·.1) = l ∧ ∀ (k i : Nat) x, L[i]? = some x → ∃ res, dstep E full (stateAt L k (fun j => decide (j < k + i)) s) x.1 res = some x.2 := by
  intro l
  induction l with
  | nil =>
    intro cs s L h
    simp only [drun, Option.some.injEq] at h
    subst h
    exact ⟨rfl, fun k i x hx => by simp at hx⟩
  | cons o r ih =>
    intro cs s L h
    have key : ∀ cs' res p L', dstep E full s o res = some p → drun E full r cs' (after s o p) = some L' → L = (o, p) :: L' →
        L.map (·.1) = o :: r ∧ ∀ (k i : Nat) x, L[i]? = some x → ∃ res, dstep E full (stateAt L k (fun j => decide (j < k + i)) s) x.1 res = some x.2 := by
      rintro cs' res p L' hp hL rfl
      obtain ⟨h1, h2⟩ := ih cs' _ L' hL
      refine ⟨by simp [h1], fun k i x hx => ?_⟩
      cases i with
      | zero =>
        simp at hx
        subst hx
        refine ⟨res, ?_⟩
        have : ∀ (L : List (Oper × Stp)) (k' : Nat), k ≤ k' → ∀ s, stateAt L k' (fun j => decide (j < k + 0)) s = s := by
          intro L
          induction L with
          | nil => intro k' _ s; rfl
          | cons y L ihL =>
            intro k' hk s
            obtain ⟨o', p'⟩ := y
            simp only [stateAt]
            have : decide (k' < k + 0) = false := by simp; omega
            rw [this]
            exact ihL (k' + 1) (by omega) s
        rw [this _ k (Nat.le_refl _)]
        exact hp
      | succ i =>
        simp at hx
        obtain ⟨res', hr⟩ := h2 (k + 1) i x hx
        refine ⟨res', ?_⟩
        simp only [stateAt]
        have : decide (k < k + (i + 1)) = true := by simp
        rw [this]
        simp only [cond_true]
        rw [show k + (i + 1) = k + 1 + i by omega]
        exact hr
    simp only [drun] at h
    split at h
    · split at h
      · rename_i p hp
        obtain ⟨L', hL', rfl⟩ := Option.map_eq_some_iff.1 h
        exact key _ _ p L' hp hL' rfl
      · cases h
    · cases h
    · split at h
      · rename_i p hp
        obtain ⟨L', hL', rfl⟩ := Option.map_eq_some_iff.1 h
        exact key _ _ p L' hp hL' rfl
      · cases h

theorem aop_congr {T : Nat → TI} {C : Cfg} {s s' : ASt} (d : Option Nat) (op : Op) (h : ∀ x ∈ op.operands, ev s x = ev s' x) (hst : s.st = s'.st) (hnx : s.nx = s'.nx) : aop T C s d op = aop T C s' d op := by
  obtain ⟨sl, st, nx⟩ := s
  obtain ⟨sl', st', nx'⟩ := s'
  simp only at hst hnx
  subst hst hnx
  cases op with
  | move x => simp only [aop]; rw [h x (by simp [Op.operands])]
  | assign x => simp only [aop]; rw [h x (by simp [Op.operands])]; rfl
  | pick x y z =>
    have hx := h x (by simp [Op.operands])
    have hy := h y (by simp [Op.operands])
    have hz := h z (by simp [Op.operands])
    simp only [aop, hx, hy, hz]
  | alloc e => rfl
  | box e x => simp only [aop]; rw [h x (by simp [Op.operands])]; rfl
  | build t ps =>
    have hm : ∀ p ∈ ps.toList, ev ⟨sl, st, nx⟩ p.2 = ev ⟨sl', st, nx⟩ p.2 := fun p hp => h p.2 (by simp only [Op.operands]; simp; exact ⟨p.1, by simpa using hp⟩)
    have e1 : (ps.toList.map fun p => ev ⟨sl, st, nx⟩ p.2) = ps.toList.map fun p => ev ⟨sl', st, nx⟩ p.2 := List.map_congr_left hm
    have e2 : (ps.toList.map fun p => (p.1, strip (ev ⟨sl, st, nx⟩ p.2))) = ps.toList.map fun p => (p.1, strip (ev ⟨sl', st, nx⟩ p.2)) := List.map_congr_left fun p hp => by rw [hm p hp]
    simp only [aop, e1, e2]
  | buildSlice t n ps =>
    have hm : ∀ p ∈ ps.toList, ev ⟨sl, st, nx⟩ p.2 = ev ⟨sl', st, nx⟩ p.2 := fun p hp => h p.2 (by simp only [Op.operands]; simp; exact ⟨p.1, by simpa using hp⟩)
    have e1 : (ps.toList.map fun p => ev ⟨sl, st, nx⟩ p.2) = ps.toList.map fun p => ev ⟨sl', st, nx⟩ p.2 := List.map_congr_left hm
    have e2 : (ps.toList.map fun p => (p.1, strip (ev ⟨sl, st, nx⟩ p.2))) = ps.toList.map fun p => (p.1, strip (ev ⟨sl', st, nx⟩ p.2)) := List.map_congr_left fun p hp => by rw [hm p hp]
    simp only [aop, e1, e2]
    rfl
  | load t x => simp only [aop]; rw [h x (by simp [Op.operands])]
  | store t x y => simp only [aop]; rw [h x (by simp [Op.operands]), h y (by simp [Op.operands])]
  | nilCheck x => simp only [aop]; rw [h x (by simp [Op.operands])]
  | binOp op t x y yt => simp only [aop]; rw [h x (by simp [Op.operands]), h y (by simp [Op.operands])]
  | unOp op t x => simp only [aop]; rw [h x (by simp [Op.operands])]
  | convert src t x => simp only [aop]; rw [h x (by simp [Op.operands])]
  | makeFunc fn first captured =>
    simp only [aop]
    rw [List.map_congr_left fun x hx => h x (by simp only [Op.operands]; simp; right; simpa using hx)]
  | makeSlice t x y => simp only [aop]; rw [h x (by simp [Op.operands]), h y (by simp [Op.operands])]; rfl
  | slice t x lo hi mx =>
    simp only [aop]
    rw [h x (by simp [Op.operands])]
    have e1 : ∀ y ∈ lo, ev ⟨sl, st, nx⟩ y = ev ⟨sl', st, nx⟩ y := fun y hy => h y (by cases lo <;> simp at hy; subst hy; simp [Op.operands])
    have e2 : ∀ y ∈ hi, ev ⟨sl, st, nx⟩ y = ev ⟨sl', st, nx⟩ y := fun y hy => h y (by cases hi <;> simp at hy; subst hy; simp [Op.operands])
    have e3 : ∀ y ∈ mx, ev ⟨sl, st, nx⟩ y = ev ⟨sl', st, nx⟩ y := fun y hy => h y (by cases mx <;> simp at hy; subst hy; simp [Op.operands])
    have f : ∀ (l : Option Operand), (∀ y ∈ l, ev ⟨sl, st, nx⟩ y = ev ⟨sl', st, nx⟩ y) → l.map (ev ⟨sl, st, nx⟩) = l.map (ev ⟨sl', st, nx⟩) ∧ (l.map fun y => strip (ev ⟨sl, st, nx⟩ y)) = l.map fun y => strip (ev ⟨sl', st, nx⟩ y) := by
      intro l hl
      cases l with
      | none => exact ⟨rfl, rfl⟩
      | some y => simp [hl y (by simp)]
    rw [(f lo e1).1, (f lo e1).2, (f hi e2).1, (f hi e2).2, (f mx e3).2]
    rfl
  | fieldAddr t x i => simp only [aop]; rw [h x (by simp [Op.operands])]
  | field t x i => simp only [aop]; rw [h x (by simp [Op.operands])]
  | indexAddr t x i => simp only [aop]; rw [h x (by simp [Op.operands]), h i (by simp [Op.operands])]
  | index t x i => simp only [aop]; rw [h x (by simp [Op.operands]), h i (by simp [Op.operands])]
  | extract x i => simp only [aop]; rw [h x (by simp [Op.operands])]
  | call cl =>
    obtain ⟨callee, ⟨args⟩, ats⟩ := cl
    have ha : ∀ x ∈ args, ev ⟨sl, st, nx⟩ x = ev ⟨sl', st, nx⟩ x := fun x hx => h x (by simp only [Op.operands, Call.operands]; simp; exact .inr hx)
    have hm : args.map (ev ⟨sl, st, nx⟩) = args.map (ev ⟨sl', st, nx⟩) := List.map_congr_left ha
    simp only [aop]
    cases callee with
    | builtin b =>
      have hm2 : (args.map fun x => strip (ev ⟨sl, st, nx⟩ x)) = args.map fun x => strip (ev ⟨sl', st, nx⟩ x) := List.map_congr_left fun x hx => by rw [ha x hx]
      simp only [hm, hm2]
      rfl
    | value f =>
      simp only [hm]
      rw [h f (by simp [Op.operands, Call.operands])]
    | invoke r m => rfl
  | _ => rfl

theorem ev_of_reads {full : Array Oper} {s s' : ASt} {o : Oper} (h : ∀ t ∈ reads full o, s.get t = s'.get t) : ∀ x ∈ o.op.operands, ev s x = ev s' x := by
  intro x hx
  cases x with
  | tmp t => exact h t (by simp only [reads, List.mem_append, List.mem_filterMap]; left; exact ⟨.tmp t, by simpa using hx, rfl⟩)
  | _ => rfl

theorem dstep_congr {E : Env} {full : Array Oper} {s s' : ASt} {o : Oper} (res : AV) (h : ∀ t ∈ reads full o, s.get t = s'.get t) (hst : s.st = s'.st) (hnx : s.nx = s'.nx) : dstep E full s o res = dstep E full s' o res := by
  unfold dstep
  rw [aop_congr o.dst o.op (ev_of_reads h) hst hnx, hst, hnx]
  cases hg : o.guard with
  | none => rfl
  | some jw =>
    obtain ⟨j, want⟩ := jw
    cases hs : guardSlot full j with
    | none => simp only [hs]; rfl
    | some d =>
      have : s.get d = s'.get d := h d (by simp [reads, hg, hs])
      simp only [hs, Option.map_some, this]

/-- A step of the machine, as the abstract one has it. -/
theorem dstep_sound {E : Env} (hT : ∀ t, E.T t = tab E.P t) {full : Array Oper} {s : ASt} {o : Oper} {res : AV} {p : Stp} (hp : dstep E full s o res = some p) (hob : p.ob) {rd : Rd} {mp : Mp} {a : Act} {w : World} (hs : SR E.c rd mp s a w) (hsz : a.tmps.size = E.fn.ntmps)
    {K : Act → World → Prop} {Q : Exit → Act → World → Prop} (hK : ∀ x w' rd' mp', Rd.le rd rd' → Mp.le mp mp' → Mem E.c rd' mp' (bif p.wr then p.st else s.st) (bif p.wr then p.nx else s.nx) w' → Rel rd' mp' p.v x → (∀ d, o.dst = some d → d < a.tmps.size) → K (a.put o.dst x) w') :
    if Region.wanted o (yielded full a.tmps) then o.wp E.P a w K Q ∨ (o.asks E.P a w ∧ LetsOut Q) else K (a.put o.dst undef) w := by
  unfold dstep at hp
  cases hd : dstOk E o.dst with
  | false => rw [hd] at hp; cases hp
  | true =>
    rw [hd] at hp
    simp only at hp
    have hdst : ∀ d, o.dst = some d → d < a.tmps.size := by
      intro d hd'
      rw [hd'] at hd
      simp only [dstOk, Nat.blt_eq] at hd
      rw [hsz]
      exact hd
    have hgood := aop_sound (C := E.C) hT hs o
    have callK : ∀ {f args res}, CallOb E.P f args res → aop E.T E.C s o.dst o.op = .call f args → (∀ x w' rd', Rd.le rd rd' → Mem E.c rd' mp s.st s.nx w' → Rel rd' mp res x → K (a.put o.dst x) w') → o.wp E.P a w K Q := by
      rintro f args res ⟨args', hc, hpure, hle⟩ hr hK'
      rw [hr] at hgood
      obtain ⟨vs, g1, g2⟩ := hgood
      have hcon := hc rd w vs ⟨hs.mem.rdw, hs.mem.rd1⟩ ((g2.le hle).pure hpure _)
      have step : ∀ v w', (∃ rd', Rel rd' Mp.none res v ∧ Rd.le rd rd' ∧ MemR rd' w' ∧ (∀ g o v, rd' g o = some v → rd g o = some v ∨ w.heap.size ≤ g) ∧ Below w.heap.size w w') → K (a.put o.dst v) w' := by
        rintro v w' ⟨rd', h1, h2, h3, h4, h5⟩
        exact hK' v w' rd' h2 (hs.mem.more h5 h2 h3.1 h3.2 h4) (h1.mono (Rd.le.refl _) (Mp.none_le _))
      unfold Oper.wp
      rw [g1]
      rcases hcon with ⟨h1, h2⟩ | ⟨v, w', h1, h2⟩
      · rw [h1, Oper.upon_enter]
        refine h2.mono fun e w' he => ?_
        rcases he with ⟨v, he, hv⟩ | ⟨_, _, hv⟩
        · subst he; exact step v w' hv
        · exact False.elim hv
      · rw [h1, Oper.upon_value]
        exact step v w' h2
    cases hg : o.guard with
    | none =>
      rw [hg] at hp
      simp only at hp
      rw [if_pos (by simp [Region.wanted, hg])]
      left
      cases hr : aop E.T E.C s o.dst o.op with
      | ok ob v =>
        rw [hr] at hp hgood
        cases hp
        obtain ⟨x, w', rd', g1, g2, g3, g4⟩ := hgood hob
        unfold Oper.wp
        rw [g1, Oper.upon_value]
        exact hK x w' rd' mp g2 (Mp.le.refl _) g3 g4 hdst
      | mem ob v st' nx' =>
        rw [hr] at hp hgood
        cases hp
        obtain ⟨nn, x, w', rd', mp', g1, g2, g3, g4, g5, g6⟩ := hgood hob
        unfold Oper.wp
        rw [g1]
        rcases g2 with rfl | ⟨rfl, rfl⟩
        · rw [Oper.upon_value]; exact hK x w' rd' mp' g3 g4 g5 g6 hdst
        · rw [Oper.upon_skip]; exact hK undef w' rd' mp' g3 g4 g5 g6 hdst
      | call f args =>
        rw [hr] at hp
        cases hp
        exact callK hob hr (fun x w' rd' h1 h2 h3 => hK x w' rd' mp h1 (Mp.le.refl _) h2 h3 hdst)
      | bad => rw [hr] at hp; cases hp
    | some jw =>
      obtain ⟨j, want⟩ := jw
      rw [hg] at hp
      simp only at hp
      cases hsl : guardSlot full j with
      | none => rw [hsl] at hp; cases hp
      | some d =>
        rw [hsl] at hp
        simp only [Option.map_some] at hp
        cases hgb : guardB want (s.get d) with
        | none => rw [hgb] at hp; cases hp
        | some g =>
          rw [hgb] at hp
          simp only at hp
          have hwant := yielded_of hs hsl hgb o hg
          rw [hwant]
          cases hr : aop E.T E.C s o.dst o.op with
          | ok ob v =>
            rw [hr] at hp hgood
            cases hp
            cases g with
            | false => exact hK undef w rd mp (Rd.le.refl _) (Mp.le.refl _) hs.mem (.cnd _ _ _ _ (fun h => by cases h) (fun _ => rfl)) hdst
            | true =>
              obtain ⟨hob1, hob2⟩ := (obT_andO _ _).1 (hob rfl)
              obtain ⟨x, w', rd', g1, g2, g3, g4⟩ := hgood hob2
              left
              unfold Oper.wp
              rw [g1, Oper.upon_value]
              exact hK x w' rd' mp g2 (Mp.le.refl _) g3 (.cnd _ _ _ _ (fun _ => rel_strip g4 hob1) (fun h => by cases h)) hdst
          | call f args =>
            rw [hr] at hp
            cases hp
            cases g with
            | false => exact hK undef w rd mp (Rd.le.refl _) (Mp.le.refl _) hs.mem (.cnd _ _ _ _ (fun h => by cases h) (fun _ => rfl)) hdst
            | true =>
              left
              exact callK (hob rfl) hr (fun x w' rd' h1 h2 h3 => hK x w' rd' mp h1 (Mp.le.refl _) h2 (.cnd _ _ _ _ (fun _ => h3) (fun h => by cases h)) hdst)
          | mem ob v st' nx' => rw [hr] at hp; cases hp
          | bad => rw [hr] at hp; cases hp

theorem obAll_get : ∀ {L : List (Oper × Stp)}, obAll L → ∀ (i : Nat) x, L[i]? = some x → x.2.ob
  | [], _, i, x, h => by simp at h
  | (o, p) :: r, h, i, x, hx => by
    cases i with
    | zero => simp at hx; subst hx; exact h.1
    | succ i => simp at hx; exact obAll_get h.2 i x hx

/-- What comes ahead in every order is done when an operation is ready. -/
theorem anc_done (full : Array Oper) (S : Nat → Bool) (hS : ∀ j o, full.toList[j]? = some o → S j = true → ∀ e ∈ o.after, Region.binds .any e = true → S e.on = true) :
    ∀ (n j : Nat), (∀ o, full.toList[j]? = some o → ∀ e ∈ o.after, Region.binds .any e = true → S e.on = true) → ∀ i ∈ anc full n j, S i = true := by
  intro n
  induction n with
  | zero => intro j _ i hi; simp [anc] at hi
  | succ n ih =>
    intro j hj i hi
    simp only [anc] at hi
    split at hi
    · rename_i o ho
      simp only [List.mem_flatMap, List.mem_filter, List.mem_cons] at hi
      obtain ⟨e, ⟨he, hb⟩, hi⟩ := hi
      have hon := hj o ho e (by simpa using he) hb
      rcases hi with rfl | hi
      · exact hon
      · exact ih e.on (fun o' ho' e' he' hb' => hS e.on o' ho' hon e' he' hb') i hi
    · simp at hi

theorem orderly_clash {full : Array Oper} {L : List (Oper × Stp)} (h : orderly full L = true) {i j : Nat} {x y : Oper × Stp} (hij : i < j) (hx : L[i]? = some x) (hy : L[j]? = some y) (hc : clash full x y = true) : i ∈ anc full L.length j := by
  have hj : j < L.length := (List.getElem?_eq_some_iff.1 hy).1
  have h1 := List.all_eq_true.1 h j (List.mem_range.2 hj)
  simp only [Bool.and_eq_true] at h1
  have h2 := List.all_eq_true.1 h1.1 i (List.mem_range.2 hij)
  rw [hx, hy] at h2
  simp only [hc, Bool.not_true, Bool.false_or] at h2
  simpa using h2

theorem orderly_back {full : Array Oper} {L : List (Oper × Stp)} (h : orderly full L = true) {j : Nat} (hj : j < L.length) {o : Oper} (ho : full.toList[j]? = some o) : ∀ e ∈ o.after, Region.binds .any e = true → e.on < j := by
  have h1 := List.all_eq_true.1 h j (List.mem_range.2 hj)
  simp only [Bool.and_eq_true, ho] at h1
  intro e he hb
  have := (Array.all_eq_true_iff_forall_mem.1 h1.2) e he
  simp only [hb, Bool.not_true, Bool.false_or, Nat.blt_eq] at this
  exact this

theorem draw_any {E : Env} {B : Nat → ASt → Prop} (hT : ∀ t, E.T t = tab E.P t) {ops : Array Oper} {k : List Itm} {s : ASt} {L : List (Oper × Stp)} (hLo : L.map (·.1) = ops.toList)
    (hst : ∀ (i : Nat) x, L[i]? = some x → ∃ res, dstep E ops (stateAt L 0 (fun j => decide (j < i)) s) x.1 res = some x.2)
    (hord : orderly ops L = true) (hob : obAll L) (hfin : Ok E B k (stateAt L 0 (fun _ => true) s)) :
    ∀ (fuel : Nat) (listed : Array Bool) (a : Act) (w : World), listed.size = ops.size → listed.count false ≤ fuel →
      (∀ j o, ops.toList[j]? = some o → listed.getD j false = true → ∀ e ∈ o.after, Region.binds .any e = true → listed.getD e.on false = true) →
      a.tmps.size = E.fn.ntmps → (∃ rd mp, SR E.c rd mp (stateAt L 0 (fun i => listed.getD i false) s) a w ∧ Base E rd mp) → wpAny E.P .any ops (QK E B k) fuel listed a w := by
  have hlen : L.length = ops.size := by have := congrArg List.length hLo; simpa using this
  have done : ∀ (listed : Array Bool) (a : Act) (w : World), listed.size = ops.size → (∀ i, i < ops.size → listed.getD i false = true) → a.tmps.size = E.fn.ntmps →
      (∃ rd mp, SR E.c rd mp (stateAt L 0 (fun i => listed.getD i false) s) a w ∧ Base E rd mp) → QK E B k .normal a w := by
    rintro listed a w _ hall hsz ⟨rd, mp, hs, hrd⟩
    have heq : ∀ (L' : List (Oper × Stp)) (i : Nat) (S S' : Nat → Bool) (s : ASt), (∀ j, j < L'.length → S (i + j) = S' (i + j)) → stateAt L' i S s = stateAt L' i S' s := by
      intro L'
      induction L' with
      | nil => intro i S S' s _; rfl
      | cons y L' ih =>
        intro i S S' s h
        obtain ⟨o, p⟩ := y
        simp only [stateAt]
        have h0 := h 0 (by simp)
        simp only [Nat.add_zero] at h0
        rw [h0]
        exact ih (i + 1) S S' _ (fun j hj => by have := h (j + 1) (by simp; omega); rwa [show i + (j + 1) = i + 1 + j by omega] at this)
    rw [heq L 0 _ (fun _ => true) s (fun j hj => by rw [Nat.zero_add]; exact hall j (by omega))] at hs
    exact hfin rd mp a w hs hrd hsz
  have full_of_ready : ∀ (listed : Array Bool), listed.size = ops.size → Region.ready .any ops listed = [] → ∀ i, i < ops.size → listed.getD i false = true := by
    intro listed hls hr i
    induction i using Nat.strongRecOn with
    | _ i ih =>
      intro hi
      cases hl : listed.getD i false with
      | true => rfl
      | false =>
        exfalso
        have hmem : i ∈ Region.ready .any ops listed := by
          rw [mem_ready]
          refine ⟨by simp [hls, hi] at hl ⊢; exact hl, ops[i], by simp [hi], fun e he hb => ?_⟩
          have := orderly_back hord (j := i) (by omega) (o := ops[i]) (by simp [hi]) e he hb
          exact ih e.on this (by omega)
        rw [hr] at hmem
        simp at hmem
  intro fuel
  induction fuel with
  | zero =>
    intro listed a w hls hcnt hcl hsz hs
    have hall : ∀ i, i < ops.size → listed.getD i false = true := by
      intro i hi
      cases hl : listed.getD i false with
      | true => rfl
      | false =>
        exfalso
        have hi' : i < listed.size := by omega
        have : false ∈ listed := by
          have h2 : listed[i] = false := by simpa [hi'] using hl
          rw [← h2]; exact Array.getElem_mem hi'
        have := Array.count_pos_iff.2 this
        omega
    refine ⟨?_, done listed a w hls hall hsz hs⟩
    cases hr : Region.ready .any ops listed with
    | nil => rfl
    | cons i r =>
      exfalso
      have hmem : i ∈ Region.ready .any ops listed := by rw [hr]; simp
      rw [mem_ready] at hmem
      obtain ⟨h0, o, ho, _⟩ := hmem
      have hi : i < ops.size := (Array.getElem?_eq_some_iff.1 ho).1
      have := hall i hi
      have hi' : i < listed.size := by omega
      simp [hi'] at h0 this
      rw [h0] at this
      cases this
  | succ fuel ih =>
    intro listed a w hls hcnt hcl hsz hs
    refine ⟨fun hr => done listed a w hls (full_of_ready listed hls hr) hsz hs, fun i hi => ?_⟩
    rw [mem_ready] at hi
    obtain ⟨h0, o, ho, hedges⟩ := hi
    have hin : i < ops.size := (Array.getElem?_eq_some_iff.1 ho).1
    have hil : i < listed.size := by omega
    have hli : listed.getD i false = false := by simp [hil] at h0 ⊢; exact h0
    have hol : ops.toList[i]? = some o := by simpa using ho
    obtain ⟨rd, mp, hs, hrd⟩ := hs
    obtain ⟨p, hp⟩ : ∃ p, L[i]? = some (o, p) := by
      have hi' : i < L.length := by omega
      refine ⟨L[i].2, ?_⟩
      have : (L.map (·.1))[i]? = some o := by rw [hLo]; exact hol
      rw [List.getElem?_map, List.getElem?_eq_getElem hi'] at this
      simp at this
      rw [List.getElem?_eq_getElem hi', ← this]
    obtain ⟨res, hstep⟩ := hst i (o, p) hp
    -- what is ahead is done, what is behind is not
    have hanc : ∀ j ∈ anc ops L.length i, listed.getD j false = true := anc_done ops _ hcl _ i (fun o' ho' => by rw [hol] at ho'; cases ho'; exact hedges)
    have hbeh : ∀ j, i ∈ anc ops L.length j → j < ops.size → listed.getD j false = false := by
      intro j hj hjs
      cases hl : listed.getD j false with
      | false => rfl
      | true =>
        exfalso
        have := anc_done ops _ hcl L.length j (fun o' ho' => hcl j o' ho' hl) i hj
        rw [hli] at this
        cases this
    have agree : ∀ (j : Nat) x, L[j]? = some x → (clash ops x (o, p) = true ∨ clash ops (o, p) x = true) → (fun q => listed.getD q false) j = decide (j < i) := by
      intro j x hx hc
      have hj : j < ops.size := by rw [← hlen]; exact (List.getElem?_eq_some_iff.1 hx).1
      have hsym : clash ops x (o, p) = clash ops (o, p) x := clash_comm _ _ _
      have hc1 : clash ops x (o, p) = true := by rcases hc with h | h; exact h; rw [hsym]; exact h
      have hc2 : clash ops (o, p) x = true := by rw [← hsym]; exact hc1
      rcases Nat.lt_trichotomy j i with h | h | h
      · simp only [h, decide_true]; exact hanc j (orderly_clash hord h hx hp hc1)
      · subst h; simp only [Nat.lt_irrefl, decide_false]; exact hli
      · have : ¬ j < i := by omega
        simp only [this, decide_false]
        exact hbeh j (orderly_clash hord h hp hx hc2) hj
    have hclr : ∀ (j : Nat) x t, L[j]? = some x → x.1.dst = some t → t ∈ reads ops o → clash ops x (o, p) = true := by
      intro j x t _ hd ht
      have : hits ops x.1 o = true := by simp [hits, hd, ht]
      simp [clash, this]
    have hcld : ∀ (j : Nat) x t, L[j]? = some x → x.1.dst = some t → o.dst = some t → clash ops x (o, p) = true := by
      intro j x t _ hd ht
      have : hits ops x.1 o = true := by simp [hits, hd, ht]
      simp [clash, this]
    have hclm : ∀ (j : Nat) (x : Oper × Stp), L[j]? = some x → x.2.wr = true → clash ops x (o, p) = true := by
      intro j x _ hw
      simp [clash, hw]
    have hclp : ∀ (j : Nat) (x : Oper × Stp), L[j]? = some x → p.wr = true → clash ops x (o, p) = true := by
      intro j x _ hw
      simp [clash, hw]
    have hmem0 := mem_stateAt L 0 (fun q => listed.getD q false) (fun j => decide (j < i)) s s rfl rfl (fun j x hx hw => by rw [Nat.zero_add]; exact agree j x hx (.inl (hclm j x hx hw)))
    have hstep' : dstep E ops (stateAt L 0 (fun q => listed.getD q false) s) o res = some p := by
      rw [← hstep]
      refine dstep_congr res (fun t ht => ?_) hmem0.1 hmem0.2
      exact get_stateAt t L 0 _ _ s s rfl (fun j x hx hd => by rw [Nat.zero_add]; exact agree j x hx (.inl (hclr j x t hx hd ht)))
    have hsucc : ∀ (L' : List (Oper × Stp)) (k' i' : Nat) (s' : ASt), L'[i']? = some (o, p) → stateAt L' k' (fun j => decide (j < k' + i' + 1)) s' = after (stateAt L' k' (fun j => decide (j < k' + i')) s') o p := by
      intro L'
      induction L' with
      | nil => intro k' i' s' h; simp at h
      | cons y L' ihL =>
        intro k' i' s' h
        obtain ⟨o', p'⟩ := y
        have none_ : ∀ (M : List (Oper × Stp)) (m b : Nat), b ≤ m → ∀ s, stateAt M m (fun j => decide (j < b)) s = s := by
          intro M
          induction M with
          | nil => intro m b _ s; rfl
          | cons y M ihM =>
            intro m b hb s
            obtain ⟨o'', p''⟩ := y
            simp only [stateAt]
            have : decide (m < b) = false := by simp; omega
            rw [this]
            exact ihM (m + 1) b (by omega) s
        cases i' with
        | zero =>
          simp at h
          obtain ⟨rfl, rfl⟩ := h
          simp only [stateAt]
          have e1 : decide (k' < k' + 0 + 1) = true := by simp
          have e2 : decide (k' < k' + 0) = false := by simp
          rw [e1, e2]
          simp only [cond_true, cond_false]
          rw [none_ L' (k' + 1) (k' + 0 + 1) (by omega), none_ L' (k' + 1) (k' + 0) (by omega)]
        | succ i' =>
          simp at h
          simp only [stateAt]
          have e1 : decide (k' < k' + (i' + 1) + 1) = true := by simp; omega
          have e2 : decide (k' < k' + (i' + 1)) = true := by simp
          rw [e1, e2]
          simp only [cond_true]
          have := ihL (k' + 1) i' (after s' o' p') h
          rw [show k' + 1 + i' + 1 = k' + (i' + 1) + 1 by omega, show k' + 1 + i' = k' + (i' + 1) by omega] at this
          exact this
    have hsi := hsucc L 0 i s hp
    simp only [Nat.zero_add] at hsi
    have hS' : ∀ j, j ≠ i → (listed.setIfInBounds i true).getD j false = listed.getD j false := fun j hj => getD_set_ne false (Ne.symm hj)
    have hS'i : (listed.setIfInBounds i true).getD i false = true := by simp [hil]
    have agree' : ∀ (j : Nat) x, L[j]? = some x → clash ops x (o, p) = true → (listed.setIfInBounds i true).getD j false = decide (j < i + 1) := by
      intro j x hx hc
      by_cases hji : j = i
      · subst hji; rw [hS'i]; simp
      · rw [hS' j hji]
        have := agree j x hx (.inl hc)
        simp only at this
        rw [this]
        have : (j < i) ↔ (j < i + 1) := by omega
        simp [this]
    unfold wpOp
    rw [ho]
    refine dstep_sound hT hstep' (obAll_get hob i _ hp) hs hsz (fun x w' rd' mp' hr hm hmem hrel hdst => ?_)
    refine ih (listed.setIfInBounds i true) _ w' (by simpa using hls) ?_ ?_ (by rw [put_size]; exact hsz) ⟨rd', mp', ⟨fun t => ?_, ?_, ?_⟩, hrd.step hr hm⟩
    · have hl2 : listed[i] = false := by simpa [hil] using hli
      have hc := Array.count_set (xs := listed) (i := i) (a := true) (b := false) hil
      rw [Array.setIfInBounds, dif_pos hil, hc, hl2]
      have : 0 < listed.count false := Array.count_pos_iff.2 (by rw [← hl2]; exact Array.getElem_mem hil)
      simp
      omega
    · intro j o' ho' hj e he hb
      by_cases hji : j = i
      · subst hji
        rw [hol] at ho'; cases ho'
        exact getD_set_true (hedges e he hb)
      · rw [hS' j hji] at hj
        exact getD_set_true (hcl j o' ho' hj e he hb)
    · by_cases hd : o.dst = some t
      · have hlt := hdst t hd
        have hget : (stateAt L 0 (fun q => (listed.setIfInBounds i true).getD q false) s).get t = p.v := by
          rw [get_stateAt t L 0 _ (fun j => decide (j < i + 1)) s s rfl (fun j x hx hdx => by rw [Nat.zero_add]; exact agree' j x hx (hcld j x t hx hdx hd)), hsi, get_after, if_pos hd]
        rw [hget]
        have : (a.put o.dst x).tmps.getD t undef = x := by rw [hd]; simp [Act.put, hlt]
        rw [this]
        exact hrel
      · have hget : (stateAt L 0 (fun q => (listed.setIfInBounds i true).getD q false) s).get t = (stateAt L 0 (fun q => listed.getD q false) s).get t := by
          refine get_stateAt t L 0 _ _ s s rfl (fun j x hx hdx => ?_)
          rw [Nat.zero_add]
          refine hS' j (fun e => ?_)
          subst e
          rw [hp] at hx; cases hx
          exact hd hdx
        rw [hget]
        have : (a.put o.dst x).tmps.getD t undef = a.tmps.getD t undef := by
          cases hdd : o.dst with
          | none => rfl
          | some d =>
            simp only [Act.put, Array.getD_eq_getD_getElem?]
            rw [Array.getElem?_setIfInBounds_ne (fun e => hd (by rw [hdd, e]))]
        rw [this]
        exact (hs.slots t).mono hr hm
    · cases o.dst <;> exact hs.defers
    · cases hw : p.wr with
      | true =>
        have hmm := mem_stateAt L 0 (fun q => (listed.setIfInBounds i true).getD q false) (fun j => decide (j < i + 1)) s s rfl rfl (fun j x hx hwx => by rw [Nat.zero_add]; exact agree' j x hx (hclm j x hx hwx))
        rw [hmm.1, hmm.2, hsi]
        simp only [hw, cond_true] at hmem
        simpa [after, hw] using hmem
      | false =>
        have hmm := mem_stateAt L 0 (fun q => (listed.setIfInBounds i true).getD q false) (fun q => listed.getD q false) s s rfl rfl (fun j x hx hwx => by
          rw [Nat.zero_add]
          refine hS' j (fun e => ?_)
          subst e
          rw [hp] at hx; cases hx
          rw [hw] at hwx; cases hwx)
        rw [hmm.1, hmm.2]
        simpa [hw] using hmem

theorem replicate_false (n j : Nat) : (Array.replicate n false).getD j false = false := by
  rw [Array.getD_eq_getD_getElem?, Array.getElem?_replicate]
  split <;> rfl

/-- A REGION THAT DRAWS ITS ORDER, by one run in the text's order. -/
theorem draw_rule {E : Env} {B : Nat → ASt → Prop} {id : Nat} {ops : Array Oper} {k : List Itm} {s : ASt} (hT : ∀ t, E.T t = tab E.P t) (hmix : E.P.follows .mixedOrders = true) (n : Nat) (cs : List AV) {L : List (Oper × Stp)} (hL : drun E ops ops.toList cs s = some L)
    (hord : orderly ops L = true) (hob : obAll L) (h : exec E B n k (stateAt L 0 (fun _ => true) s)) : DrawG E B id ops k s := by
  unfold DrawG
  intro rd mp a w hs hrd hsz
  show (Code.region id ops true).wp E.P (QK E B k) a w
  obtain ⟨h1, h2⟩ := drun_step _ _ _ _ hL
  refine wp_region_any hmix (draw_any hT h1 (fun i x hx => by have := h2 0 i x hx; simpa using this) hord hob (exec_sound hT n _ _ h) _ _ a _ (by simp) (by simp) (fun j o _ hj => ?_) hsz ⟨rd, mp, ?_, hrd⟩)
  · rw [replicate_false] at hj
    cases hj
  · have hz : ∀ (L : List (Oper × Stp)) (i : Nat) (s : ASt), stateAt L i (fun i => (Array.replicate ops.size false).getD i false) s = s := by
      intro L
      induction L with
      | nil => intro i s; rfl
      | cons y L ih =>
        intro i s
        obtain ⟨o, p⟩ := y
        simp only [stateAt]
        rw [replicate_false]
        exact ih (i + 1) s
    rw [hz]
    exact ⟨hs.slots, hs.defers, hs.mem.below ((Below.refl _ _).drew)⟩

/-- The run in the text's order as something to be shown, step by step; 'cs': what the calls hand back. -/
def dexec (E : Env) (B : Nat → ASt → Prop) (n : Nat) (k : List Itm) (full : Array Oper) : List Oper → List AV → ASt → Prop
  | [], _, s => exec E B n k s
  | ⟨dst, op, ty, pos, aft, guard⟩ :: rest, cs, ⟨sl, st, nx⟩ =>
    match dstOk E dst with
    | false => False
    | true =>
      match guard with
      | none =>
        match aop E.T E.C ⟨sl, st, nx⟩ dst op with
        | .ok ob v => bif isCall op then False else cj ob (frc v (frcSl sl dst (fun sl' => dexec E B n k full rest cs ⟨sl', st, nx⟩)))
        | .mem ob v st' nx' => bif isCall op then False else cj ob (frcN nx' fun nx' => frcSt st' fun st' => frc v (frcSl sl dst (fun sl' => dexec E B n k full rest cs ⟨sl', st', nx'⟩)))
        | .call f args =>
          match isCall op, cs with
          | true, x :: cs => frcL args fun args => Ob (CallOb E.P f args x) (frcSl sl dst (fun sl' => dexec E B n k full rest cs ⟨sl', st, nx⟩) x)
          | _, _ => False
        | .bad => False
      | some (j, want) =>
        match (guardSlot full j).map (ASt.get ⟨sl, st, nx⟩) with
        | some x =>
          match guardB want x with
          | some g =>
            match aop E.T E.C ⟨sl, st, nx⟩ dst op with
            | .ok ob v => bif isCall op then False else cj (gob g (andO (scond v) ob)) (frc (strip v) (fun v' => frcSl sl dst (fun sl' => dexec E B n k full rest cs ⟨sl', st, nx⟩) (.cnd g v')))
            | .call f args =>
              match isCall op, cs with
              | true, x :: cs => frcL args fun args => Ob (g = true → CallOb E.P f args x) (frcSl sl dst (fun sl' => dexec E B n k full rest cs ⟨sl', st, nx⟩) (.cnd g x))
              | _, _ => False
            | _ => False
          | none => False
        | none => False

theorem dexec_drun {E : Env} {B : Nat → ASt → Prop} {n : Nat} {k : List Itm} {full : Array Oper} : ∀ (l : List Oper) (cs : List AV) (i : Nat) (s : ASt), dexec E B n k full l cs s →
    ∃ L, drun E full l cs s = some L ∧ obAll L ∧ exec E B n k (stateAt L i (fun _ => true) s) := by
  intro l
  induction l with
  | nil => intro cs i s h; exact ⟨[], rfl, trivial, h⟩
  | cons o rest ih =>
    intro cs i s h
    obtain ⟨dst, op, ty, pos, aft, guard⟩ := o
    obtain ⟨sl, st, nx⟩ := s
    simp only [dexec] at h
    cases hd : dstOk E dst with
    | false => rw [hd] at h; exact False.elim h
    | true =>
      rw [hd] at h
      simp only at h
      have fin : ∀ (cs' : List AV) (p : Stp) (x : AV), (∀ cs'' , drun E full (⟨dst, op, ty, pos, aft, guard⟩ :: rest) cs ⟨sl, st, nx⟩ = cs'' ↔ (drun E full rest cs' (after ⟨sl, st, nx⟩ ⟨dst, op, ty, pos, aft, guard⟩ p)).map ((⟨dst, op, ty, pos, aft, guard⟩, p) :: ·) = cs'') → p.ob →
          dexec E B n k full rest cs' (after ⟨sl, st, nx⟩ ⟨dst, op, ty, pos, aft, guard⟩ p) → ∃ L, drun E full (⟨dst, op, ty, pos, aft, guard⟩ :: rest) cs ⟨sl, st, nx⟩ = some L ∧ obAll L ∧ exec E B n k (stateAt L i (fun _ => true) ⟨sl, st, nx⟩) := by
        intro cs' p x he hob hk
        obtain ⟨L, h1, h2, h3⟩ := ih cs' (i + 1) _ hk
        exact ⟨(⟨dst, op, ty, pos, aft, guard⟩, p) :: L, (he _).2 (by rw [h1]; rfl), ⟨hob, h2⟩, h3⟩
      have plain : ∀ p, isCall op = false → dstep E full ⟨sl, st, nx⟩ ⟨dst, op, ty, pos, aft, guard⟩ .any = some p →
          ∀ cs'', drun E full (⟨dst, op, ty, pos, aft, guard⟩ :: rest) cs ⟨sl, st, nx⟩ = cs'' ↔ (drun E full rest cs (after ⟨sl, st, nx⟩ ⟨dst, op, ty, pos, aft, guard⟩ p)).map ((⟨dst, op, ty, pos, aft, guard⟩, p) :: ·) = cs'' := by
        intro p hc hs cs''
        simp only [drun, hc, hs]
      have called : ∀ p x cs0, isCall op = true → cs = x :: cs0 → dstep E full ⟨sl, st, nx⟩ ⟨dst, op, ty, pos, aft, guard⟩ x = some p →
          ∀ cs'', drun E full (⟨dst, op, ty, pos, aft, guard⟩ :: rest) cs ⟨sl, st, nx⟩ = cs'' ↔ (drun E full rest cs0 (after ⟨sl, st, nx⟩ ⟨dst, op, ty, pos, aft, guard⟩ p)).map ((⟨dst, op, ty, pos, aft, guard⟩, p) :: ·) = cs'' := by
        intro p x cs0 hc he hs cs''
        subst he
        simp only [drun, hc, hs]
      cases guard with
      | none =>
        simp only at h
        cases hr : aop E.T E.C ⟨sl, st, nx⟩ dst op with
        | ok ob v =>
          rw [hr] at h
          cases hc : isCall op with
          | true => rw [hc] at h; exact False.elim h
          | false =>
            simp only [hc, cond_false, frc_eq, frcSl_eq] at h
            obtain ⟨hob, hk⟩ := cj_split h
            refine fin cs ⟨v, false, st, nx, obT ob⟩ v (plain _ hc ?_) hob hk
            simp only [dstep, hd, hr]
        | mem ob v st' nx' =>
          rw [hr] at h
          cases hc : isCall op with
          | true => rw [hc] at h; exact False.elim h
          | false =>
            simp only [hc, cond_false, frc_eq, frcSl_eq, frcN_eq, frcSt_eq] at h
            obtain ⟨hob, hk⟩ := cj_split h
            refine fin cs ⟨v, true, st', nx', obT ob⟩ v (plain _ hc ?_) hob hk
            simp only [dstep, hd, hr]
        | call f args =>
          rw [hr] at h
          simp only at h
          split at h
          · rename_i x cs0 hc
            simp only [frcL_eq, frcSl_eq] at h
            refine fin cs0 ⟨x, false, st, nx, CallOb E.P f args x⟩ x (called _ x cs0 hc rfl ?_) (Ob.left h) (Ob.right h)
            simp only [dstep, hd, hr]
          · exact False.elim h
        | bad => rw [hr] at h; exact False.elim h
      | some jw =>
        obtain ⟨j, want⟩ := jw
        simp only at h
        split at h
        · rename_i y hy
          split at h
          · rename_i g hg
            split at h
            · rename_i ob v hr
              cases hc : isCall op with
              | true => rw [hc] at h; exact False.elim h
              | false =>
                simp only [hc, cond_false, frc_eq, frcSl_eq] at h
                obtain ⟨hob, hk⟩ := cj_split h
                refine fin cs ⟨.cnd g (strip v), false, st, nx, g = true → obT (andO (scond v) ob)⟩ v (plain _ hc ?_) (fun hgt => ?_) hk
                · simp only [dstep, hd, hy, hg, hr]
                · generalize andO (scond v) ob = oo at hob
                  cases oo with
                  | none => trivial
                  | some p => exact hob hgt
            · rename_i f args hr
              split at h
              · rename_i x cs0 hc
                simp only [frcL_eq, frcSl_eq] at h
                refine fin cs0 ⟨.cnd g x, false, st, nx, g = true → CallOb E.P f args x⟩ x (called _ x cs0 hc rfl ?_) (Ob.left h) (Ob.right h)
                simp only [dstep, hd, hy, hg, hr]
              · exact False.elim h
            · exact False.elim h
          · exact False.elim h
        · exact False.elim h

/-- A region that draws its order: shown in the text's order. -/
theorem draw_ex {E : Env} {B : Nat → ASt → Prop} {id : Nat} {ops : Array Oper} {k : List Itm} {s : ASt} (hT : ∀ t, E.T t = tab E.P t) (hmix : E.P.follows .mixedOrders = true) (n : Nat) (cs : List AV)
    (hord : (match drun E ops ops.toList cs s with | some L => orderly ops L | none => true) = true) (h : dexec E B n k ops ops.toList cs s) : DrawG E B id ops k s := by
  obtain ⟨L, h1, h2, h3⟩ := dexec_drun _ _ 0 _ h
  rw [h1] at hord
  exact draw_rule hT hmix n cs h1 hord h2 h3

end Go.Sx
