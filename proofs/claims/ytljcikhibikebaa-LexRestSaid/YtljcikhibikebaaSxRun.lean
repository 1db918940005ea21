/- Soundness of the abstract run. Nothing of a program. -/
import Derived.Test.YtljcikhibikebaaSxS9
namespace Go.Sx
open Go Go.RowKit

variable {P : Program} {T : Nat → TI} {C : Cfg} {c : Ctx} {rd : Rd} {mp : Mp} {st : List (Nat × SO)} {nx : Nat} {w : World} {s : ASt} {a : Act}

/-- What one result is. -/
def resSem (tmps : Array Value) : ResultVar → Sem Value
  | .tmp t => pure (tmps.getD t undef)
  | .cell a t => do loadVar t (← asAddr (tmps.getD a undef))

theorem results_eq (fn : Func) (tmps : Array Value) : results fn tmps = (do let vs ← fn.results.mapM (resSem tmps); pure (if h : vs.size = 1 then vs[0] else .tuple vs)) := by
  unfold results
  congr 1

/-- The results' values. -/
theorem results_rel (hT : ∀ t, T t = tab P t) (hs : SR c rd mp s a w) : ∀ (rs : List ResultVar) (vs : List AV), resL T s rs = some vs →
    ∃ us : List Value, (rs.mapM (resSem a.tmps)).run P w = .ok us w ∧ us.length = vs.length ∧
      ∀ (j : Nat) x v, vs[j]? = some x → us[j]? = some v → Rel rd mp x v := by
  intro rs
  induction rs with
  | nil =>
    intro vs h
    simp only [resL, Option.some.injEq] at h
    subst h
    exact ⟨[], by simp, rfl, fun j x v hx => by simp at hx⟩
  | cons r rs ih =>
    intro vs h
    simp only [resL] at h
    split at h
    · rename_i v vs' h1 h2
      cases h
      obtain ⟨us, hu, hl, hr⟩ := ih vs' h2
      have head : ∃ u, (resSem a.tmps r).run P w = .ok u w ∧ Rel rd mp v u := by
        cases r with
        | tmp t =>
          simp only [resV, Option.some.injEq] at h1
          subst h1
          exact ⟨a.tmps.getD t undef, by simp only [resSem, Sem.run_pure], hs.slots t⟩
        | cell b t =>
          simp only [resV] at h1
          split at h1
          · rename_i id o hget
            split at h1
            · rename_i ty cs hlk
              split at h1
              · rename_i ob y hy
                cases h1
                have hb := hs.slots b
                rw [hget] at hb
                obtain ⟨ad, x, hv, hrun, hrel⟩ := box_load hT hs.mem t hlk hb ob _ hy
                refine ⟨x, ?_, hrel⟩
                rw [hv] at hrun
                simp only [resSem, hv]
                simpa [asAddr, Instr.loadAt, Instr.sureAddr] using hrun
              · cases h1
            · cases h1
          · cases h1
      obtain ⟨u, hu1, hu2⟩ := head
      refine ⟨u :: us, ?_, by simp [hl], fun j x v hx hv => ?_⟩
      · rw [List.mapM_cons]
        simp only [Sem.run_bind, hu1, Result.andThen_ok, hu, Sem.run_pure]
      · cases j with
        | zero => simp at hx hv; subst hx; subst hv; exact hu2
        | succ j => simp at hx hv; exact hr j x v hx hv
    · cases h

/-- A return. -/
theorem ret_sound {E : Env} (hT : ∀ t, E.T t = tab E.P t) (h : RetG E s) (hs : SR E.c rd mp s a w) (hrd : Base E rd mp) : a.defers = [] ∧ ∃ v, (results E.fn a.tmps).run E.P w = .ok v w ∧ Post E (.returned v) w := by
  refine ⟨hs.defers, ?_⟩
  unfold RetG at h
  split at h
  · rename_i y hy
    rw [frc_eq] at h
    have fin : ∀ v, Rel rd mp y v → Post E (.returned v) w := fun v hv => ⟨y, rd, mp, s.st, s.nx, h, hv, hs.mem, hrd⟩
    unfold resOf at hy
    cases hl : resL E.T s E.fn.results.toList with
    | none => rw [hl] at hy; cases hy
    | some vs =>
      rw [hl] at hy
      obtain ⟨us, hu, hlen, hr⟩ := results_rel hT hs _ vs hl
      have hrun : (E.fn.results.mapM (resSem a.tmps)).run E.P w = .ok us.toArray w := by
        rw [Array.mapM_eq_mapM_toList]
        simp [hu]
      rw [results_eq]
      simp only [Sem.run_bind, hrun, Result.andThen_ok, Sem.run_pure]
      match vs, us, hlen, hy with
      | [x], [u], _, hy =>
        cases hy
        exact ⟨u, by simp, fin u (hr 0 _ _ rfl rfl)⟩
      | [], [], _, hy =>
        cases hy
        exact ⟨.tuple #[], by simp, fin _ (.tup _ _ _ rfl (fun j x v hx => by simp at hx))⟩
      | x :: x' :: xs, u :: u' :: us, hlen, hy =>
        cases hy
        refine ⟨.tuple (u :: u' :: us).toArray, by simp, fin _ (.tup _ _ _ (by simpa using hlen) (fun j x v hx hv => hr j x v hx (by simpa using hv)))⟩
  · exact absurd h id

theorem get_put (s : ASt) (d t : Nat) (v : AV) : (s.put (some d) v).get t = if d = t then v else s.get t := by
  simp only [ASt.put, ASt.get, look_cons]
  split <;> rfl

/-- A slot is written. -/
theorem SR.put {rd' : Rd} {mp' : Mp} {w' : World} {dst : Option Nat} {v : AV} {x : Value} (h : SR c rd mp s a w) (hr : Rd.le rd rd') (hp : Mp.le mp mp') (hm : Mem c rd' mp' st nx w') (hv : Rel rd' mp' v x)
    (hd : ∀ d, dst = some d → d < a.tmps.size) : SR c rd' mp' ((ASt.mk s.sl st nx).put dst v) (a.put dst x) w' := by
  have hst : ((ASt.mk s.sl st nx).put dst v).st = st ∧ ((ASt.mk s.sl st nx).put dst v).nx = nx := by cases dst <;> exact ⟨rfl, rfl⟩
  refine ⟨fun t => ?_, ?_, by rw [hst.1, hst.2]; exact hm⟩
  · cases dst with
    | none => exact (h.slots t).mono hr hp
    | some d =>
      rw [get_put]
      have hlt := hd d rfl
      by_cases ht : d = t
      · subst ht
        simp only [if_pos, Act.put]
        have : (a.tmps.setIfInBounds d x).getD d undef = x := by simp [hlt]
        rw [this]; exact hv
      · rw [if_neg ht]
        have : (a.put (some d) x).tmps.getD t undef = a.tmps.getD t undef := by
          simp only [Act.put, Array.getD_eq_getD_getElem?]
          rw [Array.getElem?_setIfInBounds_ne ht]
        rw [this]
        exact (h.slots t).mono hr hp
  · cases dst <;> exact h.defers

theorem put_size (a : Act) (dst : Option Nat) (x : Value) : (a.put dst x).tmps.size = a.tmps.size := by
  cases dst <;> simp [Act.put]

theorem QK_pass (E : Env) (B : Nat → ASt → Prop) (i : Itm) (k : List Itm) (e : Exit) (a : Act) (w : World) (hb : ∀ id, i ≠ .blk id) (he : e ≠ .normal) (h : QK E B k e a w) : QK E B (i :: k) e a w := by
  cases i with
  | code x => cases e <;> first | exact h | exact absurd rfl he
  | blk id => exact absurd rfl (hb id)
  | mark n => cases e <;> first | exact h | exact absurd rfl he
  | ops full l => cases e <;> first | exact h | exact absurd rfl he

theorem QK_code_then (E : Env) (B : Nat → ASt → Prop) (y : Code) (k : List Itm) : QK E B (.code y :: k) = Exit.then (y.wp E.P (QK E B k)) (QK E B k) := by
  funext e a w
  cases e <;> rfl

theorem QK_blk (E : Env) (B : Nat → ASt → Prop) (id : Nat) (k : List Itm) : QK E B (.blk id :: k) = Exit.inBlock id (QK E B k) := by
  funext e a w
  cases e <;> rfl

/-- A jump out of a block. -/
theorem QK_pop (E : Env) (B : Nat → ASt → Prop) (id : Nat) (a : Act) (w : World) : ∀ (k k' : List Itm), popTo id k = some k' → QK E B k' .normal a w → QK E B k (.exit id) a w := by
  intro k
  induction k with
  | nil => intro k' h; simp [popTo] at h
  | cons i k ih =>
    intro k' h hq
    cases i with
    | blk id' =>
      simp only [popTo] at h
      cases hb : Nat.beq id' id with
      | true =>
        simp only [hb, cond_true, Option.some.injEq] at h
        subst h
        have : id' = id := Nat.eq_of_beq_eq_true hb
        subst this
        simpa [QK] using hq
      | false =>
        simp only [hb, cond_false] at h
        have hne : ¬ id = id' := fun e => by rw [e] at hb; simp at hb
        simp only [QK, if_neg hne]
        exact ih k' h hq
    | code x => exact ih k' h hq
    | mark n => exact ih k' h hq
    | ops full l => exact ih k' h hq

/-- What a guard's slot yields. -/
theorem yielded_of (hs : SR c rd mp s a w) {full : Array Oper} {j d : Nat} (hd : guardSlot full j = some d) {want : Bool} {g : Bool} (hg : guardB want (s.get d) = some g) (o : Oper) (ho : o.guard = some (j, want)) :
    Region.wanted o (yielded full a.tmps) = g := by
  have hslot : (full[j]?).bind (·.dst) = some d := by
    simp only [guardSlot] at hd
    rwa [Array.getElem?_toList] at hd
  have hr := hs.slots d
  have hbool : ∀ p, a.tmps.getD d undef = .bool p → a.tmps[d]? = some (.bool p) := by
    intro p hp
    rw [Array.getD_eq_getD_getElem?] at hp
    cases h : a.tmps[d]? with
    | none => rw [h] at hp; simp [undef] at hp
    | some v => rw [h] at hp; simp at hp; rw [hp]
  simp only [Region.wanted, ho]
  have plain : ∀ p, s.get d = .bool p → (yielded full a.tmps j == some want) = (p == want) := by
    intro p hp
    rw [hp] at hr
    have := hbool p (rel_bool hr)
    simp only [yielded, hslot, Option.bind_some, this]
    rfl
  have cond : ∀ q p, s.get d = .cnd q (.bool p) → (yielded full a.tmps j == some want) = (q && (p == want)) := by
    intro q p hp
    rw [hp] at hr
    cases hr with
    | cnd _ _ _ _ h h0 =>
      cases q with
      | true =>
        have := hbool p (rel_bool (h rfl))
        simp only [yielded, hslot, Option.bind_some, this]
        rfl
      | false =>
        have hu := h0 rfl
        have : ∀ b, a.tmps[d]? ≠ some (.bool b) := by
          intro b hb
          rw [Array.getD_eq_getD_getElem?, hb] at hu
          simp [undef] at hu
        have hn : yielded full a.tmps j = none := by
          unfold yielded
          rw [hslot]
          simp only [Option.bind_some]
        rw [hn]
        rfl
  unfold guardB at hg
  split at hg
  · rename_i p hp; cases hg; rw [plain _ hp]; simp
  · rename_i p hp; cases hg; rw [plain _ hp]; simp
  · rename_i q p hp; cases hg; rw [cond _ _ hp]; cases p <;> rfl
  · rename_i q p hp; cases hg; rw [cond _ _ hp]; cases p <;> rfl
  · cases hg

theorem cj_split {ob : Option Prop} {r : Prop} (h : cj ob r) : obT ob ∧ r := by
  cases ob with
  | none => exact ⟨trivial, h⟩
  | some p => exact ⟨Ob.left h, Ob.right h⟩

/-- A call that stands next. -/
theorem call_sound {E : Env} {B : Nat → ASt → Prop} {f : FuncId} {args : List AV} {full : Array Oper} {o : Oper} {rest : List Oper} {k : List Itm} (h : CallG E B f args o.dst full rest k s)
    (hs : SR E.c rd mp s a w) (hrd : Base E rd mp) (hsz : a.tmps.size = E.fn.ntmps) (hw : Region.wanted o (yielded full a.tmps) = true) {vs : Array Value} (hrun : (execOp a.eval o).run E.P w = (callFunc f vs).run E.P w) (hargs : RelL rd mp args vs) :
    wpList E.P full (QK E B k) (o :: rest) a w := by
  unfold CallG at h
  have := h rd mp a w vs hs hrd hsz hargs
  unfold wpList
  rw [if_pos hw]
  left
  unfold Oper.wp
  rw [hrun]
  rcases this with ⟨h1, h2⟩ | ⟨v, w', h1, h2⟩
  · rw [h1, Oper.upon_enter]
    refine h2.mono fun e w' he => ?_
    rcases he with ⟨v, he, hv⟩ | ⟨ch, he, hv⟩ <;> subst he <;> exact hv
  · rw [h1, Oper.upon_value]
    exact h2

/-- An operation that is run. -/
theorem op_sound {E : Env} {B : Nat → ASt → Prop} {full : Array Oper} {o : Oper} {rest : List Oper} {k : List Itm} (hw : Region.wanted o (yielded full a.tmps) = true) {n : Next} {x : Value} {w' : World} (hrun : (execOp a.eval o).run E.P w = .ok n w')
    (hn : n = .value x ∨ (n = .skip ∧ x = undef)) (h : wpList E.P full (QK E B k) rest (a.put o.dst x) w') : wpList E.P full (QK E B k) (o :: rest) a w := by
  unfold wpList
  rw [if_pos hw]
  left
  unfold Oper.wp
  rw [hrun]
  rcases hn with rfl | ⟨rfl, rfl⟩
  · rw [Oper.upon_value]; exact h
  · rw [Oper.upon_skip]; exact h

theorem skip_sound {E : Env} {B : Nat → ASt → Prop} {full : Array Oper} {o : Oper} {rest : List Oper} {k : List Itm} (hw : Region.wanted o (yielded full a.tmps) = false) (h : wpList E.P full (QK E B k) rest (a.put o.dst undef) w) :
    wpList E.P full (QK E B k) (o :: rest) a w := by
  unfold wpList
  rw [if_neg (by rw [hw]; simp)]
  exact h

theorem exec_sound {E : Env} {B : Nat → ASt → Prop} (hT : ∀ t, E.T t = tab E.P t) : ∀ (n : Nat) (k : List Itm) (s : ASt), exec E B n k s → Ok E B k s := by
  intro n
  induction n with
  | zero => intro k s h; exact False.elim h
  | succ n ih =>
    intro k s h rd mp a w hs hrd hsz
    obtain ⟨sl, st, nx⟩ := s
    unfold exec at h
    match k, h with
    | [], h =>
      show bodyPost E.P E.fn (Post E) .normal a w
      exact ret_sound hT h hs hrd
    | .blk id :: k, h => exact ih k _ h rd mp a w hs hrd hsz
    | .mark m :: k, h => exact ⟨hsz, rd, mp, _, hs, hrd, h⟩
    | .code x :: k, h =>
      show x.wp E.P (QK E B k) a w
      cases x with
      | skip => exact wp_skip (ih k _ h rd mp a w hs hrd hsz)
      | label l => exact wp_label (ih k _ h rd mp a w hs hrd hsz)
      | seq x y =>
        apply wp_seq
        have := ih _ _ h rd mp a w hs hrd hsz
        rw [← QK_code_then]
        exact this
      | block id x =>
        apply wp_block
        have := ih _ _ h rd mp a w hs hrd hsz
        rw [← QK_blk]
        exact this
      | cond o x y =>
        have ho := rel_ev hs o
        simp only at h
        split at h
        · rename_i p hp
          rw [hp] at ho
          have hb := rel_bool ho
          cases p with
          | true => exact wp_cond_true hb (ih _ _ (Br.yes h rfl) rd mp a w hs hrd hsz)
          | false => exact wp_cond_false hb (ih _ _ (Br.no h rfl) rd mp a w hs hrd hsz)
        · rename_i q p hp
          rw [hp] at ho
          cases ho with
          | cnd _ _ _ _ ho _ =>
            have hb := rel_bool (ho (Ob.left h))
            cases p with
            | true => exact wp_cond_true hb (ih _ _ (Br.yes (Ob.right h) rfl) rd mp a w hs hrd hsz)
            | false => exact wp_cond_false hb (ih _ _ (Br.no (Ob.right h) rfl) rd mp a w hs hrd hsz)
        · exact False.elim h
      | loop b =>
        simp only at h
        unfold LoopG at h
        exact h rd mp a w hs hrd hsz
      | exit id =>
        simp only at h
        split at h
        · rename_i k' hk'
          exact wp_exit (QK_pop E B id a w k k' hk' (ih k' _ h rd mp a w hs hrd hsz))
        · exact False.elim h
      | ret =>
        apply wp_ret
        have hret := ret_sound hT h hs hrd
        have : ∀ k : List Itm, QK E B k .ret a w := by
          intro k
          induction k with
          | nil => exact hret
          | cons i k ih' => cases i <;> exact ih'
        exact this k
      | region id ops d =>
        simp only at h
        cases d with
        | true =>
          simp only at h
          unfold DrawG at h
          exact h rd mp a w hs hrd hsz
        | false =>
          simp only at h
          exact wp_region_list (ih _ _ h rd mp a w hs hrd hsz)
      | _ => exact False.elim h
    | .ops full [] :: k, h => exact ih k _ h rd mp a w hs hrd hsz
    | .ops full (⟨dst, op, ty, pos, aft, guard⟩ :: rest) :: k, h =>
      show wpList E.P full (QK E B k) (⟨dst, op, ty, pos, aft, guard⟩ :: rest) a w
      generalize ho : (⟨dst, op, ty, pos, aft, guard⟩ : Oper) = o
      have hod : o.dst = dst := by rw [← ho]
      have hoo : o.op = op := by rw [← ho]
      have hog : o.guard = guard := by rw [← ho]
      subst hod hoo hog
      clear ho
      simp only at h
      cases hd : dstOk E o.dst with
      | false => rw [hd] at h; exact False.elim h
      | true =>
        rw [hd] at h
        simp only at h
        have hdst : ∀ d, o.dst = some d → d < a.tmps.size := by
          intro d hd'
          rw [hd'] at hd
          simp only [dstOk, Nat.blt_eq] at hd
          rw [hsz]
          exact hd
        have hgood := aop_sound (C := E.C) hT hs o
        have putEq : ∀ st' nx' v, (ASt.mk (putSl sl o.dst v) st' nx') = (ASt.mk sl st' nx').put o.dst v := by
          intro st' nx' v; cases o.dst <;> rfl
        have next : ∀ {st' nx' rd' mp' w' v x}, exec E B n (.ops full rest :: k) ⟨putSl sl o.dst v, st', nx'⟩ → Rd.le rd rd' → Mp.le mp mp' → Mem E.c rd' mp' st' nx' w' → Rel rd' mp' v x →
            wpList E.P full (QK E B k) rest (a.put o.dst x) w' := by
          intro st' nx' rd' mp' w' v x he hr hp hm hv
          rw [putEq] at he
          exact ih _ _ he rd' mp' _ w' (hs.put hr hp hm hv hdst) (hrd.step hr hp) (by rw [put_size]; exact hsz)
        cases hg : o.guard with
        | none =>
          rw [hg] at h
          simp only at h
          have hwant : Region.wanted o (yielded full a.tmps) = true := by simp [Region.wanted, hg]
          cases hr : aop E.T E.C ⟨sl, st, nx⟩ o.dst o.op with
          | ok ob v =>
            rw [hr] at h hgood
            simp only [frc_eq, frcSl_eq, frcSt_eq, frcN_eq] at h
            obtain ⟨hob, he⟩ := cj_split h
            obtain ⟨x, w', rd', g1, g2, g3, g4⟩ := hgood hob
            exact op_sound hwant g1 (.inl rfl) (next he g2 (Mp.le.refl _) g3 g4)
          | mem ob v st' nx' =>
            rw [hr] at h hgood
            simp only [frc_eq, frcSl_eq, frcSt_eq, frcN_eq] at h
            obtain ⟨hob, he⟩ := cj_split h
            obtain ⟨nn, x, w', rd', mp', g1, g2, g3, g4, g5, g6⟩ := hgood hob
            exact op_sound hwant g1 g2 (next he g3 g4 g5 g6)
          | call f args =>
            rw [hr] at h hgood
            simp only [frcL_eq] at h
            obtain ⟨vs, g1, g2⟩ := hgood
            exact call_sound h hs hrd hsz hwant g1 g2
          | bad => rw [hr] at h; exact False.elim h
        | some jw =>
          obtain ⟨j, want⟩ := jw
          rw [hg] at h
          simp only at h
          cases hsl : guardSlot full j with
          | none => rw [hsl] at h; exact False.elim h
          | some d =>
            rw [hsl] at h
            simp only [Option.map_some] at h
            cases hgb : guardB want (ASt.get ⟨sl, st, nx⟩ d) with
            | none => rw [hgb] at h; exact False.elim h
            | some g =>
              rw [hgb] at h
              simp only at h
              have hwant := yielded_of hs hsl hgb o hg
              have skip : g = false → ∀ {v}, Rel rd mp v undef → exec E B n (.ops full rest :: k) ⟨putSl sl o.dst v, st, nx⟩ → wpList E.P full (QK E B k) (o :: rest) a w := by
                intro hgf v hv he
                rw [hgf] at hwant
                exact skip_sound hwant (next he (Rd.le.refl _) (Mp.le.refl _) hs.mem hv)
              cases hr : aop E.T E.C ⟨sl, st, nx⟩ o.dst o.op with
              | ok ob v =>
                rw [hr] at h hgood
                simp only [frc_eq, frcSl_eq, frcSt_eq, frcN_eq] at h
                obtain ⟨hob, he⟩ := cj_split h
                cases g with
                | false => exact skip rfl (.cnd _ _ _ _ (fun h => by cases h) (fun _ => rfl)) he
                | true =>
                  have hob' : obT (andO (scond v) ob) := by
                    generalize andO (scond v) ob = oo at hob
                    cases oo with
                    | none => trivial
                    | some p => exact hob rfl
                  obtain ⟨hob1, hob2⟩ := (obT_andO _ _).1 hob'
                  obtain ⟨x, w', rd', g1, g2, g3, g4⟩ := hgood hob2
                  exact op_sound hwant g1 (.inl rfl) (next he g2 (Mp.le.refl _) g3 (.cnd _ _ _ _ (fun _ => rel_strip g4 hob1) (fun h => by cases h)))
              | mem ob v st' nx' =>
                rw [hr] at h hgood
                simp only [frc_eq, frcSl_eq, frcSt_eq, frcN_eq] at h
                cases g with
                | false => exact skip rfl (.any _ _) (Br.no h rfl)
                | true =>
                  obtain ⟨hob, he⟩ := cj_split (Br.yes h rfl)
                  obtain ⟨nn, x, w', rd', mp', g1, g2, g3, g4, g5, g6⟩ := hgood hob
                  exact op_sound hwant g1 g2 (next he g3 g4 g5 g6)
              | call f args =>
                rw [hr] at h hgood
                simp only [frcL_eq] at h
                unfold GCallG at h
                cases g with
                | false => exact skip_sound hwant (h.2 rfl rd mp a w hs hrd hsz)
                | true =>
                  obtain ⟨vs, g1, g2⟩ := hgood
                  exact call_sound (h.1 rfl) hs hrd hsz hwant g1 g2
              | bad =>
                rw [hr] at h
                simp only [frcSl_eq] at h
                cases g with
                | false => exact skip rfl (.any _ _) (Br.no h rfl)
                | true => exact False.elim (Br.yes h rfl)

end Go.Sx
