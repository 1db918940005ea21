/- Some texts of the library, one behind the other. -/
import Derived.Test.YthfaleaojlnnoaaY71
import Derived.Deep.LoopGhost
import Derived.LoopN
import Derived.KernelRfl
import Derived.Defers
set_option linter.unusedSimpArgs false
set_option linter.unusedVariables false
section
namespace Go.Sx
open Go Go.RowKit
def qpc (wr:List Nat) (st:List (Nat × SO)):List (Nat × SO):=wr.filterMap fun y=>(look st y).map fun o=>(y,o)
theorem qsr {st:List (Nat × SO)} (y:Nat):∀ (wr:List Nat),look (qpc wr st) y=if y∈wr then look st y else none
 | []=>rfl
 | q::wr=>by
  have ih:=qsr (st:=st) y wr
  unfold qpc at ih ⊢
  rw [List.filterMap_cons]
  cases hq:look st q with
  | none=>
   simp only [Option.map_none]
   rw [ih]
   by_cases h:y=q
   ·subst h;simp [hq]
   ·simp [h]
  | some o=>
   simp only [xe]
   rw [qq,ih]
   by_cases h:q=y
   ·subst h;simp [hq]
   ·rw [za h]
    have:y≠q:=fun e=>h e.symm
    simp [this]
inductive C3 where
 | con (res:AV)
 | new (args:List AV) (res:AV) (st1:List (Nat × SO)) (n1:Nat)
 | turn (is:List Nat) (args:List AV) (st0:List SO) (res:AV) (st1:List (Nat × SO))
def ftOf (T:Nat→TI) (C:Cfg) (s:ASt) (o:Oper):List Nat:=
 foot s o.op++(match o.guard with|none=>[]|some _=>(match aop T C s o.dst o.op with | .ok _ v=>nms v|_=>[]))
def d3op (E:Env) (full:Array Oper) (s:ASt) (o:Oper) (res:AV):Option (Pst × ASt):=
 match jk E full s o res with
 | some p=>
  match p.wr with
  | true=>bif (tgt s o.op).all (fun y=>(look p.st y).isSome) then some (⟨p.v,ftOf E.T E.C s o,qpc (tgt s o.op) p.st,s.nx,s.nx+1,p.ob⟩,⟨qbj s.sl o.dst p.v,p.st,s.nx+1⟩) else none
  | false=>some (⟨p.v,ftOf E.T E.C s o,[],s.nx,s.nx+1,p.ob⟩,⟨qbj s.sl o.dst p.v,s.st,s.nx+1⟩)
 | none=>none
structure NewOb (P:Program) (f:FuncId) (args args':List AV) (res:AV) (st1:List (Nat × SO)) (n1:Nat):Prop where
 trip:Trip P f args' [] res st1 n1
 pure:args'.all AV.pure=true
 le:LeL args args'
 lt:stLt n1 st1=true
 rlt:res.lt n1=true
 rows:rowsLt n1 st1
def turnOk (is:List Nat) (args:List AV) (st0:List SO) (res:AV) (st1:List (Nat × SO)):Bool:=
 qmh is && Nat.beq st0.length is.length && stLt st0.length (idx 0 st0) && args.all (AV.lt st0.length) && stLt is.length st1 && res.lt is.length
structure TurnOb (P:Program) (f:FuncId) (is:List Nat) (args args':List AV) (st0:List SO) (res:AV) (st1:List (Nat × SO)) (st:List (Nat × SO)):Prop where
 trip:Trip P f args' st0 res st1 is.length
 chk:turnOk is args' st0 res st1=true
 le:LeL args (args'.map (AV.ren (nm0 is)))
 nm:NamedL st (nm0 is) is st0
 rows0:rowsLt st0.length (idx 0 st0)
 rows1:rowsLt is.length st1
def d3step (E:Env) (full:Array Oper) (s:ASt) (o:Oper):C3→Option (Pst × ASt)
 | .con res=>d3op E full s o res
 | .new args' res st1 n1=>
  match jm E o.dst,o.guard,aop E.T E.C s o.dst o.op with
  | true,none,.call f args=>some (⟨res.ren (names [] s.nx),foot s o.op,jc (names [] s.nx) st1,s.nx,s.nx+n1+1,NewOb E.P f args args' res st1 n1⟩,⟨qbj s.sl o.dst (res.ren (names [] s.nx)),jc (names [] s.nx) st1++s.st,s.nx+n1+1⟩)
  | _,_,_=>none
 | .turn is args' st0 res st1=>
  match jm E o.dst,o.guard,aop E.T E.C s o.dst o.op with
  | true,none,.call f args=>bif is.all (fun i=>(look (jc (nm0 is) st1) i).isSome) then some (⟨res.ren (nm0 is),foot s o.op++is,jc (nm0 is) st1,s.nx,s.nx+1,TurnOb E.P f is args args' st0 res st1 s.st⟩,⟨qbj s.sl o.dst (res.ren (nm0 is)),jc (nm0 is) st1++qu is s.st,s.nx+1⟩) else none
  | _,_,_=>none
theorem jia {sl sl':List (Nat × AV)} {st:List (Nat × SO)} {nx:Nat} (op:Op) (h:∀ x∈op.operands,ev ⟨sl,st,nx⟩ x=ev ⟨sl',st,nx⟩ x):tgt ⟨sl,st,nx⟩ op=tgt ⟨sl',st,nx⟩ op:=by
 cases op with
 | store t a x=>simp only [tgt];rw [h a (by simp [Op.operands])]
 | slice t x lo hi mx=>simp only [tgt];rw [h x (by simp [Op.operands])]
 | call cl=>
  obtain ⟨callee,⟨args⟩,ats⟩:=cl
  have ha:∀ x∈args,ev ⟨sl,st,nx⟩ x=ev ⟨sl',st,nx⟩ x:=fun x hx=>h x (by simp only [Op.operands,Call.operands];simp;exact .inr hx)
  simp only [tgt]
  rw [xg fun x hx=>by rw [ha x hx]]
 | _=>rfl
theorem qss {E:Env} (hT:∀ t,E.T t=tab E.P t) {full:Array Oper} {s:ASt} {sl:List (Nat × AV)} {st:List (Nat × SO)} {o:Oper} (hsl:∀ t∈reads full o,getS sl t=s.get t) (hst:∀ y∈foot s o.op,look st y=look s.st y) :
  OLoc s.st st (tgt s o.op) (aop E.T E.C s o.dst o.op) (aop E.T E.C ⟨sl,st,s.nx⟩ o.dst o.op):=by
 obtain ⟨sl0,st0,nx0⟩:=s
 have hev:∀ x∈o.op.operands,ev ⟨sl,st0,nx0⟩ x=ev ⟨sl0,st0,nx0⟩ x:=qkb (full:=full) (fun t ht=>hsl t ht)
 have h1:aop E.T E.C ⟨sl,st0,nx0⟩ o.dst o.op=aop E.T E.C ⟨sl0,st0,nx0⟩ o.dst o.op:=qka o.dst o.op hev rfl rfl
 have h2:=jia o.op hev
 have h3:=qxh (C:=E.C) hT (st:=st0) (st':=st) (sl:=sl) (nx:=nx0) (dst:=o.dst) o.op (fun y hy=>hst y (by rw [jfs o.op hev] at hy;exact hy))
 rw [h1,h2] at h3
 exact h3
theorem qyh {E:Env} (hT:∀ t,E.T t=tab E.P t) {full:Array Oper} {s:ASt} {sl:List (Nat × AV)} {st:List (Nat × SO)} {o:Oper} {res:AV} {q:Stp} (h:jk E full s o res=some q)
  (hsl:∀ t∈reads full o,getS sl t=s.get t) (hst:∀ y∈ftOf E.T E.C s o,look st y=look s.st y) :
  ∃ q',jk E full ⟨sl,st,s.nx⟩ o res=some q'∧q'.v=q.v∧q'.wr=q.wr∧(q.ob→q'.ob)∧(q.wr=true→(∀ y∈tgt s o.op,look q'.st y=look q.st y)∧∀ y,y ∉ tgt s o.op→look q'.st y=look st y∧look q.st y=look s.st y):=by
 have hl:=qss hT (full:=full) hsl (fun y hy=>hst y (by simp only [ftOf,zaj];exact .inl hy))
 unfold jk at h ⊢
 cases hd:jm E o.dst with
 | false=>rw [hd] at h;cases h
 | true=>
  rw [hd] at h
  simp only at h ⊢
  cases hg:o.guard with
  | none=>
   rw [hg] at h
   simp only at h ⊢
   cases hr:aop E.T E.C s o.dst o.op with
   | ok ob v=>
    rw [hr] at h hl
    cases h
    rw [show aop E.T E.C ⟨sl,st,s.nx⟩ o.dst o.op=.ok ob v from hl]
    exact ⟨_,rfl,rfl,rfl,fun h=>h,fun h=>by cases h⟩
   | mem ob v st1 nx1=>
    rw [hr] at h hl
    cases h
    obtain ⟨st1',h1,h2,h3⟩:=hl
    rw [h1]
    exact ⟨_,rfl,rfl,rfl,fun h=>h,fun _=>⟨h2,h3⟩⟩
   | call f args=>
    rw [hr] at h hl
    cases h
    rw [show aop E.T E.C ⟨sl,st,s.nx⟩ o.dst o.op=.call f args from hl]
    exact ⟨_,rfl,rfl,rfl,fun h=>h,fun h=>by cases h⟩
   | bad=>rw [hr] at h;cases h
  | some jw=>
   obtain ⟨j,want⟩:=jw
   rw [hg] at h
   simp only at h ⊢
   cases hs:qbi full j with
   | none=>rw [hs] at h;cases h
   | some d=>
    have hgd:ASt.get ⟨sl,st,s.nx⟩ d=s.get d:=hsl d (by simp [reads,hg,hs])
    rw [hs] at h
    simp only [xe] at h ⊢
    rw [hgd]
    cases hgb:qcs want (s.get d) with
    | none=>rw [hgb] at h;cases h
    | some g=>
     rw [hgb] at h
     simp only at h ⊢
     cases hr:aop E.T E.C s o.dst o.op with
     | ok ob v=>
      rw [hr] at h hl
      cases h
      have hv:Agree (nms v) s.st st:=fun y hy=>hst y (by simp only [ftOf,zaj,hg,hr];exact .inr hy)
      rw [show aop E.T E.C ⟨sl,st,s.nx⟩ o.dst o.op=.ok ob v from hl]
      refine ⟨_,rfl,?_,rfl,?_,fun h=>by cases h⟩
      ·simp only [qbe hv]
      ·simp only [qbp hv];exact fun h=>h
     | call f args=>
      rw [hr] at h hl
      cases h
      rw [show aop E.T E.C ⟨sl,st,s.nx⟩ o.dst o.op=.call f args from hl]
      exact ⟨_,rfl,rfl,rfl,fun h=>h,fun h=>by cases h⟩
     | mem ob v st1 nx1=>rw [hr] at h;cases h
     | bad=>rw [hr] at h;cases h
def freN (F:Nat→Prop) (a b:Nat):Nat→Nat→Prop:=fun n y=>(n≤y∧a≤y∧y<b)∨less F a b y
theorem qst {c:Ctx} {F:Nat→Prop} {a b:Nat} (h:a<b):Sup (c.free (freN F a b)) a:=by
 refine ⟨.inl ⟨zi _,zi _,h⟩,fun i hi=>?_⟩
 rcases hi with ⟨h1,h2,h3⟩|⟨h1,h2⟩
 ·exact ⟨.inl ⟨by omega,h2,h3⟩,by omega⟩
 ·exact ⟨.inr ⟨h1,h2⟩,fun e=>h2 (by omega)⟩
theorem SF.sr {c:Ctx} {F:Nat→Prop} {rd:Rd} {mp:Mp} {sl:List (Nat × AV)} {st:List (Nat × SO)} {a:Act} {w:World} (h:SF c F rd mp sl st a w) {x y:Nat} (hF:∀ i,x≤i→i<y→F i):SR (c.free (freN F x y)) rd mp ⟨sl,st,x⟩ a w:=by
 refine ⟨h.slots,h.defers,?_⟩
 have:=h.mem.refre (F:=freN F x y) (nx':=x) (fun i hi=>by
  rcases hi with ⟨_,h2,h3⟩|⟨h1,_⟩
  ·exact hF i h2 h3
  ·exact h1)
 exact this
theorem jib {E:Env} (hT:∀ t,E.T t=tab E.P t) {full:Array Oper} {s s':ASt} {o:Oper} {res:AV} {p:Pst} (h:d3op E full s o res=some (p,s')) (hob:p.ob) {F:Nat→Prop} {sl:List (Nat × AV)} {st:List (Nat × SO)}
  (hsl:∀ t∈reads full o,getS sl t=s.get t) (hst:∀ y∈p.ft,look st y=look s.st y) (hF:∀ y,p.a≤y→y<p.b→F y):qir E full F sl st o p:=by
 unfold d3op at h
 cases hq:jk E full s o res with
 | none=>rw [hq] at h;cases h
 | some q=>
  rw [hq] at h
  simp only at h
  have key:p.v=q.v∧p.ft=ftOf E.T E.C s o∧p.a=s.nx∧p.b=s.nx+1∧p.ob=q.ob∧((q.wr=true∧p.ps=qpc (tgt s o.op) q.st∧∀ y∈tgt s o.op,(look q.st y).isSome)∨(q.wr=false∧p.ps=[])):=by
   cases hw:q.wr with
   | true=>
    rw [hw] at h
    simp only at h
    cases hall:(tgt s o.op).all (fun y=>(look q.st y).isSome) with
    | false=>rw [hall] at h;cases h
    | true=>
     rw [hall] at h
     simp only [cond_true,Option.some.injEq,Prod.mk.injEq] at h
     obtain ⟨rfl,_⟩:=h
     exact ⟨rfl,rfl,rfl,rfl,rfl,.inl ⟨rfl,rfl,fun y hy=>List.all_eq_true.1 hall y hy⟩⟩
   | false=>
    rw [hw] at h
    simp only [Option.some.injEq,Prod.mk.injEq] at h
    obtain ⟨rfl,_⟩:=h
    exact ⟨rfl,rfl,rfl,rfl,rfl,.inr ⟨rfl,rfl⟩⟩
  obtain ⟨k1,k2,k3,k4,k5,k6⟩:=key
  rw [k2] at hst
  obtain ⟨q',g1,g2,g3,g4,g5⟩:=qyh hT hq hsl hst
  intro rd mp a w hs hsz K Q hK
  have hsr:=hs.sr (x:=p.a) (y:=p.b) hF
  rw [k3] at hsr
  have hsnd:=qrw (E:={ E with c:=E.c.free (freN F s.nx p.b) }) hT (full:=full) (s:=⟨sl,st,s.nx⟩) (o:=o) (res:=res) (p:=q') g1 (g4 (by rw [← k5];exact hob)) hsr (qst (by omega)) hsz (K:=K) (Q:=Q)
  refine hsnd (fun x w' rd' mp' hr hm hmem hrel hdst=>hK x w' rd' mp' hr hm ?_ (by rw [k1,← g2];exact hrel) hdst)
  have h1:=hmem.refre (F:=fun _=>less F p.a p.b) (nx':=0) (fun i hi=>by rw [← k3];exact .inr hi)
  refine Mem.forget (c:=E.c.free fun _=>less F p.a p.b) h1 (fun y z hz=>?_)
  rw [g3]
  rcases k6 with ⟨hw,hps,hall⟩|⟨hw,hps⟩
  ·rw [hw,cond_true]
   obtain ⟨e1,e2⟩:=g5 hw
   rw [hps,qdj,qsr] at hz
   by_cases hy:y∈tgt s o.op
   ·rw [zb hy] at hz
    rw [e1 y hy]
    cases hl:look q.st y with
    | none=>have:=hall y hy;rw [hl] at this;cases this
    | some u=>rw [hl] at hz;exact hz
   ·rw [za hy] at hz
    rw [(e2 y hy).1]
    exact hz
  ·rw [hw,cond_false]
   rw [hps] at hz
   exact hz
theorem jic {E:Env} (hT:∀ t,E.T t=tab E.P t) {full:Array Oper} {s s':ASt} {o:Oper} {args':List AV} {res:AV} {st1:List (Nat × SO)} {n1:Nat} {p:Pst} (h:d3step E full s o (.new args' res st1 n1)=some (p,s')) (hob:p.ob) {F:Nat→Prop} {sl:List (Nat × AV)} {st:List (Nat × SO)}
  (hsl:∀ t∈reads full o,getS sl t=s.get t) (hst:∀ y∈p.ft,look st y=look s.st y) (hF:∀ y,p.a≤y→y<p.b→F y):qir E full F sl st o p:=by
 simp only [d3step] at h
 cases hd:jm E o.dst with
 | false=>rw [hd] at h;cases h
 | true=>
  rw [hd] at h
  cases hg:o.guard with
  | some jw=>rw [hg] at h;cases h
  | none=>
   rw [hg] at h
   cases hr:aop E.T E.C s o.dst o.op with
   | ok=>rw [hr] at h;cases h
   | mem=>rw [hr] at h;cases h
   | bad=>rw [hr] at h;cases h
   | call f args=>
    rw [hr] at h
    simp only [Option.some.injEq,Prod.mk.injEq] at h
    obtain ⟨rfl,_⟩:=h
    simp only at hst hF
    have hl:=qss hT (full:=full) hsl hst
    rw [hr] at hl
    have hl':aop E.T E.C ⟨sl,st,s.nx⟩ o.dst o.op=.call f args:=hl
    intro rd mp a w hs hsz K Q hK
    have hsr:=hs.sr (x:=s.nx) (y:=s.nx+n1+1) hF
    have hgood:=qjx (C:=E.C) hT hsr (qst (by omega)) o
    rw [hl'] at hgood
    obtain ⟨vs,g1,g2⟩:=hgood
    have hob':NewOb E.P f args args' res st1 n1:=hob
    rw [zb (by simp [Region.wanted,hg])]
    left
    have hdst:∀ d,o.dst=some d→d<a.tmps.size:=by
     intro d hd'
     rw [hd'] at hd
     simp only [jm,xl] at hd
     rw [hsz]
     exact hd
    have hm0:Mem ⟨w,rd,fun _=>False,stdF⟩ rd Mp.none [] 0 w:=
     ⟨hs.mem.rdw,hs.mem.rd1,fun g o v h=>.inl h,⟨rfl,rfl,rfl,zi _,fun _ _ _=>rfl⟩,fun b ty cs hl=>by simp [look] at hl,fun r i R hR=>by cases hR with|row hl=>simp [look] at hl|fam hl _=>simp [look] at hl,
      fun p q g hp=>by cases p with|bx b=>obtain ⟨ty,cs,hl⟩:=hp;simp [look] at hl|rw r i=>(obtain ⟨R,hR⟩:=hp;cases hR with|row hl=>simp [look] at hl|fam hl _=>simp [look] at hl),
      fun i _=>⟨rfl,fun _=>rfl⟩,fun i x hx=>by simp [look] at hx,fun r e sz cnt ep len f hl=>by simp [look] at hl,fun r sz ep n f hl=>by simp [look] at hl,⟨hs.mem.tabR,fun _ _ h=>h⟩,Rd.le.refl _⟩
    have hinv:=hob'.trip _ rd Mp.none w vs rfl rfl rfl hm0 ((g2.le hob'.le).pure hob'.pure _)
    have step:∀ v w',(∃ rd' mp',Rel rd' mp' res v∧Rd.le rd rd'∧Mp.le Mp.none mp'∧Mem ⟨w,rd,fun _=>False,stdF⟩ rd' mp' st1 n1 w')→K (a.put o.dst v) w':=by
     rintro v w' ⟨rd',mp',h1,h2,_,h4⟩
     obtain ⟨hle,hmem⟩:=hs.mem.gain (a:=s.nx) (F:=fun _=>less F s.nx (s.nx+n1+1)) (nx':=0) h2 h4 hob'.lt hob'.rows (fun y ha hb=>hF y ha (by omega)) (fun y hy=>⟨hy.1,fun hh=>hy.2 ⟨hh.1,by omega⟩⟩)
     refine hK v w' rd' _ h2 hle hmem ?_ hdst
     exact (qfu hob'.rlt).1 (h1.mono (Rd.le.refl _) (qya (fun i hi=>h4.fresh i hi)))
    unfold Oper.wp
    rw [g1]
    rcases hinv with ⟨h1,h2⟩|⟨v,w',h1,h2⟩
    ·rw [h1,Oper.upon_enter]
     refine h2.mono fun e w' he=>?_
     rcases he with ⟨v,he,hv⟩|⟨_,_,hv⟩
     ·subst he;exact step v w' hv
     ·exact False.elim hv
    ·rw [h1,Oper.upon_value]
     exact step v w' h2
theorem jid {E:Env} (hT:∀ t,E.T t=tab E.P t) {full:Array Oper} {s s':ASt} {o:Oper} {is:List Nat} {args':List AV} {st0:List SO} {res:AV} {st1:List (Nat × SO)} {p:Pst} (h:d3step E full s o (.turn is args' st0 res st1)=some (p,s')) (hob:p.ob) {F:Nat→Prop} {sl:List (Nat × AV)} {st:List (Nat × SO)}
  (hsl:∀ t∈reads full o,getS sl t=s.get t) (hst:∀ y∈p.ft,look st y=look s.st y) (hF:∀ y,p.a≤y→y<p.b→F y):qir E full F sl st o p:=by
 simp only [d3step] at h
 cases hd:jm E o.dst with
 | false=>rw [hd] at h;cases h
 | true=>
  rw [hd] at h
  cases hg:o.guard with
  | some jw=>rw [hg] at h;cases h
  | none=>
   rw [hg] at h
   cases hr:aop E.T E.C s o.dst o.op with
   | ok=>rw [hr] at h;cases h
   | mem=>rw [hr] at h;cases h
   | bad=>rw [hr] at h;cases h
   | call f args=>
    rw [hr] at h
    cases hcov:is.all (fun i=>(look (jc (nm0 is) st1) i).isSome) with
    | false=>rw [hcov] at h;cases h
    | true=>
    rw [hcov] at h
    simp only [cond_true,Option.some.injEq,Prod.mk.injEq] at h
    obtain ⟨rfl,_⟩:=h
    simp only at hst hF
    have hl:=qss hT (full:=full) hsl (fun y hy=>hst y (List.mem_append_left _ hy))
    rw [hr] at hl
    have hl':aop E.T E.C ⟨sl,st,s.nx⟩ o.dst o.op=.call f args:=hl
    intro rd mp a w hs hsz K Q hK
    have hsr:=hs.sr (x:=s.nx) (y:=s.nx+1) hF
    have hgood:=qjx (C:=E.C) hT hsr (qst (by omega)) o
    rw [hl'] at hgood
    obtain ⟨vs,g1,g2⟩:=hgood
    have hob':TurnOb E.P f is args args' st0 res st1 s.st:=hob
    have hchk:=hob'.chk
    simp only [turnOk,zf] at hchk
    obtain ⟨⟨⟨⟨⟨c1,c2⟩,c3⟩,c4⟩,c5⟩,c6⟩:=hchk
    have hnd:=qkg c1
    have hlen:st0.length=is.length:=zj c2
    rw [zb (by simp [Region.wanted,hg])]
    left
    have hdst:∀ d,o.dst=some d→d<a.tmps.size:=by
     intro d hd'
     rw [hd'] at hd
     simp only [jm,xl] at hd
     rw [hsz]
     exact hd
    obtain ⟨_,hnm'⟩:=hob'.nm.get
    have hl0:∀ p∈idx 0 st0,p.1<is.length:=by
     intro p hp
     have:=(List.all_eq_true.1 c3) p hp
     simp only [zf,zl] at this
     omega
    have hsub:SubL st (jc (nm0 is) (idx 0 st0)++qu is st):=by
     intro y x hx
     rw [qfv hnd hl0] at hx
     cases hi:inv0 is y with
     | none=>rw [hi] at hx;exact ⟨x,hx,SoLe.refl x⟩
     | some j=>
      rw [hi] at hx
      obtain ⟨o',ho,rfl⟩:=Option.map_eq_some_iff.1 hx
      rw [qkf,zb (xv _),Nat.sub_zero] at ho
      obtain ⟨z,hz,hle⟩:=hnm' j o' ho
      obtain ⟨hyj,hj⟩:=qgo hi
      have hmem:y∈is:=by rw [← hyj];unfold nm0;simp [List.getD,hj]
      refine ⟨z,?_,hle⟩
      rw [hst y (List.mem_append_right _ hmem),← hyj]
      exact hz
    have hm1:=hs.mem.weak hsub
    have hnamed:Named (idx 0 st0) (jc (nm0 is) (idx 0 st0)++qu is st) (nm0 is):=by
     refine ⟨fun j o' hj=>?_⟩
     rw [qfv hnd hl0,qis hnd (hl0 _ (qdv hj))]
     show (look (idx 0 st0) j).map (SO.ren (nm0 is))=_
     rw [hj]
     rfl
    have hent:=hm1.enter hnamed c3 hob'.rows0 (fun i j hi hj h=>qye hnd (by omega) (by omega) h)
    have hargs0:RelL rd ((mp.pull (nm0 is)).restrict st0.length) args' vs:=by
     have h1:=g2.le hob'.le
     refine ⟨by rw [h1.1,zu],fun j x v hx hv=>?_⟩
     have hxl:=List.all_eq_true.1 c4 x (zh hx)
     exact ((qfu hxl).2 (h1.2 j _ v (by rw [zg,hx];rfl) hv)).lt hxl
    have hinv:=hob'.trip _ rd _ w vs rfl rfl rfl hent hargs0
    have hin:∀ i∈is,look (jc (nm0 is) (idx 0 st0)++qu is st) i≠none:=by
     intro i hi
     rw [qfv hnd hl0]
     have:inv0 is i=some (is.idxOf i):=zb hi
     rw [this]
     intro hno
     replace hno:=Option.map_eq_none_iff.1 hno
     revert hno
     rw [imp_false]
     rw [qkf,zb (xv _),Nat.sub_zero,List.getElem?_eq_none_iff]
     have:=zaf hi
     omega
    have step:∀ v w',(∃ rd' mp',Rel rd' mp' res v∧Rd.le rd rd'∧Mp.le ((mp.pull (nm0 is)).restrict st0.length) mp'∧Mem ⟨w,rd,fun g=>∃ p,There (idx 0 st0) p∧blkOf mp (p.ren (nm0 is))=some g,stdF⟩ rd' mp' st1 is.length w')→K (a.put o.dst v) w':=by
     rintro v w' ⟨rd',mp',h1,h2,h3,h4⟩
     rw [hlen] at h3
     obtain ⟨hle,hpull,hfin⟩:=hm1.leave0 hnd hnamed hl0 h2 h4 c5 hob'.rows1 h3 hin
     have hfin1:=hfin.refre (F:=fun _=>less F s.nx (s.nx+1)) (nx':=0) (fun y hy=>hy.1)
     refine hK v w' rd' _ h2 hle ?_ ((qfu c6).1 (h1.mono (Rd.le.refl _) hpull)) hdst
     refine Mem.forget (c:=E.c.free fun _=>less F s.nx (s.nx+1)) hfin1 (fun y x hx=>?_)
     have hl1:∀ p∈st1,p.1<is.length:=by
      intro p hp
      have:=(List.all_eq_true.1 c5) p hp
      simp only [zf,zl] at this
      omega
     rw [qdj] at hx ⊢
     cases hk:look (jc (nm0 is) st1) y with
     | some z=>rw [hk] at hx;exact hx
     | none=>
      rw [hk] at hx
      have hx':look st y=some x:=hx
      have hy:y ∉ is:=by
       intro hm
       have:=List.all_eq_true.1 hcov y hm
       rw [hk] at this;cases this
      show look (qu is (jc (nm0 is) (idx 0 st0)++qu is st)) y=some x
      rw [qgm,za hy,qfv hnd hl0]
      have:inv0 is y=none:=za hy
      rw [this]
      exact hx'
    unfold Oper.wp
    rw [g1]
    rcases hinv with ⟨h1,h2⟩|⟨v,w',h1,h2⟩
    ·rw [h1,Oper.upon_enter]
     refine h2.mono fun e w' he=>?_
     rcases he with ⟨v,he,hv⟩|⟨_,_,hv⟩
     ·subst he;exact step v w' hv
     ·exact False.elim hv
    ·rw [h1,Oper.upon_value]
     exact step v w' h2
theorem qyi {E:Env} (hT:∀ t,E.T t=tab E.P t) {full:Array Oper} {s s':ASt} {o:Oper} {x:C3} {p:Pst} (h:d3step E full s o x=some (p,s')) (hob:p.ob) {F:Nat→Prop} {sl:List (Nat × AV)} {st:List (Nat × SO)}
  (hsl:∀ t∈reads full o,getS sl t=s.get t) (hst:∀ y∈p.ft,look st y=look s.st y) (hF:∀ y,p.a≤y→y<p.b→F y):qir E full F sl st o p:=by
 cases x with
 | con res=>exact jib hT h hob hsl hst hF
 | new args' res st1 n1=>exact jic hT h hob hsl hst hF
 | turn is args' st0 res st1=>exact jid hT h hob hsl hst hF
theorem jie {E:Env} (hT:∀ t,E.T t=tab E.P t) {full:Array Oper} {s s':ASt} {o:Oper} {x:C3} {p:Pst} (h:d3step E full s o x=some (p,s')) :
  s'.sl=qbj s.sl o.dst p.v∧(∀ y,look s'.st y=look (p.ps++s.st) y)∧p.a=s.nx∧p.b=s'.nx∧s.nx<s'.nx:=by
 cases x with
 | new args' res st1 n1=>
  simp only [d3step] at h
  split at h
  ·simp only [Option.some.injEq,Prod.mk.injEq] at h
   obtain ⟨rfl,rfl⟩:=h
   exact ⟨rfl,fun y=>rfl,rfl,rfl,by simp only;omega⟩
  ·cases h
 | turn is args' st0 res st1=>
  simp only [d3step] at h
  split at h
  ·cases hcov:is.all (fun i=>(look (jc (nm0 is) st1) i).isSome) with
   | false=>rw [hcov] at h;cases h
   | true=>
    rw [hcov] at h
    simp only [cond_true,Option.some.injEq,Prod.mk.injEq] at h
    obtain ⟨rfl,rfl⟩:=h
    refine ⟨rfl,fun y=>?_,rfl,rfl,by simp only;omega⟩
    simp only
    rw [qdj,qdj,qgm]
    cases hk:look (jc (nm0 is) st1) y with
    | some z=>rfl
    | none=>
     simp only
     rw [za]
     intro hm
     have:=List.all_eq_true.1 hcov y hm
     rw [hk] at this;cases this
  ·cases h
 | con res=>
  simp only [d3step,d3op] at h
  cases hq:jk E full s o res with
  | none=>rw [hq] at h;cases h
  | some q=>
   rw [hq] at h
   simp only at h
   cases hw:q.wr with
   | false=>
    rw [hw] at h
    simp only [Option.some.injEq,Prod.mk.injEq] at h
    obtain ⟨rfl,rfl⟩:=h
    exact ⟨rfl,fun y=>rfl,rfl,rfl,by simp only;omega⟩
   | true=>
    rw [hw] at h
    simp only at h
    cases hall:(tgt s o.op).all (fun y=>(look q.st y).isSome) with
    | false=>rw [hall] at h;cases h
    | true=>
     rw [hall] at h
     simp only [cond_true,Option.some.injEq,Prod.mk.injEq] at h
     obtain ⟨rfl,rfl⟩:=h
     refine ⟨rfl,fun y=>?_,rfl,rfl,by simp only;omega⟩
     obtain ⟨q',g1,_,_,_,g5⟩:=qyh (sl:=s.sl) (st:=s.st) hT hq (fun t _=>rfl) (fun y _=>rfl)
     obtain ⟨_,e2⟩:=g5 hw
     simp only
     rw [qdj,qsr]
     by_cases hy:y∈tgt s o.op
     ·rw [zb hy]
      have:=List.all_eq_true.1 hall y hy
      cases hl:look q.st y with
      | none=>rw [hl] at this;cases this
      | some u=>rfl
     ·rw [za hy]
      exact (e2 y hy).2
def qaq (E:Env) (full:Array Oper):List Oper→List C3→ASt→Option (List (Oper × Pst) × ASt)
 | [],_,s=>some ([],s)
 | o::r,cs,s=>
  match jg o.op,cs with
  | true,x::cs=>
   match d3step E full s o x with
   | some (p,s')=>match qaq E full r cs s' with|some (L,sE)=>some ((o,p)::L,sE)|none=>none
   | none=>none
  | true,[]=>none
  | false,cs=>
   match d3step E full s o (.con .any) with
   | some (p,s')=>match qaq E full r cs s' with|some (L,sE)=>some ((o,p)::L,sE)|none=>none
   | none=>none
theorem jif {E:Env} {full:Array Oper} {o:Oper} {r:List Oper} {cs:List C3} {s:ASt} {L:List (Oper × Pst)} {sE:ASt} (h:qaq E full (o::r) cs s=some (L,sE)) :
  ∃ x cs' p s' L',d3step E full s o x=some (p,s')∧qaq E full r cs' s'=some (L',sE)∧L=(o,p)::L':=by
 have fin:∀ (x:C3) (cs':List C3),(match d3step E full s o x with
   | some (p,s')=>match qaq E full r cs' s' with|some (L,sE)=>some ((o,p)::L,sE)|none=>none
   | none=>none)=some (L,sE)→∃ x cs' p s' L',d3step E full s o x=some (p,s')∧qaq E full r cs' s'=some (L',sE)∧L=(o,p)::L':=by
  intro x cs' h
  cases h1:d3step E full s o x with
  | none=>rw [h1] at h;cases h
  | some q=>
   obtain ⟨p,s'⟩:=q
   rw [h1] at h
   simp only at h
   cases h2:qaq E full r cs' s' with
   | none=>rw [h2] at h;cases h
   | some q=>
    obtain ⟨L',sE'⟩:=q
    rw [h2] at h
    simp only [Option.some.injEq,Prod.mk.injEq] at h
    obtain ⟨rfl,rfl⟩:=h
    exact ⟨x,cs',p,s',L',h1,h2,rfl⟩
 simp only [qaq] at h
 split at h
 ·exact fin _ _ h
 ·cases h
 ·exact fin _ _ h
theorem qpa (M:List (Oper × Pst)):∀ (m b:Nat),b≤m→∀ s,slAt M m (fun j=>decide (j<b)) s=s:=by
 induction M with
 | nil=>intro m b _ s;rfl
 | cons y M ihM=>
  intro m b hb s
  obtain ⟨o'',p''⟩:=y
  simp only [slAt]
  have:decide (m<b)=false:=by simp;omega
  rw [this]
  exact ihM (m+1) b (by omega) s
theorem qpb (M:List (Oper × Pst)):∀ (m b:Nat),b≤m→∀ s,stAt M m (fun j=>decide (j<b)) s=s:=by
 induction M with
 | nil=>intro m b _ s;rfl
 | cons y M ihM=>
  intro m b hb s
  obtain ⟨o'',p''⟩:=y
  simp only [stAt]
  have:decide (m<b)=false:=by simp;omega
  rw [this]
  exact ihM (m+1) b (by omega) s
structure RunF (E:Env) (full:Array Oper) (l:List Oper) (k:Nat) (sl:List (Nat × AV)) (st:List (Nat × SO)) (nx:Nat) (L:List (Oper × Pst)) (sE:ASt):Prop where
 ops:L.map (·.1)=l
 step:∀ (i:Nat) x,L[i]?=some x→∃ si s' c,d3step E full si x.1 c=some (x.2,s')∧(∀ t,getS (slAt L k (fun j=>decide (j<k+i)) sl) t=si.get t)∧(∀ y,look (stAt L k (fun j=>decide (j<k+i)) st) y=look si.st y)
 rg:∀ (i j:Nat) x y,i<j→L[i]?=some x→L[j]?=some y→x.2.b≤y.2.a
 lo:∀ (i:Nat) x,L[i]?=some x→nx≤x.2.a
 hi:∀ (i:Nat) x,L[i]?=some x→x.2.b≤sE.nx
 le:nx≤sE.nx
 slE:∀ t,getS (slAt L k (fun _=>true) sl) t=sE.get t
 stE:∀ y,look (stAt L k (fun _=>true) st) y=look sE.st y
theorem qyj {E:Env} (hT:∀ t,E.T t=tab E.P t) {full:Array Oper}:∀ (l:List Oper) (cs:List C3) (k:Nat) (s:ASt) (st0:List (Nat × SO)) (L:List (Oper × Pst)) (sE:ASt),(∀ y,look st0 y=look s.st y)→qaq E full l cs s=some (L,sE)→RunF E full l k s.sl st0 s.nx L sE:=by
 intro l
 induction l with
 | nil=>
  intro cs k s st0 L sE h0 h
  simp only [qaq,Option.some.injEq,Prod.mk.injEq] at h
  obtain ⟨rfl,rfl⟩:=h
  exact ⟨rfl,fun i x hx=>by simp at hx,fun i j x y _ hx=>by simp at hx,fun i x hx=>by simp at hx,fun i x hx=>by simp at hx,zi _,fun t=>rfl,h0⟩
 | cons o r ih=>
  intro cs k s st0 L sE h0 h
  obtain ⟨x,cs',p,s',L',h1,h2,rfl⟩:=jif h
  obtain ⟨n1,n2,n3,n4,n5⟩:=jie hT h1
  have hIH:=ih cs' (k+1) s' (p.ps++st0) L' sE (fun y=>by rw [n2,qdj,qdj,h0]) h2
  rw [n1] at hIH
  refine ⟨by simp [hIH.ops],fun i z hz=>?_,fun i j z y hij hz hy=>?_,fun i z hz=>?_,fun i z hz=>?_,by have:=hIH.le;omega,hIH.slE,hIH.stE⟩
  ·cases i with
   | zero=>
    simp at hz
    subst hz
    refine ⟨s,s',x,h1,fun t=>?_,fun y=>?_⟩
    ·simp only [xf]
     rw [qpa _ k k (zi _)]
     rfl
    ·simp only [xf]
     rw [qpb _ k k (zi _)]
     exact h0 y
   | succ i=>
    simp at hz
    obtain ⟨si,s'',c,g1,g2,g3⟩:=hIH.step i z hz
    refine ⟨si,s'',c,g1,fun t=>?_,fun y=>?_⟩
    ·have:=g2 t
     simp only [slAt]
     have e:decide (k<k+(i+1))=true:=by simp
     rw [e,show k+(i+1)=k+1+i by omega]
     exact this
    ·have:=g3 y
     simp only [stAt]
     have e:decide (k<k+(i+1))=true:=by simp
     rw [e,show k+(i+1)=k+1+i by omega]
     exact this
  ·cases j with
   | zero=>omega
   | succ j=>
    simp at hy
    cases i with
    | zero=>
     simp at hz
     subst hz
     have:=hIH.lo j y hy
     simp only
     omega
    | succ i=>
     simp at hz
     exact hIH.rg i j z y (by omega) hz hy
  ·cases i with
   | zero=>simp at hz;subst hz;simp only;omega
   | succ i=>simp at hz;have:=hIH.lo i z hz;omega
  ·cases i with
   | zero=>simp at hz;subst hz;simp only;have:=hIH.le;omega
   | succ i=>simp at hz;exact hIH.hi i z hz
def qko:List (Oper × Pst)→Prop
 | []=>True
 | (_,p)::r=>p.ob∧qko r
theorem qsu:∀ {L:List (Oper × Pst)},qko L→∀ (i:Nat) x,L[i]?=some x→x.2.ob
 | [],_,i,x,h=>by simp at h
 | (o,p)::r,h,i,x,hx=>by
  cases i with
  | zero=>simp at hx;subst hx;exact h.1
  | succ i=>simp at hx;exact qsu h.2 i x hx
theorem jig {E:Env} {B:Nat→ASt→Prop} {id:Nat} {ops:Array Oper} {k:List Itm} {s sE:ASt} (hT:∀ t,E.T t=tab E.P t) (hmix:E.P.follows .mixedOrders=true) (n:Nat) (cs:List C3) {L:List (Oper × Pst)} (hL:qaq E ops ops.toList cs s=some (L,sE))
  (hord:qez ops L=true) (hob:qko L) (h:exec E B n k sE):qby E B id ops k s:=by
 unfold qby
 intro rd mp a w hs hrd hsz
 show (Code.region id ops true).wp E.P (QK E B k) a w
 have hf:=qyj hT ops.toList cs 0 s s.st L sE (fun _=>rfl) hL
 have hlen:L.length=ops.size:=by have:=congrArg List.length hf.ops;simpa using this
 have hstep:∀ (i:Nat) x,L[i]?=some x→∀ S,Adm ops L.length S i→qir E ops (qkn L sE.nx S) (slAt L 0 S s.sl) (stAt L 0 S s.st) x.1 x.2:=by
  intro i x hx S hS
  obtain ⟨si,s',c,g1,g2,g3⟩:=hf.step i x hx
  simp only [zn] at g2 g3
  have agree:∀ (j:Nat) y,L[j]?=some y→qcj ops y x=true→S j=decide (j<i):=by
   intro j y hy hc1
   have hj:j<ops.size:=by rw [← hlen];exact (List.getElem?_eq_some_iff.1 hy).1
   have hc2:qcj ops x y=true:=by rw [← qsq];exact hc1
   rcases zap j i with h|h|h
   ·simp only [h,decide_true];exact hS.anc j (qkm hord h hy hx hc1)
   ·subst h;simp only [Nat.lt_irrefl,decide_false];exact hS.self
   ·have:¬ j<i:=by omega
    simp only [this,decide_false]
    exact hS.desc j (qkm hord h hx hy hc2) hj
  refine qyi hT g1 (qsu hob i x hx) (fun t ht=>?_) (fun y hy=>?_) (fun y h1 h2=>.inr ⟨i,x,hx,hS.self,h1,h2⟩)
  ·rw [← g2 t]
   refine qml t L 0 _ _ s.sl s.sl rfl (fun j y hy hd=>?_)
   rw [zn]
   refine agree j y hy ?_
   have:hits ops y.1 x.1=true:=by simp [hits,hd,ht]
   simp [qcj,this]
  ·rw [← g3 y]
   refine qmm y L 0 _ _ s.st s.st rfl (fun j z hz hw=>?_)
   rw [zn]
   refine agree j z hz ?_
   simp [qcj,qyc hw hy]
 refine wp_region_any hmix (qyd hf.ops hstep hf.rg hf.hi hf.slE hf.stE hord hrd.std (qbk hT n _ _ h) _ _ a _ (by simp) (by simp) (fun j o _ hj=>?_) hsz ⟨rd,mp,?_,hrd⟩)
 ·rw [qeg] at hj
  cases hj
 ·have hz:∀ (L:List (Oper × Pst)) (i:Nat) (s:List (Nat × AV)),slAt L i (fun i=>(Array.replicate ops.size false).getD i false) s=s:=by
   intro L
   induction L with
   | nil=>intro i s;rfl
   | cons y L ih=>
    intro i s
    obtain ⟨o,p⟩:=y
    simp only [slAt]
    rw [qeg]
    exact ih (i+1) s
  have hz':∀ (L:List (Oper × Pst)) (i:Nat) (s:List (Nat × SO)),stAt L i (fun i=>(Array.replicate ops.size false).getD i false) s=s:=by
   intro L
   induction L with
   | nil=>intro i s;rfl
   | cons y L ih=>
    intro i s
    obtain ⟨o,p⟩:=y
    simp only [stAt]
    rw [qeg]
    exact ih (i+1) s
  rw [hz,hz']
  refine ⟨hs.slots,hs.defers,(hs.mem.below ((Below.refl _ _).drew)).refre (fun y hy=>?_)⟩
  rw [hrd.std]
  rcases hy with hy|⟨i,x,hx,_,h1,_⟩
  ·exact xb hf.le hy
  ·exact xb (hf.lo i x hx) h1
def qda (E:Env) (B:Nat→ASt→Prop) (n:Nat) (k:List Itm) (full:Array Oper):List Oper→List C3→ASt→Prop
 | [],_,s=>exec E B n k s
 | ⟨dst,op,ty,pos,aft,guard⟩::rest,cs,⟨sl,st,nx⟩=>
  match jm E dst with
  | false=>False
  | true=>
   match guard with
   | none=>
    match aop E.T E.C ⟨sl,st,nx⟩ dst op with
    | .ok ob v=>bif jg op then False else cj ob (frcN (nx+1) fun nx=>frc v (je sl dst (fun sl'=>qda E B n k full rest cs ⟨sl',st,nx⟩)))
    | .mem ob v st' _=>bif jg op then False else cj ob (frcN (nx+1) fun nx'=>qao st' fun st'=>frc v (je sl dst (fun sl'=>qda E B n k full rest cs ⟨sl',st',nx'⟩)))
    | .call f args=>
     match jg op,cs with
     | true,.con x::cs=>frcL args fun args=>Ob (qcu E.P f args x) (frcN (nx+1) fun nx=>je sl dst (fun sl'=>qda E B n k full rest cs ⟨sl',st,nx⟩) x)
     | true,.new args' x st1 n1::cs=>frcL args fun args=>Ob (NewOb E.P f args args' x st1 n1) (qao (jc (names [] nx) st1++st) fun st'=>frcN (nx+n1+1) fun nx'=>frc (x.ren (names [] nx)) (je sl dst (fun sl'=>qda E B n k full rest cs ⟨sl',st',nx'⟩)))
     | true,.turn is args' st0 x st1::cs=>frcL args fun args=>Ob (TurnOb E.P f is args args' st0 x st1 st) (qao (jc (nm0 is) st1++qu is st) fun st'=>frcN (nx+1) fun nx'=>frc (x.ren (nm0 is)) (je sl dst (fun sl'=>qda E B n k full rest cs ⟨sl',st',nx'⟩)))
     | _,_=>False
    | .bad=>False
   | some (j,want)=>
    match (qbi full j).map (ASt.get ⟨sl,st,nx⟩) with
    | some x=>
     match qcs want x with
     | some g=>
      match aop E.T E.C ⟨sl,st,nx⟩ dst op with
      | .ok ob v=>bif jg op then False else cj (gob g (andO (jh st v) ob)) (frcN (nx+1) fun nx=>frc (strip st v) (fun v'=>je sl dst (fun sl'=>qda E B n k full rest cs ⟨sl',st,nx⟩) (.cnd g v')))
      | .call f args=>
       match jg op,cs with
       | true,.con x::cs=>frcL args fun args=>Ob (g=true→qcu E.P f args x) (frcN (nx+1) fun nx=>je sl dst (fun sl'=>qda E B n k full rest cs ⟨sl',st,nx⟩) (.cnd g x))
       | _,_=>False
      | _=>False
     | none=>False
    | none=>False
theorem qyk {E:Env} {B:Nat→ASt→Prop} {n:Nat} {k:List Itm} {full:Array Oper}:∀ (l:List Oper) (cs:List C3) (s:ASt) (L:List (Oper × Pst)) (sE:ASt),qaq E full l cs s=some (L,sE)→qda E B n k full l cs s→qko L∧exec E B n k sE:=by
 intro l
 induction l with
 | nil=>
  intro cs s L sE h1 h
  simp only [qaq,Option.some.injEq,Prod.mk.injEq] at h1
  obtain ⟨rfl,rfl⟩:=h1
  exact ⟨trivial,h⟩
 | cons o rest ih=>
  intro cs s L sE h1 h
  obtain ⟨dst,op,ty,pos,aft,guard⟩:=o
  obtain ⟨sl,st,nx⟩:=s
  have fin:∀ (x:C3) (cs':List C3),(match d3step E full ⟨sl,st,nx⟩ ⟨dst,op,ty,pos,aft,guard⟩ x with
    | some (p,s')=>match qaq E full rest cs' s' with|some (L,sE)=>some (((⟨dst,op,ty,pos,aft,guard⟩:Oper),p)::L,sE)|none=>none
    | none=>none)=some (L,sE)→(∀ p s',d3step E full ⟨sl,st,nx⟩ ⟨dst,op,ty,pos,aft,guard⟩ x=some (p,s')→p.ob∧qda E B n k full rest cs' s')→qko L∧exec E B n k sE:=by
   intro x cs' h1 h2
   cases g1:d3step E full ⟨sl,st,nx⟩ ⟨dst,op,ty,pos,aft,guard⟩ x with
   | none=>rw [g1] at h1;cases h1
   | some q=>
    obtain ⟨p,s'⟩:=q
    rw [g1] at h1
    simp only at h1
    obtain ⟨hob,hk⟩:=h2 p s' g1
    cases g2:qaq E full rest cs' s' with
    | none=>rw [g2] at h1;cases h1
    | some q=>
     obtain ⟨L',sE'⟩:=q
     rw [g2] at h1
     simp only [Option.some.injEq,Prod.mk.injEq] at h1
     obtain ⟨rfl,rfl⟩:=h1
     obtain ⟨hob',hk'⟩:=ih cs' s' L' _ g2 hk
     exact ⟨⟨hob,hob'⟩,hk'⟩
  simp only [qda] at h
  cases hd:jm E dst with
  | false=>rw [hd] at h;exact False.elim h
  | true=>
   rw [hd] at h
   simp only at h
   cases guard with
   | none=>
    simp only at h
    cases hr:aop E.T E.C ⟨sl,st,nx⟩ dst op with
    | ok ob v=>
     rw [hr] at h
     cases hc:jg op with
     | true=>simp only [hc,cond_true] at h
     | false=>
      simp only [hc,cond_false,ju,jd,jp] at h
      obtain ⟨hob,hk⟩:=qfs h
      simp only [qaq,hc] at h1
      refine fin _ _ h1 (fun p s' hp=>?_)
      simp only [d3step,d3op,jk,hd,hr,Option.some.injEq,Prod.mk.injEq] at hp
      obtain ⟨rfl,rfl⟩:=hp
      exact ⟨hob,hk⟩
    | mem ob v st' nx'=>
     rw [hr] at h
     cases hc:jg op with
     | true=>simp only [hc,cond_true] at h
     | false=>
      simp only [hc,cond_false,ju,jd,jp,qaz] at h
      obtain ⟨hob,hk⟩:=qfs h
      simp only [qaq,hc] at h1
      refine fin _ _ h1 (fun p s' hp=>?_)
      simp only [d3step,d3op,jk,hd,hr] at hp
      cases hall:(tgt ⟨sl,st,nx⟩ op).all (fun y=>(look st' y).isSome) with
      | false=>rw [hall] at hp;cases hp
      | true=>
       rw [hall] at hp
       simp only [cond_true,Option.some.injEq,Prod.mk.injEq] at hp
       obtain ⟨rfl,rfl⟩:=hp
       exact ⟨hob,hk⟩
    | call f args=>
     rw [hr] at h
     simp only at h
     split at h
     ·rename_i x cs0 hc
      simp only [qcg,jd,jp] at h
      simp only [qaq,hc] at h1
      refine fin _ _ h1 (fun p s' hp=>?_)
      simp only [d3step,d3op,jk,hd,hr,Option.some.injEq,Prod.mk.injEq] at hp
      obtain ⟨rfl,rfl⟩:=hp
      exact ⟨Ob.left h,Ob.right h⟩
     ·rename_i args' x st1 n1 cs0 hc
      simp only [qcg,jd,jp,qaz,ju] at h
      simp only [qaq,hc] at h1
      refine fin _ _ h1 (fun p s' hp=>?_)
      simp only [d3step,hd,hr,Option.some.injEq,Prod.mk.injEq] at hp
      obtain ⟨rfl,rfl⟩:=hp
      exact ⟨Ob.left h,Ob.right h⟩
     ·rename_i is args' st0 x st1 cs0 hc
      simp only [qcg,jd,jp,qaz,ju] at h
      simp only [qaq,hc] at h1
      refine fin _ _ h1 (fun p s' hp=>?_)
      simp only [d3step,hd,hr] at hp
      cases hcov:is.all (fun i=>(look (jc (nm0 is) st1) i).isSome) with
      | false=>rw [hcov] at hp;cases hp
      | true=>
       rw [hcov] at hp
       simp only [cond_true,Option.some.injEq,Prod.mk.injEq] at hp
       obtain ⟨rfl,rfl⟩:=hp
       exact ⟨Ob.left h,Ob.right h⟩
     ·exact False.elim h
    | bad=>rw [hr] at h;exact False.elim h
   | some jw=>
    obtain ⟨j,want⟩:=jw
    simp only at h
    split at h
    ·rename_i y hy
     split at h
     ·rename_i g hg
      split at h
      ·rename_i ob v hr
       cases hc:jg op with
       | true=>simp only [hc,cond_true] at h
       | false=>
        simp only [hc,cond_false,ju,jd,jp] at h
        obtain ⟨hob,hk⟩:=qfs h
        simp only [qaq,hc] at h1
        refine fin _ _ h1 (fun p s' hp=>?_)
        simp only [d3step,d3op,jk,hd,hy,hg,hr,Option.some.injEq,Prod.mk.injEq] at hp
        obtain ⟨rfl,rfl⟩:=hp
        refine ⟨fun hgt=>?_,hk⟩
        generalize andO (jh st v) ob=oo at hob
        cases oo with
        | none=>trivial
        | some p=>exact hob hgt
      ·rename_i f args hr
       split at h
       ·rename_i x cs0 hc
        simp only [qcg,jd,jp] at h
        simp only [qaq,hc] at h1
        refine fin _ _ h1 (fun p s' hp=>?_)
        simp only [d3step,d3op,jk,hd,hy,hg,hr,Option.some.injEq,Prod.mk.injEq] at hp
        obtain ⟨rfl,rfl⟩:=hp
        exact ⟨Ob.left h,Ob.right h⟩
       ·exact False.elim h
      ·exact False.elim h
     ·exact False.elim h
    ·exact False.elim h
theorem draw3 {E:Env} {B:Nat→ASt→Prop} {id:Nat} {ops:Array Oper} {k:List Itm} {s:ASt} (hT:∀ t,E.T t=tab E.P t) (hmix:E.P.follows .mixedOrders=true) (n:Nat) (cs:List C3)
  (hord:(match qaq E ops ops.toList cs s with|some (L,_)=>qez ops L|none=>false)=true) (h:qda E B n k ops ops.toList cs s):qby E B id ops k s:=by
 cases h1:qaq E ops ops.toList cs s with
 | none=>rw [h1] at hord;cases hord
 | some q=>
  obtain ⟨L,sE⟩:=q
  rw [h1] at hord
  obtain ⟨h2,h3⟩:=qyk _ _ _ _ _ h1 h
  exact jig hT hmix n cs h1 hord h2 h3
def kept (sl:List (Nat × AV)):List Nat→List (Nat × AV)
 | []=>[]
 | t::r=>(t,(look sl t).getD .any)::kept sl r
def qkp (sl:List (Nat × AV)):List Nat→(List (Nat × AV)→Prop)→Prop
 | [],K=>K []
 | t::r,K=>frcA ((look sl t).getD .any) fun v=>qkp sl r fun l=>K ((t,v)::l)
theorem qsv (sl:List (Nat × AV)):∀ (ts:List Nat) (K:List (Nat × AV)→Prop),qkp sl ts K=K (kept sl ts)
 | [],_=>rfl
 | t::r,K=>by simp only [qkp,qra];rw [qsv sl r];rfl
def qae (st:List (Nat × SO)):List Nat→List (Nat × SO)
 | []=>[]
 | i::r=>match look st i with|some o=>(i,o)::qae st r|none=>qae st r
theorem qmn {s:ASt}:∀ {l m:List (Nat × AV)},SubSl s l→SubSl s m→SubSl s (l++m)
 | [],_,_,h=>h
 | (_,_)::_,_,h,k=>⟨h.1,qmn h.2 k⟩
theorem qsw {st:List (Nat × SO)} {nx:Nat} (sl:List (Nat × AV)):∀ ts:List Nat,SubSl ⟨sl,st,nx⟩ (kept sl ts)
 | []=>trivial
 | _::r=>⟨Le.refl _,qsw sl r⟩
theorem qmo {st:List (Nat × SO)}:∀ {l m:List (Nat × SO)},SubSt st l→SubSt st m→SubSt st (l++m)
 | [],_,_,h=>h
 | (_,_)::_,_,h,k=>⟨h.1,qmo h.2 k⟩
theorem qpd (st:List (Nat × SO)):∀ is:List Nat,SubSt st (qae st is)
 | []=>trivial
 | i::r=>by
  unfold qae
  cases h:look st i with
  | none=>exact qpd st r
  | some o=>exact ⟨by rw [h];exact SoLe.refl o,qpd st r⟩
theorem jih {sl:List (Nat × AV)} {st:List (Nat × SO)} {nx:Nat} {E:Env} {B:Nat→ASt→Prop} {body:Code} {k:List Itm} (hT:∀ t,E.T t=tab E.P t) (n lvl:Nat) (keep keepS:List Nat) {G:Type} (ov:G→List (Nat × AV)) (so:G→List (Nat × SO)) (φ:G→Prop) (μ:G→Nat)
  (g0:G) (h0:φ g0) (hs0:SubSl ⟨sl,st,nx⟩ (ov g0)) (ht0:SubSt st (so g0)) (hcl:∀ g,(ASt.mk (ov g++kept sl keep) (so g++qae st keepS) nx).closed E.nxb=true) (hmk:qhg lvl k=true)
  (round:qkp sl keep fun kl=>qao (qae st keepS) fun ks=>∀ g,φ g→exec E (fun m s'=>bif Nat.beq m lvl then ∃ g',φ g'∧(SubSl s' (ov g')∧SubSt s'.st (so g'))∧(SubSl s' kl∧SubSt s'.st ks)∧μ g' < μ g else B m s') n (.code body::.mark lvl::k) ⟨ov g++kl,so g++ks,nx⟩):qcf E B body k ⟨sl,st,nx⟩:=by
 rw [qsv,qaz] at round
 unfold qcf
 intro rd mp a w hs hrd hsz
 show (Code.loop body).wp E.P (QK E B k) a w
 refine wp_loop_ghost (fun m a w=>a.tmps.size=E.fn.ntmps∧∃ rd mp g,SR E.c rd mp ⟨ov g++kept sl keep,so g++qae st keepS,nx⟩ a w∧Base E rd mp∧φ g∧μ g=m) (μ g0)
  ⟨hsz,rd,_,g0,hs.sub hrd.std (s':=⟨ov g0++kept sl keep,so g0++qae st keepS,nx⟩) ⟨qmn hs0 (qsw sl keep),qmo ht0 (qpd st keepS)⟩ (hcl g0),hrd.sub (hcl g0),h0,rfl⟩ ?_
 rintro m a w ⟨hsz,rd,mp,g,hs,hrd,hφ,rfl⟩
 have hok:=qbk (E:=E) hT n _ _ (round g hφ) rd mp a w hs hrd hsz
 refine wp_mono hok fun e a' w' hq=>?_
 have pass:QK E (fun m s'=>bif Nat.beq m lvl then ∃ g',φ g'∧(SubSl s' (ov g')∧SubSt s'.st (so g'))∧(SubSl s' (kept sl keep)∧SubSt s'.st (qae st keepS))∧μ g' < μ g else B m s') k e a' w'→QK E B k e a' w':=
  qrv (E:=E) (B:=B) lvl (fun n s hn hb=>by
   have:Nat.beq n lvl=false:=by
    cases hb':Nat.beq n lvl with
    | false=>rfl
    | true=>exact absurd (zj hb') hn
   simpa [this] using hb) k hmk e a' w'
 cases e with
 | normal=>
  obtain ⟨h1,rd',mp',s',h2,h3,h4⟩:=hq
  simp only [Nat.beq_refl,cond_true] at h4
  obtain ⟨g',hg1,k2,k3,hg3⟩:=h4
  exact ⟨μ g',hg3,h1,rd',_,g',h2.sub h3.std (s':=⟨ov g'++kept sl keep,so g'++qae st keepS,nx⟩) ⟨qmn k2.1 k3.1,qmo k2.2 k3.2⟩ (hcl g'),h3.sub (hcl g'),hg1,rfl⟩
 | _=>exact pass hq
section
variable {c:Ctx} {rd:Rd} {mp:Mp} {st:List (Nat × SO)} {nx:Nat} {w:World}
theorem Mem.rebox (h:Mem c rd mp st nx w) {id:Nat} {ty:TypeId} {cs cs':List AV} (hl:look st id=some (.box ty cs)) (hlen:cs'.length=cs.length)
  (hrel:∀ (j:Nat) x y v,cs'[j]?=some x→cs[j]?=some y→Rel rd mp y v→Rel rd mp x v):Mem c rd mp (qz st id (.box ty cs')) nx w:=by
 obtain ⟨b,vs,h1,h2,h3,h4,h5,h6⟩:=h.bx id _ _ hl
 have hne:∀ p,There st p→some p≠some (Pl.bx id)→∀ g,blkOf mp p=some g→g≠b:=by
  intro p hp hne g hg e
  subst e
  exact hne (congrArg some (h.inj p (.bx id) g hp ⟨ty,cs,hl⟩ hg h1))
 refine h.upd (some (.bx id)) (Rd.le.refl _) (Mp.le.refl _) h.fr h.rdw h.rd1 h.rdn (fun b' ty' cs' hl' hne'=>?_) (fun r i R hR _=>qvi hl hR)
  (fun p hp hp'=>⟨by cases p <;> rfl,fun g hg=>⟨rfl,(h.home hp hg).2.1⟩⟩) (fun b' ty' cs'' ht hl'=>?_) (fun r i R ht=>by cases ht)
  (fun p g ht _ hg q hq hq' hg'=>?_) h.fresh (fun i y hy=>?_) (fun r e sz cnt ep len f hl'=>?_) (fun r sz ep n f hl'=>?_)
 ·rw [qk,za (by rintro rfl;exact hne' rfl)] at hl'
  exact hl'
 ·cases ht
  rw [qk,zb rfl,hl] at hl'
  cases hl'
  refine ⟨b,vs,h1,h2,by rw [hlen];exact h3,fun j x' v' hx hv=>?_,h5,h6⟩
  have hj:j<cs.length:=by rw [← hlen];exact (List.getElem?_eq_some_iff.1 hx).1
  exact hrel j x' _ v' hx (ze hj) (h4 j _ v' (ze hj) hv)
 ·cases ht
  simp only [blkOf,h1] at hg
  cases hg
  exact hne q hq hq' b hg' rfl
 ·rw [qk] at hy
  by_cases hid:i=id
  ·subst hid;exact h.ids i _ hl
  ·rw [za hid] at hy;exact h.ids i y hy
 ·rw [qk] at hl'
  by_cases hid:r=id
  ·subst hid;rw [zb rfl,hl] at hl';cases hl'
  ·rw [za hid] at hl';exact h.out r e sz cnt ep len f hl'
 ·rw [qk] at hl'
  by_cases hid:r=id
  ·subst hid;rw [zb rfl,hl] at hl';cases hl'
  ·rw [za hid] at hl';exact ⟨hl',rfl⟩
theorem jii {E:Env} {B:Nat→ASt→Prop} {k:List Itm} {sl:List (Nat × AV)} (b j:Nat) (e:TypeId) (sz:Nat) {ty:TypeId} {cs:List AV} (hl:look st b=some (.box ty cs)) (hj:cs[j]?=some .nils)
  (h:Ok E B k ⟨sl,(nx,.row [] e sz 0 0 (fun _=>[]))::qz st b (.box ty (cs.set j (.own nx 0 0 0))),nx+1⟩):Ok E B k ⟨sl,st,nx⟩:=by
 intro rd mp a w hs hb hsz
 have hsup:Sup E.c nx:=Sup.std hb.std nx
 obtain ⟨hmp,hmem⟩:=hs.mem.newRow hsup (e:=e) (sz:=sz) (n:=0) (f:=fun _=>[]) (v:=.slice none 0 0) (xs:=[]) (World.grownBy.refl w _) ⟨by simp,.inl ⟨rfl,rfl⟩⟩ (.inl rfl) (fun k hk=>by omega) (fun k j x hk=>by omega)
 have hbn:nx≠b:=by
  rintro rfl
  exact hs.mem.ids _ _ hl hsup.here
 have hl2:look ((nx,SO.row [] e sz 0 0 (fun _=>[]))::st) b=some (.box ty cs):=by
  rw [qq,za hbn];exact hl
 have hm2:=hmem.rebox (cs':=cs.set j (.own nx 0 0 0)) hl2 (by simp) (fun i x y v hx hy hr=>by
  by_cases hi:j=i
  ·subst hi
   rw [List.getElem?_set] at hx
   simp at hx
   obtain ⟨_,rfl⟩:=hx
   rw [hj] at hy;cases hy
   cases hr
   exact qjw rfl
  ·rw [List.getElem?_set_ne hi,hy] at hx
   cases hx
   exact hr)
 have hset:qz ((nx,SO.row [] e sz 0 0 (fun _=>[]))::st) b (.box ty (cs.set j (.own nx 0 0 0)))=(nx,SO.row [] e sz 0 0 (fun _=>[]))::qz st b (.box ty (cs.set j (.own nx 0 0 0))):=by
  have:Nat.beq nx b=false:=by
   cases hb':Nat.beq nx b with
   | false=>rfl
   | true=>exact absurd (zj hb') hbn
  simp only [qz,this,cond_false]
 rw [hset] at hm2
 exact h rd _ a w ⟨fun t=>(hs.slots t).mono (Rd.le.refl _) hmp,hs.defers,hm2⟩ (hb.step (Rd.le.refl _) hmp) hsz
theorem qsx {E:Env} {B:Nat→ASt→Prop} {body:Code} {k:List Itm} {sl:List (Nat × AV)} (b j:Nat) (e:TypeId) (sz:Nat) {ty:TypeId} {cs:List AV} (hl:look st b=some (.box ty cs)) (hj:cs[j]?=some .nils)
  (h:frcN (nx+1) fun nx'=>qao (qz st b (.box ty (cs.set j (.own nx 0 0 0)))) fun st'=>qcf E B body k ⟨sl,(nx,.row [] e sz 0 0 (fun _=>[]))::st',nx'⟩):qcf E B body k ⟨sl,st,nx⟩:=by
 rw [jp,qaz] at h
 unfold qcf at h ⊢
 exact jii b j e sz hl hj h
end
section
variable {c:Ctx} {rd:Rd} {mp:Mp} {st:List (Nat × SO)} {nx:Nat} {w:World}
def Mp.addFam (mp:Mp) (id n:Nat):Mp:=⟨mp.blk,fun r i=>if r=id then (if i<n then some (.slice Option.none 0 0,0,0) else Option.none) else mp.row r i⟩
theorem Mp.le_addFam {id n:Nat} (h:∀ j,mp.row id j=Option.none):Mp.le mp (mp.addFam id n):=
 ⟨fun _ _ h=>h,fun r i v e m hr=>by
  refine ⟨v,e,m,?_,.inr ⟨rfl,.inr ⟨rfl,rfl⟩⟩⟩
  simp only [Mp.addFam]
  by_cases hri:r=id
  ·subst hri;rw [h] at hr;cases hr
  ·rw [za hri];exact hr⟩
theorem Mem.newFam (h:Mem c rd mp st nx w) (hsup:Sup c nx) (e:TypeId) (sz n:Nat) :
  Mem c rd (mp.addFam nx n) ((nx,.fam e sz n (fun _=>0) (fun _=>0) (fun _ _=>[]))::st) (nx+1) w:=by
 have hle:Mp.le mp (mp.addFam nx n):=Mp.le_addFam (h.fresh nx hsup.here).2
 have hkeep:∀ r i,r≠nx→(mp.addFam nx n).row r i=mp.row r i:=fun r i hr=>by simp only [Mp.addFam];rw [za hr]
 have hth:∀ p,There ((nx,SO.fam e sz n (fun _=>0) (fun _=>0) (fun _ _=>[]))::st) p→∀ g,blkOf (mp.addFam nx n) p=some g→There st p∧blkOf mp p=some g:=by
  intro p hp g hg
  cases p with
  | bx b=>
   obtain ⟨ty,cs,hl⟩:=hp
   rw [qq] at hl
   split at hl
   ·cases hl
   ·exact ⟨⟨ty,cs,hl⟩,hg⟩
  | rw r i=>
   obtain ⟨R,hR⟩:=hp
   by_cases hr:nx=r
   ·subst hr
    exfalso
    simp only [blkOf,Mp.addFam,zb] at hg
    by_cases hi:i<n
    ·rw [zb hi] at hg;simp [Value.ownBlock] at hg
    ·rw [za hi] at hg;cases hg
   ·refine ⟨⟨R,qnr hR hr⟩,?_⟩
    simp only [blkOf] at hg ⊢
    rwa [hkeep r i (Ne.symm hr)] at hg
 refine ⟨h.rdw,h.rd1,h.rdn,h.fr,fun b ty cs hl=>?_,fun r i R hR=>?_,fun p q g hp hq hgp hgq=>?_,fun i hi=>?_,fun i x hx=>?_,fun r e' sz' cnt ep len f hl i hi=>?_,fun r sz' ep n' f hl=>?_,h.tab⟩
 ·rw [qq] at hl
  split at hl
  ·cases hl
  ·exact (h.bx b ty cs hl).keep (Rd.le.refl _) hle (fun g hg=>⟨rfl,(h.home (p:=.bx b) ⟨ty,cs,hl⟩ hg).2.1⟩)
 ·by_cases hr:nx=r
  ·subst hr
   cases hR with
   | row hl=>rw [qq,zb rfl] at hl;cases hl
   | fam hl hi=>
    rw [qq,zb rfl] at hl
    cases hl
    refine ⟨.slice none 0 0,[],?_,⟨by simp,.inl ⟨rfl,rfl⟩⟩,fun k hk=>absurd hk (zv k),fun k j x hk=>absurd hk (zv k),fun g hg=>by simp [Value.ownBlock] at hg⟩
    simp only [Mp.addFam,zb,zb hi]
  ·have hR':=qnr hR hr
   exact (h.mb r i R hR').keep (Rd.le.refl _) hle (hkeep r i (Ne.symm hr)) (fun g hg=>⟨rfl,(h.home (p:=.rw r i) ⟨R,hR'⟩ hg).2.1⟩)
 ·obtain ⟨hp',hg1⟩:=hth p hp g hgp
  obtain ⟨hq',hg2⟩:=hth q hq g hgq
  exact h.inj p q g hp' hq' hg1 hg2
 ·obtain ⟨h1,h2⟩:=hsup.next i hi
  have:=h.fresh i h1
  exact ⟨this.1,fun j=>by rw [hkeep i j h2];exact this.2 j⟩
 ·rw [qq] at hx
  by_cases hi:nx=i
  ·subst hi;exact fun hf=>(hsup.next _ hf).2 rfl
  ·rw [za hi] at hx;exact fun hf=>h.ids _ _ hx (hsup.next _ hf).1
 ·rw [qq] at hl
  by_cases hr:nx=r
  ·subst hr
   rw [zb rfl] at hl
   cases hl
   simp only [Mp.addFam,zb]
   rw [za (by omega)]
  ·rw [za hr] at hl
   rw [hkeep r i (Ne.symm hr)]
   exact h.out r e' sz' cnt ep len f hl i hi
 ·rw [qq] at hl
  by_cases hr:nx=r
  ·rw [zb hr] at hl;cases hl
  ·rw [za hr] at hl
   obtain ⟨v,h1,h2⟩:=h.ro r sz' ep n' f hl
   exact ⟨v,by rw [hkeep r 0 (Ne.symm hr)];exact h1,h2⟩
theorem qsy {id:Nat} {o:SO} {r i:Nat} {R:RowV} (hr:r≠id) (h:IsMem (qz st id o) r i R):IsMem st r i R:=by
 cases h with
 | row hl=>rw [qk,za hr] at hl;exact .row hl
 | fam hl hi=>rw [qk,za hr] at hl;exact .fam hl hi
theorem Mem.rerow (h:Mem c rd mp st nx w) {id:Nat} {ids ids':List Nat} {e:TypeId} {sz ep n:Nat} {f f':Nat→List AV} (hl:look st id=some (.row ids e sz ep n f)) (hlen:∀ k,k<n→(f' k).length=sz)
  (hrel:∀ (k j:Nat) x y v,k<n→(f' k)[j]?=some x→(f k)[j]?=some y→Rel rd (mp.sel ids) y v→Rel rd (mp.sel ids') x v):Mem c rd mp (qz st id (.row ids' e sz ep n f')) nx w:=by
 obtain ⟨v,xs,h1,h2,h3,h4,h5⟩:=h.mb id 0 _ (.row hl)
 simp only at h1 h2 h3 h4 h5
 refine h.upd (some (.rw id 0)) (Rd.le.refl _) (Mp.le.refl _) h.fr h.rdw h.rd1 h.rdn (fun b' ty' cs' hl' hne'=>?_) (fun r i R hR hne=>?_)
  (fun p hp hp'=>⟨by cases p <;> rfl,fun g hg=>⟨rfl,(h.home hp hg).2.1⟩⟩) (fun b' ty' cs'' ht hl'=>by cases ht) (fun r i R ht hR=>?_)
  (fun p g ht hp hg q hq hq' hg'=>?_) h.fresh (fun i y hy=>?_) (fun r e' sz' cnt ep' len f'' hl'=>?_) (fun r sz' ep' n' f'' hl'=>?_)
 ·rw [qk] at hl'
  by_cases hb:b'=id
  ·rw [zb hb,hb,hl] at hl';cases hl'
  ·rw [za hb] at hl';exact hl'
 ·by_cases hr:r=id
  ·subst hr
   cases hR with
   | row hl'=>exact absurd rfl hne
   | fam hl' _=>rw [qk,zb rfl,hl] at hl';cases hl'
  ·exact qsy hr hR
 ·simp only [Option.some.injEq,Pl.rw.injEq] at ht
  obtain ⟨rfl,rfl⟩:=ht
  cases hR with
  | row hl'=>
   rw [qk,zb rfl,hl] at hl'
   cases hl'
   refine ⟨v,xs,h1,h2,hlen,fun k j x hk hx=>?_,h5⟩
   simp only at hk hx ⊢
   have hj:j<(f k).length:=by rw [h3 k hk,← hlen k hk];exact (List.getElem?_eq_some_iff.1 hx).1
   obtain ⟨u,hu,h6,h7⟩:=h4 k j _ hk (ze hj)
   exact ⟨u,hu,h6,hrel k j x _ u hk hx (ze hj) h7⟩
  | fam hl' _=>rw [qk,zb rfl,hl] at hl';cases hl'
 ·cases ht
  exact absurd (congrArg some (h.inj q (.rw id 0) g hq ⟨_,.row hl⟩ hg' hg)) hq'
 ·rw [qk] at hy
  by_cases hid:i=id
  ·subst hid;exact h.ids i _ hl
  ·rw [za hid] at hy;exact h.ids i y hy
 ·rw [qk] at hl'
  by_cases hid:r=id
  ·subst hid;rw [zb rfl,hl] at hl';cases hl'
  ·rw [za hid] at hl';exact h.out r e' sz' cnt ep' len f'' hl'
 ·rw [qk] at hl'
  by_cases hid:r=id
  ·subst hid;rw [zb rfl,hl] at hl';cases hl'
  ·rw [za hid] at hl';exact ⟨hl',rfl⟩
def Turn (E:Env) (s s':ASt):Prop:=∀ rd mp a w,SR E.c rd mp s a w→Base E rd mp→∃ mp',SR E.c rd mp' s' a w∧Base E rd mp'
theorem Turn.trans {E:Env} {s s' s'':ASt} (h:Turn E s s') (k:Turn E s' s''):Turn E s s'':=fun rd mp a w h1 h2=>by
 obtain ⟨mp',h3,h4⟩:=h rd mp a w h1 h2
 exact k rd mp' a w h3 h4
theorem qyl {E:Env} {B:Nat→ASt→Prop} {body:Code} {k:List Itm} {s s':ASt} (ht:Turn E s s') (h:qcf E B body k s'):qcf E B body k s:=by
 unfold qcf at h ⊢
 intro rd mp a w hs hb hsz
 obtain ⟨mp',h1,h2⟩:=ht rd mp a w hs hb
 exact h rd mp' a w h1 h2 hsz
theorem Turn.nils {E:Env} {sl:List (Nat × AV)} (id:Nat) (e':TypeId) (sz':Nat) {e:TypeId} {ep n:Nat} {f:Nat→List AV} (hl:look st id=some (.row [] e 1 ep n f)) (hf:∀ k,k<n→f k=[.nils]) :
  Turn E ⟨sl,st,nx⟩ ⟨sl,(nx,.fam e' sz' n (fun _=>0) (fun _=>0) (fun _ _=>[]))::qz st id (.row [nx] e 1 ep n (fun k=>[.own nx k 0 0])),nx+1⟩:=by
 intro rd mp a w hs hb
 have hsup:Sup E.c nx:=Sup.std hb.std nx
 have hfr:=hs.mem.fresh nx hsup.here
 have hmem:=hs.mem.newFam hsup e' sz' n
 have hle:Mp.le mp (mp.addFam nx n):=Mp.le_addFam hfr.2
 have hbn:nx≠id:=by rintro rfl;exact hs.mem.ids _ _ hl hsup.here
 have hl2:look ((nx,SO.fam e' sz' n (fun _=>0) (fun _=>0) (fun _ _=>[]))::st) id=some (.row [] e 1 ep n f):=by rw [qq,za hbn];exact hl
 have hm2:=hmem.rerow (ids':=[nx]) (f':=fun k=>[.own nx k 0 0]) hl2 (fun _ _=>rfl) (fun k j x y v hk hx hy hr=>by
  rw [hf k hk] at hy
  cases j with
  | succ j=>simp at hy
  | zero=>
   simp only [List.getElem?_cons_zero,Option.some.injEq] at hx hy
   subst hx hy
   cases hr
   exact .own _ _ _ _ _ _ (.slice none 0 0) 0 0 (by simp only [Mp.sel,xm,zb,Mp.addFam,zb hk]) (zi _) (fun _=>zi _) (fun _ _=>rfl) rfl)
 have hset:∀ o,qz ((nx,SO.fam e' sz' n (fun _=>0) (fun _=>0) (fun _ _=>[]))::st) id o=(nx,SO.fam e' sz' n (fun _=>0) (fun _=>0) (fun _ _=>[]))::qz st id o:=fun o=>by
  have:Nat.beq nx id=false:=by
   cases hb':Nat.beq nx id with
   | false=>rfl
   | true=>exact absurd (zj hb') hbn
  simp only [qz,this,cond_false]
 rw [hset] at hm2
 exact ⟨_,⟨fun t=>(hs.slots t).mono (Rd.le.refl _) hle,hs.defers,hm2⟩,hb.step (Rd.le.refl _) hle⟩
end
def qmp:List (Nat × SO)→Bool
 | []=>true
 | (_,.row ids _ _ _ _ _)::r=>ids.isEmpty && qmp r
 | _::r=>qmp r
theorem qb {n:Nat}:∀ {st:List (Nat × SO)},qmp st=true→rowsLt n st
 | [],_=>fun j ids e sz ep m f hl=>by simp [look] at hl
 | (i,o)::r,h=>fun j ids e sz ep m f hl hne=>by
  rw [qq] at hl
  by_cases hi:i=j
  ·rw [zb hi] at hl
   cases hl
   simp only [qmp,zf,List.isEmpty_iff] at h
   exact absurd h.1 hne
  ·rw [za hi] at hl
   refine qb (st:=r) ?_ j ids e sz ep m f hl hne
   cases o <;> simp only [qmp,zf] at h <;> first|exact h.2|exact h
theorem qsz {e:TypeId} {sz cnt:Nat} {ep ep' len len':Nat→Nat} {f f':Nat→Nat→List AV} (he:∀ k,k<cnt→ep k=ep' k) (hl:∀ k,k<cnt→len k=len' k) (h:∀ k j,k<cnt→j<len k→f k j=f' k j):SoLe (.fam e sz cnt ep len f) (.fam e sz cnt ep' len' f'):=
 ⟨⟨rfl,rfl⟩,rfl,fun k hk=>⟨he k hk,hl k hk⟩,fun k j hk hj=>LeL.of_eq (h k j hk hj)⟩
def qta:List Oper→List Nat
 | []=>[]
 | ⟨some d,_,_,_,_,_⟩::r=>d::qta r
 | ⟨none,_,_,_,_,_⟩::r=>qta r
def qeh:Code→List Nat
 | .region _ ops _=>qta ops.toList
 | .seq a b=>qeh a++qeh b
 | .cond _ a b=>qeh a++qeh b
 | .block _ b=>qeh b
 | .loop b=>qeh b
 | .scope b=>qeh b
 | _=>[]
def qpe:List Operand→List Nat→List Nat
 | [],acc=>acc
 | .tmp t::r,acc=>t::qpe r acc
 | _::r,acc=>qpe r acc
def qtb:List Oper→List Nat→List Nat
 | [],acc=>acc
 | o::r,acc=>qpe o.op.operands.toList (qtb r acc)
def rdOf:Code→List Nat→List Nat
 | .region _ ops _,acc=>qtb ops.toList acc
 | .seq a b,acc=>rdOf a (rdOf b acc)
 | .cond o a b,acc=>qpe [o] (rdOf a (rdOf b acc))
 | .block _ b,acc=>rdOf b acc
 | .loop b,acc=>rdOf b acc
 | .scope b,acc=>rdOf b acc
 | _,acc=>acc
def qhk:List Itm→List Nat→List Nat
 | [],acc=>acc
 | .code c::k,acc=>rdOf c (qhk k acc)
 | .ops _ l::k,acc=>qtb l (qhk k acc)
 | _::k,acc=>qhk k acc
def qit:List ResultVar→List Nat
 | []=>[]
 | .tmp t::r=>t::qit r
 | .cell t _::r=>t::qit r
def inB:List Nat→Nat→Bool
 | [],_=>false
 | x::r,t=>bif Nat.beq x t then true else inB r t
def qhl (asg live:List Nat):List (Nat × AV)→List Nat→List Nat
 | [],_=>[]
 | (t,_)::r,seen=>bif inB seen t then qhl asg live r seen else bif inB asg t || !inB live t then qhl asg live r (t::seen) else t::qhl asg live r (t::seen)
def qiu (turn:List (Nat × SO)):List (Nat × SO)→List Nat
 | []=>[]
 | (i,_)::r=>bif inB (turn.map (·.1)) i then qiu turn r else i::qiu turn r
theorem qbb {sl:List (Nat × AV)} {st:List (Nat × SO)} {nx:Nat} {E:Env} {B:Nat→ASt→Prop} {body:Code} {k:List Itm} (hT:∀ t,E.T t=tab E.P t) (n lvl:Nat) {G:Type} (ov:G→List (Nat × AV)) (so:G→List (Nat × SO)) (φ:G→Prop) (μ:G→Nat)
  (g0:G) (h0:φ g0) (hs0:SubSl ⟨sl,st,nx⟩ (ov g0)) (ht0:SubSt st (so g0)) (hcl:∀ g,(ASt.mk (ov g++kept sl (qhl (qeh body++(ov g0).map (·.1)) (rdOf body (qhk k (qit E.fn.results.toList))) sl [])) (so g++qae st (qiu (so g0) st)) nx).closed E.nxb=true) (hmk:qhg lvl k=true)
  (round:qkp sl (qhl (qeh body++(ov g0).map (·.1)) (rdOf body (qhk k (qit E.fn.results.toList))) sl []) fun kl=>qao (qae st (qiu (so g0) st)) fun ks=>∀ g,φ g→exec E (fun m s'=>bif Nat.beq m lvl then ∃ g',φ g'∧(SubSl s' (ov g')∧SubSt s'.st (so g'))∧(SubSl s' kl∧SubSt s'.st ks)∧μ g' < μ g else B m s') n (.code body::.mark lvl::k) ⟨ov g++kl,so g++ks,nx⟩):qcf E B body k ⟨sl,st,nx⟩:=
 jih hT n lvl _ _ ov so φ μ g0 h0 hs0 ht0 hcl hmk round
def CallX {α:Type} (p q:α→Prop):Prop:=∃ x,p x∧q x
theorem CallX.intro {α:Type} {p q:α→Prop} (x:α) (h:p x) (k:q x):CallX p q:=⟨x,h,k⟩
theorem CallX.ex {α:Type} {p q:α→Prop} (h:CallX p q):∃ x,p x∧q x:=h
def OrdG (b:Bool):Prop:=b=true
theorem OrdG.intro {b:Bool} (h:b=true):OrdG b:=h
theorem OrdG.is {b:Bool} (h:OrdG b):b=true:=h
theorem cj_iff {ob:Option DP} {r:Prop}:cj ob r↔obT ob∧r:=by
 cases ob with
 | none=>simp [cj,obT]
 | some d=>exact ⟨fun h=>⟨Ob.left h,Ob.right h⟩,fun h=>Ob.intro h.1 h.2⟩
def DX (E:Env) (B:Nat→ASt→Prop) (n:Nat) (k:List Itm) (full:Array Oper) (ord:List AV→Bool):List Oper→List AV→ASt→Prop
 | [],acc,s=>Ob (OrdG (ord acc)) (exec E B n k s)
 | ⟨dst,op,_,_,_,guard⟩::rest,acc,⟨sl,st,nx⟩=>
  match jm E dst with
  | false=>False
  | true=>
   match guard with
   | none=>
    match aop E.T E.C ⟨sl,st,nx⟩ dst op with
    | .ok ob v=>bif jg op then False else cj ob (frc v (je sl dst (fun sl'=>DX E B n k full ord rest acc ⟨sl',st,nx⟩)))
    | .mem ob v st' nx'=>bif jg op then False else cj ob (frcN nx' fun nx'=>qao st' fun st'=>frc v (je sl dst (fun sl'=>DX E B n k full ord rest acc ⟨sl',st',nx'⟩)))
    | .call f args=>bif jg op then (frcL args fun args=>CallX (qcu E.P f args) fun x=>je sl dst (fun sl'=>DX E B n k full ord rest (acc++[x]) ⟨sl',st,nx⟩) x) else False
    | .bad=>False
   | some (j,want)=>
    match (qbi full j).map (ASt.get ⟨sl,st,nx⟩) with
    | some x=>
     match qcs want x with
     | some g=>
      match aop E.T E.C ⟨sl,st,nx⟩ dst op with
      | .ok ob v=>bif jg op then False else cj (gob g (andO (jh st v) ob)) (frc (strip st v) (fun v'=>je sl dst (fun sl'=>DX E B n k full ord rest acc ⟨sl',st,nx⟩) (.cnd g v')))
      | .call f args=>bif jg op then (frcL args fun args=>CallX (fun x=>g=true→qcu E.P f args x) fun x=>je sl dst (fun sl'=>DX E B n k full ord rest (acc++[x]) ⟨sl',st,nx⟩) (.cnd g x)) else False
      | _=>False
     | none=>False
    | none=>False
theorem jij {E:Env} {B:Nat→ASt→Prop} {n:Nat} {k:List Itm} {full:Array Oper} {ord:List AV→Bool}:∀ (l:List Oper) (acc:List AV) (s:ASt),DX E B n k full ord l acc s→
  ∃ cs,ord (acc++cs)=true∧qdh E B n k full l cs s:=by
 intro l
 induction l with
 | nil=>intro acc s h;exact ⟨[],by rw [zaq];exact (Ob.left h).is,Ob.right h⟩
 | cons o rest ih=>
  intro acc s h
  obtain ⟨dst,op,ty,pos,aft,guard⟩:=o
  obtain ⟨sl,st,nx⟩:=s
  simp only [DX] at h
  cases hd:jm E dst with
  | false=>simp only [hd] at h
  | true=>
   simp only [hd] at h
   cases guard with
   | none=>
    simp only at h
    cases hr:aop E.T E.C ⟨sl,st,nx⟩ dst op with
    | bad=>simp only [hr] at h
    | ok ob v=>
     simp only [hr] at h
     cases hc:jg op with
     | true=>simp only [hc,cond_true] at h
     | false=>
      simp only [hc,cond_false,ju,jd] at h
      obtain ⟨hob,hk⟩:=cj_iff.1 h
      obtain ⟨cs,h1,h2⟩:=ih _ _ hk
      exact ⟨cs,h1,by simp only [qdh,hd,hr,hc,cond_false,ju,jd];exact cj_iff.2 ⟨hob,h2⟩⟩
    | mem ob v st' nx'=>
     simp only [hr] at h
     cases hc:jg op with
     | true=>simp only [hc,cond_true] at h
     | false=>
      simp only [hc,cond_false,jp,qaz,ju,jd] at h
      obtain ⟨hob,hk⟩:=cj_iff.1 h
      obtain ⟨cs,h1,h2⟩:=ih _ _ hk
      exact ⟨cs,h1,by simp only [qdh,hd,hr,hc,cond_false,jp,qaz,ju,jd];exact cj_iff.2 ⟨hob,h2⟩⟩
    | call f args=>
     simp only [hr] at h
     cases hc:jg op with
     | false=>simp only [hc,cond_false] at h
     | true=>
      simp only [hc,cond_true,qcg] at h
      obtain ⟨x,hx,hk⟩:=h.ex
      simp only [jd] at hk
      obtain ⟨cs,h1,h2⟩:=ih _ _ hk
      exact ⟨x::cs,by rw [xj] at h1;exact h1,by simp only [qdh,hd,hr,hc,qcg,jd];exact Ob.intro hx h2⟩
   | some jw=>
    obtain ⟨j,want⟩:=jw
    simp only at h
    cases hy:(qbi full j).map (ASt.get ⟨sl,st,nx⟩) with
    | none=>simp only [hy] at h
    | some y=>
     simp only [hy] at h
     cases hg:qcs want y with
     | none=>simp only [hg] at h
     | some g=>
      simp only [hg] at h
      cases hr:aop E.T E.C ⟨sl,st,nx⟩ dst op with
      | bad=>simp only [hr] at h
      | mem=>simp only [hr] at h
      | ok ob v=>
       simp only [hr] at h
       cases hc:jg op with
       | true=>simp only [hc,cond_true] at h
       | false=>
        simp only [hc,cond_false,ju,jd] at h
        obtain ⟨hob,hk⟩:=cj_iff.1 h
        obtain ⟨cs,h1,h2⟩:=ih _ _ hk
        exact ⟨cs,h1,by simp only [qdh,hd,hy,hg,hr,hc,cond_false,ju,jd];exact cj_iff.2 ⟨hob,h2⟩⟩
      | call f args=>
       simp only [hr] at h
       cases hc:jg op with
       | false=>simp only [hc,cond_false] at h
       | true=>
        simp only [hc,cond_true,qcg] at h
        obtain ⟨x,hx,hk⟩:=h.ex
        simp only [jd] at hk
        obtain ⟨cs,h1,h2⟩:=ih _ _ hk
        exact ⟨x::cs,by rw [xj] at h1;exact h1,by simp only [qdh,hd,hy,hg,hr,hc,qcg,jd];exact Ob.intro hx h2⟩
theorem jik {E:Env} {B:Nat→ASt→Prop} {id:Nat} {ops:Array Oper} {k:List Itm} {s:ASt} (hT:∀ t,E.T t=tab E.P t) (hmix:E.P.follows .mixedOrders=true) (n:Nat)
  (h:DX E B n k ops (fun cs=>match drun E ops ops.toList cs s with|some L=>qij ops L|none=>true) ops.toList [] s):qby E B id ops k s:=by
 obtain ⟨cs,h1,h2⟩:=jij _ _ _ h
 exact jfk hT hmix n cs h1 h2
def D3X (E:Env) (B:Nat→ASt→Prop) (n:Nat) (k:List Itm) (full:Array Oper) (ord:List C3→Bool):List Oper→List C3→ASt→Prop
 | [],acc,s=>Ob (OrdG (ord acc)) (exec E B n k s)
 | ⟨dst,op,_,_,_,guard⟩::rest,acc,⟨sl,st,nx⟩=>
  match jm E dst with
  | false=>False
  | true=>
   match guard with
   | none=>
    match aop E.T E.C ⟨sl,st,nx⟩ dst op with
    | .ok ob v=>bif jg op then False else cj ob (frcN (nx+1) fun nx=>frc v (je sl dst (fun sl'=>D3X E B n k full ord rest acc ⟨sl',st,nx⟩)))
    | .mem ob v st' _=>bif jg op then False else cj ob (frcN (nx+1) fun nx'=>qao st' fun st'=>frc v (je sl dst (fun sl'=>D3X E B n k full ord rest acc ⟨sl',st',nx'⟩)))
    | .call f args=>bif jg op then (frcL args fun args=>CallX (qcu E.P f args) fun x=>frcN (nx+1) fun nx=>je sl dst (fun sl'=>D3X E B n k full ord rest (acc++[.con x]) ⟨sl',st,nx⟩) x) else False
    | .bad=>False
   | some (j,want)=>
    match (qbi full j).map (ASt.get ⟨sl,st,nx⟩) with
    | some x=>
     match qcs want x with
     | some g=>
      match aop E.T E.C ⟨sl,st,nx⟩ dst op with
      | .ok ob v=>bif jg op then False else cj (gob g (andO (jh st v) ob)) (frcN (nx+1) fun nx=>frc (strip st v) (fun v'=>je sl dst (fun sl'=>D3X E B n k full ord rest acc ⟨sl',st,nx⟩) (.cnd g v')))
      | .call f args=>bif jg op then (frcL args fun args=>CallX (fun x=>g=true→qcu E.P f args x) fun x=>frcN (nx+1) fun nx=>je sl dst (fun sl'=>D3X E B n k full ord rest (acc++[.con x]) ⟨sl',st,nx⟩) (.cnd g x)) else False
      | _=>False
     | none=>False
    | none=>False
theorem qym {E:Env} {B:Nat→ASt→Prop} {n:Nat} {k:List Itm} {full:Array Oper} {ord:List C3→Bool}:∀ (l:List Oper) (acc:List C3) (s:ASt),D3X E B n k full ord l acc s→
  ∃ cs,ord (acc++cs)=true∧qda E B n k full l cs s:=by
 intro l
 induction l with
 | nil=>intro acc s h;exact ⟨[],by rw [zaq];exact (Ob.left h).is,Ob.right h⟩
 | cons o rest ih=>
  intro acc s h
  obtain ⟨dst,op,ty,pos,aft,guard⟩:=o
  obtain ⟨sl,st,nx⟩:=s
  simp only [D3X] at h
  cases hd:jm E dst with
  | false=>simp only [hd] at h
  | true=>
   simp only [hd] at h
   cases guard with
   | none=>
    simp only at h
    cases hr:aop E.T E.C ⟨sl,st,nx⟩ dst op with
    | bad=>simp only [hr] at h
    | ok ob v=>
     simp only [hr] at h
     cases hc:jg op with
     | true=>simp only [hc,cond_true] at h
     | false=>
      simp only [hc,cond_false,jp,ju,jd] at h
      obtain ⟨hob,hk⟩:=cj_iff.1 h
      obtain ⟨cs,h1,h2⟩:=ih _ _ hk
      exact ⟨cs,h1,by simp only [qda,hd,hr,hc,cond_false,jp,ju,jd];exact cj_iff.2 ⟨hob,h2⟩⟩
    | mem ob v st' nx'=>
     simp only [hr] at h
     cases hc:jg op with
     | true=>simp only [hc,cond_true] at h
     | false=>
      simp only [hc,cond_false,jp,qaz,ju,jd] at h
      obtain ⟨hob,hk⟩:=cj_iff.1 h
      obtain ⟨cs,h1,h2⟩:=ih _ _ hk
      exact ⟨cs,h1,by simp only [qda,hd,hr,hc,cond_false,jp,qaz,ju,jd];exact cj_iff.2 ⟨hob,h2⟩⟩
    | call f args=>
     simp only [hr] at h
     cases hc:jg op with
     | false=>simp only [hc,cond_false] at h
     | true=>
      simp only [hc,cond_true,qcg] at h
      obtain ⟨x,hx,hk⟩:=h.ex
      simp only [jp,jd] at hk
      obtain ⟨cs,h1,h2⟩:=ih _ _ hk
      exact ⟨.con x::cs,by rw [xj] at h1;exact h1,by simp only [qda,hd,hr,hc,qcg,jp,jd];exact Ob.intro hx h2⟩
   | some jw=>
    obtain ⟨j,want⟩:=jw
    simp only at h
    cases hy:(qbi full j).map (ASt.get ⟨sl,st,nx⟩) with
    | none=>simp only [hy] at h
    | some y=>
     simp only [hy] at h
     cases hg:qcs want y with
     | none=>simp only [hg] at h
     | some g=>
      simp only [hg] at h
      cases hr:aop E.T E.C ⟨sl,st,nx⟩ dst op with
      | bad=>simp only [hr] at h
      | mem=>simp only [hr] at h
      | ok ob v=>
       simp only [hr] at h
       cases hc:jg op with
       | true=>simp only [hc,cond_true] at h
       | false=>
        simp only [hc,cond_false,jp,ju,jd] at h
        obtain ⟨hob,hk⟩:=cj_iff.1 h
        obtain ⟨cs,h1,h2⟩:=ih _ _ hk
        exact ⟨cs,h1,by simp only [qda,hd,hy,hg,hr,hc,cond_false,jp,ju,jd];exact cj_iff.2 ⟨hob,h2⟩⟩
      | call f args=>
       simp only [hr] at h
       cases hc:jg op with
       | false=>simp only [hc,cond_false] at h
       | true=>
        simp only [hc,cond_true,qcg] at h
        obtain ⟨x,hx,hk⟩:=h.ex
        simp only [jp,jd] at hk
        obtain ⟨cs,h1,h2⟩:=ih _ _ hk
        exact ⟨.con x::cs,by rw [xj] at h1;exact h1,by simp only [qda,hd,hy,hg,hr,hc,qcg,jp,jd];exact Ob.intro hx h2⟩
theorem qyn {E:Env} {B:Nat→ASt→Prop} {id:Nat} {ops:Array Oper} {k:List Itm} {s:ASt} (hT:∀ t,E.T t=tab E.P t) (hmix:E.P.follows .mixedOrders=true) (n:Nat)
  (h:D3X E B n k ops (fun cs=>match qaq E ops ops.toList cs s with|some (L,_)=>qez ops L|none=>false) ops.toList [] s):qby E B id ops k s:=by
 obtain ⟨cs,h1,h2⟩:=qym _ _ _ h
 exact draw3 hT hmix n cs h1 h2
theorem jil {P:Program} {f:FuncId} {args:List AV} {res:AV} {g:Bool} (h:g=true→Con P f (args.map unc) res) (hg:qil g args) (hp:(args.map unc).all AV.pure=true):g=true→qcu P f args res:=fun e=>⟨args.map unc,h e,hp,qoj e _ hg⟩
attribute [irreducible] CallX OrdG
section
variable {c:Ctx} {rd:Rd} {mp:Mp} {st:List (Nat × SO)} {nx:Nat} {w:World}
theorem qfw {o:SO} {i:Nat}:∀ {ks:List Nat},look (qae st ks) i=some o→look st i=some o∧i∈ks
 | [],h=>by simp [qae,look] at h
 | k::ks,h=>by
  unfold qae at h
  cases hk:look st k with
  | none=>rw [hk] at h;obtain ⟨h1,h2⟩:=qfw (ks:=ks) h;exact ⟨h1,xu _ h2⟩
  | some y=>
   rw [hk] at h
   simp only [qq] at h
   by_cases hki:k=i
   ·rw [zb hki] at h;cases h;subst hki;exact ⟨hk,xz ..⟩
   ·rw [za hki] at h;obtain ⟨h1,h2⟩:=qfw (ks:=ks) h;exact ⟨h1,xu _ h2⟩
def qtc:Pl→Nat
 | .bx b=>b
 | .rw r _=>r
theorem There.kept {ks:List Nat} {p:Pl} (h:There (qae st ks) p):There st p∧qtc p∈ks:=by
 cases p with
 | bx b=>obtain ⟨ty,cs,hl⟩:=h;exact ⟨⟨ty,cs,(qfw hl).1⟩,(qfw hl).2⟩
 | rw r i=>
  obtain ⟨R,hR⟩:=h
  cases hR with
  | row hl=>exact ⟨⟨_,.row (qfw hl).1⟩,(qfw hl).2⟩
  | fam hl hi=>exact ⟨⟨_,.fam (qfw hl).1 hi⟩,(qfw hl).2⟩
theorem There.dropped {ks:List Nat} {p:Pl} (h:There (qu ks st) p):There st p∧qtc p ∉ ks:=by
 have key:∀ i x,look (qu ks st) i=some x→look st i=some x∧i ∉ ks:=fun i x hx=>by
  rw [qgm] at hx
  by_cases hi:i∈ks
  ·rw [zb hi] at hx;cases hx
  ·rw [za hi] at hx;exact ⟨hx,hi⟩
 cases p with
 | bx b=>obtain ⟨ty,cs,hl⟩:=h;exact ⟨⟨ty,cs,(key _ _ hl).1⟩,(key _ _ hl).2⟩
 | rw r i=>
  obtain ⟨R,hR⟩:=h
  cases hR with
  | row hl=>exact ⟨⟨_,.row (key _ _ hl).1⟩,(key _ _ hl).2⟩
  | fam hl hi=>exact ⟨⟨_,.fam (key _ _ hl).1 hi⟩,(key _ _ hl).2⟩
theorem Mem.dropped (hm:Mem c rd mp st nx w) (ks:List Nat):Mem c rd mp (qu ks st) nx w:=hm.forget fun i x hx=>by
 rw [qgm] at hx
 split at hx
 ·cases hx
 ·exact hx
theorem Mem.freeze (hm:Mem c rd mp st nx w) (ks:List Nat):Mem c (frzRd rd mp (qu ks st) w) mp (qae st ks) nx w:=by
 have hd:=hm.dropped ks
 have hr:=qrt hd
 have hk:Mem c rd mp (qae st ks) nx w:=hm.forget fun i x hx=>(qfw hx).1
 have apart:∀ p g,There (qae st ks) p→blkOf mp p=some g→∀ o,frzRd rd mp (qu ks st) w g o=none:=by
  intro p g hp hg o
  cases ho:frzRd rd mp (qu ks st) w g o with
  | none=>rfl
  | some u=>
   exfalso
   rcases qih ho with h|⟨_,_,q,hq,hgq⟩
   ·rw [(hk.home hp hg).2.1 o] at h;cases h
   ·have e:=hm.inj p q g hp.kept.1 hq.dropped.1 hg hgq
    exact hq.dropped.2 (e ▸ hp.kept.2)
 refine ⟨hr.1,hr.2,fun g o v h=>?_,hm.fr,fun b ty cs hl=>?_,fun r i R hR=>?_,hk.inj,hk.fresh,hk.ids,hk.out,fun r sz ep n f hl=>?_,hm.tab.1,hm.tab.2.trans qct⟩
 ·rcases qih h with h|⟨_,_,p,hp,hg⟩
  ·exact hm.rdn g o v h
  ·exact .inr (hd.home hp hg).2.2
 ·exact (hk.bx b ty cs hl).keep qct (Mp.le.refl _) (fun g hg=>⟨rfl,apart (.bx b) g ⟨ty,cs,hl⟩ hg⟩)
 ·exact (hk.mb r i R hR).keep qct (Mp.le.refl _) rfl (fun g hg=>⟨rfl,apart (.rw r i) g ⟨R,hR⟩ hg⟩)
 ·obtain ⟨v,h1,h2⟩:=hk.ro r sz ep n f hl
  exact ⟨v,h1,h2.mono qct (Mp.le.refl _)⟩
def frz1 (ks:List Nat) (st:List (Nat × SO)):AV→AV
 | .own r i e n=>bif inB ks r then .own r i e n else frzC st 4 (.own r i e n)
 | .ptr b o=>bif inB ks b then .ptr b o else frzC st 4 (.ptr b o)
 | x=>frzC st 4 x
def qkq (ks:List Nat) (st:List (Nat × SO)):AV→Prop
 | .own r i e n=>bif inB ks r then True else qcm st 4 (.own r i e n)
 | .ptr b o=>bif inB ks b then True else qcm st 4 (.ptr b o)
 | x=>qcm st 4 x
def qtd (ks:List Nat) (st:List (Nat × SO)):AV→AV
 | .agg cs=>.agg (cs.map (frz1 ks st))
 | .cnd b x=>.cnd b (frz1 ks st x)
 | x=>frz1 ks st x
def qte (ks:List Nat) (st:List (Nat × SO)):AV→Prop
 | .agg cs=>allP (qkq ks st) cs
 | .cnd b x=>b=true→qkq ks st x
 | x=>qkq ks st x
def frzX (ks:List Nat) (st:List (Nat × SO)):AV→AV
 | .tup vs=>.tup (vs.map (qtd ks st))
 | x=>qtd ks st x
def qpf (ks:List Nat) (st:List (Nat × SO)):AV→Prop
 | .tup vs=>allP (qte ks st) vs
 | x=>qte ks st x
theorem qtf (hm:Mem c rd mp st nx w) (ks:List Nat) (x:AV) (v:Value) (hok:qkq ks st x) (h:Rel rd mp x v):Rel (frzRd rd mp st w) mp (frz1 ks st x) v:=by
 have key:qcm st 4 x→Rel (frzRd rd mp st w) mp (frzC st 4 x) v:=fun hk=>(qlz hm 4 x v hk h).mono (Rd.le.refl _) (Mp.none_le _)
 cases x with
 | own r i e n=>
  simp only [frz1,qkq] at hok ⊢
  cases hi:inB ks r with
  | true=>simp only [cond_true];exact h.mono qct (Mp.le.refl _)
  | false=>rw [hi] at hok;exact key hok
 | ptr b o=>
  simp only [frz1,qkq] at hok ⊢
  cases hi:inB ks b with
  | true=>simp only [cond_true];exact h.mono qct (Mp.le.refl _)
  | false=>rw [hi] at hok;exact key hok
 | _=>exact key hok
theorem qyo (hm:Mem c rd mp st nx w) (ks:List Nat) (x:AV) (v:Value) (hok:qte ks st x) (h:Rel rd mp x v):Rel (frzRd rd mp st w) mp (qtd ks st x) v:=by
 cases x with
 | agg cs=>
  cases h with
  | agg _ _ vs hs he=>
   refine .agg _ _ _ (by rw [hs,zu]) (fun j y u hy hu=>?_)
   rw [zg] at hy
   obtain ⟨z,hz,rfl⟩:=Option.map_eq_some_iff.1 hy
   exact qtf hm ks z u (qee hok j z hz) (he j z u hz hu)
 | cnd b av=>
  cases h with
  | cnd _ _ _ _ k k0=>exact .cnd _ _ _ _ (fun hb=>qtf hm ks av v (hok hb) (k hb)) k0
 | _=>exact qtf hm ks _ v (by exact hok) h
theorem qyp (hm:Mem c rd mp st nx w) (ks:List Nat) (x:AV) (v:Value) (hok:qpf ks st x) (h:Rel rd mp x v):Rel (frzRd rd mp st w) mp (frzX ks st x) v:=by
 cases x with
 | tup cs=>
  cases h with
  | tup _ _ vs hs he=>
   refine .tup _ _ _ (by rw [hs,zu]) (fun j y u hy hu=>?_)
   rw [zg] at hy
   obtain ⟨z,hz,rfl⟩:=Option.map_eq_some_iff.1 hy
   exact qyo hm ks z u (qee hok j z hz) (he j z u hz hu)
 | _=>exact qyo hm ks _ v (by exact hok) h
theorem jim {sl:List (Nat × AV)} {E:Env} {B:Nat→ASt→Prop} {f:FuncId} {args:List AV} {dst:Option Nat} {full:Array Oper} {rest:List Oper} {k:List Itm} (ks:List Nat) (hok:allP (qpf ks (qu ks st)) args)
  (h:frcL (args.map (frzX ks (qu ks st))) fun args'=>qao (qae st ks) fun st'=>qay E B f args' dst full rest k ⟨sl,st',nx⟩):qay E B f args dst full rest k ⟨sl,st,nx⟩:=by
 rw [qcg,qaz] at h
 unfold qay at h ⊢
 intro rd mp a w vs hs hrd hsz hargs
 have hd:=hs.mem.dropped ks
 refine h (frzRd rd mp (qu ks st) w) mp a w vs ⟨fun t=>(hs.slots t).mono qct (Mp.le.refl _),hs.defers,hs.mem.freeze ks⟩ (hrd.step qct (Mp.le.refl _)) hsz
  ⟨by rw [hargs.1,zu],fun j x v hx hv=>?_⟩
 rw [zg] at hx
 obtain ⟨y,hy,rfl⟩:=Option.map_eq_some_iff.1 hx
 exact qyp hd ks y v (qee hok j y hy) (hargs.2 j y v hy hv)
end
theorem qyq {st:List (Nat × SO)} (ks:List Nat):∀ {l:List (Nat × SO)},(∀ i x,(i,x)∈l→i∈ks)→SubSt st l→SubSt (qae st ks) l
 | [],_,_=>trivial
 | (i,x)::r,hin,h=>by
  refine ⟨?_,qyq ks (fun j y hy=>hin j y (xu _ hy)) h.2⟩
  have hi:i∈ks:=hin i x (xz ..)
  have key:∀ ks:List Nat,i∈ks→look (qae st ks) i=look st i:=by
   intro ks
   induction ks with
   | nil=>intro h;cases h
   | cons k ks ih=>
    intro hm
    unfold qae
    cases hk:look st k with
    | none=>
     simp only
     rcases List.mem_cons.1 hm with rfl|hm
     ·rw [hk]
      cases hl:look (qae st ks) i with
      | none=>rfl
      | some y=>have:=(qfw hl).1;rw [hk] at this;cases this
     ·exact ih hm
    | some y=>
     simp only [qq]
     by_cases e:k=i
     ·subst e;rw [zb rfl,hk]
     ·rw [za e]
      rcases List.mem_cons.1 hm with h|hm
      ·exact absurd h.symm e
      ·exact ih hm
  rw [key ks hi]
  exact h.1
theorem qyr {α:Type} (L:List α) (x d:α) (j:Nat):(L++[x]).getD j d=if j<L.length then L.getD j d else if j=L.length then x else d:=by
 simp only [List.getD_eq_getElem?_getD]
 by_cases h:j<L.length
 ·rw [zb h,zp h]
 ·rw [za h,zm (by omega)]
  by_cases e:j=L.length
  ·rw [zb e,e,xy];rfl
  ·rw [za e,zak (by simp;omega)];rfl
theorem jin {α:Type} {enc:α→List AV} {d x:α} {L:List α} {g:Nat→List AV} (h:g 0=enc x):∀ j,j<L.length+1→LeL (appF L.length (encL enc d L) 1 g j) (encL enc d (L++[x]) j):=by
 intro j hj
 refine LeL.of_eq ?_
 unfold appF encL
 rw [qyr]
 by_cases hl:j<L.length
 ·rw [zb hl,zb hl]
 ·obtain rfl:j=L.length:=by omega
  rw [za hl,za hl,zb rfl,zb (by omega),xy,h]
def SO.plain:SO→Bool
 | .row [] _ _ _ _ _=>true
 | _=>false
section
variable {c:Ctx} {rd:Rd} {mp:Mp} {st:List (Nat × SO)} {nx:Nat} {w:World}
theorem Mem.names (hm:Mem c rd mp st nx w) (hstd:c.fre=stdF) (ι:Nat→Nat) {st':List (Nat × SO)} {n:Nat} (hl:∀ i x,look st' i=some x→look st (ι i)=some x∧x.plain=true∧i<n)
  (hinj:∀ i j,i<n→j<n→ι i=ι j→i=j):Mem c rd ((mp.pull ι).restrict n) st' n w:=by
 have hmem:∀ r' i R,IsMem st' r' i R→IsMem st (ι r') i R∧R.ids=[]∧r'<n∧i=0:=by
  intro r' i R hR
  cases hR with
  | row h=>
   obtain ⟨h1,h2,h3⟩:=hl _ _ h
   rename_i ids e sz ep m f
   cases ids with
   | nil=>exact ⟨.row h1,rfl,h3,rfl⟩
   | cons a b=>simp [SO.plain] at h2
  | fam h _=>obtain ⟨_,h2,_⟩:=hl _ _ h;simp [SO.plain] at h2
 have hth:∀ p,There st' p→∃ r',p=.rw r' 0∧r'<n∧There st (.rw (ι r') 0):=by
  intro p hp
  cases p with
  | bx b=>obtain ⟨ty,cs,h⟩:=hp;obtain ⟨_,h2,_⟩:=hl _ _ h;simp [SO.plain] at h2
  | rw r' i=>obtain ⟨R,hR⟩:=hp;obtain ⟨h1,_,h3,rfl⟩:=hmem _ _ _ hR;exact ⟨r',rfl,h3,R,h1⟩
 have hblk:∀ r',r'<n→blkOf ((mp.pull ι).restrict n) (.rw r' 0)=blkOf mp (.rw (ι r') 0):=by
  intro r' hr;simp only [blkOf,Mp.restrict,Mp.pull,zb hr]
 refine ⟨hm.rdw,hm.rd1,hm.rdn,hm.fr,fun b ty cs h=>?_,fun r' i R hR=>?_,fun p q g hp hq hgp hgq=>?_,fun i hi=>?_,fun i x h=>?_,fun r' e' sz' cnt ep' len f' h=>?_,fun r' sz' ep' n' f' h=>?_,hm.tab⟩
 ·obtain ⟨_,h2,_⟩:=hl _ _ h;simp [SO.plain] at h2
 ·obtain ⟨h0,hids,hr,rfl⟩:=hmem _ _ _ hR
  obtain ⟨v,xs,h1,h2,h3,h4,h5⟩:=hm.mb _ _ _ h0
  refine ⟨v,xs,by simp only [Mp.restrict,Mp.pull,zb hr];exact h1,h2,h3,fun k j x hk hx=>?_,h5⟩
  obtain ⟨u,h6,h7,h8⟩:=h4 k j x hk hx
  exact ⟨u,h6,h7,by rw [hids,Mp.sel_nil] at h8 ⊢;exact h8⟩
 ·obtain ⟨a,rfl,ha,hta⟩:=hth p hp
  obtain ⟨b,rfl,hb,htb⟩:=hth q hq
  rw [hblk a ha] at hgp
  rw [hblk b hb] at hgq
  have:=hm.inj _ _ g hta htb hgp hgq
  simp only [Pl.rw.injEq,and_true] at this
  rw [hinj a b ha hb this]
 ·rw [hstd] at hi
  simp only [stdF] at hi
  exact ⟨by unfold Mp.restrict;exact za (by omega),fun _=>by unfold Mp.restrict;exact za (by omega)⟩
 ·obtain ⟨_,_,h3⟩:=hl _ _ h
  rw [hstd];simp only [stdF];omega
 ·obtain ⟨_,h2,_⟩:=hl _ _ h;simp [SO.plain] at h2
 ·obtain ⟨_,h2,_⟩:=hl _ _ h;simp [SO.plain] at h2
end
def PanI (c:Ctx) (rd:Rd) (mp:Mp) (n:Nat) (X:AV→Prop) (ch:List PanicEntry) (w':World):Prop:=
 ∃ v x rd' mp',ch=[⟨v,false,false⟩]∧X x∧Rel rd' mp' x v∧Rd.le rd rd'∧Mp.le mp mp'∧Mem c rd' mp' [] n w'
def qys (P:Program) (g:FuncId) (args:List AV) (st:List (Nat × SO)) (nx:Nat) (X:AV→Prop) (p:Stp):Prop:=
 ∀ (c:Ctx) rd mp w vs,c.fre=stdF→Mem c rd mp st nx w→RelL rd mp args vs→
  Invokes P g vs w (fun x w'=>∃ rd' mp',Rd.le rd rd'∧Mp.le mp mp'∧Mem c rd' mp' (bif p.wr then p.st else st) (bif p.wr then p.nx else nx) w'∧Rel rd' mp' p.v x) (fun ch w'=>PanI c rd mp nx X ch w')
def PanQ (E:Env) (Q:Exit→Act→World→Prop):Prop:=∀ ch a w,a.defers=[]→Post E (.panicked ch) w→Q (.panic ch) a w
def SStep (E:Env) (full:Array Oper) (s:ASt) (o:Oper) (p:Stp):Prop:=
 (∃ res q,jk E full s o res=some q∧q.ob∧q.v=p.v∧q.wr=p.wr∧(q.wr=true→q.st=p.st∧q.nx=p.nx)) ∨
 (p.wr=true∧jm E o.dst=true∧o.guard=none∧∃ g args,aop E.T E.C s o.dst o.op=.call g args∧qys E.P g args s.st s.nx (E.X [] s.nx) p)
theorem SStep.congr {E:Env} {full:Array Oper} {s s':ASt} {o:Oper} {p:Stp} (h:∀ t∈reads full o,s.get t=s'.get t) (hst:s.st=s'.st) (hnx:s.nx=s'.nx) (k:SStep E full s o p):SStep E full s' o p:=by
 rcases k with ⟨res,q,h1,h2⟩|⟨h0,h1,h2,g,args,h3,h4⟩
 ·exact .inl ⟨res,q,by rw [← qwo res h hst hnx];exact h1,h2⟩
 ·exact .inr ⟨h0,h1,h2,g,args,by rw [← qka o.dst o.op (qkb h) hst hnx];exact h3,by rw [← hst,← hnx];exact h4⟩
theorem SStep.sound {E:Env} (hT:∀ t,E.T t=tab E.P t) (hstd:E.c.fre=stdF) {full:Array Oper} {s:ASt} {o:Oper} {p:Stp} (k:SStep E full s o p):qol (PanQ E) E full s o p:=by
 intro rd mp a w hs hrd hsz K Q hQ hK
 rcases k with ⟨res,q,h1,h2,e1,e2,e3⟩|⟨_,h1,h2,g,args,h3,h4⟩
 ·refine qrw hT h1 h2 hs (.std hstd s.nx) hsz (K:=K) (Q:=Q) ?_
  cases hq:q.wr with
  | true=>
   obtain ⟨e4,e5⟩:=e3 hq
   rw [← e2,hq] at hK
   rw [e1,e4,e5]
   exact hK
  | false=>
   rw [← e2,hq] at hK
   rw [e1]
   exact hK
 ·have hgood:=qjx (C:=E.C) hT hs (.std hstd s.nx) o
  rw [h3] at hgood
  obtain ⟨vs,g1,g2⟩:=hgood
  have hdst:=qft h1 hsz
  rw [zb (by simp [Region.wanted,h2])]
  refine .inl ?_
  unfold Oper.wp
  rw [g1]
  rcases h4 E.c rd mp w vs hstd hs.mem g2 with ⟨h5,h6⟩|⟨x,w',h5,rd',mp',h6,h7,h8,h9⟩
  ·rw [h5,Oper.upon_enter]
   refine h6.mono fun e w' he=>?_
   rcases he with ⟨x,he,rd',mp',h6,h7,h8,h9⟩|⟨_,he,v,x,rd',mp',rfl,hx,hr,h6,h7,h8⟩
   ·subst he;exact hK x w' rd' mp' h6 h7 h8 h9 hdst
   ·subst he;exact hQ _ a w' hs.defers ⟨x,rd',mp',[],s.nx,hx,hr,h8,hrd.step h6 h7⟩
  ·rw [h5,Oper.upon_value]
   exact hK x w' rd' mp' h6 h7 h8 h9 hdst
def qhm:Op→Bool
 | .move _ | .pick .. | .build .. | .load .. | .nilCheck _ | .binOp .. | .unOp .. | .convert .. | .makeFunc .. | .fieldAddr .. | .field .. | .indexAddr .. | .index .. | .extract ..=>true
 | .call c=>match c.callee with | .builtin .len=>true|_=>false
 | _=>false
theorem jio (T:Nat→TI) (C:Cfg) (sl:List (Nat × AV)) (st:List (Nat × SO)) (nx nx':Nat) (d:Option Nat) (op:Op) (h:qhm op=true):aop T C ⟨sl,st,nx⟩ d op=aop T C ⟨sl,st,nx'⟩ d op:=by
 have hev:∀ x,ev ⟨sl,st,nx⟩ x=ev ⟨sl,st,nx'⟩ x:=fun x=>by cases x <;> rfl
 have hev2:ev ⟨sl,st,nx⟩=ev ⟨sl,st,nx'⟩:=funext hev
 cases op with
 | call c=>
  simp only [qhm] at h
  split at h
  ·rename_i hc
   simp only [aop,hc,hev2]
   unfold qhc
   generalize (c.args.toList.map fun x=>strip st (ev ⟨sl,st,nx'⟩ x))=l
   generalize c.argTypes.toList=ts
   rcases ts with _|⟨t,_|⟨t',ts⟩⟩ <;> rcases l with _|⟨x,_|⟨y,l⟩⟩ <;> rfl
  ·cases h
 | _=>first|(simp [qhm] at h;done)|(simp only [aop,hev];done)|(simp only [aop,hev2];done)
def qtg (s:ASt):Op→List Nat
 | .move _=>[]
 | op=>foot s op
def FootOk (s:ASt) (o:Oper) (p:Stp):Prop:=p.wr=false→p.nx=1→o.guard=none∧qhm o.op=true∧∀ n∈qtg s o.op,n∈p.st.map (·.1)
theorem jip {E:Env} (hT:∀ t,E.T t=tab E.P t) {full:Array Oper} {s s':ASt} {o:Oper} {res:AV} {q:Stp} (hg:o.guard=none) (hn:qhm o.op=true) (h:∀ t∈reads full o,s.get t=s'.get t) (hag:Agree (qtg s o.op) s.st s'.st)
  (hq:jk E full s o res=some q) (hw:q.wr=false):∃ q',jk E full s' o res=some q'∧(q.ob→q'.ob)∧q'.v=q.v∧q'.wr=false:=by
 obtain ⟨sl,st,nx⟩:=s
 obtain ⟨sl',st',nx'⟩:=s'
 have h1:=qkb h
 have e1:aop E.T E.C ⟨sl',st',nx'⟩ o.dst o.op=aop E.T E.C ⟨sl,st',nx⟩ o.dst o.op:=by
  rw [jio E.T E.C sl' st' nx' nx o.dst o.op hn]
  refine (qka (s:=⟨sl,st',nx⟩) (s':=⟨sl',st',nx⟩) o.dst o.op (fun x hx=>?_) rfl rfl).symm
  have:=h1 x hx
  cases x <;> exact this
 have e2:OLoc st st' (tgt ⟨sl,st,nx⟩ o.op) (aop E.T E.C ⟨sl,st,nx⟩ o.dst o.op) (aop E.T E.C ⟨sl,st',nx⟩ o.dst o.op):=by
  have key:Agree (foot ⟨sl,st,nx⟩ o.op) st st'→OLoc st st' (tgt ⟨sl,st,nx⟩ o.op) (aop E.T E.C ⟨sl,st,nx⟩ o.dst o.op) (aop E.T E.C ⟨sl,st',nx⟩ o.dst o.op):=fun hag=>
   qxh (C:=E.C) hT (sl:=sl) (nx:=nx) (dst:=o.dst) (st:=st) (st':=st') o.op hag
  cases hop:o.op with
  | move x=>cases x <;> rfl
  | _=>rw [hop] at hag key;exact key hag
 unfold jk at hq ⊢
 cases hd:jm E o.dst with
 | false=>rw [hd] at hq;cases hq
 | true=>
  rw [hd,hg] at hq
  rw [hg]
  simp only at hq ⊢
  rw [e1]
  cases hr:aop E.T E.C ⟨sl,st,nx⟩ o.dst o.op with
  | bad=>rw [hr] at hq;cases hq
  | ok ob v=>
   rw [hr] at hq e2
   simp only [OLoc] at e2
   rw [e2]
   simp only [Option.some.injEq] at hq ⊢
   subst hq
   exact ⟨_,rfl,id,rfl,rfl⟩
  | mem ob v st1 nx1=>
   rw [hr] at hq
   simp only [Option.some.injEq] at hq
   subst hq
   cases hw
  | call f args=>
   rw [hr] at hq e2
   simp only [OLoc] at e2
   rw [e2]
   simp only [Option.some.injEq] at hq ⊢
   subst hq
   exact ⟨_,rfl,id,rfl,rfl⟩
structure AccS (E:Env) (full:Array Oper) (L:List (Oper × Stp)) (s0 s:ASt):Prop where
 st:stateAt L 0 (fun _=>true) s0=s
 step:∀ (i:Nat) x,L[i]?=some x→SStep E full (stateAt L 0 (fun j=>decide (j<i)) s0) x.1 x.2∧FootOk (stateAt L 0 (fun j=>decide (j<i)) s0) x.1 x.2
theorem AccS.snoc {E:Env} {full:Array Oper} {L:List (Oper × Stp)} {s0 s:ASt} (h:AccS E full L s0 s) {o:Oper} {p:Stp} (hs:SStep E full s o p) (hf:FootOk s o p):AccS E full (L++[(o,p)]) s0 (after s o p):=by
 have hsn:∀ i,i≤L.length→stateAt (L++[(o,p)]) 0 (fun j=>decide (j<i)) s0=stateAt L 0 (fun j=>decide (j<i)) s0:=by
  intro i hi
  rw [qmj]
  have:decide (0+L.length<i)=false:=by simp;omega
  rw [this];rfl
 refine ⟨?_,fun i x hx=>?_⟩
 ·rw [qmj,h.st];rfl
 ·by_cases hi:i<L.length
  ·rw [zp hi] at hx
   rw [hsn i (by omega)];exact h.step i x hx
  ·rw [zm (by omega)] at hx
   have hi0:i - L.length=0:=by
    cases hk:i - L.length with
    | zero=>rfl
    | succ k=>rw [hk] at hx;simp at hx
   rw [hi0] at hx
   simp at hx
   subst hx
   have:i=L.length:=by omega
   subst this
   rw [hsn _ (zi _),qxw L 0 _ (fun _=>true) s0 (fun j hj=>by simp;omega),h.st]
   exact ⟨hs,hf⟩
def qiv (L:List (Oper × Stp)) (i m:Nat):Bool:=(List.range L.length).all fun q=>match L[q]? with|some y=>!y.2.wr || (Nat.blt q i == Nat.blt q m)|none=>true
def wrOf:List (Oper × Stp)→Nat→List Nat
 | [],_=>[]
 | x::r,i=>match x.2.wr with|true=>i::wrOf r (i+1)|false=>wrOf r (i+1)
theorem qyt:∀ (L:List (Oper × Stp)) (i q:Nat) (y:Oper × Stp),L[q]?=some y→y.2.wr=true→i+q∈wrOf L i
 | [],_,_,_,h,_=>by simp at h
 | x::r,i,0,y,h,hw=>by
  simp only [List.getElem?_cons_zero,Option.some.injEq] at h
  subst h
  simp only [wrOf,hw,xf]
  exact xz ..
 | x::r,i,q+1,y,h,hw=>by
  simp only [zaa] at h
  have:=qyt r (i+1) q y h hw
  rw [show i+1+q=i+(q+1) by omega] at this
  unfold wrOf
  split
  ·exact xu _ this
  ·exact this
def qmq (full:Array Oper) (n:Nat) (ws:List Nat) (i:Nat):Bool:=ws.any fun w=>!(anc full n w).contains i && !(anc full n i).contains w
theorem qth {full:Array Oper} {n:Nat} (hb:∀ (j:Nat),j<n→∀ o,full.toList[j]?=some o→∀ e∈o.after,Region.binds .any e=true→e.on<j):∀ (f j:Nat),j<n→∀ i∈anc full f j,i<j
 | 0,_,_,i,hi=>by simp [anc] at hi
 | f+1,j,hj,i,hi=>by
  simp only [anc] at hi
  split at hi
  ·rename_i o ho
   simp only [List.mem_flatMap,List.mem_filter,List.mem_cons,Array.mem_toList_iff] at hi
   obtain ⟨e,⟨he,hbe⟩,hi⟩:=hi
   have h1:=hb j hj o ho e he hbe
   rcases hi with rfl|hi
   ·exact h1
   ·have:=qth hb f e.on (by omega) i hi;omega
  ·cases hi
def qfx (full:Array Oper) (L:List (Oper × Stp)):List (Nat × Nat):=
 (List.range L.length).flatMap fun i=>match L[i]? with
  | some x=>bif x.2.wr || jg x.1.op then [] else bif qmq full L.length (wrOf L 0) i then ((List.range (L.length+1)).filter fun m=>qdy full L i m && !qiv L i m).map fun m=>(i,m) else []
  | none=>[]
theorem jiq {full:Array Oper} {L:List (Oper × Stp)} (hord:qbs full L=true) (hlen:L.length=full.size) {i m:Nat} (hi:i<L.length) (hx:∀ x,L[i]?=some x→x.2.wr=false) (hf:qmq full L.length (wrOf L 0) i=false) (hm:qdy full L i m=true):qiv L i m=true:=by
  have hb:∀ (j:Nat),j<L.length→∀ o,full.toList[j]?=some o→∀ e∈o.after,Region.binds .any e=true→e.on<j:=fun j hj o ho=>qwv hord hj ho
  unfold qiv
  refine List.all_eq_true.2 fun q hq=>?_
  have hq':=List.mem_range.1 hq
  rw [ze hq']
  simp only
  cases hw:(L[q]).2.wr with
  | false=>rfl
  | true=>
    have hqw:=qyt L 0 q _ (ze hq') hw
    rw [zn] at hqw
    have hqi:q≠i:=fun e=>by subst e;have:=hx _ (ze hq');rw [hw] at this;cases this
    have h1:((anc full L.length q).contains i || (anc full L.length i).contains q)=true:=by
      cases hc:((anc full L.length q).contains i || (anc full L.length i).contains q) with
      | true=>rfl
      | false=>
        exfalso
        rw [zao] at hc
        have:qmq full L.length (wrOf L 0) i=true:=List.any_eq_true.2 ⟨q,hqw,by rw [hc.1,hc.2];rfl⟩
        rw [hf] at this;cases this
    have h2:=List.all_eq_true.1 hm q hq
    rw [ze hq'] at h2
    simp only [hw,xx,xq] at h2 ⊢
    rw [xh] at h1
    have blt:∀ x y:Nat,Nat.blt x y=decide (x<y):=fun x y=>by
      cases hb:Nat.blt x y with
      | true=>simp [xl] at hb;simp [hb]
      | false => have : ¬ x < y := fun hlt => by rw [show Nat.blt x y = true by simp [xl, hlt]] at hb; cases hb
                 simp [this]
    rcases h1 with h1|h1
    · have hlt:=qth hb L.length q hq' i (by simpa using h1)
      rw [blt q i,zt (by omega)]
      cases hqm:Nat.blt q m with
      | false=>rfl
      | true=>rw [hqm] at h2;simp only [cond_true,h1,xx] at h2;cases h2
    · have hlt:=qth hb L.length i hi q (by simpa using h1)
      rw [blt q i,xw hlt]
      cases hqm:Nat.blt q m with
      | true=>rfl
      | false=>rw [hqm] at h2;simp only [cond_false,h1,xx] at h2;cases h2
def jir (L:List (Oper × Stp)) (s0:ASt) (i m:Nat):Prop:=(stateAt L 0 (fun j=>decide (j<m)) s0).st=(stateAt L 0 (fun j=>decide (j<i)) s0).st∧(stateAt L 0 (fun j=>decide (j<m)) s0).nx=(stateAt L 0 (fun j=>decide (j<i)) s0).nx
def skel (x:Oper × Stp):Oper × Stp:=(x.1,⟨.any,x.2.wr,x.2.st,x.2.nx,True⟩)
theorem jis (x:Oper × Stp):(skel x).1=x.1:=rfl
theorem qmr (x:Oper × Stp):(skel x).2.wr=x.2.wr:=rfl
theorem qyu (x:Oper × Stp) (_:x.2.wr=true):(skel x).2.st=x.2.st∧(skel x).2.nx=x.2.nx:=⟨rfl,rfl⟩
theorem jit (full:Array Oper) (L:List (Oper × Stp)):qbs full (L.map skel)=qbs full L:=by
 unfold qbs
 rw [zu]
 congr 1
 funext j
 congr 1
 congr 1
 funext i
 rw [zg,zg]
 cases L[i]? <;> cases L[j]? <;> rfl
theorem jiu (full:Array Oper) (L:List (Oper × Stp)) (i m:Nat):qdy full (L.map skel) i m=qdy full L i m:=by
 unfold qdy
 rw [zu]
 congr 1
 funext q
 rw [zg]
 cases L[q]? with
 | none=>rfl
 | some x=>simp only [xe,qmr]
theorem jiv (L:List (Oper × Stp)) (i m:Nat):qiv (L.map skel) i m=qiv L i m:=by
 unfold qiv
 rw [zu]
 congr 1
 funext q
 rw [zg]
 cases L[q]? with
 | none=>rfl
 | some x=>simp only [xe,qmr]
theorem qyv:∀ (L:List (Oper × Stp)) (i:Nat),wrOf (L.map skel) i=wrOf L i
 | [],_=>rfl
 | x::r,i=>by simp only [xp,wrOf,qmr,qyv r]
theorem jiw (full:Array Oper) (L:List (Oper × Stp)):qfx full (L.map skel)=qfx full L:=by
 unfold qfx
 rw [zu,qyv]
 congr 1
 funext i
 rw [zg]
 cases L[i]? with
 | none=>rfl
 | some x=>simp only [xe,qmr,jis,jiu,jiv]
theorem qpg:∀ (L:List (Oper × Stp)) (i:Nat) (S:Nat→Bool) (s s':ASt),s.st=s'.st→s.nx=s'.nx→(stateAt (L.map skel) i S s).st=(stateAt L i S s').st∧(stateAt (L.map skel) i S s).nx=(stateAt L i S s').nx
 | [],_,_,s,s',h1,h2=>⟨h1,h2⟩
 | (o,p)::r,i,S,s,s',h1,h2=>by
  simp only [xp,stateAt]
  have e:skel (o,p)=(o,(skel (o,p)).2):=rfl
  rw [e]
  simp only
  cases S i with
  | false=>simp only [cond_false];exact qpg r (i+1) S s s' h1 h2
  | true=>
   simp only [cond_true]
   have hw:=qmr (o,p)
   refine qpg r (i+1) S _ _ ?_ ?_
   ·simp only [after]
    rw [hw]
    cases hp:p.wr with
    | true=>simp only [cond_true];exact (qyu (o,p) hp).1
    | false=>simp only [cond_false];exact h1
   ·simp only [after]
    rw [hw]
    cases hp:p.wr with
    | true=>simp only [cond_true];exact (qyu (o,p) hp).2
    | false=>simp only [cond_false];exact h2
def qyw (L:List (Oper × Stp)) (s0:ASt) (i m:Nat):Prop:=jir L s0 i m ∨
 ∃ x,L[i]?=some x∧x.2.nx=1∧∀ n∈x.2.st.map (·.1),look (stateAt L 0 (fun j=>decide (j<m)) s0).st n=look (stateAt L 0 (fun j=>decide (j<i)) s0).st n
def AltG (full:Array Oper) (L:List (Oper × Stp)) (s0:ASt) (k:Prop):Prop:=qbs full L=true∧(∀ p∈qfx full L,qyw L s0 p.1 p.2)∧k
theorem AltG.none {full:Array Oper} {L:List (Oper × Stp)} {s0:ASt} {k:Prop} (h:(qbs full L && (qfx full L).isEmpty)=true) (hk:k):AltG full L s0 k:=by
 rw [zf,List.isEmpty_iff] at h
 exact ⟨h.1,by rw [h.2];exact fun p hp=>(by cases hp),hk⟩
theorem qms {st:List (Nat × SO)} {nx:Nat}:∀ (L:List (Oper × Stp)) (i m M:Nat) (s:ASt),s.st=st→s.nx=nx→m≤i+M→allP (fun x:Oper × Stp=>x.2.wr=true→x.2.st=st∧x.2.nx=nx) (L.take M)→
  (stateAt L i (fun j=>decide (j<m)) s).st=st∧(stateAt L i (fun j=>decide (j<m)) s).nx=nx
 | [],_,_,_,s,h1,h2,_,_=>⟨h1,h2⟩
 | (o,p)::r,i,m,M,s,h1,h2,hm,ha=>by
  simp only [stateAt]
  cases hd:decide (i<m) with
  | false=>
   simp only [cond_false]
   cases M with
   | zero=>exact qms r (i+1) m 0 s h1 h2 (by simp at hd;omega) trivial
   | succ M=>exact qms r (i+1) m M s h1 h2 (by omega) ha.2
  | true=>
   have hlt:i<m:=zag hd
   simp only [cond_true]
   cases M with
   | zero=>omega
   | succ M=>
    refine qms r (i+1) m M _ ?_ ?_ (by omega) ha.2
    ·simp only [after]
     cases hw:p.wr with
     | true=>simp only [cond_true];exact (ha.1 hw).1
     | false=>simp only [cond_false];exact h1
    ·simp only [after]
     cases hw:p.wr with
     | true=>simp only [cond_true];exact (ha.1 hw).2
     | false=>simp only [cond_false];exact h2
theorem AltG.same {full:Array Oper} {L:List (Oper × Stp)} {s0:ASt} {k:Prop} (M:Nat) (h:(qbs full L && (qfx full L).all fun p=>Nat.ble p.1 M && Nat.ble p.2 M)=true)
  (ha:allP (fun x:Oper × Stp=>x.2.wr=true→x.2.st=s0.st∧x.2.nx=s0.nx) (L.take M)) (hk:k):AltG full L s0 k:=by
 rw [zf] at h
 refine ⟨h.1,fun p hp=>?_,hk⟩
 have h2:=List.all_eq_true.1 h.2 p hp
 simp only [zf,zl] at h2
 have h3:=qms L 0 p.1 M s0 rfl rfl (by omega) ha
 have h4:=qms L 0 p.2 M s0 rfl rfl (by omega) ha
 exact .inl ⟨h4.1.trans h3.1.symm,h4.2.trans h3.2.symm⟩
theorem qmt {n:Nat} {X:Option SO}:∀ (L:List (Oper × Stp)) (i m M:Nat) (s:ASt),look s.st n=X→m≤i+M→allP (fun x:Oper × Stp=>x.2.wr=true→look x.2.st n=X) (L.take M)→
  look (stateAt L i (fun j=>decide (j<m)) s).st n=X
 | [],_,_,_,s,h1,_,_=>h1
 | (o,p)::r,i,m,M,s,h1,hm,ha=>by
  simp only [stateAt]
  cases hd:decide (i<m) with
  | false=>
   simp only [cond_false]
   cases M with
   | zero=>exact qmt r (i+1) m 0 s h1 (by simp at hd;omega) trivial
   | succ M=>exact qmt r (i+1) m M s h1 (by omega) ha.2
  | true=>
   have hlt:i<m:=zag hd
   simp only [cond_true]
   cases M with
   | zero=>omega
   | succ M=>
    refine qmt r (i+1) m M _ ?_ (by omega) ha.2
    simp only [after]
    cases hw:p.wr with
    | true=>simp only [cond_true];exact ha.1 hw
    | false=>simp only [cond_false];exact h1
theorem AltG.far {full:Array Oper} {L:List (Oper × Stp)} {s0:ASt} {k:Prop} (M:Nat) (F:List Nat)
  (h:(qbs full L && (qfx full L).all fun p=>Nat.ble p.1 M && (Nat.ble p.2 M && (match L[p.1]? with | .some x=>Nat.beq x.2.nx 1 && x.2.st.all (fun e=>F.any (Nat.beq e.1)) | .none=>false)))=true)
  (ha:allP (fun x:Oper × Stp=>x.2.wr=true→allP (fun n=>look x.2.st n=look s0.st n) F) (L.take M)) (hk:k):AltG full L s0 k:=by
 rw [zf] at h
 refine ⟨h.1,fun p hp=>.inr ?_,hk⟩
 have h2:=List.all_eq_true.1 h.2 p hp
 simp only [zf,zl] at h2
 obtain ⟨h3,h4,h5⟩:=h2
 cases hx:L[p.1]? with
 | none=>rw [hx] at h5;cases h5
 | some x=>
  rw [hx] at h5
  simp only [zf] at h5
  refine ⟨x,rfl,zj h5.1,fun n hn=>?_⟩
  obtain ⟨e,he,rfl⟩:=List.mem_map.1 hn
  have h6:=List.all_eq_true.1 h5.2 e he
  obtain ⟨f,hf,hfe⟩:=List.any_eq_true.1 h6
  have:e.1=f:=zj hfe
  rw [this]
  have key:∀ (l:List (Oper × Stp)),allP (fun x:Oper × Stp=>x.2.wr=true→allP (fun n=>look x.2.st n=look s0.st n) F) l→allP (fun x:Oper × Stp=>x.2.wr=true→look x.2.st f=look s0.st f) l:=by
   intro l
   induction l with
   | nil=>exact id
   | cons y r ih=>
    intro ⟨a1,a2⟩
    refine ⟨fun hw=>?_,ih a2⟩
    obtain ⟨k,hk⟩:=List.mem_iff_getElem?.1 hf
    exact qee (a1 hw) k f hk
  have ha':=key _ ha
  rw [qmt L 0 p.1 M s0 rfl (by omega) ha',qmt L 0 p.2 M s0 rfl (by omega) ha']
theorem jix (T:Nat→TI) (C:Cfg) {s s':ASt} (d:Option Nat) (op:Op) (hc:jg op=true) (h:∀ x∈op.operands,ev s x=ev s' x):aop T C s d op=aop T C s' d op:=by
 rw [← qka (s:=⟨s.sl,s'.st,s'.nx⟩) (s':=s') d op (fun x hx=>by rw [← h x hx];cases x <;> rfl) rfl rfl]
 unfold jg at hc
 split at hc
 ·rename_i c
  split at hc
  ·rename_i f hf
   simp only [aop,hf]
   have:∀ x:Operand,ev s x=ev ⟨s.sl,s'.st,s'.nx⟩ x:=fun x=>by cases x <;> rfl
   simp only [this]
   rfl
  ·cases hc
 ·cases hc
theorem jiy {E:Env} {full:Array Oper} {s s':ASt} {o:Oper} {res:AV} {q:Stp} (hc:jg o.op=true) (h:∀ t∈reads full o,s.get t=s'.get t) (hq:jk E full s o res=some q) :
  ∃ q',jk E full s' o res=some q'∧(q.ob→q'.ob)∧q'.v=q.v∧q'.wr=false∧q.wr=false:=by
 have ha:=jix E.T E.C o.dst o.op hc (qkb h)
 have hcase:(∃ f args,aop E.T E.C s o.dst o.op=.call f args)∨aop E.T E.C s o.dst o.op=.bad:=by
  unfold jg at hc
  split at hc
  ·rename_i c hop
   split at hc
   ·rename_i f hf
    simp only [hop,aop,hf,qnx]
    split
    ·exact .inl ⟨_,_,rfl⟩
    ·exact .inr rfl
   ·cases hc
  ·cases hc
 unfold jk at hq ⊢
 rw [← ha]
 cases hd:jm E o.dst with
 | false=>rw [hd] at hq;cases hq
 | true=>
  rw [hd] at hq
  simp only at hq ⊢
  cases hg:o.guard with
  | none=>
   rw [hg] at hq
   simp only at hq ⊢
   rcases hcase with ⟨f,args,h1⟩|h1
   ·rw [h1] at hq ⊢
    simp only [Option.some.injEq] at hq ⊢
    subst hq
    exact ⟨_,rfl,id,rfl,rfl,rfl⟩
   ·rw [h1] at hq;cases hq
  | some jw=>
   obtain ⟨j,want⟩:=jw
   rw [hg] at hq
   simp only at hq ⊢
   have hs:(qbi full j).map s'.get=(qbi full j).map s.get:=by
    cases hgs:qbi full j with
    | none=>rfl
    | some d=>simp only [xe];rw [h d (by simp [reads,hg,hgs])]
   rw [hs]
   cases hx:(qbi full j).map s.get with
   | none=>rw [hx] at hq;cases hq
   | some x=>
    rw [hx] at hq
    simp only at hq ⊢
    cases hb:qcs want x with
    | none=>rw [hb] at hq;cases hq
    | some g=>
     rw [hb] at hq
     simp only at hq ⊢
     rcases hcase with ⟨f,args,h1⟩|h1
     ·rw [h1] at hq ⊢
      simp only [Option.some.injEq] at hq ⊢
      subst hq
      exact ⟨_,rfl,id,rfl,rfl,rfl⟩
     ·rw [h1] at hq;cases hq
theorem jiz {E:Env} {Q:Exit→Act→World→Prop} {id:Nat} {ops:Array Oper} {s:ASt} {QP:(Exit→Act→World→Prop)→Prop} (hQP:QP Q) (hmix:E.P.follows .mixedOrders=true) {L:List (Oper × Stp)} (hLo:L.map (·.1)=ops.toList)
  (hst:∀ (i:Nat) x,L[i]?=some x→∀ S,Adm ops L.length S i→qol QP E ops (stateAt L 0 S s) x.1 x.2) (hord:qbs ops L=true) (h:∀ rd mp a w,SR E.c rd mp (stateAt L 0 (fun _=>true) s) a w→Base E rd mp→a.tmps.size=E.fn.ntmps→Q .normal a w)
  {rd:Rd} {mp:Mp} {a:Act} {w:World} (hs:SR E.c rd mp s a w) (hrd:Base E rd mp) (hsz:a.tmps.size=E.fn.ntmps):(Code.region id ops true).wp E.P Q a w:=by
 refine wp_region_any hmix (qww hQP hLo hst hord h _ _ a _ (by simp) (by simp) (fun j o _ hj=>?_) hsz ⟨rd,mp,?_,hrd⟩)
 ·rw [qeg] at hj
  cases hj
 ·have hz:∀ (L:List (Oper × Stp)) (i:Nat) (s:ASt),stateAt L i (fun i=>(Array.replicate ops.size false).getD i false) s=s:=by
   intro L
   induction L with
   | nil=>intro i s;rfl
   | cons y L ih=>
    intro i s
    obtain ⟨o,p⟩:=y
    simp only [stateAt]
    rw [qeg]
    exact ih (i+1) s
  rw [hz]
  exact ⟨hs.slots,hs.defers,hs.mem.below ((Below.refl _ _).drew)⟩
theorem jja {E:Env} {B:Nat→ASt→Prop} {id:Nat} {full:Array Oper} {k:List Itm} (hT:∀ t,E.T t=tab E.P t) (hmix:E.P.follows .mixedOrders=true) {L:List (Oper × Stp)} {s0 s:ASt} (h:AccS E full L s0 s) (hLo:L.map (·.1)=full.toList)
  (hord:qbs full L=true) (halt:∀ p∈qfx full L,qyw L s0 p.1 p.2) (hfin:Ok E B k s):qby E B id full k s0:=by
 unfold qby
 intro rd mp a w hs0 hrd0 hsz0
 have hstd:=hrd0.std
 show (Code.region id full true).wp E.P (QK E B k) a w
 have hlen:L.length=full.size:=by have:=congrArg List.length hLo;simpa using this
 refine jiz (E:=E) (QP:=PanQ E) (fun ch a w hd h=>qhe hd h k) hmix hLo (fun i x hx S hS=>?_) hord (by rw [h.st];exact hfin) hs0 hrd0 hsz0
 have hi:i<L.length:=(List.getElem?_eq_some_iff.1 hx).1
 have agree:∀ (j:Nat) y,L[j]?=some y→qba full y x=true→S j=decide (j<i):=by
  intro j y hy hc1
  have hj:j<full.size:=by rw [← hlen];exact (List.getElem?_eq_some_iff.1 hy).1
  have hc2:qba full x y=true:=by rw [← qrz];exact hc1
  rcases zap j i with h|h|h
  ·simp only [h,decide_true];exact hS.anc j (qhi hord h hy hx hc1)
  ·subst h;simp only [Nat.lt_irrefl,decide_false];exact hS.self
  ·have:¬ j<i:=by omega
   simp only [this,decide_false]
   exact hS.desc j (qhi hord h hx hy hc2) hj
 have hslots:∀ t∈reads full x.1,(stateAt L 0 S s0).get t=(stateAt L 0 (fun j=>decide (j<i)) s0).get t:=by
  intro t ht
  refine qik t L 0 _ _ s0 s0 rfl (fun j y hy hd=>?_)
  rw [zn]
  refine agree j y hy ?_
  have:hits full y.1 x.1=true:=by simp [hits,hd,ht]
  simp [qba,this]
 obtain ⟨hstep,hfoot⟩:=h.step i x hx
 cases hw:x.2.wr with
 | true=>
  have hmem:=qew L 0 S (fun j=>decide (j<i)) s0 s0 rfl rfl (fun j y hy hwy=>by
   rw [zn]
   refine agree j y hy ?_
   simp [qba,hw,hwy])
  exact (hstep.congr (s':=stateAt L 0 S s0) (fun t ht=>(hslots t ht).symm) hmem.1.symm hmem.2.symm).sound hT hstd
 | false=>
  -- how far the store has come
  have hm:∃ m,m≤L.length∧∀ (q:Nat) y,L[q]?=some y→y.2.wr=true→S q=decide (q<m):=by
   have key:∀ b,b≤L.length→∃ m,m≤b∧∀ (q:Nat) y,q<b→L[q]?=some y→y.2.wr=true→S q=decide (q<m):=by
    intro b
    induction b with
    | zero=>intro _;exact ⟨0,zi _,fun q y hq=>by omega⟩
    | succ b ihb=>
     intro hb
     obtain ⟨m,hm,hq⟩:=ihb (by omega)
     obtain ⟨z,hz⟩:∃ z,L[b]?=some z:=⟨L[b],by simp [show b<L.length by omega]⟩
     cases hzw:z.2.wr with
     | false=>
      refine ⟨m,by omega,fun q y hqb hy hyw=>?_⟩
      by_cases hqe:q=b
      ·subst hqe;rw [hz] at hy;cases hy;rw [hzw] at hyw;cases hyw
      ·exact hq q y (by omega) hy hyw
     | true=>
      cases hSb:S b with
      | false=>
       refine ⟨m,by omega,fun q y hqb hy hyw=>?_⟩
       by_cases hqe:q=b
       ·subst hqe;rw [hSb];simp;omega
       ·exact hq q y (by omega) hy hyw
      | true=>
       refine ⟨b+1,by omega,fun q y hqb hy hyw=>?_⟩
       simp only [hqb,decide_true]
       by_cases hqe:q=b
       ·subst hqe;exact hSb
       ·exact hS.cl b hSb q (qhi hord (by omega) hy hz (by simp [qba,hyw,hzw]))
   obtain ⟨m,hm,hq⟩:=key L.length (zi _)
   exact ⟨m,hm,fun q y hy hyw=>hq q y (List.getElem?_eq_some_iff.1 hy).1 hy hyw⟩
  obtain ⟨m,hmL,hm⟩:=hm
  have hmay:qdy full L i m=true:=by
   refine List.all_eq_true.2 (fun q hq=>?_)
   have hq':=List.mem_range.1 hq
   rw [show L[q]?=some L[q] from ze hq']
   simp only
   cases hqw:(L[q]).2.wr with
   | false=>rfl
   | true=>
    have hSq:=hm q _ (ze hq') hqw
    simp only [xx,xq]
    by_cases hqm:q<m
    ·have e:Nat.blt q m=true:=by simp [xl,hqm]
     rw [e]
     simp only [cond_true,xd]
     cases hcn:(anc full L.length q).contains i with
     | false=>rfl
     | true=>
      exfalso
      have:=hS.cl q (by rw [hSq];simp [hqm]) i (by simpa using hcn)
      rw [hS.self] at this;cases this
    ·have e:Nat.blt q m=false:=by cases hb:Nat.blt q m with|false=>rfl|true=>simp [xl] at hb;omega
     rw [e]
     simp only [cond_false,xd]
     cases hcn:(anc full L.length i).contains q with
     | false=>rfl
     | true=>
      exfalso
      have:=hS.anc q (by simpa using hcn)
      rw [hSq] at this;simp at this;omega
  have hmem:=qew L 0 S (fun j=>decide (j<m)) s0 s0 rfl rfl (fun j y hy hwy=>by rw [zn];exact hm j y hy hwy)
  cases hcall:jg x.1.op with
  | true=>
   rcases hstep with ⟨res,q,h1,h2,e1,e2,_⟩|⟨h0,_⟩
   ·obtain ⟨q',g1,g2,g3,g4,_⟩:=jiy (s':=stateAt L 0 S s0) hcall (fun t ht=>(hslots t ht).symm) h1
    exact SStep.sound hT hstd (.inl ⟨res,q',g1,g2 h2,g3.trans e1,by rw [g4,hw],fun h=>by rw [g4] at h;cases h⟩)
   ·rw [hw] at h0;cases h0
  | false=>
   cases hsw:qiv L i m with
   | true=>
    have hsame:∀ (q:Nat) y,L[q]?=some y→y.2.wr=true→(decide (q<m))=decide (q<i):=by
     intro q y hy hyw
     have hq:=(List.getElem?_eq_some_iff.1 hy).1
     have:=List.all_eq_true.1 hsw q (List.mem_range.2 hq)
     rw [hy] at this
     simp only [hyw,xx,xq,xn] at this
     by_cases h1:q<i <;> by_cases h2:q<m
     ·simp [h1,h2]
     ·rw [show Nat.blt q i=true by simpa [xl] using h1,show Nat.blt q m=false by rw [Bool.eq_false_iff];simpa [xl] using h2] at this;cases this
     ·rw [show Nat.blt q m=true by simpa [xl] using h2,show Nat.blt q i=false by rw [Bool.eq_false_iff];simpa [xl] using h1] at this;cases this
     ·simp [h1,h2]
    have hmem2:=qew L 0 S (fun j=>decide (j<i)) s0 s0 rfl rfl (fun j y hy hwy=>by
     rw [zn,hm j y hy hwy]
     exact hsame j y hy hwy)
    exact (hstep.congr (s':=stateAt L 0 S s0) (fun t ht=>(hslots t ht).symm) hmem2.1.symm hmem2.2.symm).sound hT hstd
   | false=>
    have hp:=halt (i,m) (by
     unfold qfx
     rw [List.mem_flatMap]
     refine ⟨i,List.mem_range.2 hi,?_⟩
     rw [hx]
     have hfr:qmq full L.length (wrOf L 0) i=true:=by
      cases hfr:qmq full L.length (wrOf L 0) i with
      | true=>rfl
      | false=>
       have:=jiq hord hlen hi (fun y hy=>by rw [hx] at hy;cases hy;exact hw) hfr hmay
       rw [hsw] at this;cases this
     simp only [hw,hcall,hfr,Bool.or_false,cond_false,cond_true,List.mem_map,List.mem_filter,zas]
     exact ⟨m,⟨by omega,by rw [hmay,hsw];rfl⟩,rfl⟩)
    rcases hp with hp|⟨y,hy,hy1,hy2⟩
    ·exact (hstep.congr (s':=stateAt L 0 S s0) (fun t ht=>(hslots t ht).symm) (hp.1.symm.trans hmem.1.symm) (hp.2.symm.trans hmem.2.symm)).sound hT hstd
    ·rw [hx] at hy
     cases hy
     obtain ⟨f1,f2,f3⟩:=hfoot hw hy1
     rcases hstep with ⟨res,q,h1,h2,e1,e2,_⟩|⟨h0,_⟩
     ·obtain ⟨q',g1,g2,g3,g4⟩:=jip hT (s':=stateAt L 0 S s0) f1 f2 (fun t ht=>(hslots t ht).symm) (fun n hn=>by rw [hmem.1];exact hy2 n (f3 n hn)) h1 (by rw [e2,hw])
      exact SStep.sound hT hstd (.inl ⟨res,q',g1,g2 h2,g3.trans e1,by rw [g4,hw],fun h=>by rw [g4] at h;cases h⟩)
     ·rw [hw] at h0;cases h0
def CallY (P:Program) (f:FuncId) (args:List AV) (st:List (Nat × SO)) (nx:Nat) (X:AV→Prop) (K0:AV→Prop) (K1:AV→List (Nat × SO)→Nat→Prop):Prop:=
 (∃ v,qcu P f args v∧K0 v)∨∃ v st' nx',qys P f args st nx X ⟨v,true,st',nx',True⟩∧K1 v st' nx'
def CallZ (P:Program) (g:Bool) (f:FuncId) (args:List AV) (K:AV→Prop):Prop:=∃ v:AV,(g=true→qcu P f args v)∧K v
def qti:List Oper→List (Bool × List (Nat × SO) × Nat)→List (Oper × Stp)
 | o::r,(b,st,nx)::ws=>(o,⟨.any,b,st,nx,True⟩)::qti r ws
 | _,_=>[]
def wOf (p:Stp):Bool × List (Nat × SO) × Nat:=(p.wr,p.st,p.nx)
theorem qyx:∀ (L:List (Oper × Stp)),qti (L.map (·.1)) (L.map fun x=>wOf x.2)=L.map skel
 | []=>rfl
 | (o,p)::r=>by
  have ih:=qyx r
  exact congrArg (List.cons _) ih
def qph {α:Sort _}:List Nat→(List (Nat × SO)→α)→α
 | [],K=>K []
 | x::r,K=>frcN x fun x=>qph r fun r=>K ((x,.box 0 [])::r)
theorem qyy {α:Sort _}:∀ (l:List Nat) (K:List (Nat × SO)→α),qph l K=K (l.map fun n=>(n,.box 0 []))
 | [],_=>rfl
 | x::r,K=>by simp only [qph,jp,qyy r,xp]
def EndG (E:Env) (B:Nat→ASt→Prop) (n:Nat) (k:List Itm) (s:ASt):Prop:=(∃ s',(Ok E B k s'→Ok E B k s)∧exec E B n k s')∨Ok E B k s
theorem EndG.go {E:Env} {B:Nat→ASt→Prop} {n:Nat} {k:List Itm} {s:ASt} (h:exec E B n k s):EndG E B n k s:=.inl ⟨s,id,h⟩
def qpi:SO:=.row [] 0 1 0 1 fun _=>[.agg []]
theorem qyz {c:Ctx} {rd:Rd} {mp:Mp} {st:List (Nat × SO)} {nx:Nat} {w:World} {i:Nat} (h:look st i=some qpi) (hm:Mem c rd mp st nx w):False:=by
 obtain ⟨v,xs,_,_,_,h4,_⟩:=hm.mb i 0 _ (.row h)
 obtain ⟨u,_,h5,h6⟩:=h4 0 0 (.agg []) Nat.one_pos rfl
 cases h6
 cases h5
theorem EndG.dead {E:Env} {B:Nat→ASt→Prop} {n:Nat} {k:List Itm} {s:ASt} (i:Nat) (h:look s.st i=some qpi):EndG E B n k s:=.inr fun _ _ _ _ hs _ _=>(qyz h hs.mem).elim
def D4X (E:Env) (B:Nat→ASt→Prop) (n:Nat) (k:List Itm) (full:Array Oper) (s0:ASt) (ft:Bool):List Oper→List (Bool × List (Nat × SO) × Nat)→ASt→Prop
 | [],acc,s=>AltG full (qti full.toList acc.reverse) s0 (EndG E B n k s)
 | ⟨dst,op,ty,pos,aft,guard⟩::rest,acc,⟨sl,st,nx⟩=>
  match jm E dst with
  | false=>False
  | true=>
   match guard with
   | none=>
    match aop E.T E.C ⟨sl,st,nx⟩ dst op with
    | .ok ob v=>
     match bif ft then qhm op else false with
     | true=>qph (qtg ⟨sl,st,nx⟩ op) fun fs=>cj ob (frc v fun v=>je sl dst (fun sl'=>D4X E B n k full s0 ft rest ((false,fs,1)::acc) ⟨sl',st,nx⟩) v)
     | false=>cj ob (frc v fun v=>je sl dst (fun sl'=>D4X E B n k full s0 ft rest ((false,[],0)::acc) ⟨sl',st,nx⟩) v)
    | .mem ob v st' nx'=>cj ob (frcN nx' fun nx'=>qao st' fun st'=>frc v fun v=>je sl dst (fun sl'=>D4X E B n k full s0 ft rest ((true,st',nx')::acc) ⟨sl',st',nx'⟩) v)
    | .call f args=>frcL args fun args=>CallY E.P f args st nx (E.X [] nx) (fun v=>je sl dst (fun sl'=>D4X E B n k full s0 ft rest ((false,[],0)::acc) ⟨sl',st,nx⟩) v)
      (fun v st' nx'=>je sl dst (fun sl'=>D4X E B n k full s0 ft rest ((true,st',nx')::acc) ⟨sl',st',nx'⟩) v)
    | .bad=>False
   | some (j,want)=>
    match (qbi full j).map (ASt.get ⟨sl,st,nx⟩) with
    | some x=>
     match qcs want x with
     | some g=>
      match aop E.T E.C ⟨sl,st,nx⟩ dst op with
      | .ok ob v=>cj (gob g (andO (jh st v) ob)) (frc (strip st v) fun v'=>je sl dst (fun sl'=>D4X E B n k full s0 ft rest ((false,[],0)::acc) ⟨sl',st,nx⟩) (.cnd g v'))
      | .call f args=>frcL args fun args=>CallZ E.P g f args fun v=>
        je sl dst (fun sl'=>D4X E B n k full s0 ft rest ((false,[],0)::acc) ⟨sl',st,nx⟩) (.cnd g v)
      | _=>False
     | none=>False
    | none=>False
theorem jjb {g:Bool} {ob:Option DP} (h:obT (gob g ob)):g=true→obT ob:=by
 cases ob with
 | none=>exact fun _=>trivial
 | some d=>exact h
theorem jjc {E:Env} {B:Nat→ASt→Prop} {n:Nat} {k:List Itm} {full:Array Oper} {s0:ASt} {ft:Bool}:∀ (l:List Oper) (L0:List (Oper × Stp)) (acc:List (Bool × List (Nat × SO) × Nat)) (s:ASt),AccS E full L0 s0 s→L0.map (fun x=>wOf x.2)=acc.reverse→L0.map (·.1)++l=full.toList→D4X E B n k full s0 ft l acc s→
  ∃ L s',AccS E full L s0 s'∧L.map (·.1)=full.toList∧AltG full (L.map skel) s0 (EndG E B n k s'):=by
 intro l
 induction l with
 | nil=>
  intro L0 acc s ha hw hl h
  simp only [D4X] at h
  rw [zaq] at hl
  rw [← hl,← hw,qyx] at h
  exact ⟨L0,s,ha,hl,h⟩
 | cons o rest ih=>
  intro L0 acc s ha hw hl h
  obtain ⟨dst,op,ty,pos,aft,guard⟩:=o
  obtain ⟨sl,st,nx⟩:=s
  have go:∀ (p:Stp),SStep E full ⟨sl,st,nx⟩ ⟨dst,op,ty,pos,aft,guard⟩ p→FootOk ⟨sl,st,nx⟩ ⟨dst,op,ty,pos,aft,guard⟩ p→D4X E B n k full s0 ft rest (wOf p::acc) ⟨qbj sl dst p.v,bif p.wr then p.st else st,bif p.wr then p.nx else nx⟩→
    ∃ L s',AccS E full L s0 s'∧L.map (·.1)=full.toList∧AltG full (L.map skel) s0 (EndG E B n k s'):=by
   intro p hp hf hk
   have hk':D4X E B n k full s0 ft rest (wOf p::acc) (after ⟨sl,st,nx⟩ ⟨dst,op,ty,pos,aft,guard⟩ p):=hk
   exact ih (L0++[(⟨dst,op,ty,pos,aft,guard⟩,p)]) (wOf p::acc) _ (ha.snoc hp hf) (by rw [List.map_append,hw,List.reverse_cons];rfl) (by rw [← hl];simp) hk'
  simp only [D4X] at h
  cases hd:jm E dst with
  | false=>simp only [hd] at h
  | true=>
   simp only [hd] at h
   cases guard with
   | none=>
    simp only at h
    cases hr:aop E.T E.C ⟨sl,st,nx⟩ dst op with
    | bad=>simp only [hr] at h
    | ok ob v=>
     simp only [hr] at h
     cases hn:(bif ft then qhm op else false) with
     | true=>
      have hn':qhm op=true:=by cases ft with|true=>exact hn|false=>cases hn
      simp only [hn,qyy,ju,jd] at h
      obtain ⟨hob,hk⟩:=cj_iff.1 h
      exact go ⟨v,false,_,1,True⟩ (.inl ⟨.any,⟨v,false,st,nx,obT ob⟩,by simp only [jk,hd,hr],hob,rfl,rfl,fun h=>by cases h⟩) (fun _ _=>⟨rfl,hn',fun m hm=>List.mem_map.2 ⟨(m,.box 0 []),List.mem_map.2 ⟨m,hm,rfl⟩,rfl⟩⟩) hk
     | false=>
      simp only [hn,ju,jd] at h
      obtain ⟨hob,hk⟩:=cj_iff.1 h
      exact go ⟨v,false,[],0,True⟩ (.inl ⟨.any,⟨v,false,st,nx,obT ob⟩,by simp only [jk,hd,hr],hob,rfl,rfl,fun h=>by cases h⟩) (fun _ h=>by cases h) hk
    | mem ob v st' nx'=>
     simp only [hr,jp,qaz,ju,jd] at h
     obtain ⟨hob,hk⟩:=cj_iff.1 h
     exact go ⟨v,true,st',nx',True⟩ (.inl ⟨.any,⟨v,true,st',nx',obT ob⟩,by simp only [jk,hd,hr],hob,rfl,rfl,fun _=>⟨rfl,rfl⟩⟩) (fun h=>by cases h) hk
    | call f args=>
     simp only [hr,qcg] at h
     rcases h with ⟨v,h1,hk⟩|⟨v,st',nx',h1,hk⟩
     ·simp only [jd] at hk
      exact go ⟨v,false,[],0,True⟩ (.inl ⟨v,⟨v,false,st,nx,qcu E.P f args v⟩,by simp only [jk,hd,hr],h1,rfl,rfl,fun h=>by cases h⟩) (fun _ h=>by cases h) hk
     ·simp only [jd] at hk
      exact go ⟨v,true,st',nx',True⟩ (.inr ⟨rfl,hd,rfl,f,args,hr,h1⟩) (fun h=>by cases h) hk
   | some jw=>
    obtain ⟨j,want⟩:=jw
    simp only at h
    cases hy:(qbi full j).map (ASt.get ⟨sl,st,nx⟩) with
    | none=>simp only [hy] at h
    | some y=>
     simp only [hy] at h
     cases hg:qcs want y with
     | none=>simp only [hg] at h
     | some g=>
      simp only [hg] at h
      cases hr:aop E.T E.C ⟨sl,st,nx⟩ dst op with
      | bad=>simp only [hr] at h
      | mem=>simp only [hr] at h
      | ok ob v=>
       simp only [hr,ju,jd] at h
       obtain ⟨hob,hk⟩:=cj_iff.1 h
       exact go ⟨.cnd g (strip st v),false,[],0,True⟩ (.inl ⟨.any,⟨.cnd g (strip st v),false,st,nx,g=true→obT (andO (jh st v) ob)⟩,by simp only [jk,hd,hy,hg,hr],jjb hob,rfl,rfl,fun h=>by cases h⟩) (fun _ h=>by cases h) hk
      | call f args=>
       simp only [hr,qcg] at h
       obtain ⟨v,hv,hk⟩:=h
       simp only [jd] at hk
       exact go ⟨.cnd g v,false,[],0,True⟩ (.inl ⟨v,⟨.cnd g v,false,st,nx,g=true→qcu E.P f args v⟩,by simp only [jk,hd,hy,hg,hr],hv,rfl,rfl,fun h=>by cases h⟩) (fun _ h=>by cases h) hk
theorem qza {E:Env} {B:Nat→ASt→Prop} {id:Nat} {ops:Array Oper} {k:List Itm} {s:ASt} (hT:∀ t,E.T t=tab E.P t) (hmix:E.P.follows .mixedOrders=true) (n:Nat) (ft:Bool) (h:D4X E B n k ops s ft ops.toList [] s):qby E B id ops k s:=by
 obtain ⟨L,s',h1,h2,h3,h4,h5⟩:=jjc ops.toList [] [] s ⟨rfl,fun i x hx=>by simp at hx⟩ rfl rfl h
 rw [jit] at h3
 rw [jiw] at h4
 refine jja hT hmix h1 h2 h3 (fun p hp=>?_) (by rcases h5 with ⟨s2,h9,h10⟩|h9;exact h9 (qbk hT n _ _ h10);exact h9)
 have h6:=h4 p hp
 have h7:=qpg L 0 (fun j=>decide (j<p.1)) s s rfl rfl
 have h8:=qpg L 0 (fun j=>decide (j<p.2)) s s rfl rfl
 rcases h6 with h6|⟨x,hx,hx1,hx2⟩
 ·exact .inl ⟨h8.1.symm.trans (h6.1.trans h7.1),h8.2.symm.trans (h6.2.trans h7.2)⟩
 ·rw [zg] at hx
  obtain ⟨y,hy,rfl⟩:=Option.map_eq_some_iff.1 hx
  exact .inr ⟨y,hy,hx1,fun n hn=>by rw [← h7.1,← h8.1];exact hx2 n hn⟩
theorem draw4 {E:Env} {B:Nat→ASt→Prop} {id:Nat} {ops:Array Oper} {k:List Itm} {s:ASt} (hT:∀ t,E.T t=tab E.P t) (hmix:E.P.follows .mixedOrders=true) (n:Nat) (h:D4X E B n k ops s false ops.toList [] s):qby E B id ops k s:=qza hT hmix n false h
theorem qi {E:Env} {B:Nat→ASt→Prop} {id:Nat} {ops:Array Oper} {k:List Itm} {s:ASt} (hT:∀ t,E.T t=tab E.P t) (hmix:E.P.follows .mixedOrders=true) (n:Nat) (h:D4X E B n k ops s true ops.toList [] s):qby E B id ops k s:=qza hT hmix n true h
theorem jjd {E:Env} {B:Nat→ASt→Prop} {id:Nat} {ops:Array Oper} {k:List Itm} {s:ASt} (hT:∀ t,E.T t=tab E.P t) (hmix:E.P.follows .mixedOrders=true) (n:Nat) (_:(ops.toList.all fun o=>!jg o.op)=true)
  (h:D3X E B n k ops (fun cs=>match qaq E ops ops.toList cs s with|some (L,_)=>qez ops L|none=>false) ops.toList [] s):qby E B id ops k s:=qyn hT hmix n h
theorem CallY.con {P:Program} {f:FuncId} {args:List AV} {st:List (Nat × SO)} {nx:Nat} {X:AV→Prop} {K0:AV→Prop} {K1:AV→List (Nat × SO)→Nat→Prop} {args':List AV} {res:AV} (h:Con P f args' res) (hp:args'.all AV.pure=true) (hl:LeL args args') (hk:K0 res):CallY P f args st nx X K0 K1:=
 .inl ⟨res,⟨args',h,hp,hl⟩,hk⟩
theorem CallZ.con {P:Program} {g:Bool} {f:FuncId} {args:List AV} {K:AV→Prop} {res:AV} (h:g=true→Con P f (args.map unc) res) (hg:qil g args) (hp:(args.map unc).all AV.pure=true) (hk:K res):CallZ P g f args K:=
 ⟨res,jil h hg hp,hk⟩
theorem CallY.trip {P:Program} {f:FuncId} {args:List AV} {st:List (Nat × SO)} {nx:Nat} {X:AV→Prop} {K0:AV→Prop} {K1:AV→List (Nat × SO)→Nat→Prop} (is:List Nat) {args':List AV} {st0:List SO} {res:AV} {st1:List (Nat × SO)} {n1:Nat}
  (ht:Trip P f args' st0 res st1 n1) (hchk:qdz is nx args' st0 res st1 n1=true) (hl:LeL args (args'.map (AV.ren (names is nx)))) (hnm:NamedL st (names is nx) is st0) (hr0:rowsLt st0.length (idx 0 st0)) (hr1:rowsLt n1 st1)
  (hk:frcN (nx+(n1 - is.length)) fun nx'=>qao (jc (names is nx) st1++qu is st) fun st'=>frc (res.ren (names is nx)) fun v=>K1 v st' nx'):CallY P f args st nx X K0 K1:=by
 rw [jp,qaz,ju] at hk
 refine .inr ⟨res.ren (names is nx),jc (names is nx) st1++qu is st,nx+(n1 - is.length),?_,hk⟩
 simp only [qdz,zf,zl] at hchk
 obtain ⟨⟨⟨⟨⟨⟨c1,c2⟩,c3⟩,c4⟩,c5⟩,c6⟩,c7⟩:=hchk
 have hnd:=qkg c1
 have hlt:∀ i∈is,i<nx:=fun i hi=>by have:=List.all_eq_true.1 c2 i hi;simp only [zl] at this;omega
 obtain ⟨hlen,hnm'⟩:=hnm.get
 intro c rd mp w vs hstd hM hargs
 have hsi:∀ i x,look st i=some x→i<nx:=fun i x hx=>by have:=hM.ids i x hx;rw [hstd] at this;simp only [stdF] at this;omega
 have hsub:SubL st (jc (names is nx) (idx 0 st0)++qu is st):=by
  intro y x hx
  rw [qbq hnd hlt hsi] at hx
  cases hi:inv is nx y with
  | none=>rw [hi] at hx;exact ⟨x,hx,SoLe.refl x⟩
  | some j=>
   rw [hi] at hx
   obtain ⟨o,ho,rfl⟩:=Option.map_eq_some_iff.1 hx
   rw [qkf,zb (xv _),Nat.sub_zero] at ho
   obtain ⟨z,hz,hle⟩:=hnm' j o ho
   have hj:j<is.length:=by rw [hlen];exact (List.getElem?_eq_some_iff.1 ho).1
   have hy:=qey hi
   unfold names at hy
   rw [zb hj] at hy
   rw [← hy]
   exact ⟨z,hz,hle⟩
 have hm1:=hM.weak hsub
 have hnamed:Named (idx 0 st0) (jc (names is nx) (idx 0 st0)++qu is st) (names is nx):=by
  refine ⟨fun j o hj=>?_⟩
  rw [qbq hnd hlt hsi,qex hnd hlt]
  simp only
  rw [hj];rfl
 have hent:=hm1.enter hnamed c3 hr0 (fun i j _ _ h=>qmg hnd hlt h)
 have hargs0:RelL rd ((mp.pull (names is nx)).restrict st0.length) args' vs:=by
  have h1:=hargs.le hl
  refine ⟨by rw [h1.1,zu],fun j x v hx hv=>?_⟩
  have hxl:=List.all_eq_true.1 c4 x (zh hx)
  exact ((qfu hxl).2 (h1.2 j _ v (by rw [zg,hx];rfl) hv)).lt hxl
 refine (ht _ rd _ w vs rfl rfl rfl hent hargs0).mono ?_ (fun _ _ h=>False.elim h)
 rintro v w' ⟨rd',mp',h1,h2,h3,h4⟩
 rw [← hlen] at h3
 obtain ⟨hle,hfin⟩:=hm1.leave hstd hnd hlt hnamed h2 h4 (by omega) c5 hr1 h3
 have hfin':Mem c rd' (mp.back mp' is nx) (jc (names is nx) st1++qu is st) (nx+(n1 - is.length)) w':=by
  refine hfin.forget (fun y x hx=>?_)
  have e1:=qbq (st:=st) hnd hlt hsi st1 y
  have e2:=qbq (st:=jc (names is nx) (idx 0 st0)++qu is st) hnd hlt (fun i x hx=>by have:=hm1.ids i x hx;rw [hstd] at this;simp only [stdF] at this;omega) st1 y
  have e3:=qbq (st:=st) hnd hlt hsi (idx 0 st0) y
  rw [e1] at hx
  refine e2.trans ?_
  cases hi:inv is nx y with
  | none=>
   rw [hi] at hx e3
   exact e3.trans hx
  | some j=>
   rw [hi] at hx
   exact hx
 have hres:Rel rd' (mp.back mp' is nx) (res.ren (names is nx)) v:=by
  refine (qfu c6).1 ?_
  rw [qse hnd hlt]
  exact h1
 exact ⟨rd',mp.back mp' is nx,h2,hle,hfin',hres⟩
attribute [irreducible] CallY CallZ AltG EndG
section
variable {c:Ctx} {rd:Rd} {mp:Mp} {st:List (Nat × SO)} {nx:Nat} {w:World}
end
section
variable {c:Ctx} {rd:Rd} {mp:Mp} {st:List (Nat × SO)} {nx:Nat} {w:World}
def SO.simple:SO→Bool
 | .row [] _ _ _ _ _=>true
 | .box _ _=>true
 | _=>false
theorem Mem.rename (hm:Mem c rd mp st nx w) (hstd:c.fre=stdF) (ι:Nat→Nat) {st':List (Nat × SO)} {n:Nat}
  (hl:∀ i x,look st' i=some x→look st (ι i)=some (x.ren ι)∧x.simple=true∧i<n∧x.lt n=true)
  (hinj:∀ i j,i<n→j<n→ι i=ι j→i=j):Mem c rd ((mp.pull ι).restrict n) st' n w:=by
 have hmem:∀ r' i R,IsMem st' r' i R→IsMem st (ι r') i R∧R.ids=[]∧r'<n∧i=0:=by
  intro r' i R hR
  cases hR with
  | row h=>
   obtain ⟨h1,h2,h3,h4⟩:=hl _ _ h
   clear h4
   rename_i ids e sz ep m f
   cases ids with
   | nil=>exact ⟨.row h1,rfl,h3,rfl⟩
   | cons a b=>simp [SO.simple] at h2
  | fam h _=>obtain ⟨_,h2,_⟩:=hl _ _ h;simp [SO.simple] at h2
 have hth:∀ p,There st' p→(∃ r',p=.rw r' 0∧r'<n∧There st (.rw (ι r') 0))∨∃ b,p=.bx b∧b<n∧There st (.bx (ι b)):=by
  intro p hp
  cases p with
  | bx b=>obtain ⟨ty,cs,h⟩:=hp;obtain ⟨h1,_,h3,_⟩:=hl _ _ h;exact .inr ⟨b,rfl,h3,ty,_,h1⟩
  | rw r' i=>obtain ⟨R,hR⟩:=hp;obtain ⟨h1,_,h3,rfl⟩:=hmem _ _ _ hR;exact .inl ⟨r',rfl,h3,R,h1⟩
 refine ⟨hm.rdw,hm.rd1,hm.rdn,hm.fr,fun b ty cs h=>?_,fun r' i R hR=>?_,fun p q g hp hq hgp hgq=>?_,fun i hi=>?_,fun i x h=>?_,fun r' e' sz' cnt ep' len f' h=>?_,fun r' sz' ep' n' f' h=>?_,hm.tab⟩
 ·obtain ⟨h1,_,h3,h4⟩:=hl _ _ h
  obtain ⟨g,vs,g1,g2,g3,g4,g5,g6⟩:=hm.bx (ι b) ty _ h1
  refine ⟨g,vs,by simp only [Mp.restrict,Mp.pull,zb h3];exact g1,g2,by rw [g3,zu],fun j x v hx hv=>?_,g5,g6⟩
  have hxl:x.lt1 n=true:=List.all_eq_true.1 h4 x (zh hx)
  exact ((qin hxl).2 (g4 j (x.ren1 ι) v (by rw [zg,hx];rfl) hv)).lt1 hxl
 ·obtain ⟨h0,hids,hr,rfl⟩:=hmem _ _ _ hR
  obtain ⟨v,xs,h1,h2,h3,h4,h5⟩:=hm.mb _ _ _ h0
  refine ⟨v,xs,by simp only [Mp.restrict,Mp.pull,zb hr];exact h1,h2,h3,fun k j x hk hx=>?_,h5⟩
  obtain ⟨u,h6,h7,h8⟩:=h4 k j x hk hx
  exact ⟨u,h6,h7,by rw [hids,Mp.sel_nil] at h8 ⊢;exact h8⟩
 ·have hb:∀ p,There st' p→∃ q,blkOf ((mp.pull ι).restrict n) p=blkOf mp q∧There st q∧q=p.ren ι∧qtc p<n:=by
   intro p hp
   rcases hth p hp with ⟨r',rfl,hr,ht⟩|⟨b,rfl,hb,ht⟩
   ·exact ⟨.rw (ι r') 0,by simp only [blkOf,Mp.restrict,Mp.pull,zb hr],ht,rfl,hr⟩
   ·exact ⟨.bx (ι b),by simp only [blkOf,Mp.restrict,Mp.pull,zb hb],ht,rfl,hb⟩
  obtain ⟨p',e1,e2,e3,e4⟩:=hb p hp
  obtain ⟨q',f1,f2,f3,f4⟩:=hb q hq
  rw [e1] at hgp
  rw [f1] at hgq
  have:=hm.inj p' q' g e2 f2 hgp hgq
  rw [e3,f3] at this
  cases p with
  | bx a=>cases q with
   | bx b=>simp only [Pl.ren,Pl.bx.injEq] at this;rw [hinj a b e4 f4 this]
   | rw r i=>simp [Pl.ren] at this
  | rw r i=>cases q with
   | bx b=>simp [Pl.ren] at this
   | rw r2 i2=>simp only [Pl.ren,Pl.rw.injEq] at this;rw [hinj r r2 e4 f4 this.1,this.2]
 ·rw [hstd] at hi
  simp only [stdF] at hi
  exact ⟨by unfold Mp.restrict;exact za (by omega),fun _=>by unfold Mp.restrict;exact za (by omega)⟩
 ·obtain ⟨_,_,h3,_⟩:=hl _ _ h
  rw [hstd];simp only [stdF];omega
 ·obtain ⟨_,h2,_⟩:=hl _ _ h;simp [SO.simple] at h2
 ·obtain ⟨_,h2,_⟩:=hl _ _ h;simp [SO.simple] at h2
end
def TurnR (E:Env) (s s':ASt):Prop:=∀ rd mp a w,SR E.c rd mp s a w→Base E rd mp→∃ rd' mp',SR E.c rd' mp' s' a w∧Base E rd' mp'
def re1 (r0 r:Nat) (i:Nat):Nat:=bif Nat.beq i r0 then r else i
def RenSt (st:List (Nat × SO)) (ι:Nat→Nat) (n:Nat):List (Nat × SO)→Prop
 | []=>True
 | (i,x)::l=>((match look st (ι i) with|some y=>SoLe y (x.ren ι)|none=>False)∧(x.simple && Nat.blt i n && x.lt n)=true)∧RenSt st ι n l
theorem RenSt.get {st:List (Nat × SO)} {ι:Nat→Nat} {n:Nat}:∀ {l:List (Nat × SO)},RenSt st ι n l→∀ i x,look l i=some x→(∃ y,look st (ι i)=some y∧SoLe y (x.ren ι))∧x.simple=true∧i<n∧x.lt n=true
 | [],_,_,_,h=>by simp [look] at h
 | (j,z)::l,hl,i,x,h=>by
  rw [qq] at h
  split at h
  ·rename_i e
   subst e
   cases h
   obtain ⟨h1,h2⟩:=hl.1
   simp only [zf,xl] at h2
   split at h1
   ·rename_i y hy;exact ⟨⟨y,hy,h1⟩,h2.1.1,h2.1.2,h2.2⟩
   ·exact False.elim h1
  ·exact hl.2.get i x h
def RenSl (s:ASt) (ι:Nat→Nat) (n:Nat):List (Nat × AV)→Prop
 | []=>True
 | (t,v)::l=>(Le (s.get t) (v.ren ι)∧v.lt n=true)∧RenSl s ι n l
theorem RenSl.get {s:ASt} {ι:Nat→Nat} {n:Nat}:∀ {l:List (Nat × AV)},RenSl s ι n l→∀ t v,look l t=some v→Le (s.get t) (v.ren ι)∧v.lt n=true
 | [],_,_,_,h=>by simp [look] at h
 | (j,z)::l,hl,i,x,h=>by
  rw [qq] at h
  split at h
  ·rename_i e;subst e;cases h;exact hl.1
  ·exact hl.2.get i x h
theorem TurnR.ren {E:Env} {sl sl':List (Nat × AV)} {st st':List (Nat × SO)} {nx n:Nat} (r0 r:Nat) (hr:(Nat.blt r0 n && Nat.ble n r && Nat.ble E.nxb r0 && Nat.ble n nx)=true) (h1:RenSl ⟨sl,st,nx⟩ (re1 r0 r) n sl') (h2:RenSt st (re1 r0 r) n st'):TurnR E ⟨sl,st,nx⟩ ⟨sl',st',n⟩:=by
 intro rd mp a w hs hb
 simp only [zf,xl,zl] at hr
 obtain ⟨⟨⟨hr1,hr2⟩,hr3⟩,hr4⟩:=hr
 have hι:∀ i,re1 r0 r i=if i=r0 then r else i:=fun i=>by
  unfold re1
  by_cases e:i=r0
  ·subst e;simp
  ·have:Nat.beq i r0=false:=by rw [Bool.eq_false_iff];intro h;exact e (zj h)
   rw [this,za e];rfl
 have hinj:∀ i j,i<n→j<n→re1 r0 r i=re1 r0 r j→i=j:=by
  intro i j hi hj h
  rw [hι,hι] at h
  split at h <;> split at h <;> omega
 -- first weaken, then rename
 have hw:Mem E.c rd mp (st'.map fun p=>(re1 r0 r p.1,p.2.ren (re1 r0 r))) nx w:=by
  refine hs.mem.weak fun i x hx=>?_
  have key:∀ (l:List (Nat × SO)),RenSt st (re1 r0 r) n l→look (l.map fun p=>(re1 r0 r p.1,p.2.ren (re1 r0 r))) i=some x→∃ y,look st i=some y∧SoLe y x:=by
   intro l hl hx
   induction l with
   | nil=>simp [look] at hx
   | cons p l ih=>
    obtain ⟨j,z⟩:=p
    rw [xp,qq] at hx
    split at hx
    ·rename_i e
     cases hx
     have h3:=hl.1.1
     simp only at e
     rw [← e]
     split at h3
     ·rename_i y hy;exact ⟨y,hy,h3⟩
     ·exact False.elim h3
    ·exact ih hl.2 hx
  exact key st' h2 hx
 have hlk:∀ i x,look st' i=some x→look (st'.map fun p=>(re1 r0 r p.1,p.2.ren (re1 r0 r))) (re1 r0 r i)=some (x.ren (re1 r0 r)):=by
  have key:∀ (l:List (Nat × SO)),RenSt st (re1 r0 r) n l→∀ i x,look l i=some x→look (l.map fun p=>(re1 r0 r p.1,p.2.ren (re1 r0 r))) (re1 r0 r i)=some (x.ren (re1 r0 r)):=by
   intro l
   induction l with
   | nil=>intro _ i x h;simp [look] at h
   | cons p l ih=>
    intro hl i x h
    obtain ⟨j,z⟩:=p
    have hin:=(RenSt.get hl i x h).2.2.1
    have hj:=hl.1.2
    simp only [zf,xl] at hj
    rw [qq] at h
    rw [xp,qq]
    split at h
    ·rename_i e;subst e;cases h;rw [zb rfl]
    ·rename_i e
     rw [za (fun h=>e (hinj j i hj.1.2 hin h))]
     exact ih hl.2 i x h
  exact key st' h2
 have hm:=hw.rename hb.std (re1 r0 r) (st':=st') (n:=n) (fun i x hx=>⟨hlk i x hx,(RenSt.get h2 i x hx).2⟩) hinj
 refine ⟨rd,_,⟨fun t=>?_,hs.defers,hm⟩,⟨hb.rd,?_,hb.low,hb.std⟩⟩
 ·unfold ASt.get
  cases hx:look sl' t with
  | none=>exact .any _ _
  | some v=>
   obtain ⟨h3,h4⟩:=RenSl.get h1 t v hx
   exact ((qfu h4).2 (h3.rel (hs.slots t))).lt h4
 ·refine ⟨fun i g hg=>?_,fun q i v e k hq=>?_⟩
  ·have hi:i<E.nxb:=by
    by_cases hi:i<E.nxb
    ·exact hi
    ·rw [(hb.low i (by omega)).1] at hg;cases hg
   have:=hb.mp.blk i g hg
   simp only [Mp.restrict,Mp.pull,zb (show i<n by omega),hι,za (show i≠r0 by omega)]
   exact this
  ·have hi:q<E.nxb:=by
    by_cases hi:q<E.nxb
    ·exact hi
    ·rw [(hb.low q (by omega)).2 i] at hq;cases hq
   have:=hb.mp.row q i v e k hq
   simp only [Mp.restrict,Mp.pull,zb (show q<n by omega),hι,za (show q≠r0 by omega)]
   exact this
theorem Ob.auto {p r:Prop} (k:r) (h:p:=by first|exact trivial|rfl|exact fun h=>h|(show TI.cmp _=true;kernel_rfl)|omega|exact And.intro trivial trivial|exact And.intro rfl trivial|((repeat' (first|exact trivial|exact rfl|(refine And.intro ?_ ?_)));done)|exact qv (by omega) (by omega)|(intro h;simp at h;omega)|(intro h;(repeat' (first|exact h|exact rfl|(show TI.cmp _=true;kernel_rfl)|exact qv (by omega) (by omega)|(refine And.intro ?_ ?_))) <;> first|(have h:=zag h;omega)|(simp at h;omega)|(simp at h;done)|(simp at h ⊢;exact h)|(simp at h ⊢;omega))|(intro h;rw [h];rfl)|(intro h;simp [h];done)|((try dsimp only);(repeat' (refine And.intro ?_ ?_)) <;> first|omega|(refine xb (zw _ (?_:_≤4000001)) (by decide +kernel);omega)|rfl)|(intros;simp_all;done)|fail):Ob p r:=Ob.intro h k
theorem qa {p:Prop} (h:p:=by repeat' (first|exact trivial|exact Le.refl _|exact SoLe.refl _|exact le_snoc (fun _ _=>rfl) rfl|exact le_encSnoc' rfl rfl rfl|exact put_upto rfl rfl|exact rfl|exact fun _ _=>LeL.refl _|exact Le.of_eq (congrArg (AV.own _ _ _) List.length_append.symm)|(refine ⟨?_,?_⟩)|exact Le.of_eq (congrArg (AV.int _) (by omega))|exact Le.of_eq (congrArg (AV.own _ _ _) (by first|omega|(simp;done)|(simp;omega)))|exact Le.of_eq (by first|rfl|(simp;done))|exact fun i hi=>absurd hi (zv i)|omega|(simp;done))):p:=h
theorem subA {p:Prop} (h:p:=by repeat' (first|exact trivial|exact Le.refl _|exact Le.of_eq (by congr 1;omega)|exact Le.of_eq (congrArg (AV.int _) (by omega))|exact Le.of_eq (congrArg (AV.own _ _ _) (by first|omega|(simp;done)|(simp;omega)))|exact Le.of_eq (by first|rfl|(simp;done))|exact ⟨⟨rfl,rfl,rfl⟩,rfl,rfl,fun _ _=>LeL.refl _⟩|exact ⟨⟨rfl,rfl,rfl⟩,rfl,rfl,fun i hi=>absurd hi (zv i)⟩|exact ⟨⟨rfl,rfl,rfl⟩,rfl,by simp,fun i hi=>LeL.refl _⟩|exact rfl|(refine And.intro ?_ ?_))):p:=h
theorem leA {p:Prop} (h:p:=by (repeat' (first|exact trivial|exact Le.refl _|(refine And.intro ?_ ?_))) <;> fail):p:=h
theorem qn {p:Prop} (h:p:=by (repeat' (first|exact trivial|(refine And.intro rfl ?_))) <;> fail):p:=h
theorem frzA {p:Prop} (h:p:=by repeat' (first|exact trivial|exact ⟨rfl,rfl⟩|exact ⟨rfl,rfl,rfl⟩|(refine And.intro ?_ ?_))):p:=h
theorem farA {p:Prop} (h:p:=by repeat' (first|exact trivial|exact fun h=>Bool.noConfusion h|exact rfl|(refine And.intro ?_ ?_)|(intro _))):p:=h
theorem qc {p:Prop} (h:p:=by (repeat' (first|exact trivial|exact rfl|(refine And.intro ?_ ?_)|(intro _))) <;> fail):p:=h

section
variable {c:Ctx} {rd:Rd} {mp:Mp} {st:List (Nat × SO)} {nx:Nat} {w:World}
def Mp.addRow (mp:Mp) (F n:Nat):Mp:=⟨mp.blk,fun r i=>if r=F∧i=n then some (.slice Option.none 0 0,0,0) else mp.row r i⟩
theorem Mp.le_addRow {F n:Nat} (h:mp.row F n=Option.none):Mp.le mp (mp.addRow F n):=
 ⟨fun _ _ h=>h,fun r i v e m hr=>by
  refine ⟨v,e,m,?_,.inr ⟨rfl,.inr ⟨rfl,rfl⟩⟩⟩
  simp only [Mp.addRow]
  rw [za]
  ·exact hr
  ·rintro ⟨rfl,rfl⟩
   rw [h] at hr;cases hr⟩
theorem Mem.growFam (h:Mem c rd mp st nx w) {F n:Nat} {e:TypeId} {sz:Nat} {ep len:Nat→Nat} {f:Nat→Nat→List AV} (hl:look st F=some (.fam e sz n ep len f)) :
  Mem c rd (mp.addRow F n) (qz st F (.fam e sz (n+1) (fun k=>if k<n then ep k else 0) (fun k=>if k<n then len k else 0) f)) nx w:=by
 have hno:=h.out F e sz n ep len f hl n (zi _)
 have hrow:∀ r i,¬ (r=F∧i=n)→(mp.addRow F n).row r i=mp.row r i:=fun r i hn=>by simp only [Mp.addRow];rw [za hn]
 have hnf:¬ c.fre nx F:=h.ids F _ hl
 refine h.upd (some (.rw F n)) (Rd.le.refl _) (Mp.le_addRow hno) h.fr h.rdw h.rd1 h.rdn (fun b' ty' cs' hl' hne'=>?_) (fun r i R hR hne=>?_)
  (fun p hp hp'=>⟨?_,fun g hg=>⟨rfl,(h.home hp hg).2.1⟩⟩) (fun b' ty' cs'' ht hl'=>by cases ht) (fun r i R ht hR=>?_)
  (fun p g ht hp hg q hq hq' hg'=>?_) (fun i hi=>?_) (fun i y hy=>?_) (fun r e' sz' cnt ep' len' f'' hl' i hi=>?_) (fun r sz' ep' n' f'' hl'=>?_)
 ·rw [qk] at hl'
  by_cases hb:b'=F
  ·rw [zb hb,hb,hl] at hl';cases hl'
  ·rw [za hb] at hl';exact hl'
 ·by_cases hr:r=F
  ·subst hr
   cases hR with
   | row hl'=>rw [qk,zb rfl,hl] at hl';cases hl'
   | fam hl' hi=>
    rw [qk,zb rfl,hl] at hl'
    cases hl'
    have hin:i≠n:=fun he=>hne (by rw [he])
    have hi':i<n:=by omega
    simp only [zb hi']
    exact .fam hl hi'
  ·exact qsy hr hR
 ·cases p with
  | bx b=>rfl
  | rw r i=>exact hrow r i (fun he=>hp' (by rw [he.1,he.2]))
 ·simp only [Option.some.injEq,Pl.rw.injEq] at ht
  obtain ⟨rfl,rfl⟩:=ht
  cases hR with
  | row hl'=>rw [qk,zb rfl,hl] at hl';cases hl'
  | fam hl' _=>
   rw [qk,zb rfl,hl] at hl'
   cases hl'
   refine ⟨.slice none 0 0,[],?_,⟨by simp,.inl ⟨rfl,by simp⟩⟩,fun k hk=>?_,fun k j x hk=>?_,fun g hg=>by simp [Value.ownBlock] at hg⟩
   ·simp [Mp.addRow]
   ·simp at hk
   ·simp at hk
 ·cases ht
  simp [blkOf,Mp.addRow,Value.ownBlock] at hg
 ·have:=h.fresh i hi
  exact ⟨this.1,fun j=>by rw [hrow i j (fun he=>hnf (he.1 ▸ hi))];exact this.2 j⟩
 ·rw [qk] at hy
  by_cases hid:i=F
  ·rw [hid];exact hnf
  ·rw [za hid] at hy;exact h.ids i y hy
 ·rw [qk] at hl'
  by_cases hid:r=F
  ·subst hid
   rw [zb rfl,hl] at hl'
   cases hl'
   rw [hrow r i (fun he=>by omega)]
   exact h.out r e sz n ep len f hl i (by omega)
  ·rw [za hid] at hl'
   rw [hrow r i (fun he=>hid he.1)]
   exact h.out r e' sz' cnt ep' len' f'' hl' i hi
 ·rw [qk] at hl'
  by_cases hid:r=F
  ·rw [zb hid,hid,hl] at hl';cases hl'
  ·rw [za hid] at hl';exact ⟨hl',hrow r 0 (fun he=>hid he.1)⟩
theorem Turn.grow {E:Env} {sl:List (Nat × AV)} (id F j:Nat) {e:TypeId} {sz ep n:Nat} {f:Nat→List AV} {e':TypeId} {sz':Nat} {ep' len':Nat→Nat} {f':Nat→Nat→List AV}
  (hl:look st id=some (.row [F] e sz ep (n+1) f)) (hF:look st F=some (.fam e' sz' n ep' len' f')) (hc:(f n)[j]?=some .nils) :
  Turn E ⟨sl,st,nx⟩ ⟨sl,qz (qz st F (.fam e' sz' (n+1) (fun k=>if k<n then ep' k else 0) (fun k=>if k<n then len' k else 0) f')) id (.row [F] e sz ep (n+1) (fun k=>if k=n then (f n).set j (.own F n 0 0) else f k)),nx⟩:=by
 intro rd mp a w hs hb
 have hmem:=hs.mem.growFam hF
 have hle:Mp.le mp (mp.addRow F n):=Mp.le_addRow (hs.mem.out F e' sz' n ep' len' f' hF n (zi _))
 have hne:id≠F:=by rintro rfl;rw [hl] at hF;cases hF
 have hl2:look (qz st F (.fam e' sz' (n+1) (fun k=>if k<n then ep' k else 0) (fun k=>if k<n then len' k else 0) f')) id=some (.row [F] e sz ep (n+1) f):=by rw [qk,za hne];exact hl
 obtain ⟨_,_,_,_,h3,_,_⟩:=hs.mem.mb id 0 _ (.row hl)
 simp only at h3
 have hm2:=hmem.rerow (ids':=[F]) (f':=fun k=>if k=n then (f n).set j (.own F n 0 0) else f k) hl2 (fun k hk=>by
   split
   ·rw [List.length_set];exact h3 n (Nat.lt_succ_self _)
   ·exact h3 k hk) (fun k i x y v hk hx hy hr=>by
  by_cases hkn:k=n
  ·subst hkn
   rw [zb rfl,List.getElem?_set] at hx
   by_cases hij:j=i
   ·subst hij
    rw [hc] at hy
    cases hy
    have hlt:j<(f k).length:=(List.getElem?_eq_some_iff.1 hc).1
    rw [zb rfl,zb hlt] at hx
    cases hx
    cases hr
    exact .own _ _ _ _ _ _ (.slice none 0 0) 0 0 (by simp only [Mp.sel,xm,zb,Mp.addRow,and_self]) (zi _) (fun _=>zi _) (fun _ _=>rfl) rfl
   ·rw [za hij] at hx
    rw [hx] at hy
    cases hy
    exact hr
  ·rw [za hkn] at hx
   rw [hx] at hy
   cases hy
   exact hr)
 exact ⟨_,⟨fun t=>(hs.slots t).mono (Rd.le.refl _) hle,hs.defers,hm2⟩,hb.step (Rd.le.refl _) hle⟩
theorem qzn {E:Env} {B:Nat→ASt→Prop} {body:Code} {k:List Itm} {sl:List (Nat × AV)} (id F j:Nat) {e:TypeId} {sz ep n:Nat} {f:Nat→List AV} {e':TypeId} {sz':Nat} {ep' len':Nat→Nat} {f':Nat→Nat→List AV}
  (hl:look st id=some (.row [F] e sz ep (n+1) f)) (hF:look st F=some (.fam e' sz' n ep' len' f')) (hc:(f n)[j]?=some .nils)
  (h:qao (qz (qz st F (.fam e' sz' (n+1) (fun k=>if k<n then ep' k else 0) (fun k=>if k<n then len' k else 0) f')) id (.row [F] e sz ep (n+1) (fun k=>if k=n then (f n).set j (.own F n 0 0) else f k))) fun st'=>qcf E B body k ⟨sl,st',nx⟩):qcf E B body k ⟨sl,st,nx⟩:=by
 rw [qaz] at h
 exact qyl (Turn.grow id F j hl hF hc) h
theorem Turn.fam0 {E:Env} {sl:List (Nat × AV)} (id:Nat) (e':TypeId) (sz':Nat) {e:TypeId} {sz ep n:Nat} {f:Nat→List AV} (hl:look st id=some (.row [] e sz ep n f)) :
  Turn E ⟨sl,st,nx⟩ ⟨sl,(nx,.fam e' sz' 0 (fun _=>0) (fun _=>0) (fun _ _=>[]))::qz st id (.row [nx] e sz ep n f),nx+1⟩:=by
 intro rd mp a w hs hb
 have hsup:Sup E.c nx:=Sup.std hb.std nx
 have hfr:=hs.mem.fresh nx hsup.here
 have hmem:=hs.mem.newFam hsup e' sz' 0
 have hle:Mp.le mp (mp.addFam nx 0):=Mp.le_addFam hfr.2
 have hbn:nx≠id:=by rintro rfl;exact hs.mem.ids _ _ hl hsup.here
 have hl2:look ((nx,SO.fam e' sz' 0 (fun _=>0) (fun _=>0) (fun _ _=>[]))::st) id=some (.row [] e sz ep n f):=by rw [qq,za hbn];exact hl
 obtain ⟨_,_,_,_,h3,_,_⟩:=hs.mem.mb id 0 _ (.row hl)
 simp only at h3
 have hm2:=hmem.rerow (ids':=[nx]) (f':=f) hl2 h3 (fun k j x y v hk hx hy hr=>by
  rw [hx] at hy
  cases hy
  rw [Mp.sel_nil] at hr
  exact hr.mono (Rd.le.refl _) (Mp.none_le_sel _ _))
 have hset:∀ o,qz ((nx,SO.fam e' sz' 0 (fun _=>0) (fun _=>0) (fun _ _=>[]))::st) id o=(nx,SO.fam e' sz' 0 (fun _=>0) (fun _=>0) (fun _ _=>[]))::qz st id o:=fun o=>by
  have:Nat.beq nx id=false:=by
   cases hb':Nat.beq nx id with
   | false=>rfl
   | true=>exact absurd (zj hb') hbn
  simp only [qz,this,cond_false]
 rw [hset] at hm2
 exact ⟨_,⟨fun t=>(hs.slots t).mono (Rd.le.refl _) hle,hs.defers,hm2⟩,hb.step (Rd.le.refl _) hle⟩
theorem jkc {E:Env} {B:Nat→ASt→Prop} {body:Code} {k:List Itm} {sl:List (Nat × AV)} (id:Nat) (e':TypeId) (sz':Nat) {e:TypeId} {sz ep n:Nat} {f:Nat→List AV} (hl:look st id=some (.row [] e sz ep n f))
  (h:frcN (nx+1) fun nx'=>qao (qz st id (.row [nx] e sz ep n f)) fun st'=>qcf E B body k ⟨sl,(nx,.fam e' sz' 0 (fun _=>0) (fun _=>0) (fun _ _=>[]))::st',nx'⟩):qcf E B body k ⟨sl,st,nx⟩:=by
 rw [jp,qaz] at h
 exact qyl (Turn.fam0 id e' sz' hl) h
end
section
variable {rd rd':Rd} {mp mp':Mp} {st:List (Nat × SO)} {nx:Nat} {w w':World}
def AV.ifcP:AV→Bool
 | .ifc _ x=>x.pureA
 | _=>false
theorem Rel.ifcP {x:AV} {v:Value} (h:Rel rd mp x v) (hp:x.ifcP=true):Rel rd mp' x v:=by
 cases h with
 | ifc _ t y u k=>exact .ifc _ _ _ _ (k.pureA hp)
 | _=>simp [AV.ifcP] at hp
def MTrip (P:Program) (f:FuncId) (args:List AV) (st0:List SO) (ok:Bool) (res:AV) (st1:List (Nat × SO)) (n1:Nat) (pv:AV):Prop:=
 ∀ c rd mp w vs,c.w0=w→c.rd0=rd→c.fre=stdF→Mem c rd mp (idx 0 st0) st0.length w→RelL rd mp args vs→Invokes P f vs w
  (fun v w'=>ok=true∧∃ rd' mp',Rel rd' mp' res v∧Rd.le rd rd'∧Mp.le mp mp'∧Mem c rd' mp' st1 n1 w')
  (fun ch w'=>ok=false∧PanI c rd mp st0.length (fun x=>x=pv) ch w')
theorem MTrip.trip {P:Program} {f:FuncId} {args:List AV} {st0:List SO} {ok:Bool} {res:AV} {st1:List (Nat × SO)} {n1:Nat} {pv:AV} (h:MTrip P f args st0 ok res st1 n1 pv) (hok:ok=true):Trip P f args st0 res st1 n1:=by
 intro c rd mp w vs h1 h2 h3 h4 h5
 exact (h c rd mp w vs h1 h2 h3 h4 h5).mono (fun v w' k=>k.2) (fun ch w' k=>by rw [hok] at k;cases k.1)
theorem Trip.m {P:Program} {f:FuncId} {args:List AV} {st0:List SO} {res:AV} {st1:List (Nat × SO)} {n1:Nat} (h:Trip P f args st0 res st1 n1) (pv:AV):MTrip P f args st0 true res st1 n1 pv:=by
 intro c rd mp w vs h1 h2 h3 h4 h5
 exact (h c rd mp w vs h1 h2 h3 h4 h5).mono (fun v w' k=>⟨rfl,k⟩) (fun ch w' k=>k.elim)
theorem MTrip.pan {P:Program} {f:FuncId} {args args':List AV} {st0:List SO} {ok:Bool} {res:AV} {st1:List (Nat × SO)} {n1:Nat} {pv:AV} (ht:MTrip P f args' st0 ok res st1 n1 pv) (hok:ok=false) (is:List Nat)
  (hchk:qdz is nx args' st0 res st1 n1=true) (hp:pv.ifcP=true) (hl:LeL args (args'.map (AV.ren (names is nx)))) (hnm:NamedL st (names is nx) is st0) (hr0:rowsLt st0.length (idx 0 st0))
  (c:Ctx) (vs:Array Value) (hstd:c.fre=stdF) (hM:Mem c rd mp st nx w) (hargs:RelL rd mp args vs) :
  Invokes P f vs w (fun _ _=>False) (fun ch w'=>PanI c rd mp nx (fun x=>x=pv) ch w'):=by
 simp only [qdz,zf,zl] at hchk
 obtain ⟨⟨⟨⟨⟨⟨c1,c2⟩,c3⟩,c4⟩,c5⟩,c6⟩,c7⟩:=hchk
 have hnd:=qkg c1
 have hlt:∀ i∈is,i<nx:=fun i hi=>by have:=List.all_eq_true.1 c2 i hi;simp only [zl] at this;omega
 obtain ⟨hlen,hnm'⟩:=hnm.get
 have hsi:∀ i x,look st i=some x→i<nx:=fun i x hx=>by have:=hM.ids i x hx;rw [hstd] at this;simp only [stdF] at this;omega
 have hsub:SubL st (jc (names is nx) (idx 0 st0)++qu is st):=by
  intro y x hx
  rw [qbq hnd hlt hsi] at hx
  cases hi:inv is nx y with
  | none=>rw [hi] at hx;exact ⟨x,hx,SoLe.refl x⟩
  | some j=>
   rw [hi] at hx
   obtain ⟨o,ho,rfl⟩:=Option.map_eq_some_iff.1 hx
   rw [qkf,zb (xv _),Nat.sub_zero] at ho
   obtain ⟨z,hz,hle⟩:=hnm' j o ho
   have hj:j<is.length:=by rw [hlen];exact (List.getElem?_eq_some_iff.1 ho).1
   have hy:=qey hi
   unfold names at hy
   rw [zb hj] at hy
   rw [← hy]
   exact ⟨z,hz,hle⟩
 have hm1:=hM.weak hsub
 have hnamed:Named (idx 0 st0) (jc (names is nx) (idx 0 st0)++qu is st) (names is nx):=by
  refine ⟨fun j o hj=>?_⟩
  rw [qbq hnd hlt hsi,qex hnd hlt]
  simp only
  rw [hj];rfl
 have hent:=hm1.enter hnamed c3 hr0 (fun i j _ _ h=>qmg hnd hlt h)
 have hargs0:RelL rd ((mp.pull (names is nx)).restrict st0.length) args' vs:=by
  have h1:=hargs.le hl
  refine ⟨by rw [h1.1,zu],fun j x v hx hv=>?_⟩
  have hxl:=List.all_eq_true.1 c4 x (zh hx)
  exact ((qfu hxl).2 (h1.2 j _ v (by rw [zg,hx];rfl) hv)).lt hxl
 refine (ht _ rd _ w vs rfl rfl rfl hent hargs0).mono (fun v w' k=>by rw [hok] at k;cases k.1) ?_
 rintro ch w' ⟨_,v,x,rd',mp',rfl,rfl,h1,h2,h3,h4⟩
 rw [← hlen] at h3 h4
 obtain ⟨hle,hfin⟩:=hm1.leave hstd hnd hlt hnamed h2 h4 (zi _) rfl (by intro j ids e sz ep m f hl;simp [look] at hl) h3
 refine ⟨v,x,rd',mp.back mp' is nx,rfl,rfl,h1.ifcP hp,h2,hle,?_⟩
 have:=hfin.weak (st':=[]) (fun i x hx=>by simp [look] at hx)
 rw [xy,xf] at this
 exact this
theorem qgd {sl:List (Nat × AV)} {E:Env} {B:Nat→ASt→Prop} {f:FuncId} {args:List AV} {dst:Option Nat} {full:Array Oper} {rest:List Oper} {k:List Itm} (is:List Nat) {args':List AV} {st0:List SO} {ok:Bool} {res:AV} {st1:List (Nat × SO)} {n1:Nat} {pv:AV}
  (ht:MTrip E.P f args' st0 ok res st1 n1 pv) (hok:ok=false) (hx:E.X [] nx pv) (hchk:qdz is nx args' st0 res st1 n1=true) (hp:pv.ifcP=true) (hl:LeL args (args'.map (AV.ren (names is nx)))) (hnm:NamedL st (names is nx) is st0) (hr0:rowsLt st0.length (idx 0 st0)) :
  qay E B f args dst full rest k ⟨sl,st,nx⟩:=by
 unfold qay
 intro rd mp a w vs hs hrd hsz hargs
 refine (ht.pan hok is hchk hp hl hnm hr0 E.c vs hrd.std hs.mem hargs).mono (fun _ _ h=>h.elim) ?_
 rintro ch w' ⟨v,x,rd',mp',rfl,rfl,h1,h2,h3,h4⟩
 exact qhe (E:=E) (ch:=[⟨v,false,false⟩]) hs.defers ⟨_,rd',mp',[],nx,hx,h1,h4,hrd.step h2 h3⟩ k
theorem qm {sl:List (Nat × AV)} {E:Env} {B:Nat→ASt→Prop} {f:FuncId} {args:List AV} {dst:Option Nat} {full:Array Oper} {rest:List Oper} {k:List Itm} (hT:∀ t,E.T t=tab E.P t) (n:Nat) (is:List Nat) {args':List AV} {st0:List SO} {ok:Bool} {res:AV} {st1:List (Nat × SO)} {n1:Nat} {pv:AV}
  (ht:MTrip E.P f args' st0 ok res st1 n1 pv) (hp:pv.ifcP=true) (hchk:qdz is nx args' st0 res st1 n1=true) (hl:LeL args (args'.map (AV.ren (names is nx)))) (hnm:NamedL st (names is nx) is st0) (hr0:rowsLt st0.length (idx 0 st0)) (hr1:rowsLt n1 st1) (hd:jm E dst=true) (hx:ok=false→E.X [] nx pv)
  (h:ok=true→frcN (nx+(n1 - is.length)) fun nx'=>qao (jc (names is nx) st1++qu is st) fun st'=>frc (res.ren (names is nx)) (je sl dst (fun sl'=>exec E B n (.ops full rest::k) ⟨sl',st',nx'⟩))) :
  qay E B f args dst full rest k ⟨sl,st,nx⟩:=by
 cases ok with
 | true=>exact qip hT n is (ht.trip rfl) hchk hl hnm hr0 hr1 hd (h rfl)
 | false=>exact qgd is ht rfl (hx rfl) hchk hp hl hnm hr0
theorem OpG.iface {sl:List (Nat × AV)} {E:Env} {B:Nat→ASt→Prop} {full:Array Oper} {dst:Option Nat} {ty:TypeId} {pos:String} {aft:Array Edge} {x:Operand} {rest:List Oper} {k:List Itm} {t:TypeId} (hT:∀ t,E.T t=tab E.P t) (n:Nat) (hc:E.P.concrete t=true) (hd:jm E dst=true)
  (h:je sl dst (fun sl'=>exec E B n (.ops full rest::k) ⟨sl',st,nx⟩) (.ifc t (ev ⟨sl,st,nx⟩ x))):OpG E B full ⟨dst,.makeInterface t x,ty,pos,aft,none⟩ rest k ⟨sl,st,nx⟩:=by
 rw [jd,qhf] at h
 unfold OpG
 intro rd mp a w hs hrd hsz
 have ho:=qbd hs x
 show wpList E.P full (QK E B k) _ a w
 have e:(execOp a.eval ⟨dst,.makeInterface t x,ty,pos,aft,none⟩).run E.P w=.ok (.value (.iface t (a.eval x))) w:=by
  unfold execOp
  simp only
  have:=run_makeInterface (P:=E.P) w t (a.eval x) hc
  simp [Sem.run_bind,this,Result.andThen]
 exact qig (by simp [Region.wanted]) e (.inl rfl) (qbk hT n _ _ h rd mp _ w (hs.put (Rd.le.refl _) (Mp.le.refl _) hs.mem (.ifc _ _ _ _ ho) (qft hd hsz)) hrd (by rw [qdd];exact hsz))
def que:List AV→Nat→Bool
 | [],_=>false
 | .own r _ _ _::l,i=>Nat.beq r i || que l i
 | _::l,i=>que l i
def qje (args:List AV):List (Nat × SO)→List Nat
 | []=>[]
 | (i,_)::l=>bif que args i then qje args l else i::qje args l
theorem jr {sl:List (Nat × AV)} {E:Env} {B:Nat→ASt→Prop} {f:FuncId} {args:List AV} {dst:Option Nat} {full:Array Oper} {rest:List Oper} {k:List Itm} (hok:allP (qpf (qje args st) (qu (qje args st) st)) args)
  (h:frcL (args.map (frzX (qje args st) (qu (qje args st) st))) fun args'=>qao (qae st (qje args st)) fun st'=>qay E B f args' dst full rest k ⟨sl,st',nx⟩):qay E B f args dst full rest k ⟨sl,st,nx⟩:=jim _ hok h
theorem CallY.mpan {P:Program} {f:FuncId} {args:List AV} {X:AV→Prop} {K0:AV→Prop} {K1:AV→List (Nat × SO)→Nat→Prop} (D:Nat) (is:List Nat) {args':List AV} {st0:List SO} {ok:Bool} {res:AV} {st1:List (Nat × SO)} {n1:Nat} {pv:AV}
  (ht:MTrip P f args' st0 ok res st1 n1 pv) (hok:ok=false) (hx:X pv) (hchk:qdz is nx args' st0 res st1 n1=true) (hp:pv.ifcP=true) (hl:LeL args (args'.map (AV.ren (names is nx)))) (hnm:NamedL st (names is nx) is st0) (hr0:rowsLt st0.length (idx 0 st0))
  (hk:frcN (nx+(n1 - is.length)) fun nx'=>qao (jc (names is nx) st1++qu is st) fun st'=>frc (res.ren (names is nx)) fun v=>K1 v ((D,qpi)::st') nx'):CallY P f args st nx X K0 K1:=by
 rw [jp,qaz,ju] at hk
 unfold CallY
 refine .inr ⟨_,_,_,?_,hk⟩
 intro c rd mp w vs hstd hM hargs
 refine (ht.pan hok is hchk hp hl hnm hr0 c vs hstd hM hargs).mono (fun _ _ h=>h.elim) ?_
 rintro ch w' ⟨v,x,rd',mp',rfl,rfl,h⟩
 exact ⟨v,x,rd',mp',rfl,hx,h⟩
theorem CallY.dead {P:Program} {f:FuncId} {args:List AV} {X:AV→Prop} {K0:AV→Prop} {K1:AV→List (Nat × SO)→Nat→Prop} (D:Nat) (h:look st D=some qpi) (v:AV) (hk:K1 v st nx):CallY P f args st nx X K0 K1:=by
 unfold CallY
 exact .inr ⟨v,st,nx,fun c rd mp w vs _ hM _=>(qyz h hM).elim,hk⟩
def mR (ok:Bool) (res:AV) (st1:List (Nat × SO)):List (Nat × SO)→Nat→AV→Prop:=fun st _ v=>ok=true∧Le v res∧SubSt st st1
def mX (ok:Bool) (pv:AV):List (Nat × SO)→Nat→AV→Prop:=fun _ _ x=>ok=false∧x=pv
def mRX (ok:Bool) (res:AV) (st1:List (Nat × SO)):List (Nat × SO)→Nat→AV→Prop:=fun st _ v=>
 Ob (qpf (st1.map (·.1)) (qu (st1.map (·.1)) st) v) (frc (frzX (st1.map (·.1)) (qu (st1.map (·.1)) st) v) fun v=>ok=true∧Le v res∧SubSt st st1)
theorem qcw {P:Program} {T:Nat→TI} {C:Cfg} {f:FuncId} {fn:Func} {body:Code} {args:List AV} {st0:List SO} {ok:Bool} {res:AV} {st1:List (Nat × SO)} {n1:Nat} {pv:AV} (n:Nat) (hT:∀ t,T t=tab P t) (hf:P.funcs[f]?=some fn) (hb:fn.body=some body)
  (hname : (fn.name == "runtime.NumGoroutine") = false) (hn : (Nat.ble args.length fn.ntmps && stLt n1 st1 && res.lt n1 && Nat.ble st0.length n1 && pv.ifcP) = true)
  (h:∀ (c:Ctx) (rdb:Rd) (mpb:Mp),exec { P:=P,T:=T,C:=C,fn:=fn,c:=c,rdb:=rdb,mpb:=mpb,nxb:=st0.length,R:=mR ok res st1,X:=mX ok pv } (fun _ _=>False) n [.code body] ⟨qch 0 args,idx 0 st0,st0.length⟩):MTrip P f args st0 ok res st1 n1 pv:=by
 intro c rd mp w vs hw hrd0 hstd hm hargs
 simp only [zf,zl] at hn
 obtain ⟨⟨⟨⟨n1',n2⟩,n3⟩,n4⟩,n5⟩:=hn
 have hname' : fn.name ≠ "runtime.NumGoroutine" := by simpa using hname
 refine .inl ⟨by simp [callFunc,hf,hname',hb,mark],?_⟩
 have hok:=qbk (E:={ P:=P,T:=T,C:=C,fn:=fn,c:=c,rdb:=rd,mpb:=mp,nxb:=st0.length,R:=mR ok res st1,X:=mX ok pv }) (B:=fun _ _=>False) hT n _ _ (h c rd mp)
 obtain ⟨hsl,hsz⟩:=qii (fn:=fn) n1' hargs
 have hwp:=hok rd mp ⟨vs++Array.replicate (fn.ntmps - vs.size) undef,[]⟩ w ⟨hsl,rfl,hm⟩ ⟨Rd.le.refl _,Mp.le.refl _,fun i hi=>hm.fresh i (by rw [hstd];exact hi),hstd⟩ hsz
 refine (calls_of_wp hf hb hwp).mono fun e w' he=>?_
 match e,he with
 | .returned v,he=>
  obtain ⟨x,rd',mp',st,nx,h1,h2,h3,h4⟩:=he
  exact .inl ⟨v,rfl,h1.1,rd',mp'.restrict n1,(h1.2.1.rel h2).lt n3,h4.rd,Mp.le_restrict h4.mp (fun i hi=>hm.fresh i (by rw [hstd];simp only [stdF];omega)),h3.sub hstd h1.2.2 n2⟩
 | .panicked [⟨v,false,false⟩],he=>
  obtain ⟨x,rd',mp',st,nx,h1,h2,h3,h4⟩:=he
  exact .inr ⟨_,rfl,h1.1,v,x,rd',mp'.restrict st0.length,rfl,h1.2,h2.ifcP (by rw [h1.2];exact n5),h4.rd,Mp.le_restrict h4.mp (fun i hi=>hm.fresh i (by rw [hstd];exact hi)),h3.sub hstd (st':=[]) trivial rfl⟩
theorem qat {P:Program} {T:Nat→TI} {C:Cfg} {f:FuncId} {fn:Func} {body:Code} {args:List AV} {st0:List SO} {ok:Bool} {res:AV} {st1:List (Nat × SO)} {n1:Nat} {pv:AV} (n:Nat) (hT:∀ t,T t=tab P t) (hf:P.funcs[f]?=some fn) (hb:fn.body=some body)
  (hname : (fn.name == "runtime.NumGoroutine") = false) (hn : (Nat.ble args.length fn.ntmps && stLt n1 st1 && res.lt n1 && Nat.ble st0.length n1 && pv.ifcP) = true)
  (h:∀ (c:Ctx) (rdb:Rd) (mpb:Mp),exec { P:=P,T:=T,C:=C,fn:=fn,c:=c,rdb:=rdb,mpb:=mpb,nxb:=st0.length,R:=mRX ok res st1,X:=mX ok pv } (fun _ _=>False) n [.code body] ⟨qch 0 args,idx 0 st0,st0.length⟩):MTrip P f args st0 ok res st1 n1 pv:=by
 intro c rd mp w vs hw hrd0 hstd hm hargs
 simp only [zf,zl] at hn
 obtain ⟨⟨⟨⟨n1',n2⟩,n3⟩,n4⟩,n5⟩:=hn
 have hname' : fn.name ≠ "runtime.NumGoroutine" := by simpa using hname
 refine .inl ⟨by simp [callFunc,hf,hname',hb,mark],?_⟩
 have hok:=qbk (E:={ P:=P,T:=T,C:=C,fn:=fn,c:=c,rdb:=rd,mpb:=mp,nxb:=st0.length,R:=mRX ok res st1,X:=mX ok pv }) (B:=fun _ _=>False) hT n _ _ (h c rd mp)
 obtain ⟨hsl,hsz⟩:=qii (fn:=fn) n1' hargs
 have hwp:=hok rd mp ⟨vs++Array.replicate (fn.ntmps - vs.size) undef,[]⟩ w ⟨hsl,rfl,hm⟩ ⟨Rd.le.refl _,Mp.le.refl _,fun i hi=>hm.fresh i (by rw [hstd];exact hi),hstd⟩ hsz
 refine (calls_of_wp hf hb hwp).mono fun e w' he=>?_
 match e,he with
 | .returned v,he=>
  obtain ⟨x,rd',mp',st,nx,h1,h2,h3,h4⟩:=he
  have h5:=Ob.left h1
  have h6:=Ob.right h1
  rw [ju] at h6
  have h7:=qyp (h3.dropped (st1.map (·.1))) (st1.map (·.1)) x v h5 h2
  have h8:=h3.freeze (st1.map (·.1))
  have h9:=qyq (st1.map (·.1)) (l:=st1) (fun i y hy=>List.mem_map.2 ⟨(i,y),hy,rfl⟩) h6.2.2
  exact .inl ⟨v,rfl,h6.1,_,mp'.restrict n1,(h6.2.1.rel h7).lt n3,h4.rd.trans qct,Mp.le_restrict h4.mp (fun i hi=>hm.fresh i (by rw [hstd];simp only [stdF];omega)),h8.sub hstd h9 n2⟩
 | .panicked [⟨v,false,false⟩],he=>
  obtain ⟨x,rd',mp',st,nx,h1,h2,h3,h4⟩:=he
  exact .inr ⟨_,rfl,h1.1,v,x,rd',mp'.restrict st0.length,rfl,h1.2,h2.ifcP (by rw [h1.2];exact n5),h4.rd,Mp.le_restrict h4.mp (fun i hi=>hm.fresh i (by rw [hstd];exact hi)),h3.sub hstd (st':=[]) trivial rfl⟩
end
def NoDf (P:Program) (o:Oper):Prop:=∀ (a:Act) (w:World) (d:Deferred) (w':World),(execOp a.eval o).run P w≠.ok (.defer d) w'
def ndOp:Op→Bool
 | .move _ | .assign _ | .build .. | .box .. | .load .. | .store .. | .binOp .. | .makeFunc .. | .alloc _ | .extract ..=>true
 | _=>false
theorem v_ne {P:Program} {s:Sem Value} {w w':World} {d:Deferred}:(do pure (.value (← s)):Sem Next).run P w≠.ok (.defer d) w':=by
 rw [Sem.run_bind]
 cases s.run P w with
 | ok x w1=>intro h;cases h
 | halt x w1=>intro h;cases h
theorem u_ne {P:Program} {s:Sem Unit} {w w':World} {d:Deferred}:(do s;pure .skip:Sem Next).run P w≠.ok (.defer d) w':=by
 rw [Sem.run_bind]
 cases s.run P w with
 | ok x w1=>intro h;cases h
 | halt x w1=>intro h;cases h
theorem qfd {P:Program} {o:Oper} (h:ndOp o.op=true):NoDf P o:=by
 intro a w d w'
 unfold execOp
 cases ho:o.op <;> rw [ho] at h <;> simp only [ndOp,Bool.false_eq_true] at h <;> simp only
 all_goals first
  | exact v_ne
  | exact u_ne
  | (intro h;cases h)
theorem jj {P : Program} {dst : Option Nat} {k : FuncId} {args : Array Operand} {ats : Array TypeId} {ty : TypeId} {pos : String} {aft : Array Edge} {g : Option (Nat × Bool)} {fn : Func} {body : Code} (hf : P.funcs[k]? = some fn) (hb : fn.body = some body) (hname : (fn.name == "runtime.NumGoroutine") = false) :
  NoDf P ⟨dst,.call { callee:=.value (.func k),args:=args,argTypes:=ats },ty,pos,aft,g⟩:=by
 intro a w d w'
 have : fn.name ≠ "runtime.NumGoroutine" := by simpa using hname
 have e:(execOp a.eval ⟨dst,.call { callee:=.value (.func k),args:=args,argTypes:=ats },ty,pos,aft,g⟩).run P w=(callFunc k (#[]++args.map a.eval++#[])).run P w:=rfl
 rw [e]
 simp [callFunc,hf,this,hb,mark]
def bare (a:Act):Act:={ a with defers:=[] }
def laid (D:List Deferred) (a:Act):Act:={ a with defers:=D }
theorem qzz {P:Program} {o:Oper} {D:List Deferred} {I:Act→Prop} {a:Act} {w:World} {next next0:Act→World→Prop} {Q Q0:Exit→Act→World→Prop} (hn:NoDf P o) (hI:∀ a v,I a→I (a.put o.dst v)) (hout:∀ a w,¬ Q0 .outgrown a w) (ha:I a)
  (h1:∀ a w,I a→next0 a w→next (laid D a) w) (h2:∀ e a w,I a→Q0 e a w→Q e (laid D a) w) (h:o.wp P a w next0 Q0):o.wp P (laid D a) w next Q:=by
 unfold Oper.wp at h ⊢
 have e:(laid D a).eval=a.eval:=rfl
 rw [e]
 have hn':=hn a w
 generalize (execOp a.eval o).run P w=r at h hn'
 have hp:∀ v,(laid D a).put o.dst v=laid D (a.put o.dst v):=fun v=>by cases o.dst <;> rfl
 unfold Oper.upon at h ⊢
 split at h
 ·rename_i v w1
  show next ((laid D a).put o.dst v) w1
  rw [hp];exact h1 _ _ (hI _ _ ha) h
 ·rename_i w1
  show next ((laid D a).put o.dst undef) w1
  rw [hp];exact h1 _ _ (hI _ _ ha) h
 ·rename_i d w1;exact absurd rfl (hn' d w1)
 ·rename_i f args w1
  refine Calls.mono h fun e w2 he=>?_
  cases e with
  | returned v=>
   show next ((laid D a).put o.dst v) w2
   rw [hp];exact h1 _ _ (hI _ _ ha) he
  | panicked ch=>exact h2 _ _ _ ha he
  | outgrown=>obtain ⟨a',w',hq⟩:=he;exact absurd hq (hout _ _)
 ·rename_i row args w1
  refine Rows.mono h fun v w2 he=>?_
  show next ((laid D a).put o.dst v) w2
  rw [hp];exact h1 _ _ (hI _ _ ha) he
 ·rename_i v w1;exact h2 _ _ _ ha h
 ·exact h.elim
theorem quf {P:Program} {full:Array Oper} {D:List Deferred} {I:Act→Prop} {Q Q0:Exit→Act→World→Prop} (hout:∀ a w,¬ Q0 .outgrown a w) (h2:∀ e a w,I a→Q0 e a w→Q e (laid D a) w):∀ (l:List Oper),(∀ o∈l,NoDf P o∧∀ a v,I a→I (a.put o.dst v))→∀ a w,I a→wpList P full Q0 l a w→wpList P full Q l (laid D a) w
 | [],_,a,w,ha,h=>h2 _ _ _ ha h
 | o::l,hn,a,w,ha,h=>by
  have ih:=quf (full:=full) hout h2 l (fun o ho=>hn o (xu _ ho))
  have hp:∀ v,(laid D a).put o.dst v=laid D (a.put o.dst v):=fun v=>by cases o.dst <;> rfl
  obtain ⟨hn1,hI⟩:=hn o (xz ..)
  unfold wpList at h ⊢
  have e:(laid D a).tmps=a.tmps:=rfl
  rw [e]
  split at h
  ·rename_i hw
   rw [zb hw]
   rcases h with h|⟨h,a',w',h'⟩
   ·exact .inl (qzz hn1 hI hout ha ih h2 h)
   ·exact absurd h' (hout _ _)
  ·rename_i hw
   rw [za hw,hp]
   exact ih _ _ (hI _ _ ha) h
theorem jaa {P:Program} {md:Region.Mode} {ops:Array Oper} {D:List Deferred} {I:Act→Prop} {Q Q0:Exit→Act→World→Prop} (hout:∀ a w,¬ Q0 .outgrown a w) (h2:∀ e a w,I a→Q0 e a w→Q e (laid D a) w) (hn:∀ o∈ops.toList,NoDf P o∧∀ a v,I a→I (a.put o.dst v)):∀ (fuel:Nat) (listed:Array Bool) a w,I a→wpAny P md ops Q0 fuel listed a w→wpAny P md ops Q fuel listed (laid D a) w
 | 0,listed,a,w,ha,h=>⟨h.1,h2 _ _ _ ha h.2⟩
 | fuel+1,listed,a,w,ha,h=>by
  refine ⟨fun hr=>h2 _ _ _ ha (h.1 hr),fun i hi=>?_⟩
  have h3:=h.2 i hi
  have ih:=fun L a w=>jaa (md:=md) hout h2 hn fuel L a w
  unfold wpOp at h3 ⊢
  split at h3
  ·rename_i hnone;exact ih _ _ _ ha h3
  ·rename_i o ho
   have ho':o∈ops.toList:=by
    rw [Array.mem_toList_iff]
    exact Array.mem_of_getElem? ho
   have hp:∀ v,(laid D a).put o.dst v=laid D (a.put o.dst v):=fun v=>by cases o.dst <;> rfl
   obtain ⟨hn1,hI⟩:=hn o ho'
   have e:(laid D a).tmps=a.tmps:=rfl
   show if Region.wanted o (yielded ops (laid D a).tmps)=true then _ else _
   rw [e]
   split at h3
   ·rename_i hw
    rw [zb hw]
    rcases h3 with h3|⟨h3,a',w',h'⟩
    ·exact .inl (qzz hn1 hI hout ha (fun a w=>ih _ a w) h2 h3)
    ·exact absurd h' (hout _ _)
   ·rename_i hw
    rw [za hw,hp]
    exact ih _ _ _ (hI _ _ ha) h3
def StC (E:Env) (D:List Deferred) (I:Act→Prop) (K:Act→World→Prop) (s:ASt):Prop:=∀ rd mp a w,SR E.c rd mp s (bare a) w→a.defers=D→I (bare a)→Base E rd mp→a.tmps.size=E.fn.ntmps→K a w
theorem qug {D:List Deferred} {a:Act} (h:a.defers=D):laid D (bare a)=a:=by cases a;cases h;rfl
theorem quh {E:Env} {B:Nat→ASt→Prop} (a:Act) (w:World):¬ QK E B [.mark 0] .outgrown a w:=fun h=>by cases h
theorem qui {E:Env} {B:Nat→ASt→Prop} {D:List Deferred} {I:Act→Prop} {Q:Exit→Act→World→Prop} (hR:∀ st nx x,¬ E.R st nx x) (hB:∀ s,B 0 s→StC E D I (Q .normal) s) (hpan:∀ ch a w,a.defers=D→I (bare a)→Post E (.panicked ch) w→Q (.panic ch) a w):∀ e a w,I a→QK E B [.mark 0] e a w→Q e (laid D a) w
 | .normal,a,w,ha,h=>by
  obtain ⟨h1,rd,mp,s,h3,h4,h5⟩:=h
  have e:bare (laid D a)=a:=by
   cases a
   have:=h3.defers
   simp only at this
   subst this
   rfl
  exact hB s h5 rd mp (laid D a) w (by rw [e];exact h3) rfl (by rw [e];exact ha) h4 h1
 | .panic ch,a,w,ha,h=>by
  have e:bare (laid D a)=a:=by
   cases a
   have:=h.1
   simp only at this
   subst this
   rfl
  exact hpan ch _ w rfl (by rw [e];exact ha) h.2
 | .outgrown,a,w,_,h=>by cases h
 | .ret,a,w,_,h=>by
  obtain ⟨_,v,_,x,rd,mp,st,nx,h1,_⟩:=h
  exact absurd h1 (hR _ _ _)
 | .exit _,_,_,_,h=>h.elim
 | .goto _,_,_,_,h=>h.elim
theorem StC.region {E:Env} {D:List Deferred} {I:Act→Prop} {id:Nat} {ops:Array Oper} {Q:Exit→Act→World→Prop} {s:ASt} (hT:∀ t,E.T t=tab E.P t) (n:Nat) (hR:∀ st nx x,¬ E.R st nx x) (hnd:∀ o∈ops.toList,NoDf E.P o∧∀ a v,I a→I (a.put o.dst v)) (hpan:∀ ch a w,a.defers=D→I (bare a)→Post E (.panicked ch) w→Q (.panic ch) a w)
  (h:exec E (fun _ s'=>StC E D I (Q .normal) s') n [.ops ops ops.toList,.mark 0] s):StC E D I ((Code.region id ops false).wp E.P Q) s:=by
 intro rd mp a w hs hd ha hb hsz
 have hok:=qbk hT n _ _ h rd mp (bare a) w hs hb hsz
 have:=quf (D:=D) (Q:=Q) (Q0:=QK E (fun _ s'=>StC E D I (Q .normal) s') [.mark 0]) quh (qui hR (fun s hs=>hs) hpan) _ hnd (bare a) w ha hok
 rw [qug hd] at this
 exact wp_region_list this
theorem jks {E:Env} {B:Nat→ASt→Prop} {ops:Array Oper} {k:List Itm} {s sE:ASt} (hT:∀ t,E.T t=tab E.P t) (hmix:E.P.follows .mixedOrders=true) (n:Nat) (cs:List C3) {L:List (Oper × Pst)} (hL:qaq E ops ops.toList cs s=some (L,sE))
  (hord:qez ops L=true) (hob:qko L) (h:exec E B n k sE):∀ rd mp a w,SR E.c rd mp s a w→Base E rd mp→a.tmps.size=E.fn.ntmps→wpAny E.P .any ops (QK E B k) ops.size (Array.replicate ops.size false) a { w with drawn:=w.drawn+1 }:=by
 intro rd mp a w hs hrd hsz
 have hf:=qyj hT ops.toList cs 0 s s.st L sE (fun _=>rfl) hL
 have hlen:L.length=ops.size:=by have:=congrArg List.length hf.ops;simpa using this
 have hstep:∀ (i:Nat) x,L[i]?=some x→∀ S,Adm ops L.length S i→qir E ops (qkn L sE.nx S) (slAt L 0 S s.sl) (stAt L 0 S s.st) x.1 x.2:=by
  intro i x hx S hS
  obtain ⟨si,s',c,g1,g2,g3⟩:=hf.step i x hx
  simp only [zn] at g2 g3
  have agree:∀ (j:Nat) y,L[j]?=some y→qcj ops y x=true→S j=decide (j<i):=by
   intro j y hy hc1
   have hj:j<ops.size:=by rw [← hlen];exact (List.getElem?_eq_some_iff.1 hy).1
   have hc2:qcj ops x y=true:=by rw [← qsq];exact hc1
   rcases zap j i with h|h|h
   ·simp only [h,decide_true];exact hS.anc j (qkm hord h hy hx hc1)
   ·subst h;simp only [Nat.lt_irrefl,decide_false];exact hS.self
   ·have:¬ j<i:=by omega
    simp only [this,decide_false]
    exact hS.desc j (qkm hord h hx hy hc2) hj
  refine qyi hT g1 (qsu hob i x hx) (fun t ht=>?_) (fun y hy=>?_) (fun y h1 h2=>.inr ⟨i,x,hx,hS.self,h1,h2⟩)
  ·rw [← g2 t]
   refine qml t L 0 _ _ s.sl s.sl rfl (fun j y hy hd=>?_)
   rw [zn]
   refine agree j y hy ?_
   have:hits ops y.1 x.1=true:=by simp [hits,hd,ht]
   simp [qcj,this]
  ·rw [← g3 y]
   refine qmm y L 0 _ _ s.st s.st rfl (fun j z hz hw=>?_)
   rw [zn]
   refine agree j z hz ?_
   simp [qcj,qyc hw hy]
 refine (qyd hf.ops hstep hf.rg hf.hi hf.slE hf.stE hord hrd.std (qbk hT n _ _ h) _ _ a _ (by simp) (by simp) (fun j o _ hj=>?_) hsz ⟨rd,mp,?_,hrd⟩)
 ·rw [qeg] at hj
  cases hj
 ·have hz:∀ (L:List (Oper × Pst)) (i:Nat) (s:List (Nat × AV)),slAt L i (fun i=>(Array.replicate ops.size false).getD i false) s=s:=by
   intro L
   induction L with
   | nil=>intro i s;rfl
   | cons y L ih=>
    intro i s
    obtain ⟨o,p⟩:=y
    simp only [slAt]
    rw [qeg]
    exact ih (i+1) s
  have hz':∀ (L:List (Oper × Pst)) (i:Nat) (s:List (Nat × SO)),stAt L i (fun i=>(Array.replicate ops.size false).getD i false) s=s:=by
   intro L
   induction L with
   | nil=>intro i s;rfl
   | cons y L ih=>
    intro i s
    obtain ⟨o,p⟩:=y
    simp only [stAt]
    rw [qeg]
    exact ih (i+1) s
  rw [hz,hz']
  refine ⟨hs.slots,hs.defers,(hs.mem.below ((Below.refl _ _).drew)).refre (fun y hy=>?_)⟩
  rw [hrd.std]
  rcases hy with hy|⟨i,x,hx,_,h1,_⟩
  ·exact xb hf.le hy
  ·exact xb (hf.lo i x hx) h1
theorem StC.draw {E:Env} {D:List Deferred} {I:Act→Prop} {id:Nat} {ops:Array Oper} {Q:Exit→Act→World→Prop} {s:ASt} (hT:∀ t,E.T t=tab E.P t) (hmix:E.P.follows .mixedOrders=true) (n:Nat) (hR:∀ st nx x,¬ E.R st nx x) (hnd:∀ o∈ops.toList,NoDf E.P o∧∀ a v,I a→I (a.put o.dst v)) (hpan:∀ ch a w,a.defers=D→I (bare a)→Post E (.panicked ch) w→Q (.panic ch) a w)
  (h:D3X E (fun _ s'=>StC E D I (Q .normal) s') n [.mark 0] ops (fun cs=>match qaq E ops ops.toList cs s with|some (L,_)=>qez ops L|none=>false) ops.toList [] s):StC E D I ((Code.region id ops true).wp E.P Q) s:=by
 intro rd mp a w hs hd ha hb hsz
 obtain ⟨cs,hord,h2⟩:=qym _ _ _ h
 rw [List.nil_append] at hord
 cases h1:qaq E ops ops.toList cs s with
 | none=>rw [h1] at hord;cases hord
 | some q=>
  obtain ⟨L,sE⟩:=q
  rw [h1] at hord
  obtain ⟨h3,h4⟩:=qyk _ _ _ _ _ h1 h2
  have hok:=jks hT hmix n cs h1 hord h3 h4 rd mp (bare a) w hs hb hsz
  have:=jaa (D:=D) (Q:=Q) (Q0:=QK E (fun _ s'=>StC E D I (Q .normal) s') [.mark 0]) quh (qui hR (fun s hs=>hs) hpan) hnd _ _ (bare a) _ ha hok
  rw [qug hd] at this
  exact wp_region_any hmix this
theorem StC.seq {E:Env} {D:List Deferred} {I:Act→Prop} {x y:Code} {Q:Exit→Act→World→Prop} {s:ASt} (h:StC E D I (x.wp E.P (Exit.then (y.wp E.P Q) Q)) s):StC E D I ((x.seq y).wp E.P Q) s:=fun rd mp a w h1 h2 h3 h4 h5=>wp_seq (h rd mp a w h1 h2 h3 h4 h5)
theorem StC.skip {E:Env} {D:List Deferred} {I:Act→Prop} {Q:Exit→Act→World→Prop} {s:ASt} (h:StC E D I (Q .normal) s):StC E D I (Code.skip.wp E.P Q) s:=fun rd mp a w h1 h2 h3 h4 h5=>wp_skip (h rd mp a w h1 h2 h3 h4 h5)
theorem StC.ret {E:Env} {D:List Deferred} {I:Act→Prop} {Q:Exit→Act→World→Prop} {s:ASt} (h:StC E D I (Q .ret) s):StC E D I (Code.ret.wp E.P Q) s:=fun rd mp a w h1 h2 h3 h4 h5=>wp_ret (h rd mp a w h1 h2 h3 h4 h5)
theorem StC.cond {E:Env} {D:List Deferred} {I:Act→Prop} {c:Operand} {x y:Code} {Q:Exit→Act→World→Prop} {s:ASt} (b:Bool) (hc:ev s c=.bool b) (ht:b=true→StC E D I (x.wp E.P Q) s) (hf:b=false→StC E D I (y.wp E.P Q) s):StC E D I ((Code.cond c x y).wp E.P Q) s:=by
 intro rd mp a w h1 h2 h3 h4 h5
 have ho:=qbd h1 c
 rw [hc] at ho
 have hb:a.eval c=.bool b:=rel_bool ho
 cases b with
 | true=>exact wp_cond_true hb (ht rfl rd mp a w h1 h2 h3 h4 h5)
 | false=>exact wp_cond_false hb (hf rfl rd mp a w h1 h2 h3 h4 h5)
def quj (P:Program) (full:Array Oper) (Q:Exit→Act→World→Prop) (l2:List Oper):Exit→Act→World→Prop
 | .normal,a,w=>wpList P full Q l2 a w
 | e,a,w=>Q e a w
theorem jab {P:Program} {full:Array Oper} {Q:Exit→Act→World→Prop} (l2:List Oper):∀ (l1:List Oper) (a:Act) (w:World),wpList P full (quj P full Q l2) l1 a w→wpList P full Q (l1++l2) a w
 | [],a,w,h=>h
 | o::l1,a,w,h=>by
  have ih:=jab (P:=P) (full:=full) (Q:=Q) l2 l1
  rw [zac]
  unfold wpList at h ⊢
  split at h
  ·rename_i hw
   rw [zb hw]
   rcases h with h|⟨h,a',w',h'⟩
   ·refine .inl ?_
    unfold Oper.wp at h ⊢
    generalize (execOp a.eval o).run P w=r at h
    unfold Oper.upon at h ⊢
    split at h
    ·exact ih _ _ h
    ·exact ih _ _ h
    ·exact ih _ _ h
    ·refine Calls.mono h fun e w2 he=>?_
     cases e with
     | returned v=>exact ih _ _ he
     | panicked ch=>exact he
     | outgrown=>exact he
    ·exact Rows.mono h fun v w2 he=>ih _ _ he
    ·exact h
    ·exact h.elim
   ·exact .inr ⟨h,a',w',h'⟩
  ·rename_i hw
   rw [za hw]
   exact ih _ _ h
theorem StC.region2 {E:Env} {D:List Deferred} {I:Act→Prop} {id:Nat} {ops:Array Oper} {Q:Exit→Act→World→Prop} {s:ASt} (hT:∀ t,E.T t=tab E.P t) (n:Nat) (l1 l2:List Oper) (hops:ops.toList=l1++l2) (hR:∀ st nx x,¬ E.R st nx x) (hnd:∀ o∈l1,NoDf E.P o∧∀ a v,I a→I (a.put o.dst v)) (hpan:∀ ch a w,a.defers=D→I (bare a)→Post E (.panicked ch) w→Q (.panic ch) a w)
  (h:exec E (fun _ s'=>StC E D I (wpList E.P ops Q l2) s') n [.ops ops l1,.mark 0] s):StC E D I ((Code.region id ops false).wp E.P Q) s:=by
 intro rd mp a w hs hd ha hb hsz
 have hok:=qbk hT n _ _ h rd mp (bare a) w hs hb hsz
 have:=quf (D:=D) (Q:=quj E.P ops Q l2) (Q0:=QK E (fun _ s'=>StC E D I (wpList E.P ops Q l2) s') [.mark 0]) quh (qui (Q:=quj E.P ops Q l2) hR (fun s hs=>hs) hpan) _ hnd (bare a) w ha hok
 rw [qug hd] at this
 have h2:=jab l2 l1 a w this
 rw [← hops] at h2
 exact wp_region_list h2
section
variable {rd rd':Rd} {mp mp':Mp} {st:List (Nat × SO)} {nx:Nat} {w w':World}
theorem MTrip.panK {P:Program} {f:FuncId} {args args':List AV} {st0:List SO} {ok:Bool} {res:AV} {st1:List (Nat × SO)} {n1:Nat} {pv:AV} (ht:MTrip P f args' st0 ok res st1 n1 pv) (hok:ok=false) (is:List Nat)
  (hchk:qdz is nx args' st0 res st1 n1=true) (hp:pv.ifcP=true) (hl:LeL args (args'.map (AV.ren (names is nx)))) (hnm:NamedL st (names is nx) is st0) (hr0:rowsLt st0.length (idx 0 st0))
  (c:Ctx) (vs:Array Value) (hstd:c.fre=stdF) (hM:Mem c rd mp st nx w) (hargs:RelL rd mp args vs) :
  Invokes P f vs w (fun _ _=>False) (fun ch w'=>∃ v rd' mp',ch=[⟨v,false,false⟩]∧Rel rd' mp' pv v∧Rd.le rd rd'∧Mp.le mp mp'∧Mem c rd' mp' (jc (names is nx) []++qu is st) nx w'):=by
 simp only [qdz,zf,zl] at hchk
 obtain ⟨⟨⟨⟨⟨⟨c1,c2⟩,c3⟩,c4⟩,c5⟩,c6⟩,c7⟩:=hchk
 have hnd:=qkg c1
 have hlt:∀ i∈is,i<nx:=fun i hi=>by have:=List.all_eq_true.1 c2 i hi;simp only [zl] at this;omega
 obtain ⟨hlen,hnm'⟩:=hnm.get
 have hsi:∀ i x,look st i=some x→i<nx:=fun i x hx=>by have:=hM.ids i x hx;rw [hstd] at this;simp only [stdF] at this;omega
 have hsub:SubL st (jc (names is nx) (idx 0 st0)++qu is st):=by
  intro y x hx
  rw [qbq hnd hlt hsi] at hx
  cases hi:inv is nx y with
  | none=>rw [hi] at hx;exact ⟨x,hx,SoLe.refl x⟩
  | some j=>
   rw [hi] at hx
   obtain ⟨o,ho,rfl⟩:=Option.map_eq_some_iff.1 hx
   rw [qkf,zb (xv _),Nat.sub_zero] at ho
   obtain ⟨z,hz,hle⟩:=hnm' j o ho
   have hj:j<is.length:=by rw [hlen];exact (List.getElem?_eq_some_iff.1 ho).1
   have hy:=qey hi
   unfold names at hy
   rw [zb hj] at hy
   rw [← hy]
   exact ⟨z,hz,hle⟩
 have hm1:=hM.weak hsub
 have hnamed:Named (idx 0 st0) (jc (names is nx) (idx 0 st0)++qu is st) (names is nx):=by
  refine ⟨fun j o hj=>?_⟩
  rw [qbq hnd hlt hsi,qex hnd hlt]
  simp only
  rw [hj];rfl
 have hent:=hm1.enter hnamed c3 hr0 (fun i j _ _ h=>qmg hnd hlt h)
 have hargs0:RelL rd ((mp.pull (names is nx)).restrict st0.length) args' vs:=by
  have h1:=hargs.le hl
  refine ⟨by rw [h1.1,zu],fun j x v hx hv=>?_⟩
  have hxl:=List.all_eq_true.1 c4 x (zh hx)
  exact ((qfu hxl).2 (h1.2 j _ v (by rw [zg,hx];rfl) hv)).lt hxl
 refine (ht _ rd _ w vs rfl rfl rfl hent hargs0).mono (fun v w' k=>by rw [hok] at k;cases k.1) ?_
 rintro ch w' ⟨_,v,x,rd',mp',rfl,rfl,h1,h2,h3,h4⟩
 rw [← hlen] at h3 h4
 obtain ⟨hle,hfin⟩:=hm1.leave hstd hnd hlt hnamed h2 h4 (zi _) rfl (by intro j ids e sz ep m f hl;simp [look] at hl) h3
 have hfin':Mem c rd' (mp.back mp' is nx) (jc (names is nx) []++qu is st) nx w':=by
  rw [xy,xf] at hfin
  refine hfin.forget (fun y x hx=>?_)
  have e1:=qbq (st:=st) hnd hlt hsi [] y
  have e2:=qbq (st:=jc (names is nx) (idx 0 st0)++qu is st) hnd hlt (fun i x hx=>by have:=hm1.ids i x hx;rw [hstd] at this;simp only [stdF] at this;omega) [] y
  have e3:=qbq (st:=st) hnd hlt hsi (idx 0 st0) y
  rw [e1] at hx
  refine e2.trans ?_
  cases hi:inv is nx y with
  | none=>
   rw [hi] at hx e3
   exact e3.trans hx
  | some j=>
   rw [hi] at hx
   exact hx
 exact ⟨v,rd',mp.back mp' is nx,rfl,h1.ifcP hp,h2,hle,hfin'⟩
theorem jkt {sl:List (Nat × AV)} {E:Env} {B:Nat→ASt→Prop} {f:FuncId} {args:List AV} {dst:Option Nat} {full:Array Oper} {rest:List Oper} {k:List Itm} (hT:∀ t,E.T t=tab E.P t) (n:Nat) (is:List Nat) {args':List AV} {st0:List SO} {ok:Bool} {res:AV} {st1:List (Nat × SO)} {n1:Nat} {pv:AV}
  (ht:MTrip E.P f args' st0 ok res st1 n1 pv) (hp:pv.ifcP=true) (hchk:qdz is nx args' st0 res st1 n1=true) (hl:LeL args (args'.map (AV.ren (names is nx)))) (hnm:NamedL st (names is nx) is st0) (hr0:rowsLt st0.length (idx 0 st0)) (hr1:rowsLt n1 st1) (hd:jm E dst=true) (hx:ok=false→E.X (jc (names is nx) []++qu is st) nx pv)
  (h:ok=true→frcN (nx+(n1 - is.length)) fun nx'=>qao (jc (names is nx) st1++qu is st) fun st'=>frc (res.ren (names is nx)) (je sl dst (fun sl'=>exec E B n (.ops full rest::k) ⟨sl',st',nx'⟩))) :
  qay E B f args dst full rest k ⟨sl,st,nx⟩:=by
 cases ok with
 | true=>exact qip hT n is (ht.trip rfl) hchk hl hnm hr0 hr1 hd (h rfl)
 | false=>
  unfold qay
  intro rd mp a w vs hs hrd hsz hargs
  refine (ht.panK rfl is hchk hp hl hnm hr0 E.c vs hrd.std hs.mem hargs).mono (fun _ _ h=>h.elim) ?_
  rintro ch w' ⟨v,rd',mp',rfl,h1,h2,h3,h4⟩
  exact qhe (E:=E) (ch:=[⟨v,false,false⟩]) hs.defers ⟨pv,rd',mp',_,nx,hx rfl,h1,h4,hrd.step h2 h3⟩ k
end
theorem OpG.val {sl:List (Nat × AV)} {st:List (Nat × SO)} {nx:Nat} {E:Env} {B:Nat→ASt→Prop} {full:Array Oper} {o:Oper} {rest:List Oper} {k:List Itm} (hT:∀ t,E.T t=tab E.P t) (n:Nat) (v:AV) (hg:o.guard=none) (hd:jm E o.dst=true)
  (hrun:∀ rd mp a w,SR E.c rd mp ⟨sl,st,nx⟩ a w→∃ x,(execOp a.eval o).run E.P w=.ok (.value x) w∧Rel rd mp v x)
  (h:je sl o.dst (fun sl'=>exec E B n (.ops full rest::k) ⟨sl',st,nx⟩) v):OpG E B full o rest k ⟨sl,st,nx⟩:=by
 rw [jd,qhf] at h
 unfold OpG
 intro rd mp a w hs hrd hsz
 show wpList E.P full (QK E B k) _ a w
 obtain ⟨x,e,hx⟩:=hrun rd mp a w hs
 exact qig (by simp [Region.wanted,hg]) e (.inl rfl) (qbk hT n _ _ h rd mp _ w (hs.put (Rd.le.refl _) (Mp.le.refl _) hs.mem hx (qft hd hsz)) hrd (by rw [qdd];exact hsz))
theorem qbv {a:Act} {d:Option Nat} {t:Nat} (h:d≠some t) (v:Value):(a.put d v).tmps.getD t undef=a.tmps.getD t undef:=by
 cases d with
 | none=>rfl
 | some d=>
  have hne:d≠t:=fun e=>h (by rw [e])
  show (a.tmps.setIfInBounds d v).getD t undef=_
  simp [zx,xi hne]
theorem StC.retC {E EF:Env} {I:Act→Prop} {s:ASt} (hc:E.c=EF.c) (hP:E.P=EF.P) (hfn:E.fn=EF.fn) (hrdb:E.rdb=EF.rdb) (hmpb:E.mpb=EF.mpb) (hnxb:E.nxb=EF.nxb) (hT:∀ t,EF.T t=tab EF.P t) (h:RetG EF s):StC E [] I (bodyPostD EF.P EF.fn (Post EF) .ret) s:=by
 intro rd mp a w hs hd ha hb hsz
 show Leaves EF.P EF.fn a.tmps (Post EF) a.defers .returning w
 rw [hd]
 obtain ⟨_,v,h1,h2⟩:=qif (E:=EF) hT h (by rw [← hc];exact hs) ⟨by rw [← hrdb];exact hb.rd,by rw [← hmpb];exact hb.mp,by rw [← hmpb,← hnxb];exact hb.low,by rw [← hc];exact hb.std⟩
 exact ⟨v,h1,h2⟩
theorem jku {P:Program} {T:Nat→TI} {f:FuncId} {fn:Func} {body:Code} {args:List AV} {res:AV} (hT:∀ t,T t=tab P t) (hf:P.funcs[f]?=some fn) (hb:fn.body=some body)
  (hname : (fn.name == "runtime.NumGoroutine") = false) (hn : Nat.ble args.length fn.ntmps = true)
  (h:∀ (c:Ctx) (rdb:Rd),StC { P:=P,T:=T,C:={},fn:=fn,c:=c,rdb:=rdb,mpb:=Mp.none,nxb:=0,R:=fun _ _ _=>False,X:=fun _ _ _=>False } [] (fun _=>True) (body.wp P (bodyPostD P fn (Post { P:=P,T:=T,C:={},fn:=fn,c:=c,rdb:=rdb,mpb:=Mp.none,nxb:=0,R:=conR res,X:=fun _ _ _=>False }))) ⟨qch 0 args,[],0⟩):Con P f args res:=by
 intro rd w vs hm hargs
 have hn':args.length≤fn.ntmps:=Nat.le_of_ble_eq_true hn
 have hname' : fn.name ≠ "runtime.NumGoroutine" := by simpa using hname
 refine .inl ⟨by simp [callFunc,hf,hname',hb,mark],?_⟩
 let c:Ctx:=⟨w,rd,fun _=>False,stdF⟩
 obtain ⟨hsl,hsz⟩:=qii (fn:=fn) hn' hargs
 have hsr:SR c rd Mp.none ⟨qch 0 args,[],0⟩ ⟨vs++Array.replicate (fn.ntmps - vs.size) undef,[]⟩ w:=
  ⟨hsl,rfl,⟨hm.1,hm.2.1,fun g o v h=>.inl h,⟨rfl,rfl,rfl,zi _,fun _ _ _=>rfl⟩,fun b ty cs hx=>by simp [look] at hx,fun r i R hR=>by cases hR <;> simp_all [look],
   fun p q g hp=>by cases p <;> (obtain ⟨_,hx⟩:=hp;first|(obtain ⟨_,hx⟩:=hx;simp [look] at hx;done)|(cases hx <;> simp_all [look])),fun _ _=>⟨rfl,fun _=>rfl⟩,fun i x hx=>by simp [look] at hx,fun r e sz cnt ep len f hx=>by simp [look] at hx,fun r sz ep n f hx=>by simp [look] at hx,⟨hm.2.2,fun _ _ h=>h⟩,Rd.le.refl _⟩⟩
 have hwp:=h c rd rd Mp.none ⟨vs++Array.replicate (fn.ntmps - vs.size) undef,[]⟩ w hsr rfl trivial ⟨Rd.le.refl _,Mp.le.refl _,fun _ _=>⟨rfl,fun _=>rfl⟩,rfl⟩ hsz
 refine (calls_of_wp_defers hf hb hwp).mono fun e w' he=>?_
 match e,he with
 | .returned v,he=>
  obtain ⟨x,rd',mp',st,nx,h1,h2,h3,h4⟩:=he
  have hfin:=Ob.right h1
  rw [ju] at hfin
  refine .inl ⟨v,rfl,frzRd rd' mp' st w',hfin.rel (qru h3 x v (Ob.left h1) h2),h4.rd.trans qct,qly h3,fun g o v hv=>?_,⟨h3.fr.os,h3.fr.tape,h3.fr.output,h3.fr.size,fun k hk=>h3.fr.block k hk (fun h=>h)⟩⟩
  rcases qih hv with hv|⟨_,_,p,hp,hg⟩
  ·rcases h3.rdn g o v hv with h|h|h
   ·exact .inl h
   ·exact .inr h
   ·exact False.elim h
  ·rcases (h3.home hp hg).2.2 with h|h
   ·exact .inr h
   ·exact False.elim h
 | .panicked [⟨v,false,false⟩],he=>obtain ⟨x,rd',mp',st,nx,h1,_⟩:=he;exact False.elim h1
theorem StC.thn {E:Env} {D:List Deferred} {I:Act→Prop} {K:Act→World→Prop} {Q:Exit→Act→World→Prop} {s:ASt} (h:StC E D I K s):StC E D I (Exit.then K Q .normal) s:=fun rd mp a w h1 h2 h3 h4 h5=>h rd mp a w h1 h2 h3 h4 h5
theorem StC.thr {E:Env} {D:List Deferred} {I:Act→Prop} {K:Act→World→Prop} {Q:Exit→Act→World→Prop} {s:ASt} (h:StC E D I (Q .ret) s):StC E D I (Exit.then K Q .ret) s:=fun rd mp a w h1 h2 h3 h4 h5=>h rd mp a w h1 h2 h3 h4 h5
theorem qfe {P:Program} {I:Act→Prop}:∀ o∈([]:List Oper),NoDf P o∧∀ a v,I a→I (a.put o.dst v):=fun _ h=>by cases h
theorem qff {P:Program} {I:Act→Prop} {o:Oper} {l:List Oper} (h:NoDf P o∧∀ a v,I a→I (a.put o.dst v)) (k:∀ o∈l,NoDf P o∧∀ a v,I a→I (a.put o.dst v)):∀ o'∈o::l,NoDf P o'∧∀ a v,I a→I (a.put o'.dst v):=fun x hx=>by
 rcases List.mem_cons.1 hx with rfl|hx
 ·exact h
 ·exact k x hx
attribute [irreducible] StC
section
variable {c:Ctx} {rd:Rd} {mp:Mp} {st:List (Nat × SO)} {nx:Nat} {w:World}
def Mp.putRow (mp:Mp) (F i:Nat) (x:Value × Nat × Nat):Mp:=⟨mp.blk,fun r j=>if r=F∧j=i then some x else mp.row r j⟩
theorem Mp.le_putRow {F i:Nat} {v v0:Value} {e e0 n n0:Nat} (h:mp.row F i=some (v0,e0,n0)) (he:e0<e):Mp.le mp (mp.putRow F i (v,e,n)):=
 ⟨fun _ _ h=>h,fun r j v' e' n' hr=>by
  by_cases hrj:r=F∧j=i
  ·obtain ⟨rfl,rfl⟩:=hrj
   rw [h] at hr
   cases hr
   exact ⟨v,e,n,by simp [Mp.putRow],.inl he⟩
  ·exact ⟨v',e',n',by simp only [Mp.putRow];rw [za hrj];exact hr,.inr ⟨rfl,.inr ⟨rfl,rfl⟩⟩⟩⟩
theorem Mem.absorb (h:Mem c rd mp st nx w) {F r i cnt:Nat} {e:TypeId} {sz ep1 n1:Nat} {g:Nat→List AV} {ep len:Nat→Nat} {f:Nat→Nat→List AV}
  (hF:look st F=some (.fam e sz cnt ep len f)) (hr:look st r=some (.row [] e sz ep1 n1 g)) (hi:i<cnt) :
  ∃ v,mp.row r 0=some (v,ep1,n1)∧Mp.le mp (mp.putRow F i (v,ep i+1,n1)) ∧
   Mem c rd (mp.putRow F i (v,ep i+1,n1)) (qz (qu [r] st) F (.fam e sz cnt (Go.Sx.upd ep i (ep i+1)) (Go.Sx.upd len i n1) (Go.Sx.upd f i g))) nx w:=by
 have hne:F≠r:=by rintro rfl;rw [hF] at hr;cases hr
 obtain ⟨v,xs,h1,h2,h3,h4,h5⟩:=h.mb r 0 _ (.row hr)
 obtain ⟨v0,xs0,k1,k2,k3,k4,k5⟩:=h.mb F i _ (.fam hF hi)
 simp only at h1 h2 h3 h4 h5 k1
 have hle:=Mp.le_putRow (mp:=mp) (v:=v) (n:=n1) k1 (Nat.lt_succ_self (ep i))
 refine ⟨v,h1,hle,?_⟩
 have hrow:∀ r' j,¬ (r'=F∧j=i)→(mp.putRow F i (v,ep i+1,n1)).row r' j=mp.row r' j:=fun r' j hn=>by simp only [Mp.putRow];rw [za hn]
 have hd:∀ y,look (qu [r] st) y=if y=r then none else look st y:=fun y=>by
  rw [qgm]
  by_cases hy':y=r
  ·rw [zb hy',zb (by simpa using hy')]
  ·rw [za hy',za (by simpa using hy')]
 have hdF:look (qu [r] st) F=some (.fam e sz cnt ep len f):=by rw [hd,za hne];exact hF
 have hh:=h.dropped [r]
 refine hh.upd (some (.rw F i)) (Rd.le.refl _) hle hh.fr hh.rdw hh.rd1 hh.rdn (fun b' ty' cs' hl' hne'=>?_) (fun r' j R hR hn=>?_)
  (fun p hp hp'=>⟨?_,fun g hg=>⟨rfl,(hh.home hp hg).2.1⟩⟩) (fun b' ty' cs'' ht hl'=>by cases ht) (fun r' j R ht hR=>?_)
  (fun p g' ht hp hg q hq hq' hg'=>?_) (fun j hj=>?_) (fun j y hy=>?_) (fun r' e' sz' cnt' ep' len' f'' hl' j hj=>?_) (fun r' sz' ep' n' f'' hl'=>?_)
 ·rw [qk] at hl'
  by_cases hb:b'=F
  ·rw [zb hb,hb,hdF] at hl';cases hl'
  ·rw [za hb] at hl';exact hl'
 ·by_cases hr':r'=F
  ·subst hr'
   cases hR with
   | row hl'=>rw [qk,zb rfl,hdF] at hl';cases hl'
   | fam hl' hj=>
    rw [qk,zb rfl,hdF] at hl'
    cases hl'
    have hji:j≠i:=fun he=>hn (by rw [he])
    have u:∀ {α:Type} (a:Nat→α) (x:α),Go.Sx.upd a i x j=a j:=fun a x=>za hji
    rw [u,u,u]
    exact .fam hdF hj
  ·exact qsy hr' hR
 ·cases p with
  | bx b=>rfl
  | rw r' j=>exact hrow r' j (fun he=>hp' (by rw [he.1,he.2]))
 ·simp only [Option.some.injEq,Pl.rw.injEq] at ht
  obtain ⟨rfl,rfl⟩:=ht
  cases hR with
  | row hl'=>rw [qk,zb rfl,hdF] at hl';cases hl'
  | fam hl' _=>
   rw [qk,zb rfl,hdF] at hl'
   cases hl'
   have u:∀ {α:Type} (a:Nat→α) (x:α),Go.Sx.upd a i x i=x:=fun a x=>zb rfl
   rw [u,u,u]
   refine ⟨v,xs,by simp [Mp.putRow],h2,h3,fun k j x hk hx=>?_,h5⟩
   obtain ⟨y,h6,h7,h8⟩:=h4 k j x hk hx
   rw [Mp.sel_nil] at h8 ⊢
   exact ⟨y,h6,h7,h8⟩
 ·cases ht
  simp [blkOf,Mp.putRow] at hg
  have hgr:blkOf mp (.rw r 0)=some g':=by simp only [blkOf];rw [h1];exact hg
  have hlo:∀ {y:Nat} {o:SO},look (qu [r] st) y=some o→look st y=some o:=fun {y o} hl=>by
   rw [hd] at hl
   split at hl
   ·cases hl
   ·exact hl
  have hq0:There st q:=by
   cases q with
   | bx b=>obtain ⟨ty,cs,hl⟩:=hq;exact ⟨ty,cs,hlo hl⟩
   | rw r' j=>
    obtain ⟨R,hR⟩:=hq
    cases hR with
    | row hl=>exact ⟨_,.row (hlo hl)⟩
    | fam hl hj=>exact ⟨_,.fam (hlo hl) hj⟩
  have:=h.inj q (.rw r 0) g' hq0 ⟨_,.row hr⟩ hg' hgr
  subst this
  obtain ⟨R,hR⟩:=hq
  cases hR with
  | row hl=>rw [hd,zb rfl] at hl;cases hl
  | fam hl _=>rw [hd,zb rfl] at hl;cases hl
 ·have:=h.fresh j hj
  have hnF:¬ c.fre nx F:=h.ids F _ hF
  exact ⟨this.1,fun k=>by rw [hrow j k (fun he=>hnF (he.1 ▸ hj))];exact this.2 k⟩
 ·rw [qk] at hy
  by_cases hid:j=F
  ·rw [hid];exact h.ids F _ hF
  ·rw [za hid] at hy;exact hh.ids j y hy
 ·rw [qk] at hl'
  by_cases hid:r'=F
  ·subst hid
   rw [zb rfl,hdF] at hl'
   cases hl'
   rw [hrow r' j (fun he=>by omega)]
   exact h.out r' e sz cnt ep len f hF j hj
  ·rw [za hid] at hl'
   rw [hrow r' j (fun he=>hid he.1)]
   exact hh.out r' e' sz' cnt' ep' len' f'' hl' j hj
 ·rw [qk] at hl'
  by_cases hid:r'=F
  ·rw [zb hid,hid,hdF] at hl';cases hl'
  ·rw [za hid] at hl';exact ⟨hl',hrow r' 0 (fun he=>hid he.1)⟩
theorem Mem.retell (hm:Mem c rd mp st nx w) {id F r i:Nat} {ids:List Nat} {e0:TypeId} {ep0 n0:Nat} {f0:Nat→List AV} {ep1 n1 ee:Nat} {v:Value}
  (hl:look st id=some (.row ids e0 1 ep0 n0 f0)) (hr:mp.row r 0=some (v,ep1,n1)) (hF:mp.row F i=some (v,ee,n1))
  (hfi:f0 i=[.own r 0 ep1 n1]) (hf:∀ k,k<n0→k≠i→∃ a b,f0 k=[.own F k a b]) :
  Mem c rd mp (qz st id (.row [F] e0 1 ep0 n0 (fun k=>if k=i then [.own F i ee n1] else f0 k))) nx w:=by
 refine hm.rerow (ids':=[F]) (f':=fun k=>if k=i then [.own F i ee n1] else f0 k) hl (fun k hk=>by
   by_cases hki:k=i
   ·rw [zb hki];rfl
   ·rw [za hki];obtain ⟨x,y,h⟩:=hf k hk hki;rw [h];rfl) (fun k j x y u hk hx hy hrel=>by
  by_cases hki:k=i
  ·rw [zb hki] at hx
   rw [hki,hfi] at hy
   cases j with
   | succ j=>simp at hy
   | zero=>
    simp only [List.getElem?_cons_zero,Option.some.injEq] at hx hy
    subst hx hy
    cases hrel with
    | own _ _ _ _ _ _ vr er nr h3 h4 h5 h6 h7=>
     have h3':mp.row r 0=some (vr,er,nr):=by
      simp only [Mp.sel] at h3
      split at h3
      ·exact h3
      ·cases h3
     rw [hr] at h3'
     cases h3'
     have hv:=h6 rfl rfl
     subst hv
     exact .own _ _ _ _ _ _ u ee n1 (by simp only [Mp.sel,xm,zb];exact hF) (zi _) (fun _=>zi _) (fun _ _=>rfl) h7
  ·rw [za hki] at hx
   obtain ⟨x1,y1,h⟩:=hf k hk hki
   rw [h] at hx hy
   cases j with
   | succ j=>simp at hy
   | zero=>
    simp only [List.getElem?_cons_zero,Option.some.injEq] at hx hy
    subst hx hy
    cases hrel with
    | own _ _ _ _ _ _ vr er nr h3 h4 h5 h6 h7=>
     refine .own _ _ _ _ _ _ vr er nr ?_ h4 h5 h6 h7
     simp only [Mp.sel] at h3 ⊢
     split at h3
     ·rw [zb (by simp)];exact h3
     ·cases h3)
theorem Turn.absorb {E:Env} {sl:List (Nat × AV)} (id F r i:Nat) {ids:List Nat} {e0:TypeId} {ep0 n0:Nat} {f0:Nat→List AV} {cnt:Nat} {e:TypeId} {sz ep1 n1:Nat} {g:Nat→List AV} {ep len:Nat→Nat} {f:Nat→Nat→List AV}
  (hl:look st id=some (.row ids e0 1 ep0 n0 f0)) (hF:look st F=some (.fam e sz cnt ep len f)) (hr:look st r=some (.row [] e sz ep1 n1 g)) (hi:i<cnt) (hir:id≠r)
  (hfi:f0 i=[.own r 0 ep1 n1]) (hf:∀ k,k<n0→k≠i→∃ a b,f0 k=[.own F k a b]) :
  Turn E ⟨sl,st,nx⟩ ⟨sl,qz (qz (qu [r] st) F (.fam e sz cnt (Go.Sx.upd ep i (ep i+1)) (Go.Sx.upd len i n1) (Go.Sx.upd f i g))) id (.row [F] e0 1 ep0 n0 (fun k=>if k=i then [.own F i (ep i+1) n1] else f0 k)),nx⟩:=by
 intro rd mp a w hs hb
 obtain ⟨v,h1,hle,hmem⟩:=hs.mem.absorb hF hr hi
 have hidF:id≠F:=by rintro rfl;rw [hl] at hF;cases hF
 have hrF:r≠F:=by rintro rfl;rw [hF] at hr;cases hr
 have hl2:look (qz (qu [r] st) F (.fam e sz cnt (Go.Sx.upd ep i (ep i+1)) (Go.Sx.upd len i n1) (Go.Sx.upd f i g))) id=some (.row ids e0 1 ep0 n0 f0):=by
  rw [qk,za hidF,qgm,za (by simpa using hir)];exact hl
 have hm2:=hmem.retell (ee:=ep i+1) hl2 (by simp only [Mp.putRow];rw [za (fun h=>hrF h.1)];exact h1) (by simp [Mp.putRow]) hfi hf
 exact ⟨_,⟨fun t=>(hs.slots t).mono (Rd.le.refl _) hle,hs.defers,hm2⟩,hb.step (Rd.le.refl _) hle⟩
theorem Turn.join {E:Env} {sl:List (Nat × AV)} (id F r:Nat) {ids:List Nat} {e0:TypeId} {ep0 n:Nat} {f0:Nat→List AV} {e:TypeId} {sz ep1 n1:Nat} {g:Nat→List AV} {ep len:Nat→Nat} {f:Nat→Nat→List AV}
  (hl:look st id=some (.row ids e0 1 ep0 (n+1) f0)) (hF:look st F=some (.fam e sz n ep len f)) (hr:look st r=some (.row [] e sz ep1 n1 g)) (hir:id≠r)
  (hfi:f0 n=[.own r 0 ep1 n1]) (hf:∀ k,k<n→∃ a b,f0 k=[.own F k a b]) :
  Turn E ⟨sl,st,nx⟩ ⟨sl,qz (qz (qu [r] (qz st F (.fam e sz (n+1) (fun k=>if k<n then ep k else 0) (fun k=>if k<n then len k else 0) f))) F (.fam e sz (n+1) (Go.Sx.upd (fun k=>if k<n then ep k else 0) n ((if n<n then ep n else 0)+1)) (Go.Sx.upd (fun k=>if k<n then len k else 0) n n1) (Go.Sx.upd f n g))) id (.row [F] e0 1 ep0 (n+1) (fun k=>if k=n then [.own F n ((if n<n then ep n else 0)+1) n1] else f0 k)),nx⟩:=by
 intro rd mp a w hs hb
 have hidF:id≠F:=by rintro rfl;rw [hl] at hF;cases hF
 have hrF:r≠F:=by rintro rfl;rw [hF] at hr;cases hr
 have hg:=hs.mem.growFam hF
 have hle0:Mp.le mp (mp.addRow F n):=Mp.le_addRow (hs.mem.out F e sz n ep len f hF n (zi _))
 obtain ⟨v,h1,hle,hmem⟩:=hg.absorb (F:=F) (r:=r) (i:=n) (by rw [qk,zb rfl,hF];rfl) (by rw [qk,za hrF];exact hr) (Nat.lt_succ_self n)
 have hl2:look (qz (qu [r] (qz st F (.fam e sz (n+1) (fun k=>if k<n then ep k else 0) (fun k=>if k<n then len k else 0) f))) F (.fam e sz (n+1) (Go.Sx.upd (fun k=>if k<n then ep k else 0) n ((if n<n then ep n else 0)+1)) (Go.Sx.upd (fun k=>if k<n then len k else 0) n n1) (Go.Sx.upd f n g))) id=some (.row ids e0 1 ep0 (n+1) f0):=by
  rw [qk,za hidF,qgm,za (by simpa using hir),qk,za hidF];exact hl
 have hm2:=hmem.retell (ee:=(if n<n then ep n else 0)+1) hl2 (by simp only [Mp.putRow];rw [za (fun h=>hrF h.1)];exact h1) (by simp [Mp.putRow]) hfi (fun k hk hne=>hf k (by omega))
 exact ⟨_,⟨fun t=>(hs.slots t).mono (Rd.le.refl _) (Mp.le.trans hle0 hle),hs.defers,hm2⟩,hb.step (Rd.le.refl _) (Mp.le.trans hle0 hle)⟩
end
section
variable {st:List (Nat × SO)} {nx:Nat}
theorem Turn.box {E:Env} {sl:List (Nat × AV)} (b:Nat) (cs':List AV) {ty:TypeId} {cs:List AV} (hl:look st b=some (.box ty cs)) (hle:LeL cs cs') :
  Turn E ⟨sl,st,nx⟩ ⟨sl,qz st b (.box ty cs'),nx⟩:=by
 intro rd mp a w hs hb
 have hg:=hle.get
 exact ⟨mp,⟨hs.slots,hs.defers,hs.mem.rebox hl hg.1.symm (fun j x y v hx hy hr=>(hg.2 j y x hy hx).rel hr)⟩,hb⟩
theorem Turn.so {E:Env} {sl:List (Nat × AV)} (id:Nat) (o':SO) {o:SO} (hl:look st id=some o) (hle:SoLe o o'):Turn E ⟨sl,st,nx⟩ ⟨sl,qz st id o',nx⟩:=by
 intro rd mp a w hs hb
 refine ⟨mp,⟨hs.slots,hs.defers,hs.mem.weak fun i x hx=>?_⟩,hb⟩
 rw [qk] at hx
 by_cases h:i=id
 ·subst h
  rw [zb rfl,hl] at hx
  cases hx
  exact ⟨o,hl,hle⟩
 ·rw [za h] at hx
  exact ⟨x,hx,SoLe.refl x⟩
end
theorem CallZ.no {P:Program} {g:Bool} {f:FuncId} {args:List AV} {K:AV→Prop} (v:AV) (hg:g=false) (hk:K v):CallZ P g f args K:=by
 unfold CallZ
 exact ⟨v,fun h=>(by rw [hg] at h;cases h),hk⟩
theorem CallZ.le {P:Program} {g:Bool} {f:FuncId} {args:List AV} {K:AV→Prop} {args':List AV} {res:AV} (h:g=true→Con P f args' res) (hp:args'.all AV.pure=true) (hl:g=true→LeL args args') (hk:K res):CallZ P g f args K:=by
 unfold CallZ
 exact ⟨res,fun hg=>⟨args',h hg,hp,hl hg⟩,hk⟩
theorem Con.res {P:Program} {f:FuncId} {args:List AV} {res res':AV} (h:Con P f args res) (hl:Le res res'):Con P f args res':=fun rd w vs h1 h2=>
 (h rd w vs h1 h2).mono (fun _ _ ⟨rd',a,b⟩=>⟨rd',hl.rel a,b⟩) (fun _ _ h=>h)
end Go.Sx
end
section
namespace Go.Sx
open Go Go.RowKit
section
variable {c:Ctx} {rd:Rd} {mp:Mp} {st:List (Nat × SO)} {nx:Nat} {w:World}
theorem TurnR.trans {E:Env} {s s' s'':ASt} (h:TurnR E s s') (k:TurnR E s' s''):TurnR E s s'':=fun rd mp a w h1 h2=>by
 obtain ⟨rd',mp',h3,h4⟩:=h rd mp a w h1 h2
 exact k rd' mp' a w h3 h4
end
theorem jma {sl:List (Nat × AV)} {st:List (Nat × SO)} {nx:Nat} {E:Env} {B:Nat→ASt→Prop} {body:Code} {k:List Itm} (hT:∀ t,E.T t=tab E.P t) (n lvl:Nat) {G:Type} (ov:G→List (Nat × AV)) (so:G→List (Nat × SO)) (φ:G→Prop) (μ:G→Nat)
  (g0:G) (h0:φ g0) (hs0:SubSl ⟨sl,st,nx⟩ (ov g0)) (ht0:SubSt st (so g0)) (hcl:∀ g,(ASt.mk (ov g++kept sl (qhl (qeh body++(ov g0).map (·.1)) (rdOf body (qhk k (qit E.fn.results.toList))) sl [])) (so g++qae st (qiu (so g0) st)) nx).closed E.nxb=true) (hmk:qhg lvl k=true)
  (round:qkp sl (qhl (qeh body++(ov g0).map (·.1)) (rdOf body (qhk k (qit E.fn.results.toList))) sl []) fun kl=>qao (qae st (qiu (so g0) st)) fun ks=>∀ g,φ g→exec E (fun m s'=>bif Nat.beq m lvl then ∃ g',φ g'∧(∃ s'',TurnR E s' s''∧(SubSl s'' (ov g')∧SubSt s''.st (so g'))∧(SubSl s'' kl∧SubSt s''.st ks))∧μ g' < μ g else B m s') n (.code body::.mark lvl::k) ⟨ov g++kl,so g++ks,nx⟩):qcf E B body k ⟨sl,st,nx⟩:=by
 rw [qsv,qaz] at round
 generalize qhl (qeh body++(ov g0).map (·.1)) (rdOf body (qhk k (qit E.fn.results.toList))) sl []=keep at hcl round
 generalize qiu (so g0) st=keepS at hcl round
 unfold qcf
 intro rd mp a w hs hrd hsz
 show (Code.loop body).wp E.P (QK E B k) a w
 refine wp_loop_ghost (fun m a w=>a.tmps.size=E.fn.ntmps∧∃ rd mp g,SR E.c rd mp ⟨ov g++kept sl keep,so g++qae st keepS,nx⟩ a w∧Base E rd mp∧φ g∧μ g=m) (μ g0)
  ⟨hsz,rd,_,g0,hs.sub hrd.std (s':=⟨ov g0++kept sl keep,so g0++qae st keepS,nx⟩) ⟨qmn hs0 (qsw sl keep),qmo ht0 (qpd st keepS)⟩ (hcl g0),hrd.sub (hcl g0),h0,rfl⟩ ?_
 rintro m a w ⟨hsz,rd,mp,g,hs,hrd,hφ,rfl⟩
 have hok:=qbk (E:=E) hT n _ _ (round g hφ) rd mp a w hs hrd hsz
 refine wp_mono hok fun e a' w' hq=>?_
 have pass:QK E (fun m s'=>bif Nat.beq m lvl then ∃ g',φ g'∧(∃ s'',TurnR E s' s''∧(SubSl s'' (ov g')∧SubSt s''.st (so g'))∧(SubSl s'' (kept sl keep)∧SubSt s''.st (qae st keepS)))∧μ g' < μ g else B m s') k e a' w'→QK E B k e a' w':=
  qrv (E:=E) (B:=B) lvl (fun n s hn hb=>by
   have:Nat.beq n lvl=false:=by
    cases hb':Nat.beq n lvl with
    | false=>rfl
    | true=>exact absurd (zj hb') hn
   simpa [this] using hb) k hmk e a' w'
 cases e with
 | normal=>
  obtain ⟨h1,rd',mp',s',h2,h3,h4⟩:=hq
  simp only [Nat.beq_refl,cond_true] at h4
  obtain ⟨g',hg1,⟨s'',ht,k2,k3⟩,hg3⟩:=h4
  obtain ⟨rd'',mp'',h5,h6⟩:=ht rd' mp' a' w' h2 h3
  exact ⟨μ g',hg3,h1,rd'',_,g',h5.sub h6.std (s':=⟨ov g'++kept sl keep,so g'++qae st keepS,nx⟩) ⟨qmn k2.1 k3.1,qmo k2.2 k3.2⟩ (hcl g'),h6.sub (hcl g'),hg1,rfl⟩
 | _=>exact pass hq
end Go.Sx
namespace Go.Sx
open Go Go.RowKit
theorem zA {full:Array Oper} {L:List (Oper × Stp)} {s0:ASt} {E:Env} {B:Nat→ASt→Prop} {n:Nat} {k:List Itm} {s:ASt} (h:exec E B n k s) (c:(qbs full L && (qfx full L).isEmpty)=true:=by kernel_rfl):AltG full L s0 (EndG E B n k s):=AltG.none c (EndG.go h)
theorem zO {b:Bool} {r:Prop} (k:r) (h:b=true:=by kernel_rfl):Ob (OrdG b) r:=Ob.intro (OrdG.intro h) k
theorem zD {E:Env} {B:Nat→ASt→Prop} {id:Nat} {ops:Array Oper} {k:List Itm} {s:ASt} (n:Nat) (h:D3X E B n k ops (fun cs=>match qaq E ops ops.toList cs s with|some (L,_)=>qez ops L|none=>false) ops.toList [] s)
  (hn:(ops.toList.all fun o=>!jg o.op)=true:=by rfl) (hT:∀ t,E.T t=tab E.P t:=by exact fun _=>rfl) (hmix:E.P.follows .mixedOrders=true:=by kernel_rfl):qby E B id ops k s:=jjd hT hmix n hn h
theorem zC {sl:List (Nat × AV)} {st:List (Nat × SO)} {nx:Nat} {E:Env} {B:Nat→ASt→Prop} {f:FuncId} {args:List AV} {dst:Option Nat} {full:Array Oper} {rest:List Oper} {k:List Itm} (n:Nat) {res:AV} (hc:Con E.P f args res)
  (h:je sl dst (fun sl'=>exec E B n (.ops full rest::k) ⟨sl',st,nx⟩) res) (hp:args.all AV.pure=true:=by rfl) (hT:∀ t,E.T t=tab E.P t:=by exact fun _=>rfl) (hd:jm E dst=true:=by kernel_rfl):qay E B f args dst full rest k ⟨sl,st,nx⟩:=jfm hT n hc hp hd h
theorem zG {sl:List (Nat × AV)} {st:List (Nat × SO)} {nx:Nat} {E:Env} {B:Nat→ASt→Prop} {g:Bool} {f:FuncId} {args:List AV} {dst:Option Nat} {full:Array Oper} {rest:List Oper} {k:List Itm} (n:Nat) {res:AV} (hc:g=true→Con E.P f (args.map unc) res)
  (h:je sl dst (fun sl'=>exec E B n (.ops full rest::k) ⟨sl',st,nx⟩) (.cnd g res)) (hp:(args.map unc).all AV.pure=true:=by rfl) (hgs:qil g args:=by exact qn) (hT:∀ t,E.T t=tab E.P t:=by exact fun _=>rfl) (hd:jm E dst=true:=by kernel_rfl):qgj E B g f args dst full rest k ⟨sl,st,nx⟩:=qws hT n hc hp hgs hd h
theorem zT {sl:List (Nat × AV)} {st:List (Nat × SO)} {nx:Nat} {E:Env} {B:Nat→ASt→Prop} {f:FuncId} {args:List AV} {dst:Option Nat} {full:Array Oper} {rest:List Oper} {k:List Itm} (n:Nat) (is:List Nat) {args':List AV} {st0:List SO} {res:AV} {st1:List (Nat × SO)} {n1:Nat}
  (ht:Trip E.P f args' st0 res st1 n1) (hnm:NamedL st (names is nx) is st0)
  (h:frcN (nx+(n1 - is.length)) fun nx'=>qao (jc (names is nx) st1++qu is st) fun st'=>frc (res.ren (names is nx)) (je sl dst (fun sl'=>exec E B n (.ops full rest::k) ⟨sl',st',nx'⟩)))
  (hchk:qdz is nx args' st0 res st1 n1=true:=by kernel_rfl) (hl:LeL args (args'.map (AV.ren (names is nx))):=by exact leA) (hr0:rowsLt st0.length (idx 0 st0):=by exact qb rfl) (hr1:rowsLt n1 st1:=by exact qb rfl) (hT:∀ t,E.T t=tab E.P t:=by exact fun _=>rfl) (hd:jm E dst=true:=by kernel_rfl) :
  qay E B f args dst full rest k ⟨sl,st,nx⟩:=qip hT n is ht hchk hl hnm hr0 hr1 hd h
theorem zB {b:Bool} {t e:Prop} (h:b=true→t) (k:b=false→e):Br b t e:=Br.intro h k
theorem zK {P:Program} {f:FuncId} {fn:Func} {body:Code} {args:List AV} {res:AV} (C:Cfg) (n:Nat) (hf:P.funcs[f]?=some fn) (h:∀ (c:Ctx) (rdb:Rd),exec { P:=P,T:=tab P,C:=C,fn:=fn,c:=c,rdb:=rdb,mpb:=Mp.none,nxb:=0,R:=conR res,X:=fun _ _ _=>False } (fun _ _=>False) n [.code body] ⟨qch 0 args,[],0⟩)
  (hb : fn.body = some body := by rfl) (hname : (fn.name == "runtime.NumGoroutine") = false := by kernel_rfl) (hn : Nat.ble args.length fn.ntmps = true := by kernel_rfl) : Con P f args res := jfc n (fun _ => rfl) hf hb hname hn h
theorem zL {P:Program} {f:FuncId} {fn:Func} {body:Code} {args:List AV} {st0:List SO} {res:AV} {st1:List (Nat × SO)} {n1:Nat} (C:Cfg) (n:Nat) (hf:P.funcs[f]?=some fn) (h:∀ (c:Ctx) (rdb:Rd) (mpb:Mp),exec { P:=P,T:=tab P,C:=C,fn:=fn,c:=c,rdb:=rdb,mpb:=mpb,nxb:=st0.length,R:=qsf res st1,X:=fun _ _ _=>False } (fun _ _=>False) n [.code body] ⟨qch 0 args,idx 0 st0,st0.length⟩)
  (hb : fn.body = some body := by rfl) (hname : (fn.name == "runtime.NumGoroutine") = false := by kernel_rfl) (hn : (Nat.ble args.length fn.ntmps && stLt n1 st1 && res.lt n1 && Nat.ble st0.length n1) = true := by kernel_rfl) : Trip P f args st0 res st1 n1 := jhi n (fun _ => rfl) hf hb hname hn h
theorem zI {p q r:Prop} (k:r) (h1:p:=by omega) (h2:q:=by omega):Ob (p∧q) r:=Ob.intro ⟨h1,h2⟩ k
theorem zQ {E:Env} {B:Nat→ASt→Prop} {id:Nat} {ops:Array Oper} {k:List Itm} {s:ASt} (n:Nat) (h:D4X E B n k ops s false ops.toList [] s) (hT:∀ t,E.T t=tab E.P t:=by exact fun _=>rfl) (hmix:E.P.follows .mixedOrders=true:=by kernel_rfl):qby E B id ops k s:=draw4 hT hmix n h
theorem zP {E:Env} {B:Nat→ASt→Prop} {id:Nat} {ops:Array Oper} {k:List Itm} {s:ASt} (n:Nat) (h:DX E B n k ops (fun cs=>match drun E ops ops.toList cs s with|some L=>qij ops L|none=>true) ops.toList [] s) (hT:∀ t,E.T t=tab E.P t:=by exact fun _=>rfl) (hmix:E.P.follows .mixedOrders=true:=by kernel_rfl):qby E B id ops k s:=jik hT hmix n h
theorem zR {E:Env} {B:Nat→ASt→Prop} {id:Nat} {ops:Array Oper} {k:List Itm} {s:ASt} (n:Nat) (h:D3X E B n k ops (fun cs=>match qaq E ops ops.toList cs s with|some (L,_)=>qez ops L|none=>false) ops.toList [] s) (hT:∀ t,E.T t=tab E.P t:=by exact fun _=>rfl) (hmix:E.P.follows .mixedOrders=true:=by kernel_rfl):qby E B id ops k s:=qyn hT hmix n h
end Go.Sx
end
