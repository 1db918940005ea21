/- Some texts of the library, one behind the other. -/
import Derived.Test.YtkhdldncbmkidaaY31
import Derived.KernelRfl
import Derived.Lib.AppendZerosOnto
import Derived.Test.YtkhdldncbmkidaaY30
import Derived.Lib.LaidTab
import Derived.Lib.AppendStr
import Derived.Sort.WalkB12
import Derived.Sort.Grow
set_option linter.unusedSimpArgs false
set_option linter.unusedVariables false
section
namespace Go.Sx
open Go Go.RowKit
def PanI (c:Ctx) (rd:Rd) (mp:Mp) (n:Nat) (X:AV→Prop) (ch:List PanicEntry) (w':World):Prop:=
 ∃ v x rd' mp',ch=[⟨v,false,false⟩]∧X x∧Rel rd' mp' x v∧Rd.le rd rd'∧Mp.le mp mp'∧Mem c rd' mp' [] n w'
def qiq (P:Program) (g:FuncId) (args:List AV) (st:List (Nat × SO)) (nx:Nat) (X:AV→Prop) (p:Stp):Prop:=
 ∀ (c:Ctx) rd mp w vs,c.fre=stdF→Mem c rd mp st nx w→RelL rd mp args vs→
  Invokes P g vs w (fun x w'=>∃ rd' mp',Rd.le rd rd'∧Mp.le mp mp'∧Mem c rd' mp' (bif p.wr then p.st else st) (bif p.wr then p.nx else nx) w'∧Rel rd' mp' p.v x) (fun ch w'=>PanI c rd mp nx X ch w')
def PanQ (E:Env) (Q:Exit→Act→World→Prop):Prop:=∀ ch a w,a.defers=[]→Post E (.panicked ch) w→Q (.panic ch) a w
def CusT (P:Program) (s:ASt) (o:Oper) (v:AV) (st':List (Nat × SO)) (nx':Nat):Prop:=
 ∀ (c:Ctx) rd mp w (φ:Operand→Value),c.fre=stdF→Mem c rd mp s.st s.nx w→(∀ x∈o.op.operands,Rel rd mp (ev s x) (φ x))→Good P c rd mp s.st s.nx w (.mem none v st' nx') (execOp φ o)
theorem CusT.congr {P:Program} {s s':ASt} {o:Oper} {v:AV} {st':List (Nat × SO)} {nx':Nat} (h:∀ x∈o.op.operands,ev s x=ev s' x) (hst:s.st=s'.st) (hnx:s.nx=s'.nx) (k:CusT P s o v st' nx'):CusT P s' o v st' nx':=by
 intro c rd mp w φ h1 h2 h3
 have:=k c rd mp w φ h1 (by rw [hst,hnx];exact h2) (fun x hx=>by rw [h x hx];exact h3 x hx)
 rw [hst,hnx] at this
 exact this
def CusY (P:Program) (s:ASt) (o:Oper) (K1:AV→List (Nat × SO)→Nat→Prop):Prop:=∃ v st' nx',CusT P s o v st' nx'∧K1 v st' nx'
def SStep (E:Env) (full:Array Oper) (s:ASt) (o:Oper) (p:Stp):Prop:=
 (∃ res q,jf E full s o res=some q∧q.ob∧q.v=p.v∧q.wr=p.wr∧(q.wr=true→q.st=p.st∧q.nx=p.nx)) ∨
 (p.wr=true∧qz E o.dst=true∧o.guard=none∧∃ g args,aop E.T E.C s o.dst o.op=.call g args∧qiq E.P g args s.st s.nx (E.X [] s.nx) p) ∨
 (p.wr=true∧qz E o.dst=true∧o.guard=none∧CusT E.P s o p.v p.st p.nx) ∨
 (p.wr=true∧qz E o.dst=true∧∃ j want d g v,o.guard=some (j,want)∧qan full j=some d∧qbn want (s.get d)=some g∧g=true∧p.v=.cnd g v∧∃ f args,aop E.T E.C s o.dst o.op=.call f args∧qiq E.P f args s.st s.nx (E.X [] s.nx) ⟨v,true,p.st,p.nx,True⟩)
theorem SStep.congr {E:Env} {full:Array Oper} {s s':ASt} {o:Oper} {p:Stp} (h:∀ t∈reads full o,s.get t=s'.get t) (hst:s.st=s'.st) (hnx:s.nx=s'.nx) (k:SStep E full s o p):SStep E full s' o p:=by
 rcases k with ⟨res,q,h1,h2⟩|⟨h0,h1,h2,g,args,h3,h4⟩|⟨h0,h1,h2,h3⟩|⟨h0,h1,j,want,d,g,v,k1,k2,k3,k4,k5,f,args,k6,k7⟩
 ·exact .inl ⟨res,q,by rw [← jbq res h hst hnx];exact h1,h2⟩
 ·exact .inr (.inl ⟨h0,h1,h2,g,args,by rw [← qgt o.dst o.op (qer h) hst hnx];exact h3,by rw [← hst,← hnx];exact h4⟩)
 ·exact .inr (.inr (.inl ⟨h0,h1,h2,h3.congr (qer h) hst hnx⟩))
 ·exact .inr (.inr (.inr ⟨h0,h1,j,want,d,g,v,k1,k2,by rw [← h d (by simp [reads,k1,k2])];exact k3,k4,k5,f,args,by rw [← qgt o.dst o.op (qer h) hst hnx];exact k6,by rw [← hst,← hnx];exact k7⟩))
theorem SStep.sound {E:Env} (hT:∀ t,E.T t=tab E.P t) (hstd:E.c.fre=stdF) {full:Array Oper} {s:ASt} {o:Oper} {p:Stp} (k:SStep E full s o p):qkr (PanQ E) E full s o p:=by
 intro rd mp a w hs hrd hsz K Q hQ hK
 rcases k with ⟨res,q,h1,h2,e1,e2,e3⟩|⟨_,h1,h2,g,args,h3,h4⟩|⟨h0,h1,h2,h3⟩|⟨h0,h1,j,want,d,gb,v,k1,k2,k3,k4,k5,g,args,k6,k7⟩
 ·refine qti hT h1 h2 hs (.std hstd s.nx) hsz (K:=K) (Q:=Q) ?_
  cases hq:q.wr with
  | true=>
   obtain ⟨e4,e5⟩:=e3 hq
   rw [← e2,hq] at hK
   rw [e1,e4,e5]
   exact hK
  | false=>
   rw [← e2,hq] at hK
   rw [e1]
   exact hK
 ·have hgood:=qgr (C:=E.C) hT hs (.std hstd s.nx) o
  rw [h3] at hgood
  obtain ⟨vs,g1,g2⟩:=hgood
  have hdst:=qci h1 hsz
  rw [za (by simp [Region.wanted,h2])]
  refine .inl ?_
  unfold Oper.wp
  rw [g1]
  rcases h4 E.c rd mp w vs hstd hs.mem g2 with ⟨h5,h6⟩|⟨x,w',h5,rd',mp',h6,h7,h8,h9⟩
  ·rw [h5,Oper.upon_enter]
   refine h6.mono fun e w' he=>?_
   rcases he with ⟨x,he,rd',mp',h6,h7,h8,h9⟩|⟨_,he,v,x,rd',mp',rfl,hx,hr,h6,h7,h8⟩
   ·subst he;exact hK x w' rd' mp' h6 h7 h8 h9 hdst
   ·subst he;exact hQ _ a w' hs.defers ⟨x,rd',mp',[],s.nx,hx,hr,h8,hrd.step h6 h7⟩
  ·rw [h5,Oper.upon_value]
   exact hK x w' rd' mp' h6 h7 h8 h9 hdst
 ·obtain ⟨n,x,w',rd',mp',g1,g2,g3,g4,g5,g6⟩:=h3 E.c rd mp w a.eval hstd hs.mem (fun x _=>qac hs x) trivial
  have hdst:=qci h1 hsz
  have hK':=hK x w' rd' mp' g3 g4 (by rw [h0];exact g5) g6 hdst
  rw [za (by simp [Region.wanted,h2])]
  refine .inl ?_
  unfold Oper.wp
  rw [g1]
  rcases g2 with rfl|⟨rfl,rfl⟩
  ·rw [Oper.upon_value];exact hK'
  ·rw [Oper.upon_skip];exact hK'
 ·have hgood:=qgr (C:=E.C) hT hs (.std hstd s.nx) o
  rw [k6] at hgood
  obtain ⟨vs,g1,g2⟩:=hgood
  have hdst:=qci h1 hsz
  have hwant:=qon hs k2 k3 o k1
  rw [hwant,k4,za rfl]
  refine .inl ?_
  unfold Oper.wp
  rw [g1]
  have hfin:∀ x w' rd' mp',Rd.le rd rd'→Mp.le mp mp'→Mem E.c rd' mp' p.st p.nx w'→Rel rd' mp' v x→K (a.put o.dst x) w':=fun x w' rd' mp' h6 h7 h8 h9=>
   hK x w' rd' mp' h6 h7 (by rw [h0];exact h8) (by rw [k5];exact .cnd _ _ _ _ (fun _=>h9) (fun h=>by rw [k4] at h;cases h)) hdst
  rcases k7 E.c rd mp w vs hstd hs.mem g2 with ⟨h5,h6⟩|⟨x,w',h5,rd',mp',h6,h7,h8,h9⟩
  ·rw [h5,Oper.upon_enter]
   refine h6.mono fun e w' he=>?_
   rcases he with ⟨x,he,rd',mp',h6,h7,h8,h9⟩|⟨_,he,v,x,rd',mp',rfl,hx,hr,h6,h7,h8⟩
   ·subst he;exact hfin x w' rd' mp' h6 h7 h8 h9
   ·subst he;exact hQ _ a w' hs.defers ⟨x,rd',mp',[],s.nx,hx,hr,h8,hrd.step h6 h7⟩
  ·rw [h5,Oper.upon_value]
   exact hfin x w' rd' mp' h6 h7 h8 h9
def qll:Op→Bool
 | .move _ | .pick .. | .build .. | .load .. | .nilCheck _ | .binOp .. | .unOp .. | .convert .. | .makeFunc .. | .fieldAddr .. | .field .. | .indexAddr .. | .index .. | .extract ..=>true
 | .call c=>match c.callee with | .builtin .len=>true|_=>false
 | _=>false
theorem jep (T:Nat→TI) (C:Cfg) (sl:List (Nat × AV)) (st:List (Nat × SO)) (nx nx':Nat) (d:Option Nat) (op:Op) (h:qll op=true):aop T C ⟨sl,st,nx⟩ d op=aop T C ⟨sl,st,nx'⟩ d op:=by
 have hev:∀ x,ev ⟨sl,st,nx⟩ x=ev ⟨sl,st,nx'⟩ x:=fun x=>by cases x <;> rfl
 have hev2:ev ⟨sl,st,nx⟩=ev ⟨sl,st,nx'⟩:=funext hev
 cases op with
 | call c=>
  simp only [qll] at h
  split at h
  ·rename_i hc
   simp only [aop,hc,hev2]
   unfold qem
   generalize (c.args.toList.map fun x=>strip st (ev ⟨sl,st,nx'⟩ x))=l
   generalize c.argTypes.toList=ts
   rcases ts with _|⟨t,_|⟨t',ts⟩⟩ <;> rcases l with _|⟨x,_|⟨y,l⟩⟩ <;> rfl
  ·cases h
 | _=>first|(simp [qll] at h;done)|(simp only [aop,hev];done)|(simp only [aop,hev2];done)
def qfx (C:Cfg) (d:Option Nat):Op→Bool
 | .buildSlice ..=>!C.lit && (d.bind (look C.owns)).isNone
 | op=>qll op
theorem jeq (T:Nat→TI) (C:Cfg) (sl:List (Nat × AV)) (st:List (Nat × SO)) (nx nx':Nat) (d:Option Nat) (op:Op) (h:qfx C d op=true):aop T C ⟨sl,st,nx⟩ d op=aop T C ⟨sl,st,nx'⟩ d op:=by
 cases op with
 | buildSlice t n ps=>
  have hev2:ev ⟨sl,st,nx⟩=ev ⟨sl,st,nx'⟩:=funext fun x=>by cases x <;> rfl
  simp only [qfx,zh,Option.isNone_iff_eq_none,xr] at h
  simp only [aop,hev2,qfh,h.1,h.2,cond_false]
 | _=>exact jep T C sl st nx nx' d _ h
def qhc (s:ASt):Op→List Nat
 | .move _=>[]
 | op=>foot s op
def FootOk (C:Cfg) (s:ASt) (o:Oper) (p:Stp):Prop:=p.wr=false→p.nx=1→o.guard=none∧qfx C o.dst o.op=true∧∀ n∈qhc s o.op,n∈p.st.map (·.1)
theorem jer {E:Env} (hT:∀ t,E.T t=tab E.P t) {full:Array Oper} {s s':ASt} {o:Oper} {res:AV} {q:Stp} (hg:o.guard=none) (hn:qfx E.C o.dst o.op=true) (h:∀ t∈reads full o,s.get t=s'.get t) (hag:Agree (qhc s o.op) s.st s'.st)
  (hq:jf E full s o res=some q) (hw:q.wr=false):∃ q',jf E full s' o res=some q'∧(q.ob→q'.ob)∧q'.v=q.v∧q'.wr=false:=by
 obtain ⟨sl,st,nx⟩:=s
 obtain ⟨sl',st',nx'⟩:=s'
 have h1:=qer h
 have e1:aop E.T E.C ⟨sl',st',nx'⟩ o.dst o.op=aop E.T E.C ⟨sl,st',nx⟩ o.dst o.op:=by
  rw [jeq E.T E.C sl' st' nx' nx o.dst o.op hn]
  refine (qgt (s:=⟨sl,st',nx⟩) (s':=⟨sl',st',nx⟩) o.dst o.op (fun x hx=>?_) rfl rfl).symm
  have:=h1 x hx
  cases x <;> exact this
 have e2:OLoc st st' (tgt ⟨sl,st,nx⟩ o.op) (aop E.T E.C ⟨sl,st,nx⟩ o.dst o.op) (aop E.T E.C ⟨sl,st',nx⟩ o.dst o.op):=by
  have key:Agree (foot ⟨sl,st,nx⟩ o.op) st st'→OLoc st st' (tgt ⟨sl,st,nx⟩ o.op) (aop E.T E.C ⟨sl,st,nx⟩ o.dst o.op) (aop E.T E.C ⟨sl,st',nx⟩ o.dst o.op):=fun hag=>
   qtx (C:=E.C) hT (sl:=sl) (nx:=nx) (dst:=o.dst) (st:=st) (st':=st') o.op hag
  cases hop:o.op with
  | move x=>cases x <;> rfl
  | _=>rw [hop] at hag key;exact key hag
 unfold jf at hq ⊢
 cases hd:qz E o.dst with
 | false=>rw [hd] at hq;cases hq
 | true=>
  rw [hd,hg] at hq
  rw [hg]
  simp only at hq ⊢
  rw [e1]
  cases hr:aop E.T E.C ⟨sl,st,nx⟩ o.dst o.op with
  | bad=>rw [hr] at hq;cases hq
  | ok ob v=>
   rw [hr] at hq e2
   simp only [OLoc] at e2
   rw [e2]
   simp only [Option.some.injEq] at hq ⊢
   subst hq
   exact ⟨_,rfl,id,rfl,rfl⟩
  | mem ob v st1 nx1=>
   rw [hr] at hq
   simp only [Option.some.injEq] at hq
   subst hq
   cases hw
  | call f args=>
   rw [hr] at hq e2
   simp only [OLoc] at e2
   rw [e2]
   simp only [Option.some.injEq] at hq ⊢
   subst hq
   exact ⟨_,rfl,id,rfl,rfl⟩
def qaj:SO→SO
 | .row ids e sz ep n _=>.row ids e sz ep n (fun _=>[])
 | .fam e sz cnt ep len _=>.fam e sz cnt ep len (fun _ _=>[])
 | o=>o
def qpk:Op→Bool
 | .indexAddr ..=>true
 | _=>false
theorem qlm {st st':List (Nat × SO)} {x:AV} (h:∀ n∈nms x,(look st' n).map qaj=(look st n).map qaj):qm st' x=qm st x∧strip st' x=strip st x:=by
 cases x <;> try exact ⟨rfl,rfl⟩
 rename_i r i e n
 have hr:=h r (by simp [nms])
 simp only [qm,strip]
 cases h1:look st r with
 | none=>
  cases h2:look st' r with
  | none=>exact ⟨rfl,rfl⟩
  | some b=>rw [h1,h2] at hr;cases hr
 | some a=>
  cases h2:look st' r with
  | none=>rw [h1,h2] at hr;cases hr
  | some b=>
   rw [h1,h2] at hr
   simp only [xu,Option.some.injEq] at hr
   cases a <;> cases b <;> simp only [qaj] at hr <;> first|exact ⟨rfl,rfl⟩|cases hr <;> exact ⟨rfl,rfl⟩
theorem jes {T:Nat→TI} {st st':List (Nat × SO)} {t:TypeId} {x y:AV} (h:∀ n∈nms x,(look st' n).map qaj=(look st n).map qaj):qcu T st' t x y=qcu T st t x y:=by
 cases x <;> cases y <;> try rfl
 rename_i r i e n k q
 have hr:=h r (by simp [nms])
 simp only [qcu,qk]
 cases h1:look st r with
 | none=>
  cases h2:look st' r with
  | none=>rfl
  | some b=>rw [h1,h2] at hr;cases hr
 | some a=>
  cases h2:look st' r with
  | none=>rw [h1,h2] at hr;cases hr
  | some b=>
   rw [h1,h2] at hr
   simp only [xu,Option.some.injEq] at hr
   cases a <;> cases b <;> simp only [qaj] at hr <;> first|rfl|cases hr
   ·generalize (T t).kd=kd
    cases kd <;> cases Nat.beq i 0 <;> rfl
   ·generalize (T t).kd=kd
    cases kd <;> rfl
theorem jet {E:Env} {full:Array Oper} {s s':ASt} {o:Oper} {res:AV} {q:Stp} (hg:o.guard=none) (hn:qpk o.op=true) (h:∀ t∈reads full o,s.get t=s'.get t) (hag:∀ n∈qhc s o.op,(look s'.st n).map qaj=(look s.st n).map qaj)
  (hq:jf E full s o res=some q) (hw:q.wr=false):∃ q',jf E full s' o res=some q'∧(q.ob→q'.ob)∧q'.v=q.v∧q'.wr=false:=by
 obtain ⟨dst,op,ty,pos,aft,guard⟩:=o
 simp only at hg hn
 subst hg
 cases op with
 | indexAddr t x y=>
  have h1:=qer h
  have ex:ev s x=ev s' x:=h1 x (by simp [Op.operands])
  have ey:ev s y=ev s' y:=h1 y (by simp [Op.operands])
  have hx:∀ n∈nms (ev s x),(look s'.st n).map qaj=(look s.st n).map qaj:=fun n hn=>hag n (by simp only [qhc,foot,Op.operands,List.flatMap_cons,xt];exact .inl hn)
  have hy:∀ n∈nms (ev s y),(look s'.st n).map qaj=(look s.st n).map qaj:=fun n hn=>hag n (by simp only [qhc,foot,Op.operands,List.flatMap_cons,xt];exact .inr (.inl hn))
  have e1:aop E.T E.C s' dst (.indexAddr t x y)=aop E.T E.C s dst (.indexAddr t x y):=by
   simp only [aop]
   rw [← ex,← ey,(qlm hx).1,(qlm hx).2,(qlm hy).1,(qlm hy).2]
   rw [jes (fun n hn=>hx n (qtl _ n hn))]
  unfold jf at hq ⊢
  cases hd:qz E dst with
  | false=>rw [hd] at hq;cases hq
  | true=>
   rw [hd] at hq
   simp only at hq ⊢
   rw [e1]
   cases hr:aop E.T E.C s dst (.indexAddr t x y) with
   | bad=>rw [hr] at hq;cases hq
   | ok ob v=>
    rw [hr] at hq
    simp only [Option.some.injEq] at hq ⊢
    subst hq
    exact ⟨_,rfl,id,rfl,rfl⟩
   | mem ob v st1 nx1=>
    rw [hr] at hq
    simp only [Option.some.injEq] at hq
    subst hq
    cases hw
   | call f args=>
    rw [hr] at hq
    simp only [Option.some.injEq] at hq ⊢
    subst hq
    exact ⟨_,rfl,id,rfl,rfl⟩
 | _=>cases hn
structure AccS (E:Env) (full:Array Oper) (L:List (Oper × Stp)) (s0 s:ASt):Prop where
 st:stateAt L 0 (fun _=>true) s0=s
 step:∀ (i:Nat) x,L[i]?=some x→SStep E full (stateAt L 0 (fun j=>decide (j<i)) s0) x.1 x.2∧FootOk E.C (stateAt L 0 (fun j=>decide (j<i)) s0) x.1 x.2
theorem AccS.snoc {E:Env} {full:Array Oper} {L:List (Oper × Stp)} {s0 s:ASt} (h:AccS E full L s0 s) {o:Oper} {p:Stp} (hs:SStep E full s o p) (hf:FootOk E.C s o p):AccS E full (L++[(o,p)]) s0 (after s o p):=by
 have hsn:∀ i,i≤L.length→stateAt (L++[(o,p)]) 0 (fun j=>decide (j<i)) s0=stateAt L 0 (fun j=>decide (j<i)) s0:=by
  intro i hi
  rw [qoz]
  have:decide (0+L.length<i)=false:=by simp;omega
  rw [this];rfl
 refine ⟨?_,fun i x hx=>?_⟩
 ·rw [qoz,h.st];rfl
 ·by_cases hi:i<L.length
  ·rw [zn hi] at hx
   rw [hsn i (by omega)];exact h.step i x hx
  ·rw [zl (by omega)] at hx
   have hi0:i - L.length=0:=by
    cases hk:i - L.length with
    | zero=>rfl
    | succ k=>rw [hk] at hx;simp at hx
   rw [hi0] at hx
   simp at hx
   subst hx
   have:i=L.length:=by omega
   subst this
   rw [hsn _ (zj _),jdu L 0 _ (fun _=>true) s0 (fun j hj=>by simp;omega),h.st]
   exact ⟨hs,hf⟩
def qfy (L:List (Oper × Stp)) (i m:Nat):Bool:=(List.range L.length).all fun q=>match L[q]? with|some y=>!y.2.wr || (Nat.blt q i == Nat.blt q m)|none=>true
def wrOf:List (Oper × Stp)→Nat→List Nat
 | [],_=>[]
 | x::r,i=>match x.2.wr with|true=>i::wrOf r (i+1)|false=>wrOf r (i+1)
theorem qul:∀ (L:List (Oper × Stp)) (i q:Nat) (y:Oper × Stp),L[q]?=some y→y.2.wr=true→i+q∈wrOf L i
 | [],_,_,_,h,_=>by simp at h
 | x::r,i,0,y,h,hw=>by
  simp only [zao,Option.some.injEq] at h
  subst h
  simp only [wrOf,hw,zac]
  exact xm ..
 | x::r,i,q+1,y,h,hw=>by
  simp only [zan] at h
  have:=qul r (i+1) q y h hw
  rw [show i+1+q=i+(q+1) by omega] at this
  unfold wrOf
  split
  ·exact xg _ this
  ·exact this
def qir (full:Array Oper) (n:Nat) (ws:List Nat) (i:Nat):Bool:=ws.any fun w=>!(anc full n w).contains i && !(anc full n i).contains w
theorem qpl {full:Array Oper} {n:Nat} (hb:∀ (j:Nat),j<n→∀ o,full.toList[j]?=some o→∀ e∈o.after,Region.binds .any e=true→e.on<j):∀ (f j:Nat),j<n→∀ i∈anc full f j,i<j
 | 0,_,_,i,hi=>by simp [anc] at hi
 | f+1,j,hj,i,hi=>by
  simp only [anc] at hi
  split at hi
  ·rename_i o ho
   simp only [List.mem_flatMap,zbj,List.mem_cons,Array.mem_toList_iff] at hi
   obtain ⟨e,⟨he,hbe⟩,hi⟩:=hi
   have h1:=hb j hj o ho e he hbe
   rcases hi with rfl|hi
   ·exact h1
   ·have:=qpl hb f e.on (by omega) i hi;omega
  ·cases hi
def qck (full:Array Oper) (L:List (Oper × Stp)):List (Nat × Nat):=
 (List.range L.length).flatMap fun i=>match L[i]? with
  | some x=>bif x.2.wr || jg x.1.op then [] else bif qir full L.length (wrOf L 0) i then ((List.range (L.length+1)).filter fun m=>qgx full L i m && !qfy L i m).map fun m=>(i,m) else []
  | none=>[]
theorem jeu {full:Array Oper} {L:List (Oper × Stp)} (hord:qbo full L=true) (hlen:L.length=full.size) {i m:Nat} (hi:i<L.length) (hx:∀ x,L[i]?=some x→x.2.wr=false) (hf:qir full L.length (wrOf L 0) i=false) (hm:qgx full L i m=true):qfy L i m=true:=by
  have hb:∀ (j:Nat),j<L.length→∀ o,full.toList[j]?=some o→∀ e∈o.after,Region.binds .any e=true→e.on<j:=fun j hj o ho=>qtk hord hj ho
  unfold qfy
  refine List.all_eq_true.2 fun q hq=>?_
  have hq':=List.mem_range.1 hq
  rw [zb hq']
  simp only
  cases hw:(L[q]).2.wr with
  | false=>rfl
  | true=>
    have hqw:=qul L 0 q _ (zb hq') hw
    rw [zw] at hqw
    have hqi:q≠i:=fun e=>by subst e;have:=hx _ (zb hq');rw [hw] at this;cases this
    have h1:((anc full L.length q).contains i || (anc full L.length i).contains q)=true:=by
      cases hc:((anc full L.length q).contains i || (anc full L.length i).contains q) with
      | true=>rfl
      | false=>
        exfalso
        rw [Bool.or_eq_false_iff] at hc
        have:qir full L.length (wrOf L 0) i=true:=List.any_eq_true.2 ⟨q,hqw,by rw [hc.1,hc.2];rfl⟩
        rw [hf] at this;cases this
    have h2:=List.all_eq_true.1 hm q hq
    rw [zb hq'] at h2
    simp only [hw,zbu,zbs] at h2 ⊢
    rw [Bool.or_eq_true] at h1
    have blt:∀ x y:Nat,Nat.blt x y=decide (x<y):=fun x y=>by
      cases hb:Nat.blt x y with
      | true=>simp [zaz] at hb;simp [hb]
      | false => have : ¬ x < y := fun hlt => by rw [show Nat.blt x y = true by simp [zaz, hlt]] at hb; cases hb
                 simp [this]
    rcases h1 with h1|h1
    · have hlt:=qpl hb L.length q hq' i (by simpa using h1)
      rw [blt q i,xx (by omega)]
      cases hqm:Nat.blt q m with
      | false=>rfl
      | true=>rw [hqm] at h2;simp only [cond_true,h1,zbu] at h2;cases h2
    · have hlt:=qpl hb L.length i hi q (by simpa using h1)
      rw [blt q i,xn hlt]
      cases hqm:Nat.blt q m with
      | true=>rfl
      | false=>rw [hqm] at h2;simp only [cond_false,h1,zbu] at h2;cases h2
def jev (L:List (Oper × Stp)) (s0:ASt) (i m:Nat):Prop:=(stateAt L 0 (fun j=>decide (j<m)) s0).st=(stateAt L 0 (fun j=>decide (j<i)) s0).st∧(stateAt L 0 (fun j=>decide (j<m)) s0).nx=(stateAt L 0 (fun j=>decide (j<i)) s0).nx
def skel (x:Oper × Stp):Oper × Stp:=(x.1,⟨.any,x.2.wr,x.2.st,x.2.nx,True⟩)
theorem jew (x:Oper × Stp):(skel x).1=x.1:=rfl
theorem qis (x:Oper × Stp):(skel x).2.wr=x.2.wr:=rfl
theorem qum (x:Oper × Stp) (_:x.2.wr=true):(skel x).2.st=x.2.st∧(skel x).2.nx=x.2.nx:=⟨rfl,rfl⟩
theorem jex (full:Array Oper) (L:List (Oper × Stp)):qbo full (L.map skel)=qbo full L:=by
 unfold qbo
 rw [xq]
 congr 1
 funext j
 congr 1
 congr 1
 funext i
 rw [zm,zm]
 cases L[i]? <;> cases L[j]? <;> rfl
theorem jey (full:Array Oper) (L:List (Oper × Stp)) (i m:Nat):qgx full (L.map skel) i m=qgx full L i m:=by
 unfold qgx
 rw [xq]
 congr 1
 funext q
 rw [zm]
 cases L[q]? with
 | none=>rfl
 | some x=>simp only [xu,qis]
theorem jez (L:List (Oper × Stp)) (i m:Nat):qfy (L.map skel) i m=qfy L i m:=by
 unfold qfy
 rw [xq]
 congr 1
 funext q
 rw [zm]
 cases L[q]? with
 | none=>rfl
 | some x=>simp only [xu,qis]
theorem qun:∀ (L:List (Oper × Stp)) (i:Nat),wrOf (L.map skel) i=wrOf L i
 | [],_=>rfl
 | x::r,i=>by simp only [zag,wrOf,qis,qun r]
theorem jfa (full:Array Oper) (L:List (Oper × Stp)):qck full (L.map skel)=qck full L:=by
 unfold qck
 rw [xq,qun]
 congr 1
 funext i
 rw [zm]
 cases L[i]? with
 | none=>rfl
 | some x=>simp only [xu,qis,jew,jey,jez]
theorem qln:∀ (L:List (Oper × Stp)) (i:Nat) (S:Nat→Bool) (s s':ASt),s.st=s'.st→s.nx=s'.nx→(stateAt (L.map skel) i S s).st=(stateAt L i S s').st∧(stateAt (L.map skel) i S s).nx=(stateAt L i S s').nx
 | [],_,_,s,s',h1,h2=>⟨h1,h2⟩
 | (o,p)::r,i,S,s,s',h1,h2=>by
  simp only [zag,stateAt]
  have e:skel (o,p)=(o,(skel (o,p)).2):=rfl
  rw [e]
  simp only
  cases S i with
  | false=>simp only [cond_false];exact qln r (i+1) S s s' h1 h2
  | true=>
   simp only [cond_true]
   have hw:=qis (o,p)
   refine qln r (i+1) S _ _ ?_ ?_
   ·simp only [after]
    rw [hw]
    cases hp:p.wr with
    | true=>simp only [cond_true];exact (qum (o,p) hp).1
    | false=>simp only [cond_false];exact h1
   ·simp only [after]
    rw [hw]
    cases hp:p.wr with
    | true=>simp only [cond_true];exact (qum (o,p) hp).2
    | false=>simp only [cond_false];exact h2
def qup (L:List (Oper × Stp)) (s0:ASt) (i m:Nat):Prop:=jev L s0 i m ∨
 (∃ x,L[i]?=some x∧x.2.nx=1∧∀ n∈x.2.st.map (·.1),look (stateAt L 0 (fun j=>decide (j<m)) s0).st n=look (stateAt L 0 (fun j=>decide (j<i)) s0).st n) ∨
 ∃ x,L[i]?=some x∧x.2.nx=1∧qpk x.1.op=true∧∀ n∈x.2.st.map (·.1),(look (stateAt L 0 (fun j=>decide (j<m)) s0).st n).map qaj=(look (stateAt L 0 (fun j=>decide (j<i)) s0).st n).map qaj
def AltG (full:Array Oper) (L:List (Oper × Stp)) (s0:ASt) (k:Prop):Prop:=qbo full L=true∧(∀ p∈qck full L,qup L s0 p.1 p.2)∧k
theorem AltG.none {full:Array Oper} {L:List (Oper × Stp)} {s0:ASt} {k:Prop} (h:(qbo full L && (qck full L).isEmpty)=true) (hk:k):AltG full L s0 k:=by
 rw [zh,List.isEmpty_iff] at h
 exact ⟨h.1,by rw [h.2];exact fun p hp=>(by cases hp),hk⟩
theorem qit {st:List (Nat × SO)} {nx:Nat}:∀ (L:List (Oper × Stp)) (i m M:Nat) (s:ASt),s.st=st→s.nx=nx→m≤i+M→allP (fun x:Oper × Stp=>x.2.wr=true→x.2.st=st∧x.2.nx=nx) (L.take M)→
  (stateAt L i (fun j=>decide (j<m)) s).st=st∧(stateAt L i (fun j=>decide (j<m)) s).nx=nx
 | [],_,_,_,s,h1,h2,_,_=>⟨h1,h2⟩
 | (o,p)::r,i,m,M,s,h1,h2,hm,ha=>by
  simp only [stateAt]
  cases hd:decide (i<m) with
  | false=>
   simp only [cond_false]
   cases M with
   | zero=>exact qit r (i+1) m 0 s h1 h2 (by simp at hd;omega) trivial
   | succ M=>exact qit r (i+1) m M s h1 h2 (by omega) ha.2
  | true=>
   have hlt:i<m:=zaa hd
   simp only [cond_true]
   cases M with
   | zero=>omega
   | succ M=>
    refine qit r (i+1) m M _ ?_ ?_ (by omega) ha.2
    ·simp only [after]
     cases hw:p.wr with
     | true=>simp only [cond_true];exact (ha.1 hw).1
     | false=>simp only [cond_false];exact h1
    ·simp only [after]
     cases hw:p.wr with
     | true=>simp only [cond_true];exact (ha.1 hw).2
     | false=>simp only [cond_false];exact h2
theorem AltG.same {full:Array Oper} {L:List (Oper × Stp)} {s0:ASt} {k:Prop} (M:Nat) (h:(qbo full L && (qck full L).all fun p=>Nat.ble p.1 M && Nat.ble p.2 M)=true)
  (ha:allP (fun x:Oper × Stp=>x.2.wr=true→x.2.st=s0.st∧x.2.nx=s0.nx) (L.take M)) (hk:k):AltG full L s0 k:=by
 rw [zh] at h
 refine ⟨h.1,fun p hp=>?_,hk⟩
 have h2:=List.all_eq_true.1 h.2 p hp
 simp only [zh,zx] at h2
 have h3:=qit L 0 p.1 M s0 rfl rfl (by omega) ha
 have h4:=qit L 0 p.2 M s0 rfl rfl (by omega) ha
 exact .inl ⟨h4.1.trans h3.1.symm,h4.2.trans h3.2.symm⟩
theorem qiu {n:Nat} {X:Option SO}:∀ (L:List (Oper × Stp)) (i m M:Nat) (s:ASt),look s.st n=X→m≤i+M→allP (fun x:Oper × Stp=>x.2.wr=true→look x.2.st n=X) (L.take M)→
  look (stateAt L i (fun j=>decide (j<m)) s).st n=X
 | [],_,_,_,s,h1,_,_=>h1
 | (o,p)::r,i,m,M,s,h1,hm,ha=>by
  simp only [stateAt]
  cases hd:decide (i<m) with
  | false=>
   simp only [cond_false]
   cases M with
   | zero=>exact qiu r (i+1) m 0 s h1 (by simp at hd;omega) trivial
   | succ M=>exact qiu r (i+1) m M s h1 (by omega) ha.2
  | true=>
   have hlt:i<m:=zaa hd
   simp only [cond_true]
   cases M with
   | zero=>omega
   | succ M=>
    refine qiu r (i+1) m M _ ?_ (by omega) ha.2
    simp only [after]
    cases hw:p.wr with
    | true=>simp only [cond_true];exact ha.1 hw
    | false=>simp only [cond_false];exact h1
theorem AltG.far {full:Array Oper} {L:List (Oper × Stp)} {s0:ASt} {k:Prop} (M:Nat) (F:List Nat)
  (h:(qbo full L && (qck full L).all fun p=>Nat.ble p.1 M && (Nat.ble p.2 M && (match L[p.1]? with | .some x=>Nat.beq x.2.nx 1 && x.2.st.all (fun e=>F.any (Nat.beq e.1)) | .none=>false)))=true)
  (ha:allP (fun x:Oper × Stp=>x.2.wr=true→allP (fun n=>look x.2.st n=look s0.st n) F) (L.take M)) (hk:k):AltG full L s0 k:=by
 rw [zh] at h
 refine ⟨h.1,fun p hp=>.inr (.inl ?_),hk⟩
 have h2:=List.all_eq_true.1 h.2 p hp
 simp only [zh,zx] at h2
 obtain ⟨h3,h4,h5⟩:=h2
 cases hx:L[p.1]? with
 | none=>rw [hx] at h5;cases h5
 | some x=>
  rw [hx] at h5
  simp only [zh] at h5
  refine ⟨x,rfl,zq h5.1,fun n hn=>?_⟩
  obtain ⟨e,he,rfl⟩:=List.mem_map.1 hn
  have h6:=List.all_eq_true.1 h5.2 e he
  obtain ⟨f,hf,hfe⟩:=List.any_eq_true.1 h6
  have:e.1=f:=zq hfe
  rw [this]
  have key:∀ (l:List (Oper × Stp)),allP (fun x:Oper × Stp=>x.2.wr=true→allP (fun n=>look x.2.st n=look s0.st n) F) l→allP (fun x:Oper × Stp=>x.2.wr=true→look x.2.st f=look s0.st f) l:=by
   intro l
   induction l with
   | nil=>exact id
   | cons y r ih=>
    intro ⟨a1,a2⟩
    refine ⟨fun hw=>?_,ih a2⟩
    obtain ⟨k,hk⟩:=List.mem_iff_getElem?.1 hf
    exact qdj (a1 hw) k f hk
  have ha':=key _ ha
  rw [qiu L 0 p.1 M s0 rfl (by omega) ha',qiu L 0 p.2 M s0 rfl (by omega) ha']
theorem qiv {n:Nat} {X:Option SO}:∀ (L:List (Oper × Stp)) (i m M:Nat) (s:ASt),(look s.st n).map qaj=X→m≤i+M→allP (fun x:Oper × Stp=>x.2.wr=true→(look x.2.st n).map qaj=X) (L.take M)→
  (look (stateAt L i (fun j=>decide (j<m)) s).st n).map qaj=X
 | [],_,_,_,s,h1,_,_=>h1
 | (o,p)::r,i,m,M,s,h1,hm,ha=>by
  simp only [stateAt]
  cases hd:decide (i<m) with
  | false=>
   simp only [cond_false]
   cases M with
   | zero=>exact qiv r (i+1) m 0 s h1 (by simp at hd;omega) trivial
   | succ M=>exact qiv r (i+1) m M s h1 (by omega) ha.2
  | true=>
   have hlt:i<m:=zaa hd
   simp only [cond_true]
   cases M with
   | zero=>omega
   | succ M=>
    refine qiv r (i+1) m M _ ?_ (by omega) ha.2
    simp only [after]
    cases hw:p.wr with
    | true=>simp only [cond_true];exact ha.1 hw
    | false=>simp only [cond_false];exact h1
theorem AltG.shape {full:Array Oper} {L:List (Oper × Stp)} {s0:ASt} {k:Prop} (M:Nat) (F:List Nat)
  (h:(qbo full L && (qck full L).all fun p=>Nat.ble p.1 M && (Nat.ble p.2 M && (match L[p.1]? with | .some x=>Nat.beq x.2.nx 1 && (x.2.st.isEmpty || (qpk x.1.op && x.2.st.all (fun e=>F.any (Nat.beq e.1)))) | .none=>false)))=true)
  (ha:allP (fun n=>allP (fun x:Oper × Stp=>x.2.wr=true→(look x.2.st n).map qaj=(look s0.st n).map qaj) (L.take M)) F) (hk:k):AltG full L s0 k:=by
 rw [zh] at h
 refine ⟨h.1,fun p hp=>?_,hk⟩
 have h2:=List.all_eq_true.1 h.2 p hp
 simp only [zh,zx] at h2
 obtain ⟨h3,h4,h5⟩:=h2
 cases hx:L[p.1]? with
 | none=>rw [hx] at h5;cases h5
 | some x=>
  rw [hx] at h5
  simp only [zh,Bool.or_eq_true] at h5
  obtain ⟨h6,h7⟩:=h5
  rcases h7 with h7|⟨h7,h8⟩
  ·refine .inr (.inl ⟨x,hx,zq h6,fun n hn=>?_⟩)
   rw [List.isEmpty_iff.1 h7] at hn
   cases hn
  ·refine .inr (.inr ⟨x,hx,zq h6,h7,fun n hn=>?_⟩)
   obtain ⟨e,he,rfl⟩:=List.mem_map.1 hn
   have h9:=List.all_eq_true.1 h8 e he
   obtain ⟨f,hf,hfe⟩:=List.any_eq_true.1 h9
   have:e.1=f:=zq hfe
   rw [this]
   obtain ⟨q,hq⟩:=List.mem_iff_getElem?.1 hf
   have ha':=qdj ha q f hq
   rw [qiv L 0 p.1 M s0 rfl (by omega) ha',qiv L 0 p.2 M s0 rfl (by omega) ha']
theorem jfb (T:Nat→TI) (C:Cfg) {s s':ASt} (d:Option Nat) (op:Op) (hc:jg op=true) (h:∀ x∈op.operands,ev s x=ev s' x):aop T C s d op=aop T C s' d op:=by
 rw [← qgt (s:=⟨s.sl,s'.st,s'.nx⟩) (s':=s') d op (fun x hx=>by rw [← h x hx];cases x <;> rfl) rfl rfl]
 unfold jg at hc
 split at hc
 ·rename_i c
  split at hc
  ·rename_i f hf
   simp only [aop,hf]
   have:∀ x:Operand,ev s x=ev ⟨s.sl,s'.st,s'.nx⟩ x:=fun x=>by cases x <;> rfl
   simp only [this]
   rfl
  ·cases hc
 ·cases hc
theorem jfc {E:Env} {full:Array Oper} {s s':ASt} {o:Oper} {res:AV} {q:Stp} (hc:jg o.op=true) (h:∀ t∈reads full o,s.get t=s'.get t) (hq:jf E full s o res=some q) :
  ∃ q',jf E full s' o res=some q'∧(q.ob→q'.ob)∧q'.v=q.v∧q'.wr=false∧q.wr=false:=by
 have ha:=jfb E.T E.C o.dst o.op hc (qer h)
 have hcase:(∃ f args,aop E.T E.C s o.dst o.op=.call f args)∨aop E.T E.C s o.dst o.op=.bad:=by
  unfold jg at hc
  split at hc
  ·rename_i c hop
   split at hc
   ·rename_i f hf
    simp only [hop,aop,hf,qke]
    split
    ·exact .inl ⟨_,_,rfl⟩
    ·exact .inl ⟨_,_,rfl⟩
    ·exact .inr rfl
   ·cases hc
  ·cases hc
 unfold jf at hq ⊢
 rw [← ha]
 cases hd:qz E o.dst with
 | false=>rw [hd] at hq;cases hq
 | true=>
  rw [hd] at hq
  simp only at hq ⊢
  cases hg:o.guard with
  | none=>
   rw [hg] at hq
   simp only at hq ⊢
   rcases hcase with ⟨f,args,h1⟩|h1
   ·rw [h1] at hq ⊢
    simp only [Option.some.injEq] at hq ⊢
    subst hq
    exact ⟨_,rfl,id,rfl,rfl,rfl⟩
   ·rw [h1] at hq;cases hq
  | some jw=>
   obtain ⟨j,want⟩:=jw
   rw [hg] at hq
   simp only at hq ⊢
   have hs:(qan full j).map s'.get=(qan full j).map s.get:=by
    cases hgs:qan full j with
    | none=>rfl
    | some d=>simp only [xu];rw [h d (by simp [reads,hg,hgs])]
   rw [hs]
   cases hx:(qan full j).map s.get with
   | none=>rw [hx] at hq;cases hq
   | some x=>
    rw [hx] at hq
    simp only at hq ⊢
    cases hb:qbn want x with
    | none=>rw [hb] at hq;cases hq
    | some g=>
     rw [hb] at hq
     simp only at hq ⊢
     rcases hcase with ⟨f,args,h1⟩|h1
     ·rw [h1] at hq ⊢
      simp only [Option.some.injEq] at hq ⊢
      subst hq
      exact ⟨_,rfl,id,rfl,rfl,rfl⟩
     ·rw [h1] at hq;cases hq
theorem jfd {E:Env} {Q:Exit→Act→World→Prop} {id:Nat} {ops:Array Oper} {s:ASt} {QP:(Exit→Act→World→Prop)→Prop} (hQP:QP Q) (hmix:E.P.follows .mixedOrders=true) {L:List (Oper × Stp)} (hLo:L.map (·.1)=ops.toList)
  (hst:∀ (i:Nat) x,L[i]?=some x→∀ S,Adm ops L.length S i→qkr QP E ops (stateAt L 0 S s) x.1 x.2) (hord:qbo ops L=true) (h:∀ rd mp a w,SR E.c rd mp (stateAt L 0 (fun _=>true) s) a w→Base E rd mp→a.tmps.size=E.fn.ntmps→Q .normal a w)
  {rd:Rd} {mp:Mp} {a:Act} {w:World} (hs:SR E.c rd mp s a w) (hrd:Base E rd mp) (hsz:a.tmps.size=E.fn.ntmps):(Code.region id ops true).wp E.P Q a w:=by
 refine wp_region_any hmix (jby hQP hLo hst hord h _ _ a _ (by simp) (by simp) (fun j o _ hj=>?_) hsz ⟨rd,mp,?_,hrd⟩)
 ·rw [qif] at hj
  cases hj
 ·have hz:∀ (L:List (Oper × Stp)) (i:Nat) (s:ASt),stateAt L i (fun i=>(Array.replicate ops.size false).getD i false) s=s:=by
   intro L
   induction L with
   | nil=>intro i s;rfl
   | cons y L ih=>
    intro i s
    obtain ⟨o,p⟩:=y
    simp only [stateAt]
    rw [qif]
    exact ih (i+1) s
  rw [hz]
  exact ⟨hs.slots,hs.defers,hs.mem.below ((Below.refl _ _).drew)⟩
theorem jfe {E:Env} {B:Nat→ASt→Prop} {id:Nat} {full:Array Oper} {k:List Itm} (hT:∀ t,E.T t=tab E.P t) (hmix:E.P.follows .mixedOrders=true) {L:List (Oper × Stp)} {s0 s:ASt} (h:AccS E full L s0 s) (hLo:L.map (·.1)=full.toList)
  (hord:qbo full L=true) (halt:∀ p∈qck full L,qup L s0 p.1 p.2) (hfin:Ok E B k s):qav E B id full k s0:=by
 unfold qav
 intro rd mp a w hs0 hrd0 hsz0
 have hstd:=hrd0.std
 show (Code.region id full true).wp E.P (QK E B k) a w
 have hlen:L.length=full.size:=by have:=congrArg List.length hLo;simpa using this
 refine jfd (E:=E) (QP:=PanQ E) (fun ch a w hd h=>qic hd h k) hmix hLo (fun i x hx S hS=>?_) hord (by rw [h.st];exact hfin) hs0 hrd0 hsz0
 have hi:i<L.length:=(List.getElem?_eq_some_iff.1 hx).1
 have agree:∀ (j:Nat) y,L[j]?=some y→qah full y x=true→S j=decide (j<i):=by
  intro j y hy hc1
  have hj:j<full.size:=by rw [← hlen];exact (List.getElem?_eq_some_iff.1 hy).1
  have hc2:qah full x y=true:=by rw [← qtj];exact hc1
  rcases Nat.lt_trichotomy j i with h|h|h
  ·simp only [h,decide_true];exact hS.anc j (qih hord h hy hx hc1)
  ·subst h;simp only [Nat.lt_irrefl,decide_false];exact hS.self
  ·have:¬ j<i:=by omega
   simp only [this,decide_false]
   exact hS.desc j (qih hord h hx hy hc2) hj
 have hslots:∀ t∈reads full x.1,(stateAt L 0 S s0).get t=(stateAt L 0 (fun j=>decide (j<i)) s0).get t:=by
  intro t ht
  refine qos t L 0 _ _ s0 s0 rfl (fun j y hy hd=>?_)
  rw [zw]
  refine agree j y hy ?_
  have:hits full y.1 x.1=true:=by simp [hits,hd,ht]
  simp [qah,this]
 obtain ⟨hstep,hfoot⟩:=h.step i x hx
 cases hw:x.2.wr with
 | true=>
  have hmem:=qie L 0 S (fun j=>decide (j<i)) s0 s0 rfl rfl (fun j y hy hwy=>by
   rw [zw]
   refine agree j y hy ?_
   simp [qah,hw,hwy])
  exact (hstep.congr (s':=stateAt L 0 S s0) (fun t ht=>(hslots t ht).symm) hmem.1.symm hmem.2.symm).sound hT hstd
 | false=>
  -- how far the store has come
  have hm:∃ m,m≤L.length∧∀ (q:Nat) y,L[q]?=some y→y.2.wr=true→S q=decide (q<m):=by
   have key:∀ b,b≤L.length→∃ m,m≤b∧∀ (q:Nat) y,q<b→L[q]?=some y→y.2.wr=true→S q=decide (q<m):=by
    intro b
    induction b with
    | zero=>intro _;exact ⟨0,zj _,fun q y hq=>by omega⟩
    | succ b ihb=>
     intro hb
     obtain ⟨m,hm,hq⟩:=ihb (by omega)
     obtain ⟨z,hz⟩:∃ z,L[b]?=some z:=⟨L[b],by simp [show b<L.length by omega]⟩
     cases hzw:z.2.wr with
     | false=>
      refine ⟨m,by omega,fun q y hqb hy hyw=>?_⟩
      by_cases hqe:q=b
      ·subst hqe;rw [hz] at hy;cases hy;rw [hzw] at hyw;cases hyw
      ·exact hq q y (by omega) hy hyw
     | true=>
      cases hSb:S b with
      | false=>
       refine ⟨m,by omega,fun q y hqb hy hyw=>?_⟩
       by_cases hqe:q=b
       ·subst hqe;rw [hSb];simp;omega
       ·exact hq q y (by omega) hy hyw
      | true=>
       refine ⟨b+1,by omega,fun q y hqb hy hyw=>?_⟩
       simp only [hqb,decide_true]
       by_cases hqe:q=b
       ·subst hqe;exact hSb
       ·exact hS.cl b hSb q (qih hord (by omega) hy hz (by simp [qah,hyw,hzw]))
   obtain ⟨m,hm,hq⟩:=key L.length (zj _)
   exact ⟨m,hm,fun q y hy hyw=>hq q y (List.getElem?_eq_some_iff.1 hy).1 hy hyw⟩
  obtain ⟨m,hmL,hm⟩:=hm
  have hmay:qgx full L i m=true:=by
   refine List.all_eq_true.2 (fun q hq=>?_)
   have hq':=List.mem_range.1 hq
   rw [show L[q]?=some L[q] from zb hq']
   simp only
   cases hqw:(L[q]).2.wr with
   | false=>rfl
   | true=>
    have hSq:=hm q _ (zb hq') hqw
    simp only [zbu,zbs]
    by_cases hqm:q<m
    ·have e:Nat.blt q m=true:=by simp [zaz,hqm]
     rw [e]
     simp only [cond_true,xr]
     cases hcn:(anc full L.length q).contains i with
     | false=>rfl
     | true=>
      exfalso
      have:=hS.cl q (by rw [hSq];simp [hqm]) i (by simpa using hcn)
      rw [hS.self] at this;cases this
    ·have e:Nat.blt q m=false:=by cases hb:Nat.blt q m with|false=>rfl|true=>simp [zaz] at hb;omega
     rw [e]
     simp only [cond_false,xr]
     cases hcn:(anc full L.length i).contains q with
     | false=>rfl
     | true=>
      exfalso
      have:=hS.anc q (by simpa using hcn)
      rw [hSq] at this;simp at this;omega
  have hmem:=qie L 0 S (fun j=>decide (j<m)) s0 s0 rfl rfl (fun j y hy hwy=>by rw [zw];exact hm j y hy hwy)
  cases hcall:jg x.1.op with
  | true=>
   rcases hstep with ⟨res,q,h1,h2,e1,e2,_⟩|⟨h0,_⟩|⟨h0,_⟩|⟨h0,_⟩
   ·obtain ⟨q',g1,g2,g3,g4,_⟩:=jfc (s':=stateAt L 0 S s0) hcall (fun t ht=>(hslots t ht).symm) h1
    exact SStep.sound hT hstd (.inl ⟨res,q',g1,g2 h2,g3.trans e1,by rw [g4,hw],fun h=>by rw [g4] at h;cases h⟩)
   ·rw [hw] at h0;cases h0
   ·rw [hw] at h0;cases h0
   ·rw [hw] at h0;cases h0
  | false=>
   cases hsw:qfy L i m with
   | true=>
    have hsame:∀ (q:Nat) y,L[q]?=some y→y.2.wr=true→(decide (q<m))=decide (q<i):=by
     intro q y hy hyw
     have hq:=(List.getElem?_eq_some_iff.1 hy).1
     have:=List.all_eq_true.1 hsw q (List.mem_range.2 hq)
     rw [hy] at this
     simp only [hyw,zbu,zbs,beq_iff_eq] at this
     by_cases h1:q<i <;> by_cases h2:q<m
     ·simp [h1,h2]
     ·rw [show Nat.blt q i=true by simpa [zaz] using h1,show Nat.blt q m=false by rw [zbo];simpa [zaz] using h2] at this;cases this
     ·rw [show Nat.blt q m=true by simpa [zaz] using h2,show Nat.blt q i=false by rw [zbo];simpa [zaz] using h1] at this;cases this
     ·simp [h1,h2]
    have hmem2:=qie L 0 S (fun j=>decide (j<i)) s0 s0 rfl rfl (fun j y hy hwy=>by
     rw [zw,hm j y hy hwy]
     exact hsame j y hy hwy)
    exact (hstep.congr (s':=stateAt L 0 S s0) (fun t ht=>(hslots t ht).symm) hmem2.1.symm hmem2.2.symm).sound hT hstd
   | false=>
    have hp:=halt (i,m) (by
     unfold qck
     rw [List.mem_flatMap]
     refine ⟨i,List.mem_range.2 hi,?_⟩
     rw [hx]
     have hfr:qir full L.length (wrOf L 0) i=true:=by
      cases hfr:qir full L.length (wrOf L 0) i with
      | true=>rfl
      | false=>
       have:=jeu hord hlen hi (fun y hy=>by rw [hx] at hy;cases hy;exact hw) hfr hmay
       rw [hsw] at this;cases this
     simp only [hw,hcall,hfr,Bool.or_false,cond_false,cond_true,List.mem_map,zbj,List.mem_range]
     exact ⟨m,⟨by omega,by rw [hmay,hsw];rfl⟩,rfl⟩)
    rcases hp with hp|⟨y,hy,hy1,hy2⟩|⟨y,hy,hy1,hys,hy2⟩
    ·exact (hstep.congr (s':=stateAt L 0 S s0) (fun t ht=>(hslots t ht).symm) (hp.1.symm.trans hmem.1.symm) (hp.2.symm.trans hmem.2.symm)).sound hT hstd
    ·rw [hx] at hy
     cases hy
     obtain ⟨f1,f2,f3⟩:=hfoot hw hy1
     rcases hstep with ⟨res,q,h1,h2,e1,e2,_⟩|⟨h0,_⟩|⟨h0,_⟩|⟨h0,_⟩
     ·obtain ⟨q',g1,g2,g3,g4⟩:=jer hT (s':=stateAt L 0 S s0) f1 f2 (fun t ht=>(hslots t ht).symm) (fun n hn=>by rw [hmem.1];exact hy2 n (f3 n hn)) h1 (by rw [e2,hw])
      exact SStep.sound hT hstd (.inl ⟨res,q',g1,g2 h2,g3.trans e1,by rw [g4,hw],fun h=>by rw [g4] at h;cases h⟩)
     ·rw [hw] at h0;cases h0
     ·rw [hw] at h0;cases h0
     ·rw [hw] at h0;cases h0
    ·rw [hx] at hy
     cases hy
     obtain ⟨f1,f2,f3⟩:=hfoot hw hy1
     rcases hstep with ⟨res,q,h1,h2,e1,e2,_⟩|⟨h0,_⟩|⟨h0,_⟩|⟨h0,_⟩
     ·obtain ⟨q',g1,g2,g3,g4⟩:=jet (s':=stateAt L 0 S s0) f1 hys (fun t ht=>(hslots t ht).symm) (fun n hn=>by rw [hmem.1];exact hy2 n (f3 n hn)) h1 (by rw [e2,hw])
      exact SStep.sound hT hstd (.inl ⟨res,q',g1,g2 h2,g3.trans e1,by rw [g4,hw],fun h=>by rw [g4] at h;cases h⟩)
     ·rw [hw] at h0;cases h0
     ·rw [hw] at h0;cases h0
     ·rw [hw] at h0;cases h0
def CallY (P:Program) (f:FuncId) (args:List AV) (st:List (Nat × SO)) (nx:Nat) (X:AV→Prop) (K0:AV→Prop) (K1:AV→List (Nat × SO)→Nat→Prop):Prop:=
 (∃ v,qbs P f args v∧K0 v)∨∃ v st' nx',qiq P f args st nx X ⟨v,true,st',nx',True⟩∧K1 v st' nx'
def CallZ (P:Program) (g:Bool) (f:FuncId) (args:List AV) (K:AV→Prop) (st:List (Nat × SO)) (nx:Nat) (X:AV→Prop) (K1:AV→List (Nat × SO)→Nat→Prop):Prop:=
 (∃ v:AV,(g=true→qbs P f args v)∧K v)∨(g=true∧∃ v st' nx',qiq P f args st nx X ⟨v,true,st',nx',True⟩∧K1 v st' nx')
def qpm:List Oper→List (Bool × List (Nat × SO) × Nat)→List (Oper × Stp)
 | o::r,(b,st,nx)::ws=>(o,⟨.any,b,st,nx,True⟩)::qpm r ws
 | _,_=>[]
def wOf (p:Stp):Bool × List (Nat × SO) × Nat:=(p.wr,p.st,p.nx)
theorem quq:∀ (L:List (Oper × Stp)),qpm (L.map (·.1)) (L.map fun x=>wOf x.2)=L.map skel
 | []=>rfl
 | (o,p)::r=>by
  have ih:=quq r
  exact congrArg (List.cons _) ih
def qlo {α:Sort _}:List Nat→(List (Nat × SO)→α)→α
 | [],K=>K []
 | x::r,K=>frcN x fun x=>qlo r fun r=>K ((x,.box 0 [])::r)
theorem qur {α:Sort _}:∀ (l:List Nat) (K:List (Nat × SO)→α),qlo l K=K (l.map fun n=>(n,.box 0 []))
 | [],_=>rfl
 | x::r,K=>by simp only [qlo,qu,qur r,zag]
def EndG (E:Env) (B:Nat→ASt→Prop) (n:Nat) (k:List Itm) (s:ASt):Prop:=(∃ s',(Ok E B k s'→Ok E B k s)∧exec E B n k s')∨Ok E B k s
theorem EndG.go {E:Env} {B:Nat→ASt→Prop} {n:Nat} {k:List Itm} {s:ASt} (h:exec E B n k s):EndG E B n k s:=.inl ⟨s,id,h⟩
theorem EndG.turn {E:Env} {B:Nat→ASt→Prop} {n:Nat} {k:List Itm} {s s':ASt} (h:Ok E B k s'→Ok E B k s) (k':exec E B n k s'):EndG E B n k s:=.inl ⟨s',h,k'⟩
def qus:SO:=.row [] 0 1 0 1 fun _=>[.agg []]
theorem jff {c:Ctx} {rd:Rd} {mp:Mp} {st:List (Nat × SO)} {nx:Nat} {w:World} {i:Nat} (h:look st i=some qus) (hm:Mem c rd mp st nx w):False:=by
 obtain ⟨v,xs,_,_,_,h4,_⟩:=hm.mb i 0 _ (.row h)
 obtain ⟨u,_,h5,h6⟩:=h4 0 0 (.agg []) Nat.one_pos rfl
 cases h6
 cases h5
theorem EndG.dead {E:Env} {B:Nat→ASt→Prop} {n:Nat} {k:List Itm} {s:ASt} (i:Nat) (h:look s.st i=some qus):EndG E B n k s:=.inr fun _ _ _ _ hs _ _=>(jff h hs.mem).elim
def D4X (E:Env) (B:Nat→ASt→Prop) (n:Nat) (k:List Itm) (full:Array Oper) (s0:ASt) (ft:Bool):List Oper→List (Bool × List (Nat × SO) × Nat)→ASt→Prop
 | [],acc,s=>AltG full (qpm full.toList acc.reverse) s0 (EndG E B n k s)
 | ⟨dst,op,ty,pos,aft,guard⟩::rest,acc,⟨sl,st,nx⟩=>
  match qz E dst with
  | false=>False
  | true=>
   match guard with
   | none=>
    match aop E.T E.C ⟨sl,st,nx⟩ dst op with
    | .ok ob v=>
     match bif ft then qfx E.C dst op else false with
     | true=>qlo (qhc ⟨sl,st,nx⟩ op) fun fs=>cj ob (frc v fun v=>qt sl dst (fun sl'=>D4X E B n k full s0 ft rest ((false,fs,1)::acc) ⟨sl',st,nx⟩) v)
     | false=>cj ob (frc v fun v=>qt sl dst (fun sl'=>D4X E B n k full s0 ft rest ((false,[],0)::acc) ⟨sl',st,nx⟩) v)
    | .mem ob v st' nx'=>cj ob (frcN nx' fun nx'=>je st' fun st'=>frc v fun v=>qt sl dst (fun sl'=>D4X E B n k full s0 ft rest ((true,st',nx')::acc) ⟨sl',st',nx'⟩) v)
    | .call f args=>frcL args fun args=>CallY E.P f args st nx (E.X [] nx) (fun v=>qt sl dst (fun sl'=>D4X E B n k full s0 ft rest ((false,[],0)::acc) ⟨sl',st,nx⟩) v)
      (fun v st' nx'=>qt sl dst (fun sl'=>D4X E B n k full s0 ft rest ((true,st',nx')::acc) ⟨sl',st',nx'⟩) v)
    | .bad=>CusY E.P ⟨sl,st,nx⟩ ⟨dst,op,ty,pos,aft,none⟩ (fun v st' nx'=>frcN nx' fun nx'=>je st' fun st'=>frc v fun v=>qt sl dst (fun sl'=>D4X E B n k full s0 ft rest ((true,st',nx')::acc) ⟨sl',st',nx'⟩) v)
   | some (j,want)=>
    match (qan full j).map (ASt.get ⟨sl,st,nx⟩) with
    | some x=>
     match qbn want x with
     | some g=>
      match aop E.T E.C ⟨sl,st,nx⟩ dst op with
      | .ok ob v=>cj (gob g (andO (qm st v) ob)) (frc (strip st v) fun v'=>qt sl dst (fun sl'=>D4X E B n k full s0 ft rest ((false,[],0)::acc) ⟨sl',st,nx⟩) (.cnd g v'))
      | .call f args=>frcL args fun args=>CallZ E.P g f args (fun v=>
        qt sl dst (fun sl'=>D4X E B n k full s0 ft rest ((false,[],0)::acc) ⟨sl',st,nx⟩) (.cnd g v)) st nx (E.X [] nx)
        (fun v st' nx'=>qt sl dst (fun sl'=>D4X E B n k full s0 ft rest ((true,st',nx')::acc) ⟨sl',st',nx'⟩) (.cnd g v))
      | _=>False
     | none=>False
    | none=>False
theorem jfg {g:Bool} {ob:Option DP} (h:obT (gob g ob)):g=true→obT ob:=by
 cases ob with
 | none=>exact fun _=>trivial
 | some d=>exact h
theorem jfh {E:Env} {B:Nat→ASt→Prop} {n:Nat} {k:List Itm} {full:Array Oper} {s0:ASt} {ft:Bool}:∀ (l:List Oper) (L0:List (Oper × Stp)) (acc:List (Bool × List (Nat × SO) × Nat)) (s:ASt),AccS E full L0 s0 s→L0.map (fun x=>wOf x.2)=acc.reverse→L0.map (·.1)++l=full.toList→D4X E B n k full s0 ft l acc s→
  ∃ L s',AccS E full L s0 s'∧L.map (·.1)=full.toList∧AltG full (L.map skel) s0 (EndG E B n k s'):=by
 intro l
 induction l with
 | nil=>
  intro L0 acc s ha hw hl h
  simp only [D4X] at h
  rw [zas] at hl
  rw [← hl,← hw,quq] at h
  exact ⟨L0,s,ha,hl,h⟩
 | cons o rest ih=>
  intro L0 acc s ha hw hl h
  obtain ⟨dst,op,ty,pos,aft,guard⟩:=o
  obtain ⟨sl,st,nx⟩:=s
  have go:∀ (p:Stp),SStep E full ⟨sl,st,nx⟩ ⟨dst,op,ty,pos,aft,guard⟩ p→FootOk E.C ⟨sl,st,nx⟩ ⟨dst,op,ty,pos,aft,guard⟩ p→D4X E B n k full s0 ft rest (wOf p::acc) ⟨jx sl dst p.v,bif p.wr then p.st else st,bif p.wr then p.nx else nx⟩→
    ∃ L s',AccS E full L s0 s'∧L.map (·.1)=full.toList∧AltG full (L.map skel) s0 (EndG E B n k s'):=by
   intro p hp hf hk
   have hk':D4X E B n k full s0 ft rest (wOf p::acc) (after ⟨sl,st,nx⟩ ⟨dst,op,ty,pos,aft,guard⟩ p):=hk
   exact ih (L0++[(⟨dst,op,ty,pos,aft,guard⟩,p)]) (wOf p::acc) _ (ha.snoc hp hf) (by rw [zbd,hw,List.reverse_cons];rfl) (by rw [← hl];simp) hk'
  simp only [D4X] at h
  cases hd:qz E dst with
  | false=>simp only [hd] at h
  | true=>
   simp only [hd] at h
   cases guard with
   | none=>
    simp only at h
    cases hr:aop E.T E.C ⟨sl,st,nx⟩ dst op with
    | bad=>
     simp only [hr] at h
     obtain ⟨v,st',nx',h1,hk⟩:=h
     simp only [qu,jq,jr,ja] at hk
     exact go ⟨v,true,st',nx',True⟩ (.inr (.inr (.inl ⟨rfl,hd,rfl,h1⟩))) (fun h=>by cases h) hk
    | ok ob v=>
     simp only [hr] at h
     cases hn:(bif ft then qfx E.C dst op else false) with
     | true=>
      have hn':qfx E.C dst op=true:=by cases ft with|true=>exact hn|false=>cases hn
      simp only [hn,qur,jr,ja] at h
      obtain ⟨hob,hk⟩:=cj_iff.1 h
      exact go ⟨v,false,_,1,True⟩ (.inl ⟨.any,⟨v,false,st,nx,obT ob⟩,by simp only [jf,hd,hr],hob,rfl,rfl,fun h=>by cases h⟩) (fun _ _=>⟨rfl,hn',fun m hm=>List.mem_map.2 ⟨(m,.box 0 []),List.mem_map.2 ⟨m,hm,rfl⟩,rfl⟩⟩) hk
     | false=>
      simp only [hn,jr,ja] at h
      obtain ⟨hob,hk⟩:=cj_iff.1 h
      exact go ⟨v,false,[],0,True⟩ (.inl ⟨.any,⟨v,false,st,nx,obT ob⟩,by simp only [jf,hd,hr],hob,rfl,rfl,fun h=>by cases h⟩) (fun _ h=>by cases h) hk
    | mem ob v st' nx'=>
     simp only [hr,qu,jq,jr,ja] at h
     obtain ⟨hob,hk⟩:=cj_iff.1 h
     exact go ⟨v,true,st',nx',True⟩ (.inl ⟨.any,⟨v,true,st',nx',obT ob⟩,by simp only [jf,hd,hr],hob,rfl,rfl,fun _=>⟨rfl,rfl⟩⟩) (fun h=>by cases h) hk
    | call f args=>
     simp only [hr,qcb] at h
     rcases h with ⟨v,h1,hk⟩|⟨v,st',nx',h1,hk⟩
     ·simp only [ja] at hk
      exact go ⟨v,false,[],0,True⟩ (.inl ⟨v,⟨v,false,st,nx,qbs E.P f args v⟩,by simp only [jf,hd,hr],h1,rfl,rfl,fun h=>by cases h⟩) (fun _ h=>by cases h) hk
     ·simp only [ja] at hk
      exact go ⟨v,true,st',nx',True⟩ (.inr (.inl ⟨rfl,hd,rfl,f,args,hr,h1⟩)) (fun h=>by cases h) hk
   | some jw=>
    obtain ⟨j,want⟩:=jw
    simp only at h
    cases hy:(qan full j).map (ASt.get ⟨sl,st,nx⟩) with
    | none=>simp only [hy] at h
    | some y=>
     simp only [hy] at h
     cases hg:qbn want y with
     | none=>simp only [hg] at h
     | some g=>
      simp only [hg] at h
      cases hr:aop E.T E.C ⟨sl,st,nx⟩ dst op with
      | bad=>simp only [hr] at h
      | mem=>simp only [hr] at h
      | ok ob v=>
       simp only [hr,jr,ja] at h
       obtain ⟨hob,hk⟩:=cj_iff.1 h
       exact go ⟨.cnd g (strip st v),false,[],0,True⟩ (.inl ⟨.any,⟨.cnd g (strip st v),false,st,nx,g=true→obT (andO (qm st v) ob)⟩,by simp only [jf,hd,hy,hg,hr],jfg hob,rfl,rfl,fun h=>by cases h⟩) (fun _ h=>by cases h) hk
      | call f args=>
       simp only [hr,qcb] at h
       rcases h with ⟨v,hv,hk⟩|⟨hgt,v,st',nx',hv,hk⟩
       ·simp only [ja] at hk
        exact go ⟨.cnd g v,false,[],0,True⟩ (.inl ⟨v,⟨.cnd g v,false,st,nx,g=true→qbs E.P f args v⟩,by simp only [jf,hd,hy,hg,hr],hv,rfl,rfl,fun h=>by cases h⟩) (fun _ h=>by cases h) hk
       ·simp only [ja] at hk
        obtain ⟨d,hd1,hd2⟩:=Option.map_eq_some_iff.1 hy
        exact go ⟨.cnd g v,true,st',nx',True⟩ (.inr (.inr (.inr ⟨rfl,hd,j,want,d,g,v,rfl,hd1,by rw [hd2];exact hg,hgt,rfl,f,args,hr,hv⟩))) (fun h=>by cases h) hk
theorem qut {E:Env} {B:Nat→ASt→Prop} {id:Nat} {ops:Array Oper} {k:List Itm} {s:ASt} (hT:∀ t,E.T t=tab E.P t) (hmix:E.P.follows .mixedOrders=true) (n:Nat) (ft:Bool) (h:D4X E B n k ops s ft ops.toList [] s):qav E B id ops k s:=by
 obtain ⟨L,s',h1,h2,h3,h4,h5⟩:=jfh ops.toList [] [] s ⟨rfl,fun i x hx=>by simp at hx⟩ rfl rfl h
 rw [jex] at h3
 rw [jfa] at h4
 refine jfe hT hmix h1 h2 h3 (fun p hp=>?_) (by rcases h5 with ⟨s2,h9,h10⟩|h9;exact h9 (qba hT n _ _ h10);exact h9)
 have h6:=h4 p hp
 have h7:=qln L 0 (fun j=>decide (j<p.1)) s s rfl rfl
 have h8:=qln L 0 (fun j=>decide (j<p.2)) s s rfl rfl
 rcases h6 with h6|⟨x,hx,hx1,hx2⟩|⟨x,hx,hx1,hxs,hx2⟩
 ·exact .inl ⟨h8.1.symm.trans (h6.1.trans h7.1),h8.2.symm.trans (h6.2.trans h7.2)⟩
 ·rw [zm] at hx
  obtain ⟨y,hy,rfl⟩:=Option.map_eq_some_iff.1 hx
  exact .inr (.inl ⟨y,hy,hx1,fun n hn=>by rw [← h7.1,← h8.1];exact hx2 n hn⟩)
 ·rw [zm] at hx
  obtain ⟨y,hy,rfl⟩:=Option.map_eq_some_iff.1 hx
  exact .inr (.inr ⟨y,hy,hx1,hxs,fun n hn=>by rw [← h7.1,← h8.1];exact hx2 n hn⟩)
theorem draw4 {E:Env} {B:Nat→ASt→Prop} {id:Nat} {ops:Array Oper} {k:List Itm} {s:ASt} (hT:∀ t,E.T t=tab E.P t) (hmix:E.P.follows .mixedOrders=true) (n:Nat) (h:D4X E B n k ops s false ops.toList [] s):qav E B id ops k s:=qut hT hmix n false h
theorem qcl {E:Env} {B:Nat→ASt→Prop} {id:Nat} {ops:Array Oper} {k:List Itm} {s:ASt} (hT:∀ t,E.T t=tab E.P t) (hmix:E.P.follows .mixedOrders=true) (n:Nat) (h:D4X E B n k ops s true ops.toList [] s):qav E B id ops k s:=qut hT hmix n true h
theorem jfi {E:Env} {B:Nat→ASt→Prop} {id:Nat} {ops:Array Oper} {k:List Itm} {s:ASt} (hT:∀ t,E.T t=tab E.P t) (hmix:E.P.follows .mixedOrders=true) (n:Nat) (_:(ops.toList.all fun o=>!jg o.op)=true)
  (h:D3X E B n k ops (fun cs=>match jt E ops ops.toList cs s with|some (L,_)=>qeu ops L|none=>false) ops.toList [] s):qav E B id ops k s:=jen hT hmix n h
theorem CallY.con {P:Program} {f:FuncId} {args:List AV} {st:List (Nat × SO)} {nx:Nat} {X:AV→Prop} {K0:AV→Prop} {K1:AV→List (Nat × SO)→Nat→Prop} {args':List AV} {res:AV} (h:Con P f args' res) (hp:args'.all AV.pure=true) (hl:LeL args args') (hk:K0 res):CallY P f args st nx X K0 K1:=
 .inl ⟨res,⟨args',h,hp,hl⟩,hk⟩
theorem CallZ.con {P:Program} {g:Bool} {f:FuncId} {args:List AV} {K:AV→Prop} {st:List (Nat × SO)} {nx:Nat} {X:AV→Prop} {K1:AV→List (Nat × SO)→Nat→Prop} {res:AV} (h:g=true→Con P f (args.map unc) res) (hg:qes g args) (hp:(args.map unc).all AV.pure=true) (hk:K res):CallZ P g f args K st nx X K1:=
 .inl ⟨res,jeo h hg hp,hk⟩
theorem quu {P:Program} {f:FuncId} {args:List AV} {st:List (Nat × SO)} {nx:Nat} {X:AV→Prop} (is:List Nat) {args':List AV} {st0:List SO} {res:AV} {st1:List (Nat × SO)} {n1:Nat}
  (ht:Trip P f args' st0 res st1 n1) (hchk:qgy is nx args' st0 res st1 n1=true) (hl:LeL args (args'.map (AV.ren (names is nx)))) (hnm:NamedL st (names is nx) is st0) (hr0:rowsLt st0.length (idx 0 st0)) (hr1:rowsLt n1 st1):qiq P f args st nx X ⟨res.ren (names is nx),true,qp (names is nx) st1++qx is st,nx+(n1 - is.length),True⟩:=by
 simp only [qgy,zh,zx] at hchk
 obtain ⟨⟨⟨⟨⟨⟨c1,c2⟩,c3⟩,c4⟩,c5⟩,c6⟩,c7⟩:=hchk
 have hnd:=qlc c1
 have hlt:∀ i∈is,i<nx:=fun i hi=>by have:=List.all_eq_true.1 c2 i hi;simp only [zx] at this;omega
 obtain ⟨hlen,hnm'⟩:=hnm.get
 intro c rd mp w vs hstd hM hargs
 have hsi:∀ i x,look st i=some x→i<nx:=fun i x hx=>by have:=hM.ids i x hx;rw [hstd] at this;simp only [stdF] at this;omega
 have hsub:SubL st (qp (names is nx) (idx 0 st0)++qx is st):=by
  intro y x hx
  rw [qbj hnd hlt hsi] at hx
  cases hi:inv is nx y with
  | none=>rw [hi] at hx;exact ⟨x,hx,SoLe.refl x⟩
  | some j=>
   rw [hi] at hx
   obtain ⟨o,ho,rfl⟩:=Option.map_eq_some_iff.1 hx
   rw [qkz,za (zv _),zbr] at ho
   obtain ⟨z,hz,hle⟩:=hnm' j o ho
   have hj:j<is.length:=by rw [hlen];exact (List.getElem?_eq_some_iff.1 ho).1
   have hy:=qdy hi
   unfold names at hy
   rw [za hj] at hy
   rw [← hy]
   exact ⟨z,hz,hle⟩
 have hm1:=hM.weak hsub
 have hnamed:Named (idx 0 st0) (qp (names is nx) (idx 0 st0)++qx is st) (names is nx):=by
  refine ⟨fun j o hj=>?_⟩
  rw [qbj hnd hlt hsi,qdx hnd hlt]
  simp only
  rw [hj];rfl
 have hent:=hm1.enter hnamed c3 hr0 (fun i j _ _ h=>qox hnd hlt h)
 have hargs0:RelL rd ((mp.pull (names is nx)).restrict st0.length) args' vs:=by
  have h1:=hargs.le hl
  refine ⟨by rw [h1.1,xq],fun j x v hx hv=>?_⟩
  have hxl:=List.all_eq_true.1 c4 x (zp hx)
  exact ((qet hxl).2 (h1.2 j _ v (by rw [zm,hx];rfl) hv)).lt hxl
 refine (ht _ rd _ w vs rfl rfl rfl hent hargs0).mono ?_ (fun _ _ h=>False.elim h)
 rintro v w' ⟨rd',mp',h1,h2,h3,h4⟩
 rw [← hlen] at h3
 obtain ⟨hle,hfin⟩:=hm1.leave hstd hnd hlt hnamed h2 h4 (by omega) c5 hr1 h3
 have hfin':Mem c rd' (mp.back mp' is nx) (qp (names is nx) st1++qx is st) (nx+(n1 - is.length)) w':=by
  refine hfin.forget (fun y x hx=>?_)
  have e1:=qbj (st:=st) hnd hlt hsi st1 y
  have e2:=qbj (st:=qp (names is nx) (idx 0 st0)++qx is st) hnd hlt (fun i x hx=>by have:=hm1.ids i x hx;rw [hstd] at this;simp only [stdF] at this;omega) st1 y
  have e3:=qbj (st:=st) hnd hlt hsi (idx 0 st0) y
  rw [e1] at hx
  refine e2.trans ?_
  cases hi:inv is nx y with
  | none=>
   rw [hi] at hx e3
   exact e3.trans hx
  | some j=>
   rw [hi] at hx
   exact hx
 have hres:Rel rd' (mp.back mp' is nx) (res.ren (names is nx)) v:=by
  refine (qet c6).1 ?_
  rw [qow hnd hlt]
  exact h1
 exact ⟨rd',mp.back mp' is nx,h2,hle,hfin',hres⟩
theorem CallY.trip {P:Program} {f:FuncId} {args:List AV} {st:List (Nat × SO)} {nx:Nat} {X:AV→Prop} {K0:AV→Prop} {K1:AV→List (Nat × SO)→Nat→Prop} (is:List Nat) {args':List AV} {st0:List SO} {res:AV} {st1:List (Nat × SO)} {n1:Nat}
  (ht:Trip P f args' st0 res st1 n1) (hchk:qgy is nx args' st0 res st1 n1=true) (hl:LeL args (args'.map (AV.ren (names is nx)))) (hnm:NamedL st (names is nx) is st0) (hr0:rowsLt st0.length (idx 0 st0)) (hr1:rowsLt n1 st1)
  (hk:frcN (nx+(n1 - is.length)) fun nx'=>je (qp (names is nx) st1++qx is st) fun st'=>frc (res.ren (names is nx)) fun v=>K1 v st' nx'):CallY P f args st nx X K0 K1:=by
 rw [qu,jq,jr] at hk
 exact .inr ⟨res.ren (names is nx),qp (names is nx) st1++qx is st,nx+(n1 - is.length),quu is ht hchk hl hnm hr0 hr1,hk⟩
theorem CallZ.trip {P:Program} {g:Bool} {f:FuncId} {args:List AV} {K:AV→Prop} {st:List (Nat × SO)} {nx:Nat} {X:AV→Prop} {K1:AV→List (Nat × SO)→Nat→Prop} (is:List Nat) {args':List AV} {st0:List SO} {res:AV} {st1:List (Nat × SO)} {n1:Nat} (hg:g=true)
  (ht:Trip P f args' st0 res st1 n1) (hchk:qgy is nx args' st0 res st1 n1=true) (hl:LeL args (args'.map (AV.ren (names is nx)))) (hnm:NamedL st (names is nx) is st0) (hr0:rowsLt st0.length (idx 0 st0)) (hr1:rowsLt n1 st1)
  (hk:frcN (nx+(n1 - is.length)) fun nx'=>je (qp (names is nx) st1++qx is st) fun st'=>frc (res.ren (names is nx)) fun v=>K1 v st' nx'):CallZ P g f args K st nx X K1:=by
 rw [qu,jq,jr] at hk
 exact .inr ⟨hg,res.ren (names is nx),qp (names is nx) st1++qx is st,nx+(n1 - is.length),quu is ht hchk hl hnm hr0 hr1,hk⟩
attribute [irreducible] CallY CallZ AltG EndG CusY
section
variable {c:Ctx} {rd:Rd} {mp:Mp} {st:List (Nat × SO)} {nx:Nat} {w:World}
end
section
variable {c:Ctx} {rd:Rd} {mp:Mp} {st:List (Nat × SO)} {nx:Nat} {w:World}
def SO.simple:SO→Bool
 | .row [] _ _ _ _ _=>true
 | .box _ _=>true
 | _=>false
theorem Mem.rename (hm:Mem c rd mp st nx w) (hstd:c.fre=stdF) (ι:Nat→Nat) {st':List (Nat × SO)} {n:Nat}
  (hl:∀ i x,look st' i=some x→look st (ι i)=some (x.ren ι)∧x.simple=true∧i<n∧x.lt n=true)
  (hinj:∀ i j,i<n→j<n→ι i=ι j→i=j):Mem c rd ((mp.pull ι).restrict n) st' n w:=by
 have hmem:∀ r' i R,IsMem st' r' i R→IsMem st (ι r') i R∧R.ids=[]∧r'<n∧i=0:=by
  intro r' i R hR
  cases hR with
  | row h=>
   obtain ⟨h1,h2,h3,h4⟩:=hl _ _ h
   clear h4
   rename_i ids e sz ep m f
   cases ids with
   | nil=>exact ⟨.row h1,rfl,h3,rfl⟩
   | cons a b=>simp [SO.simple] at h2
  | fam h _=>obtain ⟨_,h2,_⟩:=hl _ _ h;simp [SO.simple] at h2
 have hth:∀ p,There st' p→(∃ r',p=.rw r' 0∧r'<n∧There st (.rw (ι r') 0))∨∃ b,p=.bx b∧b<n∧There st (.bx (ι b)):=by
  intro p hp
  cases p with
  | bx b=>obtain ⟨ty,cs,h⟩:=hp;obtain ⟨h1,_,h3,_⟩:=hl _ _ h;exact .inr ⟨b,rfl,h3,ty,_,h1⟩
  | rw r' i=>obtain ⟨R,hR⟩:=hp;obtain ⟨h1,_,h3,rfl⟩:=hmem _ _ _ hR;exact .inl ⟨r',rfl,h3,R,h1⟩
 refine ⟨hm.rdw,hm.rd1,hm.rdn,hm.fr,fun b ty cs h=>?_,fun r' i R hR=>?_,fun p q g hp hq hgp hgq=>?_,fun i hi=>?_,fun i x h=>?_,fun r' e' sz' cnt ep' len f' h=>?_,fun r' sz' ep' n' f' h=>?_,hm.tab⟩
 ·obtain ⟨h1,_,h3,h4⟩:=hl _ _ h
  obtain ⟨g,vs,g1,g2,g3,g4,g5,g6⟩:=hm.bx (ι b) ty _ h1
  refine ⟨g,vs,by simp only [Mp.restrict,Mp.pull,za h3];exact g1,g2,by rw [g3,xq],fun j x v hx hv=>?_,g5,g6⟩
  have hxl:x.lt1 n=true:=List.all_eq_true.1 h4 x (zp hx)
  exact ((qfr hxl).2 (g4 j (x.ren1 ι) v (by rw [zm,hx];rfl) hv)).lt1 hxl
 ·obtain ⟨h0,hids,hr,rfl⟩:=hmem _ _ _ hR
  obtain ⟨v,xs,h1,h2,h3,h4,h5⟩:=hm.mb _ _ _ h0
  refine ⟨v,xs,by simp only [Mp.restrict,Mp.pull,za hr];exact h1,h2,h3,fun k j x hk hx=>?_,h5⟩
  obtain ⟨u,h6,h7,h8⟩:=h4 k j x hk hx
  exact ⟨u,h6,h7,by rw [hids,Mp.sel_nil] at h8 ⊢;exact h8⟩
 ·have hb:∀ p,There st' p→∃ q,blkOf ((mp.pull ι).restrict n) p=blkOf mp q∧There st q∧q=p.ren ι∧quk p<n:=by
   intro p hp
   rcases hth p hp with ⟨r',rfl,hr,ht⟩|⟨b,rfl,hb,ht⟩
   ·exact ⟨.rw (ι r') 0,by simp only [blkOf,Mp.restrict,Mp.pull,za hr],ht,rfl,hr⟩
   ·exact ⟨.bx (ι b),by simp only [blkOf,Mp.restrict,Mp.pull,za hb],ht,rfl,hb⟩
  obtain ⟨p',e1,e2,e3,e4⟩:=hb p hp
  obtain ⟨q',f1,f2,f3,f4⟩:=hb q hq
  rw [e1] at hgp
  rw [f1] at hgq
  have:=hm.inj p' q' g e2 f2 hgp hgq
  rw [e3,f3] at this
  cases p with
  | bx a=>cases q with
   | bx b=>simp only [Pl.ren,Pl.bx.injEq] at this;rw [hinj a b e4 f4 this]
   | rw r i=>simp [Pl.ren] at this
  | rw r i=>cases q with
   | bx b=>simp [Pl.ren] at this
   | rw r2 i2=>simp only [Pl.ren,Pl.rw.injEq] at this;rw [hinj r r2 e4 f4 this.1,this.2]
 ·rw [hstd] at hi
  simp only [stdF] at hi
  exact ⟨by unfold Mp.restrict;exact ze (by omega),fun _=>by unfold Mp.restrict;exact ze (by omega)⟩
 ·obtain ⟨_,_,h3,_⟩:=hl _ _ h
  rw [hstd];simp only [stdF];omega
 ·obtain ⟨_,h2,_⟩:=hl _ _ h;simp [SO.simple] at h2
 ·obtain ⟨_,h2,_⟩:=hl _ _ h;simp [SO.simple] at h2
end
def TurnR (E:Env) (s s':ASt):Prop:=∀ rd mp a w,SR E.c rd mp s a w→Base E rd mp→∃ rd' mp',SR E.c rd' mp' s' a w∧Base E rd' mp'
def re1 (r0 r:Nat) (i:Nat):Nat:=bif Nat.beq i r0 then r else i
def RenSt (st:List (Nat × SO)) (ι:Nat→Nat) (n:Nat):List (Nat × SO)→Prop
 | []=>True
 | (i,x)::l=>((match look st (ι i) with|some y=>SoLe y (x.ren ι)|none=>False)∧(x.simple && Nat.blt i n && x.lt n)=true)∧RenSt st ι n l
theorem RenSt.get {st:List (Nat × SO)} {ι:Nat→Nat} {n:Nat}:∀ {l:List (Nat × SO)},RenSt st ι n l→∀ i x,look l i=some x→(∃ y,look st (ι i)=some y∧SoLe y (x.ren ι))∧x.simple=true∧i<n∧x.lt n=true
 | [],_,_,_,h=>by simp [look] at h
 | (j,z)::l,hl,i,x,h=>by
  rw [qh] at h
  split at h
  ·rename_i e
   subst e
   cases h
   obtain ⟨h1,h2⟩:=hl.1
   simp only [zh,zaz] at h2
   split at h1
   ·rename_i y hy;exact ⟨⟨y,hy,h1⟩,h2.1.1,h2.1.2,h2.2⟩
   ·exact False.elim h1
  ·exact hl.2.get i x h
def RenSl (s:ASt) (ι:Nat→Nat) (n:Nat):List (Nat × AV)→Prop
 | []=>True
 | (t,v)::l=>(Le (s.get t) (v.ren ι)∧v.lt n=true)∧RenSl s ι n l
theorem RenSl.get {s:ASt} {ι:Nat→Nat} {n:Nat}:∀ {l:List (Nat × AV)},RenSl s ι n l→∀ t v,look l t=some v→Le (s.get t) (v.ren ι)∧v.lt n=true
 | [],_,_,_,h=>by simp [look] at h
 | (j,z)::l,hl,i,x,h=>by
  rw [qh] at h
  split at h
  ·rename_i e;subst e;cases h;exact hl.1
  ·exact hl.2.get i x h
theorem TurnR.ren {E:Env} {sl sl':List (Nat × AV)} {st st':List (Nat × SO)} {nx n:Nat} (r0 r:Nat) (hr:(Nat.blt r0 n && Nat.ble n r && Nat.ble E.nxb r0 && Nat.ble n nx)=true) (h1:RenSl ⟨sl,st,nx⟩ (re1 r0 r) n sl') (h2:RenSt st (re1 r0 r) n st'):TurnR E ⟨sl,st,nx⟩ ⟨sl',st',n⟩:=by
 intro rd mp a w hs hb
 simp only [zh,zaz,zx] at hr
 obtain ⟨⟨⟨hr1,hr2⟩,hr3⟩,hr4⟩:=hr
 have hι:∀ i,re1 r0 r i=if i=r0 then r else i:=fun i=>by
  unfold re1
  by_cases e:i=r0
  ·subst e;simp
  ·have:Nat.beq i r0=false:=by rw [zbo];intro h;exact e (zq h)
   rw [this,ze e];rfl
 have hinj:∀ i j,i<n→j<n→re1 r0 r i=re1 r0 r j→i=j:=by
  intro i j hi hj h
  rw [hι,hι] at h
  split at h <;> split at h <;> omega
 -- first weaken, then rename
 have hw:Mem E.c rd mp (st'.map fun p=>(re1 r0 r p.1,p.2.ren (re1 r0 r))) nx w:=by
  refine hs.mem.weak fun i x hx=>?_
  have key:∀ (l:List (Nat × SO)),RenSt st (re1 r0 r) n l→look (l.map fun p=>(re1 r0 r p.1,p.2.ren (re1 r0 r))) i=some x→∃ y,look st i=some y∧SoLe y x:=by
   intro l hl hx
   induction l with
   | nil=>simp [look] at hx
   | cons p l ih=>
    obtain ⟨j,z⟩:=p
    rw [zag,qh] at hx
    split at hx
    ·rename_i e
     cases hx
     have h3:=hl.1.1
     simp only at e
     rw [← e]
     split at h3
     ·rename_i y hy;exact ⟨y,hy,h3⟩
     ·exact False.elim h3
    ·exact ih hl.2 hx
  exact key st' h2 hx
 have hlk:∀ i x,look st' i=some x→look (st'.map fun p=>(re1 r0 r p.1,p.2.ren (re1 r0 r))) (re1 r0 r i)=some (x.ren (re1 r0 r)):=by
  have key:∀ (l:List (Nat × SO)),RenSt st (re1 r0 r) n l→∀ i x,look l i=some x→look (l.map fun p=>(re1 r0 r p.1,p.2.ren (re1 r0 r))) (re1 r0 r i)=some (x.ren (re1 r0 r)):=by
   intro l
   induction l with
   | nil=>intro _ i x h;simp [look] at h
   | cons p l ih=>
    intro hl i x h
    obtain ⟨j,z⟩:=p
    have hin:=(RenSt.get hl i x h).2.2.1
    have hj:=hl.1.2
    simp only [zh,zaz] at hj
    rw [qh] at h
    rw [zag,qh]
    split at h
    ·rename_i e;subst e;cases h;rw [za rfl]
    ·rename_i e
     rw [ze (fun h=>e (hinj j i hj.1.2 hin h))]
     exact ih hl.2 i x h
  exact key st' h2
 have hm:=hw.rename hb.std (re1 r0 r) (st':=st') (n:=n) (fun i x hx=>⟨hlk i x hx,(RenSt.get h2 i x hx).2⟩) hinj
 refine ⟨rd,_,⟨fun t=>?_,hs.defers,hm⟩,⟨hb.rd,?_,hb.low,hb.std⟩⟩
 ·unfold ASt.get
  cases hx:look sl' t with
  | none=>exact .any _ _
  | some v=>
   obtain ⟨h3,h4⟩:=RenSl.get h1 t v hx
   exact ((qet h4).2 (h3.rel (hs.slots t))).lt h4
 ·refine ⟨fun i g hg=>?_,fun q i v e k hq=>?_⟩
  ·have hi:i<E.nxb:=by
    by_cases hi:i<E.nxb
    ·exact hi
    ·rw [(hb.low i (by omega)).1] at hg;cases hg
   have:=hb.mp.blk i g hg
   simp only [Mp.restrict,Mp.pull,za (show i<n by omega),hι,ze (show i≠r0 by omega)]
   exact this
  ·have hi:q<E.nxb:=by
    by_cases hi:q<E.nxb
    ·exact hi
    ·rw [(hb.low q (by omega)).2 i] at hq;cases hq
   have:=hb.mp.row q i v e k hq
   simp only [Mp.restrict,Mp.pull,za (show q<n by omega),hι,ze (show q≠r0 by omega)]
   exact this
theorem Ob.auto {p r:Prop} (k:r) (h:p:=by first|exact trivial|rfl|exact fun h=>h|(show TI.cmp _=true;kernel_rfl)|omega|exact And.intro trivial trivial|exact And.intro rfl trivial|((repeat' (first|exact trivial|exact rfl|(refine And.intro ?_ ?_)));done)|exact qbh (by omega) (by omega)|(intro h;simp at h;omega)|(intro h;(repeat' (first|exact h|exact rfl|(show TI.cmp _=true;kernel_rfl)|exact qbh (by omega) (by omega)|(refine And.intro ?_ ?_))) <;> first|(have h:=zaa h;omega)|(simp at h;omega)|(simp at h;done)|(simp at h ⊢;exact h)|(simp at h ⊢;omega))|(intro h;rw [h];rfl)|(intro h;simp [h];done)|((try dsimp only);(repeat' (refine And.intro ?_ ?_)) <;> first|omega|(refine zr (zt _ (?_:_≤4000001)) (by decide +kernel);omega)|rfl)|(intros;simp_all;done)|fail):Ob p r:=Ob.intro h k
theorem qa {p:Prop} (h:p:=by repeat' (first|exact trivial|exact Le.refl _|exact SoLe.refl _|exact le_snoc (fun _ _=>rfl) rfl|exact le_encSnoc' rfl rfl rfl|exact put_upto rfl rfl|exact rfl|exact fun _ _=>LeL.refl _|exact Le.of_eq (congrArg (AV.own _ _ _) List.length_append.symm)|(refine ⟨?_,?_⟩)|exact Le.of_eq (congrArg (AV.int _) (by omega))|exact Le.of_eq (congrArg (AV.own _ _ _) (by first|omega|(simp;done)|(simp;omega)))|exact Le.of_eq (by first|rfl|(simp;done))|exact fun i hi=>absurd hi (zo i)|omega|(simp;done))):p:=h
theorem subA {p:Prop} (h:p:=by repeat' (first|exact trivial|exact Le.refl _|exact Le.of_eq (by congr 1;omega)|exact Le.of_eq (congrArg (AV.int _) (by omega))|exact Le.of_eq (congrArg (AV.own _ _ _) (by first|omega|(simp;done)|(simp;omega)))|exact Le.of_eq (by first|rfl|(simp;done))|exact ⟨⟨rfl,rfl,rfl⟩,rfl,rfl,fun _ _=>LeL.refl _⟩|exact ⟨⟨rfl,rfl,rfl⟩,rfl,rfl,fun i hi=>absurd hi (zo i)⟩|exact ⟨⟨rfl,rfl,rfl⟩,rfl,by simp,fun i hi=>LeL.refl _⟩|exact rfl|(refine And.intro ?_ ?_))):p:=h
theorem leA {p:Prop} (h:p:=by (repeat' (first|exact trivial|exact Le.refl _|(refine And.intro ?_ ?_))) <;> fail):p:=h
theorem qf {p:Prop} (h:p:=by (repeat' (first|exact trivial|(refine And.intro rfl ?_))) <;> fail):p:=h
theorem farA {p:Prop} (h:p:=by repeat' (first|exact trivial|exact fun h=>Bool.noConfusion h|exact rfl|(refine And.intro ?_ ?_)|(intro _))):p:=h
theorem qc {p:Prop} (h:p:=by (repeat' (first|exact trivial|exact rfl|(refine And.intro ?_ ?_)|(intro _))) <;> fail):p:=h
section
variable {c:Ctx} {rd:Rd} {mp:Mp} {st:List (Nat × SO)} {nx:Nat} {w:World}
def Mp.addRow (mp:Mp) (F n:Nat):Mp:=⟨mp.blk,fun r i=>if r=F∧i=n then some (.slice Option.none 0 0,0,0) else mp.row r i⟩
theorem Mp.le_addRow {F n:Nat} (h:mp.row F n=Option.none):Mp.le mp (mp.addRow F n):=
 ⟨fun _ _ h=>h,fun r i v e m hr=>by
  refine ⟨v,e,m,?_,.inr ⟨rfl,.inr ⟨rfl,rfl⟩⟩⟩
  simp only [Mp.addRow]
  rw [ze]
  ·exact hr
  ·rintro ⟨rfl,rfl⟩
   rw [h] at hr;cases hr⟩
theorem Mem.growFam (h:Mem c rd mp st nx w) {F n:Nat} {e:TypeId} {sz:Nat} {ep len:Nat→Nat} {f:Nat→Nat→List AV} (hl:look st F=some (.fam e sz n ep len f)) :
  Mem c rd (mp.addRow F n) (setSt st F (.fam e sz (n+1) (fun k=>if k<n then ep k else 0) (fun k=>if k<n then len k else 0) f)) nx w:=by
 have hno:=h.out F e sz n ep len f hl n (zj _)
 have hrow:∀ r i,¬ (r=F∧i=n)→(mp.addRow F n).row r i=mp.row r i:=fun r i hn=>by simp only [Mp.addRow];rw [ze hn]
 have hnf:¬ c.fre nx F:=h.ids F _ hl
 refine h.upd (some (.rw F n)) (Rd.le.refl _) (Mp.le_addRow hno) h.fr h.rdw h.rd1 h.rdn (fun b' ty' cs' hl' hne'=>?_) (fun r i R hR hne=>?_)
  (fun p hp hp'=>⟨?_,fun g hg=>⟨rfl,(h.home hp hg).2.1⟩⟩) (fun b' ty' cs'' ht hl'=>by cases ht) (fun r i R ht hR=>?_)
  (fun p g ht hp hg q hq hq' hg'=>?_) (fun i hi=>?_) (fun i y hy=>?_) (fun r e' sz' cnt ep' len' f'' hl' i hi=>?_) (fun r sz' ep' n' f'' hl'=>?_)
 ·rw [qd] at hl'
  by_cases hb:b'=F
  ·rw [za hb,hb,hl] at hl';cases hl'
  ·rw [ze hb] at hl';exact hl'
 ·by_cases hr:r=F
  ·subst hr
   cases hR with
   | row hl'=>rw [qd,za rfl,hl] at hl';cases hl'
   | fam hl' hi=>
    rw [qd,za rfl,hl] at hl'
    cases hl'
    have hin:i≠n:=fun he=>hne (by rw [he])
    have hi':i<n:=by omega
    simp only [za hi']
    exact .fam hl hi'
  ·exact qph hr hR
 ·cases p with
  | bx b=>rfl
  | rw r i=>exact hrow r i (fun he=>hp' (by rw [he.1,he.2]))
 ·simp only [Option.some.injEq,Pl.rw.injEq] at ht
  obtain ⟨rfl,rfl⟩:=ht
  cases hR with
  | row hl'=>rw [qd,za rfl,hl] at hl';cases hl'
  | fam hl' _=>
   rw [qd,za rfl,hl] at hl'
   cases hl'
   refine ⟨.slice none 0 0,[],?_,⟨by simp,.inl ⟨rfl,by simp⟩⟩,fun k hk=>?_,fun k j x hk=>?_,fun g hg=>by simp [Value.ownBlock] at hg⟩
   ·simp [Mp.addRow]
   ·simp at hk
   ·simp at hk
 ·cases ht
  simp [blkOf,Mp.addRow,Value.ownBlock] at hg
 ·have:=h.fresh i hi
  exact ⟨this.1,fun j=>by rw [hrow i j (fun he=>hnf (he.1 ▸ hi))];exact this.2 j⟩
 ·rw [qd] at hy
  by_cases hid:i=F
  ·rw [hid];exact hnf
  ·rw [ze hid] at hy;exact h.ids i y hy
 ·rw [qd] at hl'
  by_cases hid:r=F
  ·subst hid
   rw [za rfl,hl] at hl'
   cases hl'
   rw [hrow r i (fun he=>by omega)]
   exact h.out r e sz n ep len f hl i (by omega)
  ·rw [ze hid] at hl'
   rw [hrow r i (fun he=>hid he.1)]
   exact h.out r e' sz' cnt ep' len' f'' hl' i hi
 ·rw [qd] at hl'
  by_cases hid:r=F
  ·rw [za hid,hid,hl] at hl';cases hl'
  ·rw [ze hid] at hl';exact ⟨hl',hrow r 0 (fun he=>hid he.1)⟩
theorem Turn.grow {E:Env} {sl:List (Nat × AV)} (id F j:Nat) {e:TypeId} {sz ep n:Nat} {f:Nat→List AV} {e':TypeId} {sz':Nat} {ep' len':Nat→Nat} {f':Nat→Nat→List AV}
  (hl:look st id=some (.row [F] e sz ep (n+1) f)) (hF:look st F=some (.fam e' sz' n ep' len' f')) (hc:(f n)[j]?=some .nils) :
  Turn E ⟨sl,st,nx⟩ ⟨sl,setSt (setSt st F (.fam e' sz' (n+1) (fun k=>if k<n then ep' k else 0) (fun k=>if k<n then len' k else 0) f')) id (.row [F] e sz ep (n+1) (fun k=>if k=n then (f n).set j (.own F n 0 0) else f k)),nx⟩:=by
 intro rd mp a w hs hb
 have hmem:=hs.mem.growFam hF
 have hle:Mp.le mp (mp.addRow F n):=Mp.le_addRow (hs.mem.out F e' sz' n ep' len' f' hF n (zj _))
 have hne:id≠F:=by rintro rfl;rw [hl] at hF;cases hF
 have hl2:look (setSt st F (.fam e' sz' (n+1) (fun k=>if k<n then ep' k else 0) (fun k=>if k<n then len' k else 0) f')) id=some (.row [F] e sz ep (n+1) f):=by rw [qd,ze hne];exact hl
 obtain ⟨_,_,_,_,h3,_,_⟩:=hs.mem.mb id 0 _ (.row hl)
 simp only at h3
 have hm2:=hmem.rerow (ids':=[F]) (f':=fun k=>if k=n then (f n).set j (.own F n 0 0) else f k) hl2 (fun k hk=>by
   split
   ·rw [xd];exact h3 n (zav _)
   ·exact h3 k hk) (fun k i x y v hk hx hy hr=>by
  by_cases hkn:k=n
  ·subst hkn
   rw [za rfl,zbb] at hx
   by_cases hij:j=i
   ·subst hij
    rw [hc] at hy
    cases hy
    have hlt:j<(f k).length:=(List.getElem?_eq_some_iff.1 hc).1
    rw [za rfl,za hlt] at hx
    cases hx
    cases hr
    exact .own _ _ _ _ _ _ (.slice none 0 0) 0 0 (by simp only [Mp.sel,zk,za,Mp.addRow,and_self]) (zj _) (fun _=>zj _) (fun _ _=>rfl) rfl
   ·rw [ze hij] at hx
    rw [hx] at hy
    cases hy
    exact hr
  ·rw [ze hkn] at hx
   rw [hx] at hy
   cases hy
   exact hr)
 exact ⟨_,⟨fun t=>(hs.slots t).mono (Rd.le.refl _) hle,hs.defers,hm2⟩,hb.step (Rd.le.refl _) hle⟩
end
section
variable {c:Ctx} {rd:Rd} {mp:Mp} {st:List (Nat × SO)} {nx:Nat} {w:World}
def Mp.putRow (mp:Mp) (F i:Nat) (x:Value × Nat × Nat):Mp:=⟨mp.blk,fun r j=>if r=F∧j=i then some x else mp.row r j⟩
theorem Mp.le_putRow {F i:Nat} {v v0:Value} {e e0 n n0:Nat} (h:mp.row F i=some (v0,e0,n0)) (he:e0<e):Mp.le mp (mp.putRow F i (v,e,n)):=
 ⟨fun _ _ h=>h,fun r j v' e' n' hr=>by
  by_cases hrj:r=F∧j=i
  ·obtain ⟨rfl,rfl⟩:=hrj
   rw [h] at hr
   cases hr
   exact ⟨v,e,n,by simp [Mp.putRow],.inl he⟩
  ·exact ⟨v',e',n',by simp only [Mp.putRow];rw [ze hrj];exact hr,.inr ⟨rfl,.inr ⟨rfl,rfl⟩⟩⟩⟩
theorem Mem.absorb (h:Mem c rd mp st nx w) {F r i cnt:Nat} {e:TypeId} {sz ep1 n1:Nat} {g:Nat→List AV} {ep len:Nat→Nat} {f:Nat→Nat→List AV}
  (hF:look st F=some (.fam e sz cnt ep len f)) (hr:look st r=some (.row [] e sz ep1 n1 g)) (hi:i<cnt) :
  ∃ v,mp.row r 0=some (v,ep1,n1)∧Mp.le mp (mp.putRow F i (v,ep i+1,n1)) ∧
   Mem c rd (mp.putRow F i (v,ep i+1,n1)) (setSt (qx [r] st) F (.fam e sz cnt (Go.Sx.upd ep i (ep i+1)) (Go.Sx.upd len i n1) (Go.Sx.upd f i g))) nx w:=by
 have hne:F≠r:=by rintro rfl;rw [hF] at hr;cases hr
 obtain ⟨v,xs,h1,h2,h3,h4,h5⟩:=h.mb r 0 _ (.row hr)
 obtain ⟨v0,xs0,k1,k2,k3,k4,k5⟩:=h.mb F i _ (.fam hF hi)
 simp only at h1 h2 h3 h4 h5 k1
 have hle:=Mp.le_putRow (mp:=mp) (v:=v) (n:=n1) k1 (zav (ep i))
 refine ⟨v,h1,hle,?_⟩
 have hrow:∀ r' j,¬ (r'=F∧j=i)→(mp.putRow F i (v,ep i+1,n1)).row r' j=mp.row r' j:=fun r' j hn=>by simp only [Mp.putRow];rw [ze hn]
 have hd:∀ y,look (qx [r] st) y=if y=r then none else look st y:=fun y=>by
  rw [qft]
  by_cases hy':y=r
  ·rw [za hy',za (by simpa using hy')]
  ·rw [ze hy',ze (by simpa using hy')]
 have hdF:look (qx [r] st) F=some (.fam e sz cnt ep len f):=by rw [hd,ze hne];exact hF
 have hh:=h.dropped [r]
 refine hh.upd (some (.rw F i)) (Rd.le.refl _) hle hh.fr hh.rdw hh.rd1 hh.rdn (fun b' ty' cs' hl' hne'=>?_) (fun r' j R hR hn=>?_)
  (fun p hp hp'=>⟨?_,fun g hg=>⟨rfl,(hh.home hp hg).2.1⟩⟩) (fun b' ty' cs'' ht hl'=>by cases ht) (fun r' j R ht hR=>?_)
  (fun p g' ht hp hg q hq hq' hg'=>?_) (fun j hj=>?_) (fun j y hy=>?_) (fun r' e' sz' cnt' ep' len' f'' hl' j hj=>?_) (fun r' sz' ep' n' f'' hl'=>?_)
 ·rw [qd] at hl'
  by_cases hb:b'=F
  ·rw [za hb,hb,hdF] at hl';cases hl'
  ·rw [ze hb] at hl';exact hl'
 ·by_cases hr':r'=F
  ·subst hr'
   cases hR with
   | row hl'=>rw [qd,za rfl,hdF] at hl';cases hl'
   | fam hl' hj=>
    rw [qd,za rfl,hdF] at hl'
    cases hl'
    have hji:j≠i:=fun he=>hn (by rw [he])
    have u:∀ {α:Type} (a:Nat→α) (x:α),Go.Sx.upd a i x j=a j:=fun a x=>ze hji
    rw [u,u,u]
    exact .fam hdF hj
  ·exact qph hr' hR
 ·cases p with
  | bx b=>rfl
  | rw r' j=>exact hrow r' j (fun he=>hp' (by rw [he.1,he.2]))
 ·simp only [Option.some.injEq,Pl.rw.injEq] at ht
  obtain ⟨rfl,rfl⟩:=ht
  cases hR with
  | row hl'=>rw [qd,za rfl,hdF] at hl';cases hl'
  | fam hl' _=>
   rw [qd,za rfl,hdF] at hl'
   cases hl'
   have u:∀ {α:Type} (a:Nat→α) (x:α),Go.Sx.upd a i x i=x:=fun a x=>za rfl
   rw [u,u,u]
   refine ⟨v,xs,by simp [Mp.putRow],h2,h3,fun k j x hk hx=>?_,h5⟩
   obtain ⟨y,h6,h7,h8⟩:=h4 k j x hk hx
   rw [Mp.sel_nil] at h8 ⊢
   exact ⟨y,h6,h7,h8⟩
 ·cases ht
  simp [blkOf,Mp.putRow] at hg
  have hgr:blkOf mp (.rw r 0)=some g':=by simp only [blkOf];rw [h1];exact hg
  have hlo:∀ {y:Nat} {o:SO},look (qx [r] st) y=some o→look st y=some o:=fun {y o} hl=>by
   rw [hd] at hl
   split at hl
   ·cases hl
   ·exact hl
  have hq0:There st q:=by
   cases q with
   | bx b=>obtain ⟨ty,cs,hl⟩:=hq;exact ⟨ty,cs,hlo hl⟩
   | rw r' j=>
    obtain ⟨R,hR⟩:=hq
    cases hR with
    | row hl=>exact ⟨_,.row (hlo hl)⟩
    | fam hl hj=>exact ⟨_,.fam (hlo hl) hj⟩
  have:=h.inj q (.rw r 0) g' hq0 ⟨_,.row hr⟩ hg' hgr
  subst this
  obtain ⟨R,hR⟩:=hq
  cases hR with
  | row hl=>rw [hd,za rfl] at hl;cases hl
  | fam hl _=>rw [hd,za rfl] at hl;cases hl
 ·have:=h.fresh j hj
  have hnF:¬ c.fre nx F:=h.ids F _ hF
  exact ⟨this.1,fun k=>by rw [hrow j k (fun he=>hnF (he.1 ▸ hj))];exact this.2 k⟩
 ·rw [qd] at hy
  by_cases hid:j=F
  ·rw [hid];exact h.ids F _ hF
  ·rw [ze hid] at hy;exact hh.ids j y hy
 ·rw [qd] at hl'
  by_cases hid:r'=F
  ·subst hid
   rw [za rfl,hdF] at hl'
   cases hl'
   rw [hrow r' j (fun he=>by omega)]
   exact h.out r' e sz cnt ep len f hF j hj
  ·rw [ze hid] at hl'
   rw [hrow r' j (fun he=>hid he.1)]
   exact hh.out r' e' sz' cnt' ep' len' f'' hl' j hj
 ·rw [qd] at hl'
  by_cases hid:r'=F
  ·rw [za hid,hid,hdF] at hl';cases hl'
  ·rw [ze hid] at hl';exact ⟨hl',hrow r' 0 (fun he=>hid he.1)⟩
end
section
variable {st:List (Nat × SO)} {nx:Nat}
end
section
variable {st:List (Nat × SO)} {nx:Nat}
theorem Turn.box {E:Env} {sl:List (Nat × AV)} (b:Nat) (cs':List AV) {ty:TypeId} {cs:List AV} (hl:look st b=some (.box ty cs)) (hle:LeL cs cs') :
  Turn E ⟨sl,st,nx⟩ ⟨sl,setSt st b (.box ty cs'),nx⟩:=by
 intro rd mp a w hs hb
 have hg:=hle.get
 exact ⟨mp,⟨hs.slots,hs.defers,hs.mem.rebox hl hg.1.symm (fun j x y v hx hy hr=>(hg.2 j y x hy hx).rel hr)⟩,hb⟩
theorem Turn.so {E:Env} {sl:List (Nat × AV)} (id:Nat) (o':SO) {o:SO} (hl:look st id=some o) (hle:SoLe o o'):Turn E ⟨sl,st,nx⟩ ⟨sl,setSt st id o',nx⟩:=by
 intro rd mp a w hs hb
 refine ⟨mp,⟨hs.slots,hs.defers,hs.mem.weak fun i x hx=>?_⟩,hb⟩
 rw [qd] at hx
 by_cases h:i=id
 ·subst h
  rw [za rfl,hl] at hx
  cases hx
  exact ⟨o,hl,hle⟩
 ·rw [ze h] at hx
  exact ⟨x,hx,SoLe.refl x⟩
end
theorem CallZ.no {P:Program} {g:Bool} {f:FuncId} {args:List AV} {K:AV→Prop} {st:List (Nat × SO)} {nx:Nat} {X:AV→Prop} {K1:AV→List (Nat × SO)→Nat→Prop} (v:AV) (hg:g=false) (hk:K v):CallZ P g f args K st nx X K1:=by
 unfold CallZ
 exact .inl ⟨v,fun h=>(by rw [hg] at h;cases h),hk⟩
theorem CallZ.le {P:Program} {g:Bool} {f:FuncId} {args:List AV} {K:AV→Prop} {st:List (Nat × SO)} {nx:Nat} {X:AV→Prop} {K1:AV→List (Nat × SO)→Nat→Prop} {args':List AV} {res:AV} (h:g=true→Con P f args' res) (hp:args'.all AV.pure=true) (hl:g=true→LeL args args') (hk:K res):CallZ P g f args K st nx X K1:=by
 unfold CallZ
 exact .inl ⟨res,fun hg=>⟨args',h hg,hp,hl hg⟩,hk⟩
theorem Con.res {P:Program} {f:FuncId} {args:List AV} {res res':AV} (h:Con P f args res) (hl:Le res res'):Con P f args res':=fun rd w vs h1 h2=>
 (h rd w vs h1 h2).mono (fun _ _ ⟨rd',a,b⟩=>⟨rd',hl.rel a,b⟩) (fun _ _ h=>h)
def qlu (n:Nat):List (Nat × SO)→Prop
 | []=>True
 | (_,.row [] _ _ _ _ _)::r=>qlu n r
 | (_,.row (_::_) _ _ _ m f)::r=>(∀ k,k<m→(f k).all (AV.lt1 n)=true)∧qlu n r
 | _::r=>qlu n r
theorem qiy {n:Nat}:∀ {st:List (Nat × SO)},qlu n st→rowsLt n st
 | [],_=>fun j ids e sz ep m f hl=>by simp [look] at hl
 | (i,o)::r,h=>fun j ids e sz ep m f hl hne=>by
  rw [qh] at hl
  by_cases hi:i=j
  ·rw [za hi] at hl
   cases hl
   cases ids with
   | nil=>exact absurd rfl hne
   | cons a b=>exact h.1
  ·rw [ze hi] at hl
   refine qiy (st:=r) ?_ j ids e sz ep m f hl hne
   cases o with
   | row ids' _ _ _ _ _=>cases ids' with
    | nil=>exact h
    | cons a b=>exact h.2
   | _=>exact h
section
variable {P:Program} {T:Nat→TI} {c:Ctx} {rd:Rd} {mp:Mp} {s:ASt} {st st' st1 st2:List (Nat × SO)} {nx nx' nx1 nx2:Nat} {w:World}
theorem OpG.cus {sl:List (Nat × AV)} {E:Env} {B:Nat→ASt→Prop} {full:Array Oper} {o:Oper} {rest:List Oper} {k:List Itm} (hT:∀ t,E.T t=tab E.P t) (n:Nat) {v:AV} (hg:o.guard=none) (hd:qz E o.dst=true) (h:CusT E.P ⟨sl,st,nx⟩ o v st' nx')
  (hk:frcN nx' fun nx'=>je st' fun st'=>frc v (qt sl o.dst (fun sl'=>exec E B n (.ops full rest::k) ⟨sl',st',nx'⟩))):OpG E B full o rest k ⟨sl,st,nx⟩:=by
 rw [qu,jq,jr,ja,qfo] at hk
 unfold OpG
 intro rd mp a w hs hrd hsz
 show wpList E.P full (QK E B k) _ a w
 obtain ⟨m,x,w',rd',mp',h1,h2,h3,h4,h5,h6⟩:=h E.c rd mp w a.eval hrd.std hs.mem (fun x _=>qac hs x) trivial
 exact qib (by simp [Region.wanted,hg]) h1 h2 (qba hT n _ _ hk rd' mp' _ w' (hs.put h3 h4 h5 h6 (qci hd hsz)) (hrd.step h3 h4) (by rw [qch];exact hsz))
theorem CusY.intro {o:Oper} {K1:AV→List (Nat × SO)→Nat→Prop} {v:AV} (h:CusT P s o v st' nx') (hk:K1 v st' nx'):CusY P s o K1:=by
 unfold CusY
 exact ⟨v,st',nx',h,hk⟩
def MT (st st':List (Nat × SO)) (nx nx':Nat):Prop:=∀ (c:Ctx) rd mp w,c.fre=stdF→Mem c rd mp st nx w→∃ mp',Mp.le mp mp'∧Mem c rd mp' st' nx' w
theorem MT.trans (h:MT st st1 nx nx1) (k:MT st1 st2 nx1 nx2):MT st st2 nx nx2:=fun c rd mp w h1 h2=>by
 obtain ⟨mp1,h3,h4⟩:=h c rd mp w h1 h2
 obtain ⟨mp2,h5,h6⟩:=k c rd mp1 w h1 h4
 exact ⟨mp2,h3.trans h5,h6⟩
theorem MT.refl:MT st st nx nx:=fun _ _ mp _ _ h=>⟨mp,Mp.le.refl _,h⟩
theorem MT.weak (h:SubL st st'):MT st st' nx nx:=fun _ _ mp _ _ hm=>⟨mp,Mp.le.refl _,hm.weak h⟩
theorem MT.turn {E:Env} {sl:List (Nat × AV)} (h:MT st st' nx nx'):Turn E ⟨sl,st,nx⟩ ⟨sl,st',nx'⟩:=fun rd mp a w hs hb=>by
 obtain ⟨mp',h1,h2⟩:=h E.c rd mp w hb.std hs.mem
 exact ⟨mp',⟨fun t=>(hs.slots t).mono (Rd.le.refl _) h1,hs.defers,h2⟩,hb.step (Rd.le.refl _) h1⟩
theorem MT.ok {E:Env} {B:Nat→ASt→Prop} {k:List Itm} {sl:List (Nat × AV)} (h:MT st st' nx nx') (hk:Ok E B k ⟨sl,st',nx'⟩):Ok E B k ⟨sl,st,nx⟩:=fun rd mp a w hs hb hsz=>by
 obtain ⟨mp',h1,h2⟩:=(h.turn (E:=E) (sl:=sl)) rd mp a w hs hb
 exact hk rd mp' a w h1 h2 hsz
theorem MT.endg {E:Env} {B:Nat→ASt→Prop} {n:Nat} {k:List Itm} {sl:List (Nat × AV)} (h:MT st st' nx nx') (hk:frcN nx' fun nx'=>je st' fun st'=>exec E B n k ⟨sl,st',nx'⟩):EndG E B n k ⟨sl,st,nx⟩:=by
 rw [qu,jq] at hk
 exact EndG.turn h.ok hk
theorem MT.loop {E:Env} {B:Nat→ASt→Prop} {body:Code} {k:List Itm} {sl:List (Nat × AV)} (h:MT st st' nx nx') (hk:frcN nx' fun nx'=>je st' fun st'=>qca E B body k ⟨sl,st',nx'⟩):qca E B body k ⟨sl,st,nx⟩:=by
 rw [qu,jq] at hk
 exact jek h.turn hk
theorem MT.draw {E:Env} {B:Nat→ASt→Prop} {id:Nat} {ops:Array Oper} {k:List Itm} {sl:List (Nat × AV)} (h:MT st st' nx nx') (hk:frcN nx' fun nx'=>je st' fun st'=>qav E B id ops k ⟨sl,st',nx'⟩):qav E B id ops k ⟨sl,st,nx⟩:=by
 rw [qu,jq] at hk
 unfold qav at hk ⊢
 exact h.ok hk
theorem MT.call {E:Env} {B:Nat→ASt→Prop} {f:FuncId} {args:List AV} {dst:Option Nat} {full:Array Oper} {rest:List Oper} {k:List Itm} {sl:List (Nat × AV)} (h:MT st st' nx nx')
  (hk:frcN nx' fun nx'=>je st' fun st'=>qaa E B f args dst full rest k ⟨sl,st',nx'⟩):qaa E B f args dst full rest k ⟨sl,st,nx⟩:=by
 rw [qu,jq] at hk
 unfold qaa at hk ⊢
 intro rd mp a w vs hs hb hsz hargs
 obtain ⟨mp',h1,h2⟩:=h E.c rd mp w hb.std hs.mem
 exact hk rd mp' a w vs ⟨fun t=>(hs.slots t).mono (Rd.le.refl _) h1,hs.defers,h2⟩ (hb.step (Rd.le.refl _) h1) hsz ⟨hargs.1,fun j x v hx hv=>(hargs.2 j x v hx hv).mono (Rd.le.refl _) h1⟩
theorem MT.op {E:Env} {B:Nat→ASt→Prop} {full:Array Oper} {o:Oper} {rest:List Oper} {k:List Itm} {sl:List (Nat × AV)} (h:MT st st' nx nx') (hT:∀ t,E.T t=tab E.P t) (n:Nat)
  (hk:frcN nx' fun nx'=>je st' fun st'=>exec E B n (.ops full (o::rest)::k) ⟨sl,st',nx'⟩):OpG E B full o rest k ⟨sl,st,nx⟩:=by
 rw [qu,jq] at hk
 unfold OpG
 exact h.ok (qba hT n _ _ hk)
theorem MT.stop {E:Env} {B:Nat→ASt→Prop} {ops:Array Oper} {k:List Itm} {sl:List (Nat × AV)} (h:MT st st' nx nx') (hT:∀ t,E.T t=tab E.P t) (n:Nat)
  (hk:frcN nx' fun nx'=>je st' fun st'=>exec E B n (.ops ops ops.toList::k) ⟨sl,st',nx'⟩):qhx E B ops k ⟨sl,st,nx⟩:=by
 rw [qu,jq] at hk
 unfold qhx
 exact h.ok (qba hT n _ _ hk)
theorem CusT.turned {o:Oper} {v:AV} (h:CusT P s o v st1 nx1) (k:MT st1 st2 nx1 nx2):CusT P s o v st2 nx2:=fun c rd mp w φ h1 h2 h3 _=>by
 obtain ⟨n,x,w',rd',mp',g1,g2,g3,g4,g5,g6⟩:=h c rd mp w φ h1 h2 h3 trivial
 obtain ⟨mp'',k1,k2⟩:=k c rd' mp' w' h1 g5
 exact ⟨n,x,w',rd',mp'',g1,g2,g3,g4.trans k1,k2,g6.mono (Rd.le.refl _) k1⟩
theorem jfx {r i e n sz a m:Nat} {v:Value} (hr:Rel rd mp (.sub r i e n sz a m) v):∃ vr er nr,mp.row r i=some (vr,er,nr) ∧
  (e=er→n=nr→a+m≤n∧((vr=.slice Option.none 0 0∧v=.slice Option.none 0 0∧n=0)∨∃ g lo cap,vr=.slice (some ⟨g,lo,Option.none⟩) n cap∧v=.slice (some ⟨g,if cap=a then lo else lo+a * sz,Option.none⟩) m (cap - a))):=by
 cases hr with
 | sub _ _ _ _ _ _ _ _ _ vr er nr h1 h2 h3 h4 _=>exact ⟨vr,er,nr,h1,h4⟩
theorem qiz (hm:Mem c rd mp st nx w) {r i e n sz a m:Nat} {ob:Option DP} {R:RowV} {v:Value} (hr:qk st r i=some (ob,R)) (hob:obT ob) (hx:Rel rd mp (.sub r i e n sz a m) v) (hn:e=R.ep∧n=R.n) :
  ∃ vr xs,a+m≤R.n∧mp.row r i=some (vr,R.ep,R.n)∧Owns w R.e R.sz vr R.n xs∧(∀ k,k<R.n→(R.f k).length=R.sz) ∧
   (∀ (k j:Nat) x,k<R.n→(R.f k)[j]?=some x→∃ u,xs[k * R.sz+j]?=some u∧u.oneCell'=true∧Rel rd (mp.sel R.ids) x u) ∧
   (∀ g,vr.ownBlock=some g→(∀ o,rd g o=none)∧(c.w0.heap.size≤g∨c.fx g)) ∧
   ((vr=.slice Option.none 0 0∧v=.slice Option.none 0 0∧R.n=0)∨∃ g lo cap,vr=.slice (some ⟨g,lo,Option.none⟩) R.n cap∧v=.slice (some ⟨g,if cap=a then lo else lo+a * sz,Option.none⟩) m (cap - a)):=by
 obtain ⟨vr,xs,h1,h2,h3,h4,h5⟩:=hm.mb r i R (qfm hr hob)
 obtain ⟨vr',er,nr,g1,g4⟩:=jfx hx
 rw [h1] at g1;cases g1
 obtain ⟨k1,k2⟩:=g4 hn.1 hn.2
 have hn2:=hn.2
 subst hn2
 exact ⟨vr,xs,k1,h1,h2,h3,h4,h5,k2⟩
theorem qlv (hT:∀ t,T t=tab P t) {t e:TypeId} (hk:(T t).kd=.slice e) (v:Value) (lo hi mx:Option Value):(Instr.sliceAt t v lo hi mx).run P w=(Instr.slice t v lo hi mx).run P w:=by
 simp [Instr.sliceAt,run_underlying (jb hT hk)]
theorem qez {v:AV} {m:Sem Next} {x:Value} (hm:Mem c rd mp st nx w) (hr:m.run P w=.ok (.value x) w) (h:Rel rd mp v x):Good P c rd mp st nx w (.mem none v st nx) m:=
 fun _=>⟨.value x,x,w,rd,mp,hr,.inl rfl,Rd.le.refl _,Mp.le.refl _,hm,h⟩
theorem qvc (hT:∀ t,T t=tab P t) {dst:Option Nat} {t el:TypeId} {x lo:Operand} {ty:TypeId} {pos:String} {aft:Array Edge} {g:Option (Nat × Bool)} {r i e n:Nat} {k:IntKind} {a:Int} {R:RowV} {ob:Option DP}
  (hx:ev s x=.own r i e n) (ha:ev s lo=.int k a) (hl:qk s.st r i=some (ob,R)) (hk:(T t).kd=.slice el) (hob:obT ob) (hn:e=R.ep∧n=R.n) (h1:(T el).size=R.sz) (h2:1≤R.sz) (h0:0≤a∧a≤n) :
  CusT P s ⟨dst,.slice t x (some lo) none none,ty,pos,aft,g⟩ (.sub r i e n R.sz a.toNat (n - a.toNat)) s.st s.nx:=fun c rd mp w φ hstd hm hr=>by
 have hrx:=hr x (by simp [Op.operands])
 have hra:=hr lo (by simp [Op.operands])
 rw [hx] at hrx
 rw [ha] at hra
 have hra:=jn hra
 obtain ⟨xs,hv,hown,hf,hxs,hsep⟩:=qcc hm hl hob hrx hn
 obtain ⟨inf,hinf,hsz,_⟩:=qaw hT (t:=el) (by omega)
 obtain ⟨hn1,hn2⟩:=hn
 subst hn1 hn2
 have hal:a.toNat≤R.n:=by omega
 have he:execOp φ ⟨dst,.slice t x (some lo) none none,ty,pos,aft,g⟩=(do pure (.value (← Instr.sliceAt t (φ x) (some (φ lo)) none none))):=by simp [execOp]
 rw [he,hra]
 generalize φ x=vx at hrx hv hown hsep
 rcases hown.2 with ⟨rfl,h0'⟩|⟨g,lo,cap,cur,rfl,hh,hnc,hcm,hcs,htake⟩
 ·have ha0:a=0:=by omega
  subst ha0
  refine qez (x:=.slice none 0 0) hm ?_ (.sub _ _ _ _ _ _ _ _ _ _ _ _ hv (zj _) (fun _=>zj _) (fun _ _=>⟨by omega,.inl ⟨rfl,rfl,h0'⟩⟩) rfl)
  rw [Sem.run_bind,qlv hT hk]
  simp [Instr.slice,run_underlying (jb hT hk),Instr.sliceBounds,Instr.sliceBound,asIntOf,sizeOf,typeInfo,hinf]
 ·refine qez (x:=.slice (some ⟨g,if cap=a.toNat then lo else lo+a.toNat * R.sz,none⟩) (R.n - a.toNat) (cap - a.toNat)) hm ?_ (.sub _ _ _ _ _ _ _ _ _ _ _ _ hv (zj _) (fun _=>zj _) (fun _ _=>⟨by omega,.inr ⟨g,lo,cap,rfl,rfl⟩⟩) rfl)
  rw [Sem.run_bind,qlv hT hk]
  have ha':a≤(R.n:Int):=h0.2
  simp only [Instr.slice,run_underlying (jb hT hk),Instr.sliceBounds,Instr.sliceBound,asIntOf]
  by_cases hcap:cap=a.toNat
  ·simp [Instr.slice,run_underlying (jb hT hk),Instr.sliceBounds,Instr.sliceBound,asIntOf,h0.1,ha',sizeOf,typeInfo,hinf,← hsz,h1,Addr.add_lit,hcap]
  ·simp [Instr.slice,run_underlying (jb hT hk),Instr.sliceBounds,Instr.sliceBound,asIntOf,h0.1,ha',sizeOf,typeInfo,hinf,← hsz,h1,Addr.add_lit,hcap]
theorem qpr (hT:∀ t,T t=tab P t) {dst:Option Nat} {t el:TypeId} {x hi:Operand} {ty:TypeId} {pos:String} {aft:Array Edge} {g:Option (Nat × Bool)} {r i e n:Nat} {k:IntKind} {b:Int} {R:RowV} {ob:Option DP}
  (hx:ev s x=.own r i e n) (hb:ev s hi=.int k b) (hl:qk s.st r i=some (ob,R)) (hk:(T t).kd=.slice el) (hob:obT ob) (hn:e=R.ep∧n=R.n) (h1:(T el).size=R.sz) (h2:1≤R.sz) (h0:0≤b∧b≤n) :
  CusT P s ⟨dst,.slice t x none (some hi) none,ty,pos,aft,g⟩ (.sub r i e n R.sz 0 b.toNat) s.st s.nx:=fun c rd mp w φ hstd hm hr=>by
 have hrx:=hr x (by simp [Op.operands])
 have hra:=hr hi (by simp [Op.operands])
 rw [hx] at hrx
 rw [hb] at hra
 have hra:=jn hra
 obtain ⟨xs,hv,hown,hf,hxs,hsep⟩:=qcc hm hl hob hrx hn
 obtain ⟨inf,hinf,hsz,_⟩:=qaw hT (t:=el) (by omega)
 obtain ⟨hn1,hn2⟩:=hn
 subst hn1 hn2
 have hbl:b.toNat≤R.n:=by omega
 have he:execOp φ ⟨dst,.slice t x none (some hi) none,ty,pos,aft,g⟩=(do pure (.value (← Instr.sliceAt t (φ x) none (some (φ hi)) none))):=by simp [execOp]
 rw [he,hra]
 generalize φ x=vx at hrx hv hown hsep
 rcases hown.2 with ⟨rfl,h0'⟩|⟨g,lo,cap,cur,rfl,hh,hnc,hcm,hcs,htake⟩
 ·have hb0:b=0:=by omega
  subst hb0
  refine qez (x:=.slice none 0 0) hm ?_ (.sub _ _ _ _ _ _ _ _ _ _ _ _ hv (zj _) (fun _=>zj _) (fun _ _=>⟨by omega,.inl ⟨rfl,rfl,h0'⟩⟩) rfl)
  rw [Sem.run_bind,qlv hT hk]
  simp [Instr.slice,run_underlying (jb hT hk),Instr.sliceBounds,Instr.sliceBound,asIntOf,sizeOf,typeInfo,hinf]
 ·refine qez (x:=.slice (some ⟨g,lo,none⟩) b.toNat cap) hm ?_ (.sub _ _ _ _ _ _ _ _ _ _ _ _ hv (zj _) (fun _=>zj _) (fun _ _=>⟨by omega,.inr ⟨g,lo,cap,rfl,by simp⟩⟩) rfl)
  rw [Sem.run_bind,qlv hT hk]
  have hb':b≤(cap:Int):=by omega
  simp [Instr.slice,run_underlying (jb hT hk),Instr.sliceBounds,Instr.sliceBound,asIntOf,h0.1,hb',sizeOf,typeInfo,hinf,Addr.add_lit]
theorem jfy {o:Oper} {φ:Operand→Value} {b:Builtin} {x:Operand} {t:TypeId} (ho:o.op=.call ⟨.builtin b,#[x],#[t]⟩):∃ cs,execOp φ o=builtin b #[t] o.type cs #[φ x]:=by
 have e:∃ cs,execOp φ o=builtin b #[t] o.type cs (#[x].map φ):=by
  simp only [execOp,ho,resolve,invoke]
  exact ⟨_,rfl⟩
 obtain ⟨cs,e⟩:=e
 exact ⟨cs,by rw [e];simp⟩
theorem qlw {o:Oper} {φ:Operand→Value} {b:Builtin} {x y:Operand} {t t':TypeId} (ho:o.op=.call ⟨.builtin b,#[x,y],#[t,t']⟩):∃ cs,execOp φ o=builtin b #[t,t'] o.type cs #[φ x,φ y]:=by
 have e:∃ cs,execOp φ o=builtin b #[t,t'] o.type cs (#[x,y].map φ):=by
  simp only [execOp,ho,resolve,invoke]
  exact ⟨_,rfl⟩
 obtain ⟨cs,e⟩:=e
 exact ⟨cs,by rw [e];simp⟩
theorem jfz (hT:∀ t,T t=tab P t) {o:Oper} {t el:TypeId} {x:Operand} {r i e n sz a m:Nat} {R:RowV} {ob:Option DP} (ho:o.op=.call ⟨.builtin .len,#[x],#[t]⟩)
  (hx:ev s x=.sub r i e n sz a m) (hl:qk s.st r i=some (ob,R)) (hk:(T t).kd=.slice el) (hob:obT ob) (hn:e=R.ep∧n=R.n):CusT P s o (.int .i64 m) s.st s.nx:=fun c rd mp w φ hstd hm hr=>by
 have hrx:=hr x (by rw [ho];simp [Op.operands,Call.operands])
 rw [hx] at hrx
 obtain ⟨vr,xs,h1,h2,h3,h4,h5,h6,h7⟩:=qiz hm hl hob hrx hn
 obtain ⟨cs,he⟩:=jfy (φ:=φ) ho
 rw [he]
 generalize φ x=v at hrx h7
 refine qez (x:=.int .i64 m) hm ?_ (.int _ _ _)
 rcases h7 with ⟨_,rfl,h0⟩|⟨g,lo,cap,_,rfl⟩
 ·have:m=0:=by omega
  subst this
  simp [builtin,Builtin.len_,run_underlying (jb hT hk),goInt]
 ·simp [builtin,Builtin.len_,run_underlying (jb hT hk),goInt]
theorem jga (hT:∀ t,T t=tab P t) {dst:Option Nat} {t el:TypeId} {x y:Operand} {ty:TypeId} {pos:String} {aft:Array Edge} {gd:Option (Nat × Bool)} {r i e n sz a m:Nat} {k:IntKind} {j:Int} {R:RowV} {ob:Option DP}
  (hx:ev s x=.sub r i e n sz a m) (hy:ev s y=.int k j) (hl:qk s.st r i=some (ob,R)) (hk:(T t).kd=.slice el) (hob:obT ob) (hn:e=R.ep∧n=R.n) (hsz1:sz=R.sz) (h1:(T el).size=sz) (h2:1≤sz) (h0:0≤j∧j<m) :
  CusT P s ⟨dst,.indexAddr t x y,ty,pos,aft,gd⟩ (.eptr r i e n sz (a+j.toNat) 0) s.st s.nx:=fun c rd mp w φ hstd hm hr=>by
 have hrx:=hr x (by simp [Op.operands])
 have hry:=hr y (by simp [Op.operands])
 rw [hx] at hrx
 rw [hy] at hry
 have hry:=jn hry
 obtain ⟨vr,xs,h3,h4,h5,h6,h7,h8,h9⟩:=qiz hm hl hob hrx hn
 obtain ⟨inf,hinf,hsz,_⟩:=qaw hT (t:=el) (by omega)
 obtain ⟨hn1,hn2⟩:=hn
 subst hn1 hn2
 have he:execOp φ ⟨dst,.indexAddr t x y,ty,pos,aft,gd⟩=(do pure (.value (← Instr.indexAt t (φ x) (φ y)))):=by simp [execOp]
 rw [he,hry]
 generalize φ x=v at hrx h9
 rcases h9 with ⟨_,_,h10⟩|⟨g,lo,cap,rfl,rfl⟩
 ·omega
 ·have hcap:R.n≤cap:=by
   rcases h5.2 with ⟨h,_⟩|⟨g',lo',cap',cur,h,_,hnc,_⟩
   ·cases h
   ·simp only [Value.slice.injEq] at h
    obtain ⟨_,_,rfl⟩:=h
    exact hnc
  have hne:cap≠a:=by omega
  rw [ze hne]
  refine qez (x:=.pointer (some ⟨g,lo+((a+j.toNat) * sz+0),none⟩)) hm ?_ (.eptr _ _ _ _ _ _ _ _ _ _ _ _ h4 (zj _) (fun _=>zj _) (fun _ _=>⟨g,lo,cap,rfl,rfl⟩))
  have h1':j<(m:Int):=h0.2
  have hadd:lo+a * sz+j.toNat * sz=lo+(a+j.toNat) * sz:=by rw [zaq];omega
  simp [Instr.indexAt,asIntOf,run_underlying (jb hT hk),h0.1,h1',sizeOf,typeInfo,hinf,← hsz,h1,Addr.add_lit,hadd]
theorem jgb (w:World) (t ty e:TypeId) (i:TypeInfo) (ht:P.underlying t=some (.slice e)) (hi:P.info? e=some i) {size:Nat} (hsize:i.size=size) {e0:TypeId} {g lo cap n m q:Nat} {xs:List Value}
  (hown:Owns w e0 size (.slice (some ⟨g,lo,none⟩) n cap) n xs) (hmq:m+q≤n) {y:Value} {news:List Value} (hy:Src w size q y news) :
  ∃ w',(Builtin.append_ #[t,t] ty #[.slice (some ⟨g,lo,none⟩) m cap,y]).run P w=.ok (.slice (some ⟨g,lo,none⟩) (m+q) cap) w'∧w.grownBy w' (some g) ∧
   Owns w' e0 size (.slice (some ⟨g,lo,none⟩) n cap) n (xs.take (m * size)++news++xs.drop ((m+q) * size)):=by
 subst hsize
 obtain ⟨hl,a,c,rfl,hsrc⟩:=hy
 obtain ⟨hxl,h2⟩:=hown
 rcases h2 with ⟨h2,_⟩|⟨g',lo',cap',cur,hv,hg,hnc,hcm,hcs,htake⟩
 ·cases h2
 simp only [Value.slice.injEq,Option.some.injEq,Addr.mk.injEq,and_true,true_and] at hv
 obtain ⟨⟨rfl,rfl⟩,rfl⟩:=hv
 have hmn:(m+q) * i.size≤n * i.size:=zt _ hmq
 have hms:(m+q) * i.size=m * i.size+q * i.size:=zaq ..
 have hncs:n * i.size≤cap * i.size:=zt _ hnc
 have hlen:(xs.take (m * i.size)++news++xs.drop ((m+q) * i.size)).length=n * i.size:=by
  rw [zi,zi,zu,zah,hl,hxl];omega
 by_cases hq:q=0
 ·subst hq
  have hn:news=[]:=xb (by simpa using hl)
  subst hn
  refine ⟨w,?_,World.grownBy.refl w _,hlen,.inr ⟨g,lo,cap,cur,rfl,hg,hnc,hcm,hcs,?_⟩⟩
  ·have hmc:m≤cap:=by omega
   cases a <;> simp [Builtin.append_,run_underlying ht,sizeOf,typeInfo,hi,Builtin.lenOf,Builtin.firstCells,loadCells,loadCellsFrom,storeCells,hmc]
  ·rw [htake];simp
 ·obtain ⟨ad,rfl,hnews,h1⟩:=hsrc hq
  have hfit:lo+m * i.size+news.length≤cur.size:=by rw [hl];omega
  have hf:=run_firstCells_some (P:=P) w i.size q ad q c news hl hnews
  have hst:=run_storeCells_at P g (lo+m * i.size) e0 news 0 cur w hg (by simpa using hfit) h1
  simp only [zac] at hst
  have hroom:m+q≤cap:=by omega
  have hr:(Builtin.append_ #[t,t] ty #[.slice (some ⟨g,lo,none⟩) m cap,.slice (some ad) q c]).run P w =
    .ok (.slice (some ⟨g,lo,none⟩) (m+q) cap) (w.setRow g (cur.toList.take (lo+m * i.size)++news++cur.toList.drop (lo+m * i.size+news.length)).toArray):=by
   simp [Builtin.append_,run_underlying ht,sizeOf,typeInfo,hi,Builtin.lenOf,hroom,hf,Addr.add_lit,hst]
  have hcl:cur.toList.length=cur.size:=by simp
  refine ⟨_,hr,⟨rfl,rfl,rfl,by simp,fun k _ hk=>setRow_other w g k _ (fun e=>hk (by rw [e]))⟩,hlen,.inr ⟨g,lo,cap,_,rfl,setRow_heap w g cur _ e0 _ hg,hnc,hcm,?_,?_⟩⟩
  ·simp only [List.size_toArray,zi,zu,zah]
   omega
  ·refine List.ext_getElem? fun j=>?_
   have hx:∀ j,j<n * i.size→xs[j]?=cur.toList[lo+j]?:=fun j hj=>by
    rw [← htake,xc,za hj,xa]
   by_cases hj:j<n * i.size
   ·rw [xc,za hj,xa]
    simp only [xe]
    by_cases hj1:j<m * i.size
    ·rw [zn (by rw [zu,hcl];omega),xc,za (by omega),zn (by rw [zu,hxl];omega),xc,za hj1,hx j hj]
    ·have hlt:(cur.toList.take (lo+m * i.size)).length=lo+m * i.size:=by rw [zu,hcl];omega
     have hlt2:(xs.take (m * i.size)).length=m * i.size:=by rw [zu,hxl];omega
     have eL:∀ zs:List Value,(cur.toList.take (lo+m * i.size)++zs)[lo+j]?=zs[j - m * i.size]?:=fun zs=>by
      rw [zl (by rw [hlt];omega),hlt]
      congr 1;omega
     have eR:∀ zs:List Value,(xs.take (m * i.size)++zs)[j]?=zs[j - m * i.size]?:=fun zs=>by
      rw [zl (by rw [hlt2];omega),hlt2]
     rw [eL,eR]
     by_cases hj2:j - m * i.size<news.length
     ·rw [zn hj2,zn hj2]
     ·rw [zl (by omega),zl (by omega),xa,xa,hl]
      rw [show (m+q) * i.size+(j - m * i.size - q * i.size)=j by omega,hx j hj]
      congr 1;omega
   ·rw [xc,ze hj,zy (by rw [hlen];omega)]
def over (m q:Nat) (g f:Nat→List AV):Nat→List AV:=fun j=>if m≤j∧j<m+q then g (j - m) else f j
theorem jgc {mp1:Mp} {sz n m q:Nat} {f g:Nat→List AV} {xs news:List Value} (hsz:0<sz) (hxl:xs.length=n * sz) (hnl:news.length=q * sz) (hmq:m+q≤n) (hf:∀ i,i<n→(f i).length=sz) (hg:∀ i,i<q→(g i).length=sz)
  (hx:∀ (i j:Nat) x,i<n→(f i)[j]?=some x→∃ u,xs[i * sz+j]?=some u∧u.oneCell'=true∧Rel rd mp1 x u) (hy:∀ (i j:Nat) x,i<q→(g i)[j]?=some x→∃ u,news[i * sz+j]?=some u∧u.oneCell'=true∧Rel rd mp1 x u) :
  (∀ k,k<n→(over m q g f k).length=sz)∧∀ (k j:Nat) x,k<n→(over m q g f k)[j]?=some x→∃ u,(xs.take (m * sz)++news++xs.drop ((m+q) * sz))[k * sz+j]?=some u∧u.oneCell'=true∧Rel rd mp1 x u:=by
 have hms:(m+q) * sz=m * sz+q * sz:=zaq ..
 have hmn:(m+q) * sz≤n * sz:=zt _ hmq
 have hlt2:(xs.take (m * sz)).length=m * sz:=by rw [zu,hxl];omega
 constructor
 ·intro k hk
  unfold over
  split
  ·exact hg _ (by omega)
  ·exact hf k hk
 ·intro k j x hk hxx
  unfold over at hxx
  split at hxx
  ·rename_i hin
   have hkm:k - m<q:=by omega
   have hj:j<sz:=by rw [← hg _ hkm];exact (List.getElem?_eq_some_iff.1 hxx).1
   obtain ⟨u,hu,h1,h2⟩:=hy (k - m) j x hkm hxx
   refine ⟨u,?_,h1,h2⟩
   have e:k * sz=m * sz+(k - m) * sz:=by rw [← zaq];congr 1;omega
   have hb:(k - m) * sz+j<q * sz:=by
    have:(k - m+1) * sz≤q * sz:=zt _ hkm
    rw [zar] at this;omega
   rw [xe,zl (by rw [hlt2];omega),hlt2,zn (by rw [hnl];omega),← hu]
   congr 1;omega
  ·rename_i hout
   have hj:j<sz:=by rw [← hf k hk];exact (List.getElem?_eq_some_iff.1 hxx).1
   obtain ⟨u,hu,h1,h2⟩:=hx k j x hk hxx
   refine ⟨u,?_,h1,h2⟩
   by_cases hkm:k<m
   ·have hb:k * sz+j<m * sz:=by
     have:(k+1) * sz≤m * sz:=zt _ hkm
     rw [zar] at this;omega
    rw [xe,zn (by rw [hlt2];exact hb),xc,za hb,hu]
   ·have hkq:m+q≤k:=by omega
    have hb:(m+q) * sz≤k * sz:=zt _ hkq
    rw [xe,zl (by rw [hlt2];omega),hlt2,zl (by rw [hnl];omega),hnl,xa,← hu]
    congr 1;omega
theorem qvd (hT:∀ t,T t=tab P t) (hm:Mem c rd mp st nx w) (t ty el:TypeId) (hk:(T t).kd=.slice el) {r i e n m q:Nat} {ob:Option DP} {R:RowV} (hl:qk st r i=some (ob,R)) (hob:obT ob) (hn:e=R.ep∧n=R.n)
  (h1:(T el).size=R.sz) (h2:1≤R.sz) {vx vy:Value} (hx:Rel rd mp (.sub r i e n R.sz 0 m) vx) (hmq:m+q≤n) {news:List Value} (hy:Src w R.sz q vy news) {g:Nat→List AV} (hgl:∀ k,k<q→(g k).length=R.sz)
  (hg:∀ (k j:Nat) x,k<q→(g k)[j]?=some x→∃ u,news[k * R.sz+j]?=some u∧u.oneCell'=true∧Rel rd (mp.sel R.ids) x u) :
  ∃ v w' mp',(Builtin.append_ #[t,t] ty #[vx,vy]).run P w=.ok v w'∧Mp.le mp mp'∧Mem c rd mp' (qo st r i e n (over m q g R.f)) nx w'∧Rel rd mp' (.sub r i e n R.sz 0 (m+q)) v:=by
 obtain ⟨vr,xs,h3,h4,h5,h6,h7,h8,h9⟩:=qiz hm hl hob hx hn
 obtain ⟨inf,hinf,hsz,_⟩:=qaw hT (t:=el) (by omega)
 obtain ⟨hn1,hn2⟩:=hn
 subst hn1 hn2
 have hnl:=hy.1
 obtain ⟨hf',hx'⟩:=jgc (rd:=rd) (mp1:=mp.sel R.ids) (m:=m) (g:=g) h2 h5.1 hnl hmq h6 hgl h7 hg
 rcases h9 with ⟨rfl,rfl,h10⟩|⟨g0,lo,cap,rfl,rfl⟩
 ·have hm0:m=0:=by omega
  have hq0:q=0:=by omega
  subst hm0 hq0
  have hn0:news=[]:=xb (by simpa using hnl)
  subst hn0
  obtain ⟨hle,hmem⟩:=hm.turnRow (w':=w) (ep:=R.ep) (n:=R.n) (f:=over 0 0 g R.f) hl hob (v':=.slice none 0 0) h4 h8 (.inr ⟨rfl,.inr ⟨rfl,rfl⟩⟩) (World.grownBy.refl w _) h5 (.inl rfl) hf' (fun k j x hkk hxx=>by
   have:=hx' k j x hkk hxx
   simpa using this)
  obtain ⟨_,a,cc,rfl,_⟩:=hy
  refine ⟨.slice none 0 0,w,_,qoj w t ty el inf (jb hT hk) hinf (size:=R.sz) _ 0 [] ⟨by simp,.inl ⟨rfl,rfl⟩⟩ a cc,hle,hmem,.sub _ _ _ _ _ _ _ _ _ _ _ _ (by simp [Mp.setRow]) (zj _) (fun _=>zj _) (fun _ _=>⟨by omega,.inl ⟨rfl,rfl,h10⟩⟩) rfl⟩
 ·have hif:(if cap=0 then lo else lo+0 * R.sz)=lo:=by simp
  rw [hif,zbr]
  obtain ⟨w',hrun,hgr,hown'⟩:=jgb (P:=P) w t ty el inf (jb hT hk) hinf (by rw [← hsz,h1]) h5 hmq hy
  obtain ⟨hle,hmem⟩:=hm.turnRow (w':=w') (ep:=R.ep) (n:=R.n) (f:=over m q g R.f) hl hob (v':=.slice (some ⟨g0,lo,none⟩) R.n cap) h4 h8 (.inr ⟨rfl,.inr ⟨rfl,rfl⟩⟩) hgr hown' (.inl rfl) hf' hx'
  exact ⟨_,w',_,hrun,hle,hmem,.sub _ _ _ _ _ _ _ _ _ _ _ _ (by simp [Mp.setRow]) (zj _) (fun _=>zj _) (fun _ _=>⟨by omega,.inr ⟨g0,lo,cap,rfl,by simp⟩⟩) rfl⟩
theorem qve (hT:∀ t,T t=tab P t) {o:Oper} {t el:TypeId} {x y:Operand} {r i e n sz m q:Nat} {g:Nat→List AV} {R:RowV} {ob:Option DP} (ho:o.op=.call ⟨.builtin .append,#[x,y],#[t,t]⟩)
  (hx:ev s x=.sub r i e n sz 0 m) (hy:ev s y=.slc sz q g) (hl:qk s.st r i=some (ob,R)) (hk:(T t).kd=.slice el) (hob:obT ob) (hn:e=R.ep∧n=R.n) (hsz:sz=R.sz) (h1:(T el).size=sz) (h2:1≤sz) (hmq:m+q≤n) :
  CusT P s o (.sub r i e n sz 0 (m+q)) (qo s.st r i e n (over m q g R.f)) s.nx:=fun c rd mp w φ hstd hm hr _=>by
 subst hsz
 have hrx:=hr x (by rw [ho];simp [Op.operands,Call.operands])
 have hry:=hr y (by rw [ho];simp [Op.operands,Call.operands])
 rw [hx] at hrx
 rw [hy] at hry
 obtain ⟨cs,he⟩:=qlw (φ:=φ) ho
 obtain ⟨news,hsrc,hgl,hg⟩:=qol hm h2 hry
 obtain ⟨v,w',mp',g1,g2,g3,g4⟩:=qvd hT hm t o.type el hk hl hob hn h1 h2 hrx hmq hsrc hgl (fun k j x hk hxx=>by
  obtain ⟨u,hu,k1,k2⟩:=hg k j x hk hxx
  exact ⟨u,hu,k1,k2.mono (Rd.le.refl _) (Mp.none_le _)⟩)
 exact ⟨.value v,v,w',rd,mp',by rw [he];simp [builtin,g1],.inl rfl,Rd.le.refl _,g2,g3,g4⟩
theorem jgd (hT:∀ t,T t=tab P t) {o:Oper} {t el:TypeId} {x y:Operand} {r i e n sz m a q:Nat} {R:RowV} {ob:Option DP} (ho:o.op=.call ⟨.builtin .append,#[x,y],#[t,t]⟩)
  (hx:ev s x=.sub r i e n sz 0 m) (hy:ev s y=.sub r i e n sz a q) (hl:qk s.st r i=some (ob,R)) (hk:(T t).kd=.slice el) (hob:obT ob) (hn:e=R.ep∧n=R.n) (hsz:sz=R.sz) (h1:(T el).size=sz) (h2:1≤sz) (hmq:m+q≤n) :
  CusT P s o (.sub r i e n sz 0 (m+q)) (qo s.st r i e n (over m q (fun j=>R.f (a+j)) R.f)) s.nx:=fun c rd mp w φ hstd hm hr _=>by
 subst hsz
 have hrx:=hr x (by rw [ho];simp [Op.operands,Call.operands])
 have hry:=hr y (by rw [ho];simp [Op.operands,Call.operands])
 rw [hx] at hrx
 rw [hy] at hry
 obtain ⟨cs,he⟩:=qlw (φ:=φ) ho
 obtain ⟨vr,xs,h3,h4,h5,h6,h7,h8,h9⟩:=qiz hm hl hob hry hn
 have haq:(a+q) * R.sz≤R.n * R.sz:=zt _ h3
 have haqs:(a+q) * R.sz=a * R.sz+q * R.sz:=zaq ..
 have hnl:((xs.drop (a * R.sz)).take (q * R.sz)).length=q * R.sz:=by rw [zu,zah,h5.1];omega
 have hget:∀ j,j<q * R.sz→((xs.drop (a * R.sz)).take (q * R.sz))[j]?=xs[a * R.sz+j]?:=fun j hj=>by rw [xc,za hj,xa]
 have hcell:∀ (k j:Nat),k<q→j<R.sz→k * R.sz+j<q * R.sz:=fun k j hk hj=>by
  have:(k+1) * R.sz≤q * R.sz:=zt _ hk
  rw [zar] at this;omega
 have hone:∀ u∈xs,u.oneCell'=true:=fun u hu=>by
  obtain ⟨p,hp⟩:=List.mem_iff_getElem?.1 hu
  have hpl:p<R.n * R.sz:=by rw [← h5.1];exact (List.getElem?_eq_some_iff.1 hp).1
  have hk1:p / R.sz<R.n:=Nat.div_lt_of_lt_mul (by rw [Nat.mul_comm];exact hpl)
  have hj1:p % R.sz<R.sz:=Nat.mod_lt _ h2
  obtain ⟨u',hu',k1,_⟩:=h7 (p / R.sz) (p % R.sz) _ hk1 (zb (by rw [h6 _ hk1];exact hj1))
  rw [Nat.div_add_mod' p R.sz,hp] at hu'
  cases hu'
  exact k1
 have hsrc:Src w R.sz q (φ y) ((xs.drop (a * R.sz)).take (q * R.sz)):=by
  refine ⟨hnl,?_⟩
  rcases h9 with ⟨_,h10,h11⟩|⟨g0,lo,cap,rfl,h10⟩
  ·have:q=0:=by omega
   exact ⟨none,0,by rw [h10,this],fun h=>absurd this h⟩
  ·refine ⟨_,_,h10,fun hq=>⟨_,rfl,fun j u hu=>?_,fun u hu=>hone u (List.mem_of_mem_drop (zab hu))⟩⟩
   have hj:j<q * R.sz:=by rw [← hnl];exact (List.getElem?_eq_some_iff.1 hu).1
   rw [hget j hj] at hu
   have hcap:R.n≤cap:=by
    rcases h5.2 with ⟨h,_⟩|⟨g',lo',cap',cur,h,_,hnc,_⟩
    ·cases h
    ·simp only [Value.slice.injEq] at h
     obtain ⟨_,_,rfl⟩:=h
     exact hnc
   rw [ze (by omega),Addr.add_lit,zbt]
   exact h5.cells hu
 obtain ⟨v,w',mp',g1,g2,g3,g4⟩:=qvd hT hm t o.type el hk hl hob hn h1 h2 hrx hmq hsrc (g:=fun j=>R.f (a+j)) (fun k hk=>h6 _ (by omega)) (fun k j x hk hxx=>by
  have hj:j<R.sz:=by rw [← h6 (a+k) (by omega)];exact (List.getElem?_eq_some_iff.1 hxx).1
  obtain ⟨u,hu,k1,k2⟩:=h7 (a+k) j x (by omega) hxx
  refine ⟨u,?_,k1,k2⟩
  rw [hget _ (hcell k j hk hj),← hu,zaq,zbt])
 exact ⟨.value v,v,w',rd,mp',by rw [he];simp [builtin,g1],.inl rfl,Rd.le.refl _,g2,g3,g4⟩
theorem jge (hT:∀ t,T t=tab P t) {dst:Option Nat} {t el:TypeId} {x y:Operand} {ty:TypeId} {pos:String} {aft:Array Edge} {gd:Option (Nat × Bool)} {r i e n sz a m:Nat} {k:IntKind} {j:Int} {R:RowV} {ob:Option DP} (q:Nat)
  (hx:ev s x=.sub r i e n sz a m) (hy:ev s y=.int k j) (hl:qk s.st r i=some (ob,R)) (hk:(T t).kd=.slice el) (hob:obT ob) (hn:e=R.ep∧n=R.n) (hsz1:sz=R.sz) (h1:(T el).size=sz) (h2:1≤sz) (h0:0≤j∧j<m) (hq:a+j.toNat=q) :
  CusT P s ⟨dst,.indexAddr t x y,ty,pos,aft,gd⟩ (.eptr r i e n sz q 0) s.st s.nx:=by
 subst hq
 exact jga hT hx hy hl hk hob hn hsz1 h1 h2 h0
end
section
variable {P:Program} {T:Nat→TI} {c:Ctx} {rd:Rd} {mp:Mp} {s:ASt} {st st' st1 st2:List (Nat × SO)} {nx nx' nx1 nx2:Nat} {w:World}
theorem qps (hm:Mem c rd mp st nx w) {r i e n m:Nat} {ob:Option DP} {R:RowV} {v:Value} (hl:qk st r i=some (ob,R)) (hob:obT ob) (hn:e=R.ep∧n=R.n) (hx:Rel rd mp (.sub r i e n R.sz 0 m) v) :
  ∃ mp',Mp.le mp mp'∧Mem c rd mp' (qo st r i (e+1) m R.f) nx w∧Rel rd mp' (.own r i (e+1) m) v:=by
 obtain ⟨vr,xs,h3,h4,h5,h6,h7,h8,h9⟩:=qiz hm hl hob hx hn
 obtain ⟨hn1,hn2⟩:=hn
 subst hn1 hn2
 rw [zw] at h3
 have hms:m * R.sz≤R.n * R.sz:=zt _ h3
 have hlen:(xs.take (m * R.sz)).length=m * R.sz:=by rw [zu,h5.1];omega
 have hown:Owns w R.e R.sz v m (xs.take (m * R.sz))∧v.ownBlock=vr.ownBlock:=by
  rcases h9 with ⟨rfl,rfl,h10⟩|⟨g,lo,cap,rfl,rfl⟩
  ·exact ⟨⟨hlen,.inl ⟨rfl,by omega⟩⟩,rfl⟩
  ·refine ⟨⟨hlen,.inr ?_⟩,rfl⟩
   rcases h5.2 with ⟨h,_⟩|⟨g',lo',cap',cur,h,hh,hnc,hcm,hcs,htake⟩
   ·cases h
   simp only [Value.slice.injEq,Option.some.injEq,Addr.mk.injEq,and_true,true_and] at h
   obtain ⟨⟨rfl,rfl⟩,rfl⟩:=h
   refine ⟨g,lo,cap,cur,by simp,hh,by omega,hcm,hcs,?_⟩
   rw [← htake,List.take_take,Nat.min_eq_left hms]
 obtain ⟨hle,hmem⟩:=hm.turnRow (w':=w) (ep:=R.ep+1) (n:=m) (f:=R.f) hl hob (v':=v) (xs:=xs.take (m * R.sz)) h4 h8 (.inl (zav _)) (World.grownBy.refl w _) hown.1 (.inl hown.2)
  (fun q hq=>h6 _ (by omega)) (fun q j x hq hxx=>by
   have hj:j<R.sz:=by rw [← h6 q (by omega)];exact (List.getElem?_eq_some_iff.1 hxx).1
   obtain ⟨u,hu,hu1,hu2⟩:=h7 q j x (by omega) hxx
   refine ⟨u,?_,hu1,hu2⟩
   have:(q+1) * R.sz≤m * R.sz:=zt _ hq
   rw [zar] at this
   rw [xc,za (by omega)]
   exact hu)
 exact ⟨_,hle,hmem,qia hown.1.sl⟩
theorem qvf (hT:∀ t,T t=tab P t) {dst:Option Nat} {t:TypeId} {a x:Operand} {ty:TypeId} {pos:String} {aft:Array Edge} {gd:Option (Nat × Bool)} {r i e n sz m:Nat} {R:RowV} {ob:Option DP} {W iW eW nW k:Nat} {RW:RowV} {obW:Option DP}
  (ha:ev s a=.eptr W iW eW nW 1 k 0) (hx:ev s x=.sub r i e n sz 0 m) (hl:qk s.st r i=some (ob,R)) (hlW:qk (qo s.st r i (e+1) m R.f) W iW=some (obW,RW)) (hs1:sz=R.sz) (h1:(T t).size=1) (hob:obT ob) (hn:e=R.ep∧n=R.n)
  (hobW:obT obW) (hnW:eW=RW.ep∧nW=RW.n) (hsz:1=RW.sz) (hk:k<nW) (hids:RW.ids.any (Nat.beq r)=true) (hown:obT (jk (qo s.st r i (e+1) m R.f) [.own r i (e+1) m])) :
  CusT P s ⟨dst,.store t a x,ty,pos,aft,gd⟩ .any (qo (qo s.st r i (e+1) m R.f) W iW RW.ep RW.n (fun j=>if j=k then qy (RW.f k) 0 [.own r i (e+1) m] else RW.f j)) s.nx:=fun c rd mp w φ hstd hm hr _=>by
 subst hs1
 have hra:=hr a (by simp [Op.operands])
 have hrx:=hr x (by simp [Op.operands])
 rw [ha] at hra
 rw [hx] at hrx
 obtain ⟨mp1,g1,g2,g3⟩:=qps hm hl hob hn hrx
 obtain ⟨w',mp',k1,k2,k3⟩:=qsp hT g2 t hlW hobW hnW (.own r i (e+1) m) (φ a) (φ x) (hra.mono (Rd.le.refl _) g1) g3 hsz (by simp [cellsOf,h1]) (by simp only [cellsOf,List.all_cons,List.all_nil,Bool.and_true,qbl];exact hids) hown (by simp [cellsOf,← hsz]) (by omega) hk
 exact ⟨.skip,undef,w',rd,mp',by simp [execOp,k1],.inr ⟨rfl,rfl⟩,Rd.le.refl _,g1.trans k2,k3,.any _ _⟩
theorem jgf (hT:∀ t,T t=tab P t) {dst:Option Nat} {t:TypeId} {a x:Operand} {ty:TypeId} {pos:String} {aft:Array Edge} {gd:Option (Nat × Bool)} {r i e n sz m:Nat} {R:RowV} {ob:Option DP} {b o:Nat} {bty:TypeId} {cs:List AV}
  (ha:ev s a=.ptr b o) (hx:ev s x=.sub r i e n sz 0 m) (hl:qk s.st r i=some (ob,R)) (hlb:look (qo s.st r i (e+1) m R.f) b=some (.box bty cs)) (hs1:sz=R.sz) (hty:Nat.beq bty mapTy=false) (h1:(T t).size=1) (ho:o+1≤cs.length) (hob:obT ob) (hn:e=R.ep∧n=R.n) :
  CusT P s ⟨dst,.store t a x,ty,pos,aft,gd⟩ .any (setSt (qo s.st r i (e+1) m R.f) b (.box bty (qy cs o [.own r i (e+1) m]))) s.nx:=fun c rd mp w φ hstd hm hr _=>by
 subst hs1
 have hra:=hr a (by simp [Op.operands])
 have hrx:=hr x (by simp [Op.operands])
 rw [ha] at hra
 rw [hx] at hrx
 obtain ⟨mp1,g1,g2,g3⟩:=qps hm hl hob hn hrx
 obtain ⟨w',k1,k3⟩:=qsl hT g2 t b o bty (qeh hty) cs hlb (φ a) (φ x) (hra.mono (Rd.le.refl _) g1) g3 h1 ho
 exact ⟨.skip,undef,w',rd,mp1,by simp [execOp,k1],.inr ⟨rfl,rfl⟩,Rd.le.refl _,g1,k3,.any _ _⟩
theorem qhe (hm:Mem c rd mp st nx w) {b q:Nat} {ks:List (List UInt8)} {l:List (Nat × (Nat × Nat))} (hl:look st b=some (.box mapTy [.keys ks,.mvals q l])) {v:Value} (hx:Rel rd mp (.mapv b) v) :
  ∃ g es clock,v=.map (some g)∧mp.blk b=some g∧w.heap[g]?=some (.map es clock)∧es.map (·.key)=(ks.map fun k=>Value.string ⟨k.toArray⟩).toArray∧es.size=l.length ∧
   ∀ (j i e n:Nat) (en:MapEntry),l[j]?=some (i,e,n)→es[j]?=some en→Rel rd mp (.own q i e n) en.val:=by
 obtain ⟨g,vs,h1,h2,h3,h4,h5,h6⟩:=hm.bx b _ _ hl
 rcases h2 with ⟨h0,_⟩|⟨_,es,clock,h2,rfl|rfl⟩
 ·exact absurd rfl h0
 ·simp at h3
 ·have hk:=h4 0 _ _ rfl rfl
  have hv:=h4 1 _ _ rfl rfl
  cases hx with
  | mapv _ _ g' hb=>
   rw [h1] at hb;cases hb
   have e1:es.map (·.key)=(ks.map fun k=>Value.string ⟨k.toArray⟩).toArray:=by
    generalize hq:(Value.tuple (es.map (·.key)))=z at hk
    cases hk
    injection hq
   generalize hq:(Value.tuple (es.map (·.val)))=z at hv
   cases hv with
   | mvals _ _ _ ws hs he=>
    injection hq with hq
    subst hq
    refine ⟨g,es,clock,rfl,h1,h2,e1,by simpa using hs,fun j i e n en hj hen=>he j i e n _ hj ?_⟩
    rw [zax,hen];rfl
theorem qpt {ks:List (List UInt8)} {es:Array MapEntry} (hks:es.map (·.key)=(ks.map fun k=>Value.string ⟨k.toArray⟩).toArray) {s:List UInt8} {p:Nat} (hp:ks[p]?=some s) (hu:∀ j,ks[j]?=some s→j=p) :
  ∃ e,Instr.findNow .string (.string ⟨s.toArray⟩) es.toList 0=some (some (p,e.val))∧es[p]?=some e∧e.key=.string ⟨s.toArray⟩:=by
 rcases qko hks s with ⟨hk,_⟩|⟨j,e,hk,hf,he1,he2⟩
 ·have:=keyIn_iff.2 (zp hp)
  rw [hk] at this;cases this
 ·have hj:ks[j]?=some s:=by
   have h1:(es.map (·.key))[j]?=some (.string ⟨s.toArray⟩):=by
    rw [zax,← xz,he1,xu,he2]
   rw [hks] at h1
   simp only [List.getElem?_toArray,zm] at h1
   obtain ⟨t,ht,hte⟩:=Option.map_eq_some_iff.1 h1
   injection hte with hte
   injection hte with hte
   rw [ht,List.toArray_inj hte]
  obtain rfl:=hu j hj
  exact ⟨e,hf,by rw [← xz];exact he1,he2⟩
theorem qvg {ks:List (List UInt8)} {es:Array MapEntry} (hks:es.map (·.key)=(ks.map fun k=>Value.string ⟨k.toArray⟩).toArray) {s:List UInt8} (hn:s ∉ ks):Instr.findNow .string (.string ⟨s.toArray⟩) es.toList 0=some none:=by
 rcases qko hks s with ⟨_,hf⟩|⟨j,e,hk,_⟩
 ·exact hf
 ·exact absurd (keyIn_iff.1 hk) hn
theorem qvh (hT:∀ t,T t=tab P t) {dst:Option Nat} {t kt et:TypeId} {x y:Operand} {ty:TypeId} {pos:String} {aft:Array Edge} {gd:Option (Nat × Bool)} {b q:Nat} {ks:List (List UInt8)} {l:List (Nat × (Nat × Nat))} {key:List UInt8} {p i e n:Nat}
  (hx:ev s x=.mapv b) (hy:ev s y=.str key) (hl:look s.st b=some (.box mapTy [.keys ks,.mvals q l])) (hk:(T t).kd=.map kt et) (hst:(T kt).kd=.str) (hp:ks[p]?=some key) (hu:∀ j,ks[j]?=some key→j=p) (hv:l[p]?=some (i,e,n)) :
  CusT P s ⟨dst,.lookup t x y false,ty,pos,aft,gd⟩ (.own q i e n) s.st s.nx:=fun c rd mp w φ hstd hm hr=>by
 have hrx:=hr x (by simp [Op.operands])
 have hry:=hr y (by simp [Op.operands])
 rw [hx] at hrx
 rw [hy] at hry
 have hry:=qar hry
 obtain ⟨g,es,clock,h1,h2,h3,h4,h5,h6⟩:=qhe hm hl hrx
 obtain ⟨en,hf,hen,_⟩:=qpt h4 hp hu
 have hks:=qaz hT hst
 have hck:=fun em=>Go.MapKept.run_checkKey (P:=P) (w:=w) (k:=.string ⟨key.toArray⟩) hks trivial em 9999
 refine qez (x:=en.val) hm ?_ (h6 p i e n en hv hen)
 have he:execOp φ ⟨dst,.lookup t x y false,ty,pos,aft,gd⟩=(do pure (.value (← Instr.lookup t (φ x) (φ y) false))):=by simp [execOp]
 rw [he,h1,hry,Sem.run_bind]
 have:(Instr.lookup t (.map (some g)) (.string ⟨key.toArray⟩) false).run P w=.ok en.val w:=by
  simp only [Instr.lookup,Sem.run_bind,run_underlying (qdw hT hk),Go.MapKept.run_getObj_map h3,Result.andThen_ok,Sem.run_pure,hck,Go.MapKept.run_findKey hks hf]
  simp
 rw [this]
 rfl
theorem qvi (hT:∀ t,T t=tab P t) {t kt et:TypeId} {es:Array MapEntry} {clock g:Nat} {ks:List (List UInt8)} {key:List UInt8} (h3:w.heap[g]?=some (.map es clock)) (h4:es.map (·.key)=(ks.map fun k=>Value.string ⟨k.toArray⟩).toArray)
  (hk:(T t).kd=.map kt et) (hst:(T kt).kd=.str) (hn:key ∉ ks) (hz:(P.info? et).map (·.zero)=some (some (.slice none 0 0))):(Instr.lookup t (.map (some g)) (.string ⟨key.toArray⟩) false).run P w=.ok (.slice none 0 0) w:=by
 have hks:=qaz hT hst
 have hck:=fun em=>Go.MapKept.run_checkKey (P:=P) (w:=w) (k:=.string ⟨key.toArray⟩) hks trivial em 9999
 obtain ⟨inf,hi,hz⟩:=Option.map_eq_some_iff.1 hz
 have hzero:(zeroValue et).run P w=.ok (.slice none 0 0) w:=by simp [zeroValue,typeInfo,hi,hz]
 simp only [Instr.lookup,Sem.run_bind,run_underlying (qdw hT hk),Go.MapKept.run_getObj_map h3,Result.andThen_ok,Sem.run_pure,hck,Go.MapKept.run_findKey hks (qvg h4 hn),hzero]
 simp
theorem jgg (hT:∀ t,T t=tab P t) {dst:Option Nat} {t kt et:TypeId} {x y:Operand} {ty:TypeId} {pos:String} {aft:Array Edge} {gd:Option (Nat × Bool)} {b q:Nat} {ks:List (List UInt8)} {l:List (Nat × (Nat × Nat))} {key:List UInt8}
  (hx:ev s x=.mapv b) (hy:ev s y=.str key) (hl:look s.st b=some (.box mapTy [.keys ks,.mvals q l])) (hk:(T t).kd=.map kt et) (hst:(T kt).kd=.str) (hn:key ∉ ks) (hz:(P.info? et).map (·.zero)=some (some (.slice none 0 0))) :
  CusT P s ⟨dst,.lookup t x y false,ty,pos,aft,gd⟩ .nils s.st s.nx:=fun c rd mp w φ hstd hm hr=>by
 have hrx:=hr x (by simp [Op.operands])
 have hry:=hr y (by simp [Op.operands])
 rw [hx] at hrx
 rw [hy] at hry
 have hry:=qar hry
 obtain ⟨g,es,clock,h1,h2,h3,h4,h5,h6⟩:=qhe hm hl hrx
 refine qez (x:=.slice none 0 0) hm ?_ (.nils _)
 have he:execOp φ ⟨dst,.lookup t x y false,ty,pos,aft,gd⟩=(do pure (.value (← Instr.lookup t (φ x) (φ y) false))):=by simp [execOp]
 rw [he,h1,hry,Sem.run_bind,qvi hT h3 h4 hk hst hn hz]
 rfl
theorem jgh (hT:∀ t,T t=tab P t) {dst:Option Nat} {t kt et:TypeId} {x y:Operand} {ty:TypeId} {pos:String} {aft:Array Edge} {gd:Option (Nat × Bool)} {b q:Nat} {ks:List (List UInt8)} {l:List (Nat × (Nat × Nat))} {key:List UInt8} {e0:TypeId} {sz n:Nat} {ep len:Nat→Nat} {f:Nat→Nat→List AV}
  (hx:ev s x=.mapv b) (hy:ev s y=.str key) (hl:look s.st b=some (.box mapTy [.keys ks,.mvals q l])) (hF:look s.st q=some (.fam e0 sz n ep len f)) (hk:(T t).kd=.map kt et) (hst:(T kt).kd=.str) (hn:key ∉ ks) (hz:(P.info? et).map (·.zero)=some (some (.slice none 0 0))) :
  CusT P s ⟨dst,.lookup t x y false,ty,pos,aft,gd⟩ (.own q n 0 0) (setSt s.st q (.fam e0 sz (n+1) (fun k=>if k<n then ep k else 0) (fun k=>if k<n then len k else 0) f)) s.nx:=fun c rd mp w φ hstd hm hr _=>by
 have hrx:=hr x (by simp [Op.operands])
 have hry:=hr y (by simp [Op.operands])
 rw [hx] at hrx
 rw [hy] at hry
 have hry:=qar hry
 obtain ⟨g,es,clock,h1,h2,h3,h4,h5,h6⟩:=qhe hm hl hrx
 have he:execOp φ ⟨dst,.lookup t x y false,ty,pos,aft,gd⟩=(do pure (.value (← Instr.lookup t (φ x) (φ y) false))):=by simp [execOp]
 have hle:Mp.le mp (mp.addRow q n):=Mp.le_addRow (hm.out q e0 sz n ep len f hF n (zj _))
 refine ⟨.value (.slice none 0 0),.slice none 0 0,w,rd,mp.addRow q n,?_,.inl rfl,Rd.le.refl _,hle,hm.growFam hF,.own _ _ _ _ _ _ (.slice none 0 0) 0 0 (by simp [Mp.addRow]) (zj _) (fun _=>zj _) (fun _ _=>rfl) rfl⟩
 rw [he,h1,hry,Sem.run_bind,qvi hT h3 h4 hk hst hn hz]
 rfl
end
section
variable {P:Program} {T:Nat→TI} {c:Ctx} {rd:Rd} {mp:Mp} {s:ASt} {st st' st1 st2:List (Nat × SO)} {nx nx' nx1 nx2:Nat} {w:World}
theorem qlx {α β:Type} (f:α→β) (l:List α) (p:Nat):(l.eraseIdx p).map f=(l.map f).eraseIdx p:=by
 refine List.ext_getElem? fun j=>?_
 rw [zm,List.getElem?_eraseIdx,List.getElem?_eraseIdx,zm,zm]
 split <;> rfl
theorem qpu (hm:Mem c rd mp st nx w) {b q g:Nat} {ks ks':List (List UInt8)} {l l':List (Nat × (Nat × Nat))} {es es':Array MapEntry} {clock clock':Nat} (hl:look st b=some (.box mapTy [.keys ks,.mvals q l])) (hb:mp.blk b=some g)
  (hg:w.heap[g]?=some (.map es clock)) (hk:es'.map (·.key)=(ks'.map fun k=>Value.string ⟨k.toArray⟩).toArray) (hs:es'.size=l'.length) (hv:∀ (j i e n:Nat) (en:MapEntry),l'[j]?=some (i,e,n)→es'[j]?=some en→Rel rd mp (.own q i e n) en.val) :
  Mem c rd mp (setSt st b (.box mapTy [.keys ks',.mvals q l'])) nx { w with heap:=w.heap.setIfInBounds g (.map es' clock') }:=by
 have hset:=Go.MapKept.heap_set (w:=w) (o':=.map es' clock') hg
 refine hm.setAt hl hb (vs':=#[.tuple (es'.map (·.key)),.tuple (es'.map (·.val))]) rfl rfl rfl (by simp) (fun k hk=>hset.2 k hk) (.inr ⟨rfl,_,_,hset.1,.inr rfl⟩) rfl (fun j y v hy hvv=>?_)
 match j,hy,hvv with
 | 0,hy,hvv=>
  cases hy;cases hvv
  rw [hk]
  exact .keys _ _
 | 1,hy,hvv=>
  cases hy;cases hvv
  refine .mvals _ _ _ _ (by simpa using hs) (fun j i e n v hj hvj=>?_)
  rw [zax] at hvj
  obtain ⟨en,hen,rfl⟩:=Option.map_eq_some_iff.1 hvj
  exact hv j i e n en hj hen
 | j+2,hy,hvv=>cases hy
theorem qvj (hT:∀ t,T t=tab P t) {dst:Option Nat} {t kt et:TypeId} {x y z:Operand} {ty:TypeId} {pos:String} {aft:Array Edge} {gd:Option (Nat × Bool)} {b q:Nat} {ks:List (List UInt8)} {l:List (Nat × (Nat × Nat))} {key:List UInt8} {p i e n:Nat}
  (hx:ev s x=.mapv b) (hy:ev s y=.str key) (hz:ev s z=.own q i e n) (hl:look s.st b=some (.box mapTy [.keys ks,.mvals q l])) (hk:(T t).kd=.map kt et) (hst:(T kt).kd=.str) (hp:ks[p]?=some key) (hu:∀ j,ks[j]?=some key→j=p) :
  CusT P s ⟨dst,.mapUpdate t x y z,ty,pos,aft,gd⟩ .any (setSt s.st b (.box mapTy [.keys ks,.mvals q (l.set p (i,e,n))])) s.nx:=fun c rd mp w φ hstd hm hr _=>by
 have hrx:=hr x (by simp [Op.operands])
 have hry:=hr y (by simp [Op.operands])
 have hrz:=hr z (by simp [Op.operands])
 rw [hx] at hrx
 rw [hy] at hry
 rw [hz] at hrz
 have hry:=qar hry
 obtain ⟨g,es,clock,h1,h2,h3,h4,h5,h6⟩:=qhe hm hl hrx
 obtain ⟨en,hf,hen,hek⟩:=qpt h4 hp hu
 have hks:=qaz hT hst
 have hck:=fun em=>Go.MapKept.run_checkKey (P:=P) (w:=w) (k:=.string ⟨key.toArray⟩) hks trivial em 9999
 have hkt:(Instr.keyThatStays (((es[p]?).map (·.key)).getD (.string ⟨key.toArray⟩)) (.string ⟨key.toArray⟩)).run P w=.ok (.string ⟨key.toArray⟩) w:=by
  have hbb:((⟨key.toArray⟩:ByteArray) == ⟨key.toArray⟩)=true:=by
   show (key.toArray == key.toArray)=true
   simp
  rw [hen]
  simp [Instr.keyThatStays,hek,Instr.sameBits,hbb]
 have hpe:p<es.size:=(Array.getElem?_eq_some_iff.1 hen).1
 have hrun:(Instr.mapUpdate t (φ x) (φ y) (φ z)).run P w=.ok () { w with heap:=w.heap.setIfInBounds g (.map (es.modify p fun e=>{ e with key:=.string ⟨key.toArray⟩,val:=φ z }) clock) }:=by
  rw [h1,hry]
  simp only [Instr.mapUpdate,Sem.run_bind,run_underlying (qdw hT hk),Go.MapKept.run_getObj_map h3,Result.andThen_ok,hck,Go.MapKept.run_findKey hks hf,hkt,Go.MapKept.run_setObj_map _ h3]
 have hkeys:(es.modify p fun e=>{ e with key:=.string ⟨key.toArray⟩,val:=φ z }).map (·.key)=es.map (·.key):=by
  apply Array.ext
  ·simp
  ·intro i h1 h2
   simp only [Array.getElem_map,Array.getElem_modify]
   split
   ·rename_i hij
    subst hij
    have:es[p]=en:=by
     rw [zbk hpe] at hen
     simpa using hen
    rw [this,hek]
   ·rfl
 have hmem:=qpu (clock':=clock) (l':=l.set p (i,e,n)) hm hl h2 h3 (hkeys.trans h4) (by simp [h5]) (fun j i' e' n' en' hj hen'=>by
  rw [zbl] at hen'
  by_cases hpj:p=j
  ·subst hpj
   rw [za rfl,hen] at hen'
   simp only [xu,Option.some.injEq] at hen'
   subst hen'
   rw [zbb] at hj
   simp only [if_true] at hj
   split at hj
   ·simp only [Option.some.injEq,Prod.mk.injEq] at hj
    obtain ⟨rfl,rfl,rfl⟩:=hj
    exact hrz
   ·cases hj
  ·rw [ze hpj] at hen'
   rw [List.getElem?_set_ne hpj] at hj
   exact h6 j i' e' n' en' hj hen')
 have he:execOp φ ⟨dst,.mapUpdate t x y z,ty,pos,aft,gd⟩=(do Instr.mapUpdate t (φ x) (φ y) (φ z);pure .skip):=by simp [execOp]
 exact ⟨.skip,undef,_,rd,mp,by rw [he];simp only [Sem.run_bind,hrun,Result.andThen_ok,Sem.run_pure],.inr ⟨rfl,rfl⟩,Rd.le.refl _,Mp.le.refl _,hmem,.any _ _⟩
theorem jgi (hT:∀ t,T t=tab P t) {dst:Option Nat} {t kt et:TypeId} {x y z:Operand} {ty:TypeId} {pos:String} {aft:Array Edge} {gd:Option (Nat × Bool)} {b q:Nat} {ks:List (List UInt8)} {l:List (Nat × (Nat × Nat))} {key:List UInt8} {i e n:Nat}
  (hx:ev s x=.mapv b) (hy:ev s y=.str key) (hz:ev s z=.own q i e n) (hl:look s.st b=some (.box mapTy [.keys ks,.mvals q l])) (hk:(T t).kd=.map kt et) (hst:(T kt).kd=.str) (hn:key ∉ ks) :
  CusT P s ⟨dst,.mapUpdate t x y z,ty,pos,aft,gd⟩ .any (setSt s.st b (.box mapTy [.keys (ks++[key]),.mvals q (l++[(i,e,n)])])) s.nx:=fun c rd mp w φ hstd hm hr _=>by
 have hrx:=hr x (by simp [Op.operands])
 have hry:=hr y (by simp [Op.operands])
 have hrz:=hr z (by simp [Op.operands])
 rw [hx] at hrx
 rw [hy] at hry
 rw [hz] at hrz
 have hry:=qar hry
 obtain ⟨g,es,clock,h1,h2,h3,h4,h5,h6⟩:=qhe hm hl hrx
 have hf:=qvg h4 hn
 have hks:=qaz hT hst
 have hck:=fun em=>Go.MapKept.run_checkKey (P:=P) (w:=w) (k:=.string ⟨key.toArray⟩) hks trivial em 9999
 have hrun:(Instr.mapUpdate t (φ x) (φ y) (φ z)).run P w=.ok () { w with heap:=w.heap.setIfInBounds g (.map (es.push { key:=.string ⟨key.toArray⟩,val:=φ z,born:=clock }) (clock+1)) }:=by
  rw [h1,hry]
  simp only [Instr.mapUpdate,Sem.run_bind,run_underlying (qdw hT hk),Go.MapKept.run_getObj_map h3,Result.andThen_ok,hck,Go.MapKept.run_findKey hks hf,Go.MapKept.run_setObj_map _ h3]
 have hmem:=qpu (clock':=clock+1) (ks':=ks++[key]) (l':=l++[(i,e,n)]) (es':=es.push { key:=.string ⟨key.toArray⟩,val:=φ z,born:=clock }) hm hl h2 h3 (by rw [Array.map_push,h4];simp) (by simp [h5]) (fun j i' e' n' en' hj hen'=>by
  rw [Array.getElem?_push] at hen'
  by_cases hpj:j=es.size
  ·rw [za hpj] at hen'
   simp only [Option.some.injEq] at hen'
   subst hen'
   rw [hpj,h5,zl (zj _)] at hj
   simp only [zad,zao,Option.some.injEq,Prod.mk.injEq] at hj
   obtain ⟨rfl,rfl,rfl⟩:=hj
   exact hrz
  ·rw [ze hpj] at hen'
   have hlt:j<l.length:=by rw [← h5];exact (Array.getElem?_eq_some_iff.1 hen').1
   rw [zn hlt] at hj
   exact h6 j i' e' n' en' hj hen')
 have he:execOp φ ⟨dst,.mapUpdate t x y z,ty,pos,aft,gd⟩=(do Instr.mapUpdate t (φ x) (φ y) (φ z);pure .skip):=by simp [execOp]
 exact ⟨.skip,undef,_,rd,mp,by rw [he];simp only [Sem.run_bind,hrun,Result.andThen_ok,Sem.run_pure],.inr ⟨rfl,rfl⟩,Rd.le.refl _,Mp.le.refl _,hmem,.any _ _⟩
theorem jgj (hT:∀ t,T t=tab P t) {o:Oper} {t tk kt et:TypeId} {x y:Operand} {b q:Nat} {ks:List (List UInt8)} {l:List (Nat × (Nat × Nat))} {key:List UInt8} {p:Nat} (ho:o.op=.call ⟨.builtin .delete,#[x,y],#[t,tk]⟩)
  (hx:ev s x=.mapv b) (hy:ev s y=.str key) (hl:look s.st b=some (.box mapTy [.keys ks,.mvals q l])) (hk:(T t).kd=.map kt et) (hst:(T kt).kd=.str) (hp:ks[p]?=some key) (hu:∀ j,ks[j]?=some key→j=p) :
  CusT P s o .any (setSt s.st b (.box mapTy [.keys (ks.eraseIdx p),.mvals q (l.eraseIdx p)])) s.nx:=fun c rd mp w φ hstd hm hr _=>by
 have hrx:=hr x (by rw [ho];simp [Op.operands,Call.operands])
 have hry:=hr y (by rw [ho];simp [Op.operands,Call.operands])
 rw [hx] at hrx
 rw [hy] at hry
 have hry:=qar hry
 obtain ⟨g,es,clock,h1,h2,h3,h4,h5,h6⟩:=qhe hm hl hrx
 obtain ⟨en,hf,hen,hek⟩:=qpt h4 hp hu
 have hks:=qaz hT hst
 have hck:=fun em=>Go.MapKept.run_checkKey (P:=P) (w:=w) (k:=.string ⟨key.toArray⟩) hks trivial em 9999
 obtain ⟨cs,he⟩:=qlw (φ:=φ) ho
 have hpe:p<es.size:=(Array.getElem?_eq_some_iff.1 hen).1
 have hl1:(es.eraseIdxIfInBounds p).toList=es.toList.eraseIdx p:=by
  simp [Array.eraseIdxIfInBounds,hpe]
 have hget:∀ j,(es.eraseIdxIfInBounds p)[j]?=if j<p then es[j]? else es[j+1]?:=fun j=>by
  rw [← xz,hl1,List.getElem?_eraseIdx,xz,xz]
 have hrun:(Builtin.delete_ #[t,tk] o.type #[φ x,φ y]).run P w=.ok (.tuple #[]) { w with heap:=w.heap.setIfInBounds g (.map (es.eraseIdxIfInBounds p) clock) }:=by
  rw [h1,hry]
  simp [Builtin.delete_,run_underlying (qdw hT hk),Go.MapKept.run_getObj_map h3,hck,Go.MapKept.run_findKey hks hf,Go.MapKept.run_setObj_map _ h3]
 have hmem:=qpu (clock':=clock) (ks':=ks.eraseIdx p) (l':=l.eraseIdx p) (es':=es.eraseIdxIfInBounds p) hm hl h2 h3 (by
   apply Array.toList_inj.1
   rw [Array.toList_map,hl1]
   have e4:es.toList.map (·.key)=ks.map fun k=>Value.string ⟨k.toArray⟩:=by
    have:=congrArg Array.toList h4
    simpa using this
   rw [qlx,e4,← qlx]) (by
   have:(es.eraseIdxIfInBounds p).toList.length=(es.toList.eraseIdx p).length:=by rw [hl1]
   rw [zam,zbi (by simpa using hpe),zam] at this
   rw [this,h5,zbi (by omega)]) (fun j i' e' n' en' hj hen'=>by
  rw [hget] at hen'
  rw [List.getElem?_eraseIdx] at hj
  by_cases hjp:j<p
  ·rw [za hjp] at hen' hj
   exact h6 j i' e' n' en' hj hen'
  ·rw [ze hjp] at hen' hj
   exact h6 (j+1) i' e' n' en' hj hen')
 exact ⟨.value (.tuple #[]),.tuple #[],_,rd,mp,by rw [he];simp [builtin,hrun],.inl rfl,Rd.le.refl _,Mp.le.refl _,hmem,.any _ _⟩
theorem jgk {b:Nat} (e:TypeId) (sz:Nat) (hl:look st b=some (.box mapTy [.keys []])) :
  MT st ((nx,.fam e sz 0 (fun _=>0) (fun _=>0) (fun _ _=>[]))::setSt st b (.box mapTy [.keys [],.mvals nx []])) nx (nx+1):=by
 intro c rd mp w hstd hm
 have hsup:Sup c nx:=Sup.std hstd nx
 have hfr:=hm.fresh nx hsup.here
 have hmem:=hm.newFam hsup e sz 0
 have hle:Mp.le mp (mp.addFam nx 0):=Mp.le_addFam hfr.2
 have hbn:nx≠b:=by rintro rfl;exact hm.ids _ _ hl hsup.here
 obtain ⟨g,vs,h1,h2,h3,h4,h5,h6⟩:=hm.bx b _ _ hl
 rcases h2 with ⟨h0,_⟩|⟨_,es,clock,h2,hv⟩
 ·exact absurd rfl h0
 have hes:es=#[]:=by
  have hk:Rel rd mp (.keys []) (.tuple (es.map (·.key))):=h4 0 _ _ rfl (by rcases hv with rfl|rfl <;> rfl)
  generalize hq:(Value.tuple (es.map (·.key)))=z at hk
  cases hk
  injection hq with hq
  have:=congrArg Array.size hq
  simpa using this
 have hl2:look ((nx,SO.fam e sz 0 (fun _=>0) (fun _=>0) (fun _ _=>[]))::st) b=some (.box mapTy [.keys []]):=by rw [qh,ze hbn];exact hl
 have hm2:=hmem.setAt (cs':=[.keys [],.mvals nx []]) (w':=w) (vs':=#[.tuple (es.map (·.key)),.tuple (es.map (·.val))]) hl2 (hle.blk _ _ h1) rfl rfl rfl rfl (fun _ _=>rfl) (.inr ⟨rfl,es,clock,h2,.inr rfl⟩) rfl (fun j y v hy hvv=>by
  subst hes
  match j,hy,hvv with
  | 0,hy,hvv=>cases hy;cases hvv;have:=Rel.keys (rd:=rd) (mp.addFam nx 0) [];simpa using this
  | 1,hy,hvv=>cases hy;cases hvv;exact .mvals _ _ _ _ (by simp) (fun j i e n v hj=>by cases hj)
  | j+2,hy,hvv=>cases hy)
 have hset:∀ o,setSt ((nx,SO.fam e sz 0 (fun _=>0) (fun _=>0) (fun _ _=>[]))::st) b o=(nx,SO.fam e sz 0 (fun _=>0) (fun _=>0) (fun _ _=>[]))::setSt st b o:=fun o=>by
  have:Nat.beq nx b=false:=by
   cases hb':Nat.beq nx b with
   | false=>rfl
   | true=>exact absurd (zq hb') hbn
  simp only [setSt,this,cond_false]
 rw [hset] at hm2
 exact ⟨_,hle,hm2⟩
theorem qhf (b j:Nat) (e:TypeId) (sz:Nat) {ty:TypeId} {cs:List AV} (hl:look st b=some (.box ty cs)) (hj:cs[j]?=some .nils) :
  MT st ((nx,.row [] e sz 0 0 (fun _=>[]))::setSt st b (.box ty (cs.set j (.own nx 0 0 0)))) nx (nx+1):=by
 intro c rd mp w hstd hm
 have hsup:Sup c nx:=Sup.std hstd nx
 obtain ⟨hmp,hmem⟩:=hm.newRow hsup (e:=e) (sz:=sz) (n:=0) (f:=fun _=>[]) (v:=.slice none 0 0) (xs:=[]) (World.grownBy.refl w _) ⟨by simp,.inl ⟨rfl,rfl⟩⟩ (.inl rfl) (fun k hk=>by omega) (fun k j x hk=>by omega)
 have hbn:nx≠b:=by
  rintro rfl
  exact hm.ids _ _ hl hsup.here
 have hl2:look ((nx,SO.row [] e sz 0 0 (fun _=>[]))::st) b=some (.box ty cs):=by
  rw [qh,ze hbn];exact hl
 have hm2:=hmem.rebox (cs':=cs.set j (.own nx 0 0 0)) hl2 (by simp) (fun i x y v hx hy hr=>by
  by_cases hi:j=i
  ·subst hi
   rw [zbb] at hx
   simp at hx
   obtain ⟨_,rfl⟩:=hx
   rw [hj] at hy;cases hy
   cases hr
   exact qgq rfl
  ·rw [List.getElem?_set_ne hi,hy] at hx
   cases hx
   exact hr)
 have hset:setSt ((nx,SO.row [] e sz 0 0 (fun _=>[]))::st) b (.box ty (cs.set j (.own nx 0 0 0)))=(nx,SO.row [] e sz 0 0 (fun _=>[]))::setSt st b (.box ty (cs.set j (.own nx 0 0 0))):=by
  have:Nat.beq nx b=false:=by
   cases hb':Nat.beq nx b with
   | false=>rfl
   | true=>exact absurd (zq hb') hbn
  simp only [setSt,this,cond_false]
 rw [hset] at hm2
 exact ⟨_,hmp,hm2⟩
theorem qvk (id:Nat) (e':TypeId) (sz':Nat) {e:TypeId} {sz ep n:Nat} {f:Nat→List AV} (hl:look st id=some (.row [] e sz ep n f)) :
  MT st ((nx,.fam e' sz' 0 (fun _=>0) (fun _=>0) (fun _ _=>[]))::setSt st id (.row [nx] e sz ep n f)) nx (nx+1):=by
 intro c rd mp w hstd hm
 have hsup:Sup c nx:=Sup.std hstd nx
 have hfr:=hm.fresh nx hsup.here
 have hmem:=hm.newFam hsup e' sz' 0
 have hle:Mp.le mp (mp.addFam nx 0):=Mp.le_addFam hfr.2
 have hbn:nx≠id:=by rintro rfl;exact hm.ids _ _ hl hsup.here
 have hl2:look ((nx,SO.fam e' sz' 0 (fun _=>0) (fun _=>0) (fun _ _=>[]))::st) id=some (.row [] e sz ep n f):=by rw [qh,ze hbn];exact hl
 obtain ⟨_,_,_,_,h3,_,_⟩:=hm.mb id 0 _ (.row hl)
 simp only at h3
 have hm2:=hmem.rerow (ids':=[nx]) (f':=f) hl2 h3 (fun k j x y v hk hx hy hr=>by
  rw [hx] at hy
  cases hy
  rw [Mp.sel_nil] at hr
  exact hr.mono (Rd.le.refl _) (Mp.none_le_sel _ _))
 have hset:∀ o,setSt ((nx,SO.fam e' sz' 0 (fun _=>0) (fun _=>0) (fun _ _=>[]))::st) id o=(nx,SO.fam e' sz' 0 (fun _=>0) (fun _=>0) (fun _ _=>[]))::setSt st id o:=fun o=>by
  have:Nat.beq nx id=false:=by
   cases hb':Nat.beq nx id with
   | false=>rfl
   | true=>exact absurd (zq hb') hbn
  simp only [setSt,this,cond_false]
 rw [hset] at hm2
 exact ⟨_,hle,hm2⟩
theorem jgl (id F r:Nat) {ids:List Nat} {e0:TypeId} {ep0 n sz0:Nat} {f0:Nat→List AV} {e:TypeId} {sz ep1 n1:Nat} {g:Nat→List AV} {ep len:Nat→Nat} {f:Nat→Nat→List AV} {tl:List AV}
  (hl:look st id=some (.row ids e0 sz0 ep0 (n+1) f0)) (hF:look st F=some (.fam e sz n ep len f)) (hr:look st r=some (.row [] e sz ep1 n1 g)) (hir:id≠r)
  (hfi:f0 n=.own r 0 ep1 n1::tl) (htl:tl.all AV.pure1=true) (hf:∀ k,k<n→∃ a b tk,f0 k=.own F k a b::tk∧tk.all AV.pure1=true) :
  ∀ (c:Ctx) rd mp w,c.fre=stdF→Mem c rd mp st nx w→∃ mp' v,Mp.le mp mp'∧Mem c rd mp' (setSt (setSt (qx [r] (setSt st F (.fam e sz (n+1) (fun k=>if k<n then ep k else 0) (fun k=>if k<n then len k else 0) f))) F (.fam e sz (n+1) (Go.Sx.upd (fun k=>if k<n then ep k else 0) n 1) (Go.Sx.upd (fun k=>if k<n then len k else 0) n n1) (Go.Sx.upd f n g))) id (.row [F] e0 sz0 ep0 (n+1) (fun k=>if k=n then .own F n 1 n1::tl else f0 k))) nx w∧mp'.row r 0=some (v,ep1,n1)∧mp'.row F n=some (v,1,n1):=by
 intro c rd mp w hstd hm
 have hidF:id≠F:=by rintro rfl;rw [hl] at hF;cases hF
 have hrF:r≠F:=by rintro rfl;rw [hF] at hr;cases hr
 have hg:=hm.growFam hF
 have hle0:Mp.le mp (mp.addRow F n):=Mp.le_addRow (hm.out F e sz n ep len f hF n (zj _))
 obtain ⟨v,h1,hle,hmem⟩:=hg.absorb (F:=F) (r:=r) (i:=n) (by rw [qd,za rfl,hF];rfl) (by rw [qd,ze hrF];exact hr) (zav n)
 simp only [Nat.lt_irrefl,if_false,zw] at hle hmem
 have hl2:look (setSt (qx [r] (setSt st F (.fam e sz (n+1) (fun k=>if k<n then ep k else 0) (fun k=>if k<n then len k else 0) f))) F (.fam e sz (n+1) (Go.Sx.upd (fun k=>if k<n then ep k else 0) n 1) (Go.Sx.upd (fun k=>if k<n then len k else 0) n n1) (Go.Sx.upd f n g))) id=some (.row ids e0 sz0 ep0 (n+1) f0):=by
  rw [qd,ze hidF,qft,ze (by simpa using hir),qd,ze hidF];exact hl
 have hr1:((mp.addRow F n).putRow F n (v,1,n1)).row r 0=some (v,ep1,n1):=by
  simp only [Mp.putRow]
  rw [ze (fun h=>hrF h.1)]
  exact h1
 have hF1:((mp.addRow F n).putRow F n (v,1,n1)).row F n=some (v,1,n1):=by simp [Mp.putRow]
 obtain ⟨_,_,_,_,h3,_,_⟩:=hmem.mb id 0 _ (.row hl2)
 simp only at h3
 have hlen:(f0 n).length=sz0:=h3 n (zav n)
 have hm2:=hmem.rerow (ids':=[F]) (f':=fun k=>if k=n then .own F n 1 n1::tl else f0 k) hl2 (fun k hk=>by
  by_cases hkn:k=n
  ·rw [za hkn,← hlen,hfi];simp
  ·rw [ze hkn];exact h3 k hk) (fun k j x y u hk hx hy hrel=>by
  by_cases hkn:k=n
  ·subst hkn
   rw [za rfl] at hx
   rw [hfi] at hy
   cases j with
   | succ j=>
    simp only [zan] at hx hy
    rw [hx] at hy
    cases hy
    exact hrel.pure1 (List.all_eq_true.1 htl x (zp hx))
   | zero=>
    simp only [zao,Option.some.injEq] at hx hy
    subst hx hy
    cases hrel with
    | own _ _ _ _ _ _ vr er nr h5 h6 h7 h8 h9=>
     have h5':((mp.addRow F k).putRow F k (v,1,n1)).row r 0=some (vr,er,nr):=by
      simp only [Mp.sel] at h5
      split at h5
      ·exact h5
      ·cases h5
     rw [hr1] at h5'
     cases h5'
     have hv:=h8 rfl rfl
     subst hv
     exact .own _ _ _ _ _ _ u 1 n1 (by simp only [Mp.sel,zk,za];exact hF1) (zj _) (fun _=>zj _) (fun _ _=>rfl) h9
  ·rw [ze hkn,hy] at hx
   cases hx
   obtain ⟨a,b,tk,h10,h11⟩:=hf k (by omega)
   rw [h10] at hy
   cases j with
   | succ j=>
    simp only [zan] at hy
    exact hrel.pure1 (List.all_eq_true.1 h11 x (zp hy))
   | zero=>
    simp only [zao,Option.some.injEq] at hy
    subst hy
    cases hrel with
    | own _ _ _ _ _ _ vr er nr h5 h6 h7 h8 h9=>
     refine .own _ _ _ _ _ _ vr er nr ?_ h6 h7 h8 h9
     simp only [Mp.sel] at h5 ⊢
     split at h5
     ·rw [za (by simp)];exact h5
     ·cases h5)
 exact ⟨_,v,hle0.trans hle,hm2,hr1,hF1⟩
end
section
variable {P:Program} {T:Nat→TI} {c:Ctx} {rd:Rd} {mp:Mp} {s:ASt} {st st' st1 st2:List (Nat × SO)} {nx nx' nx1 nx2:Nat} {w:World}
theorem jgm (w:World) (t tn ty e:TypeId) (i:TypeInfo) (z:Value) (kq kn:IntKind) {k:Nat} (ht:P.underlying t=some (.slice e)) (htn:P.underlying tn=some (.int kn)) (hi:P.info? e=some i) (hz:i.zero=some z)
  {size bytes:Nat} (hsize:i.size=size) (hby:i.bytes=bytes) (hzs:z.cells.size=size) (hsz:0<size) (hone:∀ u∈(Builtin.zeroCells z.cells k).toList,u.oneCell'=true) {v:Value} {n:Nat} {xs:List Value} (hown:Owns w e size v n xs)
  (h0:0<k) (h63:n+k≤maxLen) (hbytes:(n+k) * bytes≤140737488355328) :
  ∃ v' w',(Builtin.append_ #[t,tn] ty #[v,.int kq k]).run P w=.ok v' w'∧Owns w' e size v' (n+k) (xs++(Builtin.zeroCells z.cells k).toList)∧w.grownBy w' v.ownBlock∧(v'.ownBlock=v.ownBlock∨v'.ownBlock=some w.heap.size):=by
 subst hsize
 subst hby
 have hsmall:n+k≤9223372036854775807:=by simp only [maxLen] at h63;omega
 have hzl:(Builtin.zeroCells z.cells k).toList.length=k * i.size:=by rw [zam,size_zeroCells,hzs]
 have hlen:(xs++(Builtin.zeroCells z.cells k).toList).length=(n+k) * i.size:=by rw [zi,hown.1,hzl,zaq]
 have hkb:k * i.bytes≤(n+k) * i.bytes:=zt _ (by omega)
 rcases hown.2 with ⟨rfl,rfl⟩|⟨g,lo,cap,cur,rfl,hg,hnc,hcm,hcs,htake⟩
 ·have hx:xs=[]:=xb (by simpa using hown.1)
  subst hx
  have hr:=Lib.run_append_nil_zeros (P:=P) w t tn ty e i z kq kn ht htn hi hz k h0 hsz (by omega) (by omega)
  have hge:=grownCap_ge w k 0 e
  have hcm':grownCap w k 0 e≤maxLen:=grownCap_le_maxLen w k 0 e (by omega)
  rw [zw]
  refine ⟨_,_,hr,⟨by simpa using hlen,.inr ⟨w.heap.size,0,_,_,rfl,heap_alloc_new w.drew _,hge,hcm',?_,?_⟩⟩,⟨rfl,rfl,rfl,by simp,fun k hk _=>heap_alloc_old w.drew _ hk⟩,.inr rfl⟩
  ·simp only [Array.size_append,size_zeroCells,hzs,← zaq,zw]
   exact Nat.le_of_eq (congrArg (· * i.size) (by omega))
  ·simp only [Array.toList_append,List.drop_zero,zba]
   rw [← hzl]
   exact List.take_left
 ·by_cases hroom:n+k≤cap
  ·have hrs:(n+k) * i.size≤cap * i.size:=zt _ hroom
   have hns:(n+k) * i.size=n * i.size+k * i.size:=zaq ..
   have hfit:lo+n * i.size+(Builtin.zeroCells z.cells k).toList.length≤cur.size:=by rw [hzl];omega
   have hst:=run_storeCells_at P g (lo+n * i.size) e (Builtin.zeroCells z.cells k).toList 0 cur w hg (by simpa using hfit) hone
   simp only [zac] at hst
   have hw:IntKind.i64.wrap (k:Int)=k:=by rw [IntKind.wrap_i64];omega
   have hneg:¬ ((k:Int)<0):=by omega
   have h48i:¬ (281474976710656<(k:Int) * (i.bytes:Int)):=by
    rw [← Int.natCast_mul]
    omega
   have hks:¬ (k * i.size=0):=Nat.mul_ne_zero (by omega) (by omega)
   have hr:(Builtin.append_ #[t,tn] ty #[.slice (some ⟨g,lo,none⟩) n cap,.int kq k]).run P w =
     .ok (.slice (some ⟨g,lo,none⟩) (n+k) cap) (w.setRow g (cur.toList.take (lo+n * i.size)++(Builtin.zeroCells z.cells k).toList++cur.toList.drop (lo+n * i.size+(Builtin.zeroCells z.cells k).toList.length)).toArray):=by
    simp [Builtin.append_,run_underlying ht,run_underlying htn,sizeOf,typeInfo,zeroValue,hi,hz,asInt,asIntOf,hw,hneg,hks,h48i,hroom,Addr.add_lit]
    simp only [xe,zam] at hst
    rw [hst];rfl
   have hcl:cur.toList.length=cur.size:=by simp
   refine ⟨_,_,hr,⟨hlen,.inr ⟨g,lo,cap,_,rfl,setRow_heap w g cur _ e _ hg,hroom,hcm,?_,?_⟩⟩,⟨rfl,rfl,rfl,by simp,fun k _ hk=>setRow_other w g k _ (fun e=>hk (by simp [Value.ownBlock,e]))⟩,.inl rfl⟩
   ·simp only [List.size_toArray,zi,zu,zah]
    omega
   ·simp only [xe]
    have htk:(cur.toList.take (lo+n * i.size)).drop lo=xs:=by rw [← htake,List.drop_take,Nat.add_sub_cancel_left]
    rw [List.drop_append_of_le_length (by rw [zu,hcl];omega),htk,← xe,← hlen]
    exact List.take_left
  ·have holds:∀ j u,xs[j]?=some u→w.drew.cell? ((⟨g,lo,none⟩:Addr).add j)=some u:=fun j u hu=>by rw [Addr.add_lit];exact hown.cells hu
   have hold:=run_firstCells_some (P:=P) w.drew i.size n ⟨g,lo,none⟩ n cap xs hown.1 holds
   have hr:=Lib.run_append_grow_zeros (P:=P) w t tn ty e i z kq kn ht htn hi hz (some ⟨g,lo,none⟩) n cap xs hold k h0 hsz (by omega) (by omega) (by omega) (growslice_fits (by omega) hbytes)
   have hge:=grownCap_ge w (n+k) cap e
   have hcm':grownCap w (n+k) cap e≤maxLen:=grownCap_le_maxLen w (n+k) cap e h63
   refine ⟨_,_,hr,⟨hlen,.inr ⟨w.heap.size,0,_,_,rfl,heap_alloc_new w.drew _,hge,hcm',?_,?_⟩⟩,⟨rfl,rfl,rfl,by simp,fun k hk _=>heap_alloc_old w.drew _ hk⟩,.inr rfl⟩
   ·simp only [Array.size_append,List.size_toArray,size_zeroCells,hzs,hown.1,← zaq,zw]
    exact Nat.le_of_eq (congrArg (· * i.size) (by omega))
   ·simp only [Array.toList_append,List.drop_zero]
    rw [← hlen]
    exact List.take_left
theorem qvl {z:Array Value} {k:Nat} (h1:z.size=1) {j:Nat} (hj:j<k):(Builtin.zeroCells z k).toList[j]?=some z[0]:=by
 have hmod:j % z.size=0:=by rw [h1,Nat.mod_one]
 simp only [Builtin.zeroCells,xz,zax,Array.getElem?_range]
 rw [za (by rw [h1];omega)]
 simp only [xu,hmod]
 rw [getElem!_pos z 0 (by omega)]
theorem jgn (hT:∀ t,T t=tab P t) (hm:Mem c rd mp st nx w) (t tn ty el:TypeId) {kn kq:IntKind} (hk:(T t).kd=.slice el) (hkn:P.underlying tn=some (.int kn)) {r i e n:Nat} {ob:Option DP} {R:RowV} (hl:qk st r i=some (ob,R)) (hob:obT ob) (hn:e=R.ep∧n=R.n)
  (hel:el=R.e) (h1:(T el).size=R.sz) (hs1:R.sz=1) {y:AV} (h2:(T el).zero=[y]) (hy1:y.one=true) (hy2:y.pure1=true) {vx:Value} (hx:Rel rd mp (.own r i e n) vx) {k:Nat} (h0:0<k) (hb1:n+k≤9223372036854775807) (hb2:(n+k) * (T el).bytes≤140737488355328) :
  ∃ v w' mp',(Builtin.append_ #[t,tn] ty #[vx,.int kq k]).run P w=.ok v w'∧Mp.le mp mp'∧Mem c rd mp' (qo st r i e (n+k) (appF n R.f k fun _=>[y])) nx w'∧Rel rd mp' (.own r i e (n+k)) v:=by
 obtain ⟨xs,hv,hown,hf,hxs,hsep⟩:=qcc hm hl hob hx hn
 obtain ⟨i0,z,hi,hz,his,hib,hzs,hzz⟩:=qda hT (e:=el) (by omega) (by rw [h2,h1,hs1];rfl)
 obtain ⟨hn1,hn2⟩:=hn
 subst hn1 hn2 hel
 have hz1:z.cells.size=1:=by omega
 have hrz:Rel rd Mp.none y z.cells[0]:=qhy hzz 0 y _ (by rw [h2];rfl) (by simp [hz1])
 have hrz1:z.cells[0].oneCell'=true:=qoe hrz hy1
 have hall:∀ u∈(Builtin.zeroCells z.cells k).toList,u.oneCell'=true:=fun u hu=>by
  obtain ⟨j,hj⟩:=List.mem_iff_getElem?.1 hu
  have hjl:j<k:=by
   have:=(List.getElem?_eq_some_iff.1 hj).1
   rw [zam,size_zeroCells,hz1,Nat.mul_one] at this
   exact this
  rw [qvl hz1 hjl] at hj
  cases hj
  exact hrz1
 obtain ⟨v',w',hrun,hown',hgr,hat⟩:=jgm (P:=P) (k:=k) w t tn ty R.e i0 z kq kn (jb hT hk) hkn hi hz (size:=R.sz) (bytes:=(T R.e).bytes) (by omega) hib (by omega) (by omega) hall hown h0 (by simp only [maxLen];omega) hb2
 obtain ⟨hf',hx'⟩:=qst (rd:=rd) (mp1:=mp.sel R.ids) (g:=fun _=>[y]) (news:=(Builtin.zeroCells z.cells k).toList) (m:=k) hown.1 hf (fun i _=>by rw [hs1];rfl) hxs (fun i j x hik hxx=>by
  cases j with
  | succ j=>simp at hxx
  | zero=>
   simp only [zao,Option.some.injEq] at hxx
   subst hxx
   refine ⟨z.cells[0],?_,hrz1,hrz.mono (Rd.le.refl _) (Mp.none_le _)⟩
   rw [hs1,Nat.mul_one,zac]
   exact qvl hz1 hik)
 obtain ⟨hle,hmem⟩:=hm.turnRow (w':=w') (ep:=R.ep) (n:=R.n+k) (f:=appF R.n R.f k fun _=>[y]) hl hob (v':=v') (xs:=xs++(Builtin.zeroCells z.cells k).toList) hv hsep
  (.inr ⟨rfl,.inl (by omega)⟩) hgr hown' (by rcases hat with h|h;(exact .inl h);(exact .inr ⟨_,h,zj _⟩)) hf' hx'
 exact ⟨v',w',_,hrun,hle,hmem,qia hown'.sl⟩
theorem qvm (hT:∀ t,T t=tab P t) {o:Oper} {t tn el:TypeId} {x z:Operand} {kn kq:IntKind} {r i e n:Nat} {k:Int} {R:RowV} {ob:Option DP} {y:AV} (ho:o.op=.call ⟨.builtin .append,#[x,z],#[t,tn]⟩)
  (hx:ev s x=.own r i e n) (hz:ev s z=.int kq k) (hl:qk s.st r i=some (ob,R)) (hk:(T t).kd=.slice el) (hkn:P.underlying tn=some (.int kn)) (hob:obT ob) (hn:e=R.ep∧n=R.n) (hel:el=R.e) (h1:(T el).size=R.sz) (hs1:R.sz=1) (h2:(T el).zero=[y]) (hy1:y.one=true) (hy2:y.pure1=true)
  (h0:0<k) (hb1:n+k.toNat≤9223372036854775807) (hb2:(n+k.toNat) * (T el).bytes≤140737488355328) :
  CusT P s o (.own r i e (n+k.toNat)) (qo s.st r i e (n+k.toNat) (appF n R.f k.toNat fun _=>[y])) s.nx:=fun c rd mp w φ hstd hm hr _=>by
 have hrx:=hr x (by rw [ho];simp [Op.operands,Call.operands])
 have hrz:=hr z (by rw [ho];simp [Op.operands,Call.operands])
 rw [hx] at hrx
 rw [hz] at hrz
 have hrz:=jn hrz
 obtain ⟨cs,he⟩:=qlw (φ:=φ) ho
 obtain ⟨v,w',mp',g1,g2,g3,g4⟩:=jgn hT hm t tn o.type el (kq:=kq) (k:=k.toNat) hk hkn hl hob hn hel h1 hs1 h2 hy1 hy2 hrx (by omega) hb1 hb2
 have hkk:((k.toNat:Nat):Int)=k:=by omega
 rw [hkk] at g1
 exact ⟨.value v,v,w',rd,mp',by rw [he,hrz];simp [builtin,g1],.inl rfl,Rd.le.refl _,g2,g3,g4⟩
theorem jgo (id F:Nat) {e:TypeId} {ep N n:Nat} {f:Nat→List AV} {e':TypeId} {sz':Nat} {ep' len':Nat→Nat} {f':Nat→Nat→List AV}
  (hl:look st id=some (.row [F] e 1 ep N f)) (hF:look st F=some (.fam e' sz' n ep' len' f')) (hn:n<N) (hc:f n=[.nils]) :
  MT st (setSt (setSt st F (.fam e' sz' (n+1) (fun k=>if k<n then ep' k else 0) (fun k=>if k<n then len' k else 0) f')) id (.row [F] e 1 ep N (fun k=>if k=n then [.own F n 0 0] else f k))) nx nx:=by
 intro c rd mp w hstd hm
 have hmem:=hm.growFam hF
 have hle:Mp.le mp (mp.addRow F n):=Mp.le_addRow (hm.out F e' sz' n ep' len' f' hF n (zj _))
 have hne:id≠F:=by rintro rfl;rw [hl] at hF;cases hF
 have hl2:look (setSt st F (.fam e' sz' (n+1) (fun k=>if k<n then ep' k else 0) (fun k=>if k<n then len' k else 0) f')) id=some (.row [F] e 1 ep N f):=by rw [qd,ze hne];exact hl
 obtain ⟨_,_,_,_,h3,_,_⟩:=hm.mb id 0 _ (.row hl)
 simp only at h3
 have hm2:=hmem.rerow (ids':=[F]) (f':=fun k=>if k=n then [.own F n 0 0] else f k) hl2 (fun k hk=>by
   split
   ·rfl
   ·exact h3 k hk) (fun k i x y v hk hx hy hr=>by
  by_cases hkn:k=n
  ·subst hkn
   rw [za rfl] at hx
   rw [hc] at hy
   cases i with
   | succ i=>simp at hx
   | zero=>
    cases hx;cases hy
    cases hr
    exact .own _ _ _ _ _ _ (.slice none 0 0) 0 0 (by simp only [Mp.sel,zk,za,Mp.addRow,and_self]) (zj _) (fun _=>zj _) (fun _ _=>rfl) rfl
  ·rw [ze hkn] at hx
   rw [hx] at hy
   cases hy
   exact hr)
 exact ⟨_,hle,hm2⟩
theorem qvn (id F:Nat) {e e':TypeId} {sz' ep N:Nat}:∀ (q n:Nat) {f:Nat→List AV} {ep' len':Nat→Nat} {f':Nat→Nat→List AV} {st:List (Nat × SO)},look st id=some (.row [F] e 1 ep N f)→look st F=some (.fam e' sz' n ep' len' f')→n+q=N→(∀ k,n≤k→k<N→f k=[.nils])→
  MT st (setSt (setSt st F (.fam e' sz' N (fun k=>if k<n then ep' k else 0) (fun k=>if k<n then len' k else 0) f')) id (.row [F] e 1 ep N (fun k=>if n≤k then [.own F k 0 0] else f k))) nx nx
 | 0,n,f,ep',len',f',st,hl,hF,hq,hc=>by
  have hnN:n=N:=by omega
  subst hnN
  have hne:id≠F:=by rintro rfl;rw [hl] at hF;cases hF
  refine MT.weak fun i x hx=>?_
  rw [qd] at hx
  by_cases hi:i=id
  ·subst hi
   rw [za rfl,qd,ze hne,hl] at hx
   cases hx
   exact ⟨_,hl,⟨rfl,rfl,rfl⟩,rfl,rfl,fun k hk=>by dsimp only;rw [ze (by omega)];exact LeL.refl _⟩
  ·rw [ze hi,qd] at hx
   by_cases hiF:i=F
   ·subst hiF
    rw [za rfl,hF] at hx
    cases hx
    exact ⟨_,hF,⟨rfl,rfl⟩,rfl,fun k hk=>by dsimp only;rw [za hk,za hk];exact ⟨rfl,rfl⟩,fun _ _ _ _=>LeL.refl _⟩
   ·rw [ze hiF] at hx
    exact ⟨x,hx,SoLe.refl _⟩
 | q+1,n,f,ep',len',f',st,hl,hF,hq,hc=>by
  have hne:id≠F:=by rintro rfl;rw [hl] at hF;cases hF
  have h1:=jgo (nx:=nx) id F hl hF (by omega) (hc n (zj _) (by omega))
  refine h1.trans ?_
  have h2:=qvn id F q (n+1) (st:=setSt (setSt st F (.fam e' sz' (n+1) (fun k=>if k<n then ep' k else 0) (fun k=>if k<n then len' k else 0) f')) id (.row [F] e 1 ep N (fun k=>if k=n then [.own F n 0 0] else f k)))
   (f:=fun k=>if k=n then [.own F n 0 0] else f k) (ep':=fun k=>if k<n then ep' k else 0) (len':=fun k=>if k<n then len' k else 0) (f':=f')
   (by rw [qd,za rfl,qd,ze hne,hl];rfl) (by rw [qd,ze (Ne.symm hne),qd,za rfl,hF];rfl) (by omega) (fun k h1 h2=>by rw [ze (by omega)];exact hc k (by omega) h2)
  refine h2.trans (MT.weak fun i x hx=>?_)
  rw [qd] at hx
  by_cases hi:i=id
  ·subst hi
   rw [za rfl,qd,ze hne,hl] at hx
   cases hx
   refine ⟨.row [F] e 1 ep N (fun k=>if n+1≤k then [.own F k 0 0] else if k=n then [.own F n 0 0] else f k),?_,⟨rfl,rfl,rfl⟩,rfl,rfl,fun k hk=>?_⟩
   ·rw [qd,za rfl,qd,ze hne,qd,za rfl,qd,ze hne,hl];rfl
   ·dsimp only
    by_cases h1:n+1≤k
    ·rw [za h1,za (by omega)];exact LeL.refl _
    ·rw [ze h1]
     by_cases h2:k=n
     ·subst h2;rw [za rfl,za (zj _)];exact LeL.refl _
     ·rw [ze h2,ze (by omega)];exact LeL.refl _
  ·rw [ze hi,qd] at hx
   by_cases hiF:i=F
   ·subst hiF
    rw [za rfl,hF] at hx
    cases hx
    refine ⟨.fam e' sz' N (fun k=>if k<n+1 then (if k<n then ep' k else 0) else 0) (fun k=>if k<n+1 then (if k<n then len' k else 0) else 0) f',?_,⟨rfl,rfl⟩,rfl,fun k hk=>?_,fun _ _ _ _=>LeL.refl _⟩
    ·rw [qd,ze hi,qd,za rfl,qd,ze hi,qd,za rfl,hF];rfl
    ·dsimp only
     by_cases h1:k<n
     ·simp [h1,show k<n+1 by omega]
     ·simp [h1]
   ·rw [ze hiF] at hx
    refine ⟨x,?_,SoLe.refl _⟩
    rw [qd,ze hi,qd,ze hiF,qd,ze hi,qd,ze hiF]
    exact hx
end
theorem qgh {sl:List (Nat × AV)} {st:List (Nat × SO)} {nx:Nat} {E:Env} {B:Nat→ASt→Prop} {g:Bool} {f:FuncId} {args:List AV} {dst:Option Nat} {full:Array Oper} {rest:List Oper} {k:List Itm} (hT:∀ t,E.T t=tab E.P t) (n:Nat) (x:AV) (hd:qz E dst=true) (hg:qes g args)
  (h1:g=true→qaa E B f (args.map unc) dst full rest k ⟨sl,st,nx⟩) (h2:g=false→qt sl dst (fun sl'=>exec E B n (.ops full rest::k) ⟨sl',st,nx⟩) (.cnd g x)):qcx E B g f args dst full rest k ⟨sl,st,nx⟩:=by
 simp only [ja,qfo] at h2
 unfold qcx
 refine ⟨fun he=>?_,fun he rd mp a w hs hrd hsz=>?_⟩
 ·have h3:=h1 he
  unfold qaa at h3 ⊢
  exact fun rd mp a w vs hs hrd hsz hargs=>h3 rd mp a w vs hs hrd hsz (hargs.le (qig he _ hg))
 ·exact qba hT n _ _ (h2 he) rd mp _ w (hs.put (Rd.le.refl _) (Mp.le.refl _) hs.mem (.cnd _ _ _ _ (fun h=>by rw [he] at h;cases h) (fun _=>rfl)) (qci hd hsz)) hrd (by rw [qch];exact hsz)
theorem jjb {st:List (Nat × SO)} {nx:Nat} {E:Env} {B:Nat→ASt→Prop} {g0:FuncId} {args:List AV} {dst:Option Nat} {full:Array Oper} {rest:List Oper} {k0:List Itm} {sl:List (Nat × AV)} (id F r t:Nat) {ids:List Nat} {e0:TypeId} {ep0 n sz0:Nat} {f0:Nat→List AV} {e:TypeId} {sz ep1 n1:Nat} {g:Nat→List AV} {ep len:Nat→Nat} {f:Nat→Nat→List AV} {tl:List AV}
  (hl:look st id=some (.row ids e0 sz0 ep0 (n+1) f0)) (hF:look st F=some (.fam e sz n ep len f)) (hr:look st r=some (.row [] e sz ep1 n1 g)) (hir:id≠r)
  (hfi:f0 n=.own r 0 ep1 n1::tl) (htl:tl.all AV.pure1=true) (hf:∀ k,k<n→∃ a b tk,f0 k=.own F k a b::tk∧tk.all AV.pure1=true)
  (ht:ASt.get ⟨sl,st,nx⟩ t=.own r 0 ep1 n1)
  (hk:je (setSt (setSt (qx [r] (setSt st F (.fam e sz (n+1) (fun k=>if k<n then ep k else 0) (fun k=>if k<n then len k else 0) f))) F (.fam e sz (n+1) (Go.Sx.upd (fun k=>if k<n then ep k else 0) n 1) (Go.Sx.upd (fun k=>if k<n then len k else 0) n n1) (Go.Sx.upd f n g))) id (.row [F] e0 sz0 ep0 (n+1) (fun k=>if k=n then .own F n 1 n1::tl else f0 k))) fun st'=>qt sl (some t) (fun sl'=>qaa E B g0 args dst full rest k0 ⟨sl',st',nx⟩) (.own F n 1 n1)) :
  qaa E B g0 args dst full rest k0 ⟨sl,st,nx⟩:=by
 rw [jq,ja] at hk
 unfold qaa at hk ⊢
 intro rd mp a w vs hs hb hsz hargs
 obtain ⟨mp',v,h1,h2,h3,h4⟩:=jgl id F r hl hF hr hir hfi htl hf E.c rd mp w hb.std hs.mem
 refine hk rd mp' a w vs ⟨fun t'=>?_,hs.defers,h2⟩ (hb.step (Rd.le.refl _) h1) hsz ⟨hargs.1,fun j x v hx hv=>(hargs.2 j x v hx hv).mono (Rd.le.refl _) h1⟩
 have hx:=(hs.slots t').mono (Rd.le.refl _) h1
 by_cases htt:t'=t
 ·subst htt
  have hg:∀ s2,ASt.get ⟨jx sl (some t') (.own F n 1 n1),s2,nx⟩ t'=.own F n 1 n1:=fun s2=>by simp [ASt.get,jx,qh]
  rw [hg]
  rw [ht] at hx
  generalize a.tmps.getD t' undef=u at hx ⊢
  cases hx with
  | own _ _ _ _ _ _ vr er nr h5 h6 h7 h8 h9=>
   rw [h3] at h5
   cases h5
   have hv:=h8 rfl rfl
   subst hv
   exact .own _ _ _ _ _ _ u 1 n1 h4 (zj _) (fun _=>zj _) (fun _ _=>rfl) h9
 ·have hg:∀ s2,ASt.get ⟨jx sl (some t) (.own F n 1 n1),s2,nx⟩ t'=ASt.get ⟨sl,st,nx⟩ t':=fun s2=>by simp [ASt.get,jx,qh,Ne.symm htt,htt]
  rw [hg]
  exact hx
theorem CusT.cut {P:Program} {s s':ASt} {o:Oper} {v:AV} {st':List (Nat × SO)} {nx':Nat} (z:Operand) {r i e n m:Nat} {R:RowV} {ob:Option DP} (hz:ev s z=.sub r i e n R.sz 0 m) (hzo:z∈o.op.operands) (hl:qk s.st r i=some (ob,R)) (hob:obT ob) (hn:e=R.ep∧n=R.n)
  (hst:s'.st=qo s.st r i (e+1) m R.f) (hnx:s'.nx=s.nx) (hz':ev s' z=.own r i (e+1) m) (hev:∀ x∈o.op.operands,x=z∨ev s' x=ev s x) (h:CusT P s' o v st' nx'):CusT P s o v st' nx':=fun c rd mp w φ hstd hm hr _=>by
 have hrz:=hr z hzo
 rw [hz] at hrz
 obtain ⟨mp1,g1,g2,g3⟩:=qps hm hl hob hn hrz
 rw [← hst,← hnx] at g2
 obtain ⟨n',x,w',rd',mp',h1,h2,h3,h4,h5,h6⟩:=h c rd mp1 w φ hstd g2 (fun x hx=>by
  rcases hev x hx with rfl|e
  ·rw [hz'];exact g3
  ·rw [e];exact (hr x hx).mono (Rd.le.refl _) g1) trivial
 exact ⟨n',x,w',rd',mp',h1,h2,h3,g1.trans h4,h5,h6⟩
theorem CusT.ahead {P:Program} {s:ASt} {o:Oper} {v:AV} {st':List (Nat × SO)} {nx':Nat} {st1:List (Nat × SO)} {nx1:Nat} (k:MT s.st st1 s.nx nx1) (h:CusT P ⟨s.sl,st1,nx1⟩ o v st' nx'):CusT P s o v st' nx':=fun c rd mp w φ hstd hm hr _=>by
 obtain ⟨mp1,g1,g2⟩:=k c rd mp w hstd hm
 obtain ⟨n',x,w',rd',mp',h1,h2,h3,h4,h5,h6⟩:=h c rd mp1 w φ hstd g2 (fun x hx=>(hr x hx).mono (Rd.le.refl _) g1) trivial
 exact ⟨n',x,w',rd',mp',h1,h2,h3,g1.trans h4,h5,h6⟩
theorem qyd {rd:Rd} {mp:Mp} {x:AV} {vs:Array Value} (h:RelL rd mp [x] vs):∃ a,vs=#[a]∧Rel rd mp x a:=by
 obtain ⟨h1,h2⟩:=h
 have h3:vs.toList.length=1:=by rw [zam,h1];rfl
 obtain ⟨a,hv⟩:∃ a,vs=#[a]:=by
  rcases hv:vs.toList with _|⟨x,_|⟨y,l⟩⟩ <;> rw [hv] at h3 <;> simp at h3
  exact ⟨x,by apply Array.ext';simpa using hv⟩
 subst hv
 exact ⟨a,rfl,h2 0 x a rfl rfl⟩
theorem jjo {rd:Rd} {mp:Mp} {k:IntKind} {n:Int} {v:Value} (h:Rel rd mp (.int k n) v):v=.int k n:=by cases h;rfl
theorem TabIs.on {P:Program} {w w':World} {nm:String} {k:IntKind} {zs:List Int} (h:Lib.TabIs P w nm k zs) (hb:∀ j,j<w.heap.size→w'.heap[j]?=w.heap[j]?):Lib.TabIs P w' nm k zs:=by
 unfold Lib.TabIs World.var? at h ⊢
 cases hg:P.globalNamed nm with
 | none=>rw [hg] at h;exact h
 | some g=>
  rw [hg] at h
  simp only [Option.bind_some] at h ⊢
  cases ho:w.heap[g]? with
  | none=>rw [ho] at h;cases h
  | some o=>rw [hb g (qgi ho),ho];rw [ho] at h;exact h
end Go.Sx
end
section
namespace Go.Sx
open Go Go.RowKit Go.Lib
section
variable {P:Program} (w:World)
end
end Go.Sx
end
section
namespace Go.Sx
open Go Go.RowKit Go.Sort Go.Proofs
structure PutW (w w':World) (g lo:Nat) (d:Array Int):Prop where
 os:w'.os=w.os
 tape:w'.tape=w.tape
 output:w'.output=w.output
 heap:∃ os,w'.heap=w.heap.modify g (onCells (putCells encI lo d))++os
theorem jjp (w:World) (g lo m:Nat) (d:Array Int) (os:Array Obj):PutW w (grow (putRow encI (Sort.ahead w m) g lo d) os) g lo d:=⟨rfl,rfl,rfl,os,rfl⟩
theorem jjq (w:World) (g lo m:Nat) (d:Array Int):PutW w (putRow encI (Sort.ahead w m) g lo d) g lo d:=⟨rfl,rfl,rfl,#[],by simp [putRow,mapBlock,Sort.ahead]⟩
theorem PutW.grown {w w':World} {g lo:Nat} {d:Array Int} (h:PutW w w' g lo d):w.grownBy w' (some g):=by
 obtain ⟨os,hh⟩:=h.heap
 refine ⟨h.os,h.tape,h.output,by rw [hh];simp,fun k hk hne=>?_⟩
 rw [hh,zay (by simpa using hk),zbl,ze (fun e=>hne (by rw [e]))]
theorem PutW.at {w w':World} {g lo:Nat} {d:Array Int} (h:PutW w w' g lo d) {cur:Array Value} {e:TypeId} {fz:Nat × Nat} (hg:w.heap[g]?=some (.cells cur e fz)):w'.heap[g]?=some (.cells (putCells encI lo d cur) e fz):=by
 obtain ⟨os,hh⟩:=h.heap
 have hlt:=qgi hg
 rw [hh,zay (by simpa using hlt),zbl,za rfl,hg]
 rfl
theorem jjr {cur:Array Value} {lo n k:Nat} {d:Array Int} (hd:d.size=n) (hk:k≤n) (hc:lo+n≤cur.size):((putCells encI lo d cur).toList.drop lo).take (k * 1)=(d.toList.take k).map encI:=by
 apply List.ext_getElem?
 intro i
 rw [Nat.mul_one,xc]
 by_cases hi:i<k
 ·rw [za hi,xa,zm,xc,za hi,xz]
  unfold putCells
  rw [Array.getElem?_mapIdx,zbk (by omega:lo+i<cur.size),xu,za ⟨by omega,by omega⟩]
  rw [xz,zbk (by omega:i<d.size),xu,show lo+i - lo=i by omega,getElem!_pos d i (by omega)]
 ·rw [ze hi,zy (by simp;omega)]
def intF (c:List Int):Nat→List AV:=fun k=>[.int .i64 (c.getD k 0)]
theorem qye {P : Program} {f : FuncId} {fn : Func} {body : Code} (hf : P.funcs[f]? = some fn) (hb : fn.body = some body) (hname : (fn.name == "runtime.NumGoroutine") = false)
  {e:TypeId} {ep ep':Nat} (c d:List Int) (k:Nat) (hcd:d.length=c.length) (hk:k≤c.length) (hep:ep<ep'∨(ep=ep'∧k=c.length)) (als:List AV) (bs:List Value) (ha:∀ rd mp vs,RelL rd mp als vs→vs.toList=bs) (res:AV) (rv:Value→Value) (hc0:0<c.length)
  (hres:∀ (rd:Rd) (mp:Mp) (sv':Value) ,mp.row 0 0=some (sv',ep',k)→isSl sv'=true→Rel rd mp res (rv sv'))
  (h:∀ (w:World) (g lo cap:Nat),Holds encI w g lo c.toArray→g<w.heap.size→c.length≤cap→Calls P f (#[.slice (some ⟨g,lo,none⟩) c.length cap]++bs.toArray) w fun x w'=>x=.returned (rv (.slice (some ⟨g,lo,none⟩) k cap))∧PutW w w' g lo d.toArray) :
  Trip P f (.own 0 0 ep c.length::als) [.row [] e 1 ep c.length (intF c)] res [(0,.row [] e 1 ep' k (intF d))] 1:=by
 intro cx rd mp w vs hw hrd0 hstd hm hargs
 have hname' : fn.name ≠ "runtime.NumGoroutine" := by simpa using hname
 refine .inl ⟨by simp [callFunc,hf,hname',hb,mark],?_⟩
 have hmem:IsMem (idx 0 [SO.row [] e 1 ep c.length (intF c)]) 0 0 ⟨[],e,1,ep,c.length,intF c⟩:=.row rfl
 obtain ⟨v,xs,h1,h2,h3,h4,h5⟩:=hm.mb 0 0 _ hmem
 dsimp only at h1 h2 h3 h4
 obtain ⟨sv,us,rfl⟩:∃ sv us,vs=#[sv]++us:=by
  have h0:vs.toList.length=als.length+1:=by rw [zam,hargs.1];rfl
  rcases hv:vs.toList with _|⟨sv,us⟩
  ·rw [hv] at h0;simp at h0
  ·exact ⟨sv,us.toArray,by apply Array.ext';simpa using hv⟩
 have hus:RelL rd mp als us:=⟨by have:=hargs.1;simp at this;omega,fun j x u hx hu=>hargs.2 (j+1) x u (by simpa using hx) (by rw [Array.getElem?_append_right (by simp)];simpa using hu)⟩
 have hbs:=ha rd mp us hus
 have hsv:sv=v:=by
  have:=hargs.2 0 (.own 0 0 ep c.length) sv rfl (by rw [zay (by simp)];rfl)
  cases this with
  | own _ _ _ _ _ _ vr er nr hr he hn hv hs=>rw [h1] at hr;cases hr;exact hv rfl rfl
 subst hsv
 rw [show us=bs.toArray by rw [← hbs]]
 have h2':=h2
 obtain ⟨hxl,h2⟩:=h2
 rcases h2 with ⟨_,h0⟩|⟨g,lo,cap,cur,rfl,hg,hnc,hcm,hsz,htk⟩
 ·omega
 have hx:xs=c.map encI:=by
  apply List.ext_getElem?
  intro i
  by_cases hi:i<c.length
  ·obtain ⟨u,hu,_,hr⟩:=h4 i 0 (.int .i64 (c.getD i 0)) hi (by simp [intF])
   have:=jjo hr
   subst this
   rw [show i * 1+0=i by omega] at hu
   rw [hu,zm,zb hi,xk,zb hi]
   rfl
  ·rw [zy (by omega),zy (by simp;omega)]
 have hH:Holds encI w g lo c.toArray:=fun j hj=>by
  have hj':j<c.length:=by simpa using hj
  refine ⟨?_,?_⟩
  ·have hxj:xs[j]?=some (encI c.toArray[j]!):=by
    rw [hx,zm,zb hj',getElem!_pos _ j hj]
    rfl
   exact h2'.cells hxj
  ·simp [World.frozen?,hg]
 have hgl:=qgi hg
 refine (h w g lo cap hH hgl hnc).mono fun x w' ⟨he,hp⟩=>.inl ⟨_,he,rd,mp.setRow 0 0 (.slice (some ⟨g,lo,none⟩) k cap) ep' k,?_,Rd.le.refl _,?_⟩
 ·exact hres _ _ _ (by simp [Mp.setRow]) rfl
 ·have hgr:=hp.grown
  have hat:=hp.at hg
  have hown:Owns w' e 1 (.slice (some ⟨g,lo,none⟩) k cap) k ((d.take k).map encI):=by
   refine ⟨by simp;omega,.inr ⟨g,lo,cap,_,rfl,hat,by omega,hcm,by simp [putCells];omega,?_⟩⟩
   have:=jjr (cur:=cur) (lo:=lo) (n:=c.length) (k:=k) (d:=d.toArray) (by simpa using hcd) hk (by omega)
   simpa using this
  have:=hm.turnRow (w':=w') (r:=0) (i:=0) (ep:=ep') (n:=k) (f:=intF d) (ob:=none) (R:=⟨[],e,1,ep,c.length,intF c⟩) rfl trivial h1 h5 (by
    rcases hep with h|⟨h,h'⟩
    ·exact .inl h
    ·exact .inr ⟨h,.inr ⟨h'.symm,by rw [h']⟩⟩) (by simpa [Value.ownBlock] using hgr) hown (.inl rfl) (fun i hi=>rfl) (fun i j x hi hx=>by
    have hj:j=0:=by
     have:=(List.getElem?_eq_some_iff.1 hx).1
     simp [intF] at this;exact this
    subst hj
    simp only [intF,zao,Option.some.injEq] at hx
    subst hx
    refine ⟨encI (d.getD i 0),?_,rfl,.int _ _ _⟩
    rw [show i * 1+0=i by omega,zm,xc,za hi,zb (by omega:i<d.length),xk,zb (by omega:i<d.length)]
    rfl)
  refine ⟨this.1,?_⟩
  have h6:=this.2
  simpa [qo,idx,look,setSt] using h6
theorem qyf {P : Program} {f : FuncId} {fn : Func} {body : Code} (hf : P.funcs[f]? = some fn) (hb : fn.body = some body) (hname : (fn.name == "runtime.NumGoroutine") = false)
  {e:TypeId} {ep:Nat} {F:Nat→List AV} (als:List AV) (bs:List Value) (ha:∀ rd mp vs,RelL rd mp als vs→vs.toList=bs) (res:AV) (rv:Value→Value)
  (hres:∀ (rd:Rd) (mp:Mp) (sv':Value) ,mp.row 0 0=some (sv',ep,0)→isSl sv'=true→Rel rd mp res (rv sv'))
  (h:∀ (w:World) (a:Option Addr) (cap:Nat),Calls P f (#[.slice a 0 cap]++bs.toArray) w fun x w'=>x=.returned (rv (.slice a 0 cap))∧w'=w) :
  Trip P f (.own 0 0 ep 0::als) [.row [] e 1 ep 0 F] res [(0,.row [] e 1 ep 0 F)] 1:=by
 intro cx rd mp w vs hw hrd0 hstd hm hargs
 have hname' : fn.name ≠ "runtime.NumGoroutine" := by simpa using hname
 refine .inl ⟨by simp [callFunc,hf,hname',hb,mark],?_⟩
 have hmem:IsMem (idx 0 [SO.row [] e 1 ep 0 F]) 0 0 ⟨[],e,1,ep,0,F⟩:=.row rfl
 obtain ⟨v,xs,h1,h2,h3,h4,h5⟩:=hm.mb 0 0 _ hmem
 dsimp only at h1 h2 h3 h4
 obtain ⟨sv,us,rfl⟩:∃ sv us,vs=#[sv]++us:=by
  have h0:vs.toList.length=als.length+1:=by rw [zam,hargs.1];rfl
  rcases hv:vs.toList with _|⟨sv,us⟩
  ·rw [hv] at h0;simp at h0
  ·exact ⟨sv,us.toArray,by apply Array.ext';simpa using hv⟩
 have hus:RelL rd mp als us:=⟨by have:=hargs.1;simp at this;omega,fun j x u hx hu=>hargs.2 (j+1) x u (by simpa using hx) (by rw [Array.getElem?_append_right (by simp)];simpa using hu)⟩
 have hbs:=ha rd mp us hus
 have hsv:sv=v:=by
  have:=hargs.2 0 (.own 0 0 ep 0) sv rfl (by rw [zay (by simp)];rfl)
  cases this with
  | own _ _ _ _ _ _ vr er nr hr he hn hv hs=>rw [h1] at hr;cases hr;exact hv rfl rfl
 subst hsv
 rw [show us=bs.toArray by rw [← hbs]]
 have hsl:∃ a cap,sv=.slice a 0 cap:=by
  rcases h2.2 with ⟨hv,_⟩|⟨g,lo,cap,cur,hv,_⟩
  ·exact ⟨_,_,hv⟩
  ·exact ⟨_,_,hv⟩
 obtain ⟨a,cap,rfl⟩:=hsl
 exact (h w a cap).mono fun x w' ⟨he,hw'⟩=>.inl ⟨_,he,rd,mp,hres rd mp _ h1 h2.sl,Rd.le.refl _,Mp.le.refl _,by subst hw';exact hm⟩
end Go.Sx
end
section
namespace Go.Sx
open Go Go.RowKit
section
variable {c:Ctx} {rd:Rd} {mp:Mp} {st:List (Nat × SO)} {nx:Nat} {w:World}
theorem TurnR.trans {E:Env} {s s' s'':ASt} (h:TurnR E s s') (k:TurnR E s' s''):TurnR E s s'':=fun rd mp a w h1 h2=>by
 obtain ⟨rd',mp',h3,h4⟩:=h rd mp a w h1 h2
 exact k rd' mp' a w h3 h4
end
theorem jle {sl:List (Nat × AV)} {st:List (Nat × SO)} {nx:Nat} {E:Env} {B:Nat→ASt→Prop} {body:Code} {k:List Itm} (hT:∀ t,E.T t=tab E.P t) (n lvl:Nat) {G:Type} (ov:G→List (Nat × AV)) (so:G→List (Nat × SO)) (φ:G→Prop) (μ:G→Nat)
  (g0:G) (h0:φ g0) (hs0:SubSl ⟨sl,st,nx⟩ (ov g0)) (ht0:SubSt st (so g0)) (hcl:∀ g,(ASt.mk (ov g++kept sl (qew (qcj body++(ov g0).map (·.1)) (rdOf body (qev k (qfv E.fn.results.toList))) sl [])) (so g++qad st (qfw (so g0) st)) nx).closed E.nxb=true) (hmk:qfp lvl k=true)
  (round:qhb sl (qew (qcj body++(ov g0).map (·.1)) (rdOf body (qev k (qfv E.fn.results.toList))) sl []) fun kl=>je (qad st (qfw (so g0) st)) fun ks=>∀ g,φ g→exec E (fun m s'=>bif Nat.beq m lvl then ∃ g',φ g'∧(∃ s'',TurnR E s' s''∧(SubSl s'' (ov g')∧SubSt s''.st (so g'))∧(SubSl s'' kl∧SubSt s''.st ks))∧μ g' < μ g else B m s') n (.code body::.mark lvl::k) ⟨ov g++kl,so g++ks,nx⟩):qca E B body k ⟨sl,st,nx⟩:=by
 rw [qpf,jq] at round
 generalize qew (qcj body++(ov g0).map (·.1)) (rdOf body (qev k (qfv E.fn.results.toList))) sl []=keep at hcl round
 generalize qfw (so g0) st=keepS at hcl round
 unfold qca
 intro rd mp a w hs hrd hsz
 show (Code.loop body).wp E.P (QK E B k) a w
 refine wp_loop_ghost (fun m a w=>a.tmps.size=E.fn.ntmps∧∃ rd mp g,SR E.c rd mp ⟨ov g++kept sl keep,so g++qad st keepS,nx⟩ a w∧Base E rd mp∧φ g∧μ g=m) (μ g0)
  ⟨hsz,rd,_,g0,hs.sub hrd.std (s':=⟨ov g0++kept sl keep,so g0++qad st keepS,nx⟩) ⟨qin hs0 (qpg sl keep),qio ht0 (qlj st keepS)⟩ (hcl g0),hrd.sub (hcl g0),h0,rfl⟩ ?_
 rintro m a w ⟨hsz,rd,mp,g,hs,hrd,hφ,rfl⟩
 have hok:=qba (E:=E) hT n _ _ (round g hφ) rd mp a w hs hrd hsz
 refine wp_mono hok fun e a' w' hq=>?_
 have pass:QK E (fun m s'=>bif Nat.beq m lvl then ∃ g',φ g'∧(∃ s'',TurnR E s' s''∧(SubSl s'' (ov g')∧SubSt s''.st (so g'))∧(SubSl s'' (kept sl keep)∧SubSt s''.st (qad st keepS)))∧μ g' < μ g else B m s') k e a' w'→QK E B k e a' w':=
  qth (E:=E) (B:=B) lvl (fun n s hn hb=>by
   have:Nat.beq n lvl=false:=by
    cases hb':Nat.beq n lvl with
    | false=>rfl
    | true=>exact absurd (zq hb') hn
   simpa [this] using hb) k hmk e a' w'
 cases e with
 | normal=>
  obtain ⟨h1,rd',mp',s',h2,h3,h4⟩:=hq
  simp only [Nat.beq_refl,cond_true] at h4
  obtain ⟨g',hg1,⟨s'',ht,k2,k3⟩,hg3⟩:=h4
  obtain ⟨rd'',mp'',h5,h6⟩:=ht rd' mp' a' w' h2 h3
  exact ⟨μ g',hg3,h1,rd'',_,g',h5.sub h6.std (s':=⟨ov g'++kept sl keep,so g'++qad st keepS,nx⟩) ⟨qin k2.1 k3.1,qio k2.2 k3.2⟩ (hcl g'),h6.sub (hcl g'),hg1,rfl⟩
 | _=>exact pass hq
end Go.Sx
namespace Go.Sx
open Go Go.RowKit
theorem zA {full:Array Oper} {L:List (Oper × Stp)} {s0:ASt} {E:Env} {B:Nat→ASt→Prop} {n:Nat} {k:List Itm} {s:ASt} (h:exec E B n k s) (c:(qbo full L && (qck full L).isEmpty)=true:=by kernel_rfl):AltG full L s0 (EndG E B n k s):=AltG.none c (EndG.go h)
theorem zO {b:Bool} {r:Prop} (k:r) (h:b=true:=by kernel_rfl):Ob (OrdG b) r:=Ob.intro (OrdG.intro h) k
theorem zD {E:Env} {B:Nat→ASt→Prop} {id:Nat} {ops:Array Oper} {k:List Itm} {s:ASt} (n:Nat) (h:D3X E B n k ops (fun cs=>match jt E ops ops.toList cs s with|some (L,_)=>qeu ops L|none=>false) ops.toList [] s)
  (hn:(ops.toList.all fun o=>!jg o.op)=true:=by rfl) (hT:∀ t,E.T t=tab E.P t:=by exact fun _=>rfl) (hmix:E.P.follows .mixedOrders=true:=by kernel_rfl):qav E B id ops k s:=jfi hT hmix n hn h
theorem zC {sl:List (Nat × AV)} {st:List (Nat × SO)} {nx:Nat} {E:Env} {B:Nat→ASt→Prop} {f:FuncId} {args:List AV} {dst:Option Nat} {full:Array Oper} {rest:List Oper} {k:List Itm} (n:Nat) {res:AV} (hc:Con E.P f args res)
  (h:qt sl dst (fun sl'=>exec E B n (.ops full rest::k) ⟨sl',st,nx⟩) res) (hp:args.all AV.pure=true:=by rfl) (hT:∀ t,E.T t=tab E.P t:=by exact fun _=>rfl) (hd:qz E dst=true:=by kernel_rfl):qaa E B f args dst full rest k ⟨sl,st,nx⟩:=jbr hT n hc hp hd h
theorem zG {sl:List (Nat × AV)} {st:List (Nat × SO)} {nx:Nat} {E:Env} {B:Nat→ASt→Prop} {g:Bool} {f:FuncId} {args:List AV} {dst:Option Nat} {full:Array Oper} {rest:List Oper} {k:List Itm} (n:Nat) {res:AV} (hc:g=true→Con E.P f (args.map unc) res)
  (h:qt sl dst (fun sl'=>exec E B n (.ops full rest::k) ⟨sl',st,nx⟩) (.cnd g res)) (hp:(args.map unc).all AV.pure=true:=by rfl) (hgs:qes g args:=by exact qf) (hT:∀ t,E.T t=tab E.P t:=by exact fun _=>rfl) (hd:qz E dst=true:=by kernel_rfl):qcx E B g f args dst full rest k ⟨sl,st,nx⟩:=jbs hT n hc hp hgs hd h
theorem zB {b:Bool} {t e:Prop} (h:b=true→t) (k:b=false→e):Br b t e:=Br.intro h k
theorem zK {P:Program} {f:FuncId} {fn:Func} {body:Code} {args:List AV} {res:AV} (C:Cfg) (n:Nat) (hf:P.funcs[f]?=some fn) (h:∀ (c:Ctx) (rdb:Rd),exec { P:=P,T:=tab P,C:=C,fn:=fn,c:=c,rdb:=rdb,mpb:=Mp.none,nxb:=0,R:=conR res,X:=fun _ _ _=>False } (fun _ _=>False) n [.code body] ⟨qdk 0 args,[],0⟩)
  (hb : fn.body = some body := by rfl) (hname : (fn.name == "runtime.NumGoroutine") = false := by kernel_rfl) (hn : Nat.ble args.length fn.ntmps = true := by kernel_rfl) : Con P f args res := jbn n (fun _ => rfl) hf hb hname hn h
theorem zL {P:Program} {f:FuncId} {fn:Func} {body:Code} {args:List AV} {st0:List SO} {res:AV} {st1:List (Nat × SO)} {n1:Nat} (C:Cfg) (n:Nat) (hf:P.funcs[f]?=some fn) (h:∀ (c:Ctx) (rdb:Rd) (mpb:Mp),exec { P:=P,T:=tab P,C:=C,fn:=fn,c:=c,rdb:=rdb,mpb:=mpb,nxb:=st0.length,R:=qoy res st1,X:=fun _ _ _=>False } (fun _ _=>False) n [.code body] ⟨qdk 0 args,idx 0 st0,st0.length⟩)
  (hb : fn.body = some body := by rfl) (hname : (fn.name == "runtime.NumGoroutine") = false := by kernel_rfl) (hn : (Nat.ble args.length fn.ntmps && stLt n1 st1 && res.lt n1 && Nat.ble st0.length n1) = true := by kernel_rfl) : Trip P f args st0 res st1 n1 := jdt n (fun _ => rfl) hf hb hname hn h
theorem zI {p q r:Prop} (k:r) (h1:p:=by omega) (h2:q:=by omega):Ob (p∧q) r:=Ob.intro ⟨h1,h2⟩ k
theorem zQ {E:Env} {B:Nat→ASt→Prop} {id:Nat} {ops:Array Oper} {k:List Itm} {s:ASt} (n:Nat) (h:D4X E B n k ops s false ops.toList [] s) (hT:∀ t,E.T t=tab E.P t:=by exact fun _=>rfl) (hmix:E.P.follows .mixedOrders=true:=by kernel_rfl):qav E B id ops k s:=draw4 hT hmix n h
end Go.Sx
end
