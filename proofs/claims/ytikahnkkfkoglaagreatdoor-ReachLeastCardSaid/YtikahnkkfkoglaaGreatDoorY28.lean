/- Some texts of the library, one behind the other. -/
import Derived.Test.YtikahnkkfkoglaaGreatDoorY27
import Derived.Test.YtikahnkkfkoglaaGreatDoorY23
import Derived.Test.YtikahnkkfkoglaaGreatDoorY24
import Derived.Test.YtikahnkkfkoglaaGreatDoorY22
set_option linter.unusedSimpArgs false
set_option linter.unusedVariables false
section
namespace Go.Proofs.YtikahnkkfkoglaaGreatDoor
open Go Go.Sx Go.RowKit Go.St
theorem qwe:∀ u:Nat,∀ x∈Lib.decDigits u,48≤x.toNat∧x.toNat≤57:=by
 intro u
 induction u using Nat.strongRecOn with
 | _ u ih=>
  intro x hx
  rw [Lib.decDigits] at hx
  split at hx
  ·simp only [zw] at hx
   subst hx
   simp only [UInt8.toNat_ofNat']
   omega
  ·simp only [xk,zw] at hx
   rcases hx with hx|rfl
   ·exact ih (u / 10) (by omega) x hx
   ·simp only [UInt8.toNat_ofNat']
    omega
theorem jcy (u:Nat):∃ x r,Lib.decDigits u=x::r∧48≤x.toNat:=by
 have h:=qwe u
 cases e:Lib.decDigits u with
 | nil=>
  rw [Lib.decDigits] at e
  split at e <;> simp at e
 | cons x r=>exact ⟨x,r,rfl,(h x (by rw [e];exact zp ..)).1⟩
def qov (l:List UInt8):Nat:=l.foldl (fun n x=>10 * n+(x.toNat - 48)) 0
theorem qsr (u:Nat):qov (Lib.decDigits u)=u:=by
 induction u using Nat.strongRecOn with
 | _ u ih=>
  rw [Lib.decDigits]
  split
  ·simp only [qov,zbp,List.foldl_nil,UInt8.toNat_ofNat']
   omega
  ·have h:=ih (u / 10) (by omega)
   unfold qov at h ⊢
   rw [xx,h]
   simp only [zbp,List.foldl_nil,UInt8.toNat_ofNat']
   omega
theorem jcz {a b:Int} (h:Lib.itoa a=Lib.itoa b):a=b:=by
 unfold Lib.itoa at h
 split at h <;> split at h
 ·have:=congrArg qov (List.cons.inj h).2
  rw [qsr,qsr] at this
  omega
 ·obtain ⟨x,r,e,hx⟩:=jcy b.toNat
  rw [e] at h
  have:=(List.cons.inj h).1
  rw [← this] at hx
  exact absurd hx (by decide)
 ·obtain ⟨x,r,e,hx⟩:=jcy a.toNat
  rw [e] at h
  have:=(List.cons.inj h).1
  rw [this] at hx
  exact absurd hx (by decide)
 ·have:=congrArg qov h
  rw [qsr,qsr] at this
  omega
theorem qss (n:Int):∀ x∈Lib.itoa n,x≠32∧x≠59:=by
 have key:∀ x:UInt8,48≤x.toNat∧x.toNat≤57→x≠32∧x≠59:=fun x h=>by
  constructor
  ·rintro rfl
   exact absurd h.1 (by decide)
  ·rintro rfl
   exact absurd h.2 (by decide)
 intro x hx
 unfold Lib.itoa at hx
 split at hx
 ·simp only [List.mem_cons] at hx
  rcases hx with rfl|hx
  ·decide
  ·exact key x (qwe _ x hx)
 ·exact key x (qwe _ x hx)
def qwf (u:List UInt8):Prop:=∃ x r,u=x::r∧(x=32∨x=59)
theorem qwg:∀ (a b u v:List UInt8),(∀ x∈a,x≠32∧x≠59)→(∀ x∈b,x≠32∧x≠59)→qwf u→qwf v→a++u=b++v→a=b∧u=v
 | [],[],u,v,_,_,_,_,h=>⟨rfl,h⟩
 | [],y::b,u,v,_,hb,hu,_,h=>by
  obtain ⟨x,r,rfl,hx⟩:=hu
  have:=(List.cons.inj h).1
  have hy:=hb y (zp ..)
  rw [← this] at hy
  rcases hx with hx|hx
  ·exact absurd hx hy.1
  ·exact absurd hx hy.2
 | x::a,[],u,v,ha,_,_,hv,h=>by
  obtain ⟨y,r,rfl,hy⟩:=hv
  have:=(List.cons.inj h).1
  have hx:=ha x (zp ..)
  rw [this] at hx
  rcases hy with hy|hy
  ·exact absurd hy hx.1
  ·exact absurd hy hx.2
 | x::a,y::b,u,v,ha,hb,hu,hv,h=>by
  obtain ⟨h1,h2⟩:=List.cons.inj h
  obtain ⟨h3,h4⟩:=qwg a b u v (fun z hz=>ha z (zq _ hz)) (fun z hz=>hb z (zq _ hz)) hu hv h2
  exact ⟨by rw [h1,h3],h4⟩
def qjf (l:List Int):List UInt8:=(l.flatMap fun n=>32::Lib.itoa n)++[59]
theorem qow (n:Int) (l:List Int) (u:List UInt8):qjf (n::l)++u=32::(Lib.itoa n++(qjf l++u)):=by
 simp [qjf]
theorem qst (l:List Int) (u:List UInt8):qwf (qjf l++u):=by
 cases l with
 | nil=>exact ⟨59,u,rfl,Or.inr rfl⟩
 | cons n l=>exact ⟨32,_,qow n l u,Or.inl rfl⟩
theorem jda:∀ (a b:List Int) (u v:List UInt8),qjf a++u=qjf b++v→a=b∧u=v
 | [],[],u,v,h=>⟨rfl,(List.cons.inj h).2⟩
 | [],y::b,u,v,h=>by
  rw [qow] at h
  exact absurd (List.cons.inj h).1 (by decide)
 | x::a,[],u,v,h=>by
  rw [qow] at h
  exact absurd (List.cons.inj h).1 (by decide)
 | x::a,y::b,u,v,h=>by
  rw [qow,qow] at h
  obtain ⟨h1,h2⟩:=qwg _ _ _ _ (qss x) (qss y) (qst a u) (qst b v) (List.cons.inj h).2
  obtain ⟨h3,h4⟩:=jda a b u v h2
  exact ⟨by rw [jcz h1,h3],h4⟩
theorem qwh (a b:List Int) (u v:List UInt8) (h:qcc a++u=qcc b++v):a=b∧u=v:=by
 have e:∀ (l:List Int) (w:List UInt8),qcc l++w=Lib.itoa l.length++(qjf l++w):=fun l w=>by simp [qcc,qjf]
 rw [e,e] at h
 exact jda a b u v (qwg _ _ _ _ (qss _) (qss _) (qst a u) (qst b v) h).2
theorem jdb:∀ (a b:List (List Int)) (u v:List UInt8),a.length=b.length→a.flatMap qcc++u=b.flatMap qcc++v→a=b∧u=v
 | [],[],u,v,_,h=>⟨rfl,h⟩
 | [],y::b,_,_,hl,_=>by simp at hl
 | x::a,[],_,_,hl,_=>by simp at hl
 | x::a,y::b,u,v,hl,h=>by
  rw [List.flatMap_cons,List.flatMap_cons,zn,zn] at h
  obtain ⟨h1,h2⟩:=qwh x y _ _ h
  obtain ⟨h3,h4⟩:=jdb a b u v (by simpa using hl) h2
  exact ⟨by rw [h1,h3],h4⟩
theorem jqm {s t:Stt} (hl:s.chans.length=t.chans.length) (h:keyT s=keyT t):s=t:=by
 unfold keyT at h
 simp only [zn] at h
 obtain ⟨h1,h⟩:=qwh _ _ _ _ h
 obtain ⟨h2,h⟩:=qwh _ _ _ _ h
 obtain ⟨h3,h⟩:=jdb _ _ _ _ hl h
 have h4:=jcz h
 cases s;cases t
 simp only at h1 h2 h3 h4
 subst h1;subst h2;subst h3;subst h4
 rfl
theorem jqn {s t:Stt} (hl:s.chans.length=t.chans.length):(keyT s == keyT t)=qeo s t:=by
 by_cases h:s=t
 ·subst h
  simp [qeo]
 ·have h1:keyT s≠keyT t:=fun e=>h (jqm hl e)
  have h2:¬ qeo s t=true:=fun e=>by
   unfold qeo at e
   simp only [zf,xu,xd] at e
   apply h
   cases s;cases t
   simp_all
  rw [beq_eq_false_iff_ne.2 h1]
  cases hs:qeo s t
  ·rfl
  ·exact absurd hs h2
end Go.Proofs.YtikahnkkfkoglaaGreatDoor
end
section
namespace Go.St
open Go Go.Sx
theorem jqo {n n' w:Int} (h:n % 2 ^ wid w=n' % 2 ^ wid w):trim n w=trim n' w:=by
 unfold trim;rw [h]
theorem qwi (n w:Int):trim (trim n w) w=trim n w:=by
 refine jqo ?_
 have h2:=qgy (wid w) (qgx w).2
 have h3:=Int.emod_nonneg n (b:=2 ^ wid w) (by omega)
 have h4:=Int.emod_lt_of_pos n (b:=2 ^ wid w) (by omega)
 unfold trim
 split
 ·rw [Int.sub_emod_right];exact Int.emod_eq_of_lt h3 h4
 ·exact Int.emod_eq_of_lt h3 h4
structure Mv where
 kind:Int:=0
 proc:Int:=0
 edge:Int:=0
 chn:Int:=0
deriving DecidableEq
def Mv.cells (v:Mv):List AV:=[iv v.kind,iv v.proc,iv v.edge,iv v.chn]
def Mv.av (v:Mv):AV:=.agg v.cells
def qox (l:List Mv):AV:=slcL Mv.cells {} 4 l
def qlen (s:Stt) (c:Int):Int:=(s.chans.getD c.toNat []).length
def room (m:Md) (c:Int):Int:=(m.chans.getD c.toNat ch0).room
def canB (m:Md) (s:Stt) (p:Nat) (e:Ed):Bool:=
  (s.at_.getD p 0 == e.frm) && (decide (e.expr<0) || (val m p s e.expr).2) &&
  (if e.act=2 then decide (qlen s e.chn<room m e.chn)
   else if e.act=3 then decide (0<qlen s e.chn)
   else if e.act=4 then !((if e.expr<0 then 0 else (val m p s e.expr).1) == 0)
   else if e.act=5 then (if e.expr<0 then 0 else (val m p s e.expr).1) == 0
   else true)
def qo (m:Md) (p:Nat):List Ed:=(m.procs.getD p pr0).edges
def qhy (m:Md) (s:Stt) (p:Nat):List Mv:=((List.range (qo m p).length).filter fun i=>canB m s p ((qo m p).getD i ed0)).map fun (i:Nat)=>⟨0,p,i,0⟩
def qkw (m:Md) (s:Stt) (c:Nat):Bool:=(m.chans.getD c ch0).lossy && decide (0<qlen s c)
def qjg (m:Md) (s:Stt) (c:Nat):Bool:=(m.chans.getD c ch0).copying && decide (0<qlen s c) && decide (qlen s c<room m c)
def qep (m:Md) (s:Stt) (c:Nat):List Mv:=(if qkw m s c=true then [⟨1,0,0,c⟩] else [])++(if qjg m s c=true then [⟨2,0,0,c⟩] else [])
def qp (m:Md) (s:Stt):List Mv:=
 (List.range m.procs.length).flatMap (fun (p:Nat)=>if s.holder≠-1∧s.holder≠p then [] else qhy m s p) ++
 (if s.holder=-1 then (List.range m.chans.length).flatMap (qep m s) else [])
def qoy (m:Md) (s:Stt) (p:Nat):Bool:=(qo m p).any (canB m s p)
def qt (m:Md) (s:Stt) (p:Nat) (e:Ed):Stt:=
 let n:=if e.expr<0 then 0 else (val m p s e.expr).1
 let a:={ s with at_:=s.at_.set p e.to,holder:=-1 }
 if e.act=1 then { a with vars:=s.vars.set e.var.toNat (trim n (m.vars.getD e.var.toNat vr0).width) }
 else if e.act=2 then { a with chans:=s.chans.set e.chn.toNat (s.chans.getD e.chn.toNat []++[trim n (m.chans.getD e.chn.toNat ch0).width]) }
 else if e.act=3 then { a with vars:=s.vars.set e.var.toNat (trim ((s.chans.getD e.chn.toNat []).getD 0 0) (m.vars.getD e.var.toNat vr0).width),chans:=s.chans.set e.chn.toNat ((s.chans.getD e.chn.toNat []).drop 1) }
 else a
def qeq (m:Md) (s:Stt) (p:Nat) (e:Ed):Stt:=
 { qt m s p e with holder:=if e.keep=true∧qoy m (qt m s p e) p=true then (p:Int) else -1 }
def jg (m:Md) (s:Stt) (v:Mv):Stt:=
 if v.kind=1 then { s with chans:=s.chans.set v.chn.toNat ((s.chans.getD v.chn.toNat []).drop 1),holder:=-1 }
 else if v.kind=2 then { s with chans:=s.chans.set v.chn.toNat (s.chans.getD v.chn.toNat []++[(s.chans.getD v.chn.toNat []).getD 0 0]),holder:=-1 }
 else qeq m s v.proc.toNat ((qo m v.proc.toNat).getD v.edge.toNat ed0)
def qwj (m:Md) (s:Stt):Bool:=(List.range m.procs.length).all fun p=>(m.procs.getD p pr0).rest.getD (s.at_.getD p 0).toNat false
def qoz (m:Md) (s:Stt):Bool:=(qp m s).isEmpty && !qwj m s
def badB (m:Md) (s:Stt):Bool:=!qmd m s || m.dead && qoz m s
def walkL (w:Int→Int × Bool) (len:Int):List Int→Int→Int × Bool
 | [],next=>(next,true)
 | k::ks,next=>if k≠next∨len≤next then (next,false) else if (w next).2=false then ((w next).1,false) else walkL w len ks (w next).1
def walkF (l:List Nd):Nat→Int→Int × Bool
 | 0,at_=>(at_,false)
 | f+1,at_=>walkL (walkF l f) l.length (l.getD at_.toNat nd0).kids (at_+1)
theorem qff (l:List Nd) (w:Int→Int × Bool)
  (hw:∀ a n,0≤a→w a=(n,true)→(a<n∧(a<l.length→n≤l.length))∧∀ j:Nat,a≤j→(j:Int)<n→∀ k∈(l.getD j nd0).kids,(j:Int)<k∧k<n) :
  ∀ (ks:List Int) (next n:Int),0≤next→walkL w l.length ks next=(n,true)→
   (next≤n∧(next≤l.length→n≤l.length))∧(∀ k∈ks,next≤k∧k<n)∧∀ j:Nat,next≤j→(j:Int)<n→∀ k∈(l.getD j nd0).kids,(j:Int)<k∧k<n
 | [],next,n,_,h=>by
  simp only [walkL,Prod.mk.injEq,and_true] at h
  subst h
  exact ⟨⟨xb _,id⟩,(fun k hk=>by cases hk),fun j h1 h2=>by omega⟩
 | k::ks,next,n,h0,h=>by
  rw [walkL] at h
  split at h
  ·simp at h
  ·rename_i hk
   split at h
   ·simp at h
   ·rename_i hb
    have hwn:w next=((w next).1,true):=by
     cases hx:w next with
     | mk a b=>rw [hx] at hb;cases b <;> simp_all
    obtain ⟨h1,h2⟩:=hw next _ h0 hwn
    have hk1:k=next∧next<l.length:=by omega
    obtain ⟨h3,h4,h5⟩:=qff l w hw ks (w next).1 n (by omega) h
    refine ⟨⟨by omega,fun _=>h3.2 (h1.2 hk1.2)⟩,fun q hq=>?_,fun j hj1 hj2 q hq=>?_⟩
    ·rcases List.mem_cons.1 hq with rfl|hq
     ·omega
     ·have:=h4 q hq;omega
    ·by_cases hj:(j:Int)<(w next).1
     ·have:=h2 j hj1 hj q hq;omega
     ·exact h5 j (by omega) hj2 q hq
theorem qaj (l:List Nd):∀ (f:Nat) (a n:Int),0≤a→walkF l f a=(n,true)→(a<n∧(a<l.length→n≤l.length))∧∀ j:Nat,a≤j→(j:Int)<n→∀ k∈(l.getD j nd0).kids,(j:Int)<k∧k<n
 | 0,a,n,_,h=>by simp [walkF] at h
 | f+1,a,n,h0,h=>by
  rw [walkF] at h
  obtain ⟨h1,h2,h3⟩:=qff l (walkF l f) (qaj l f) _ _ n (by omega) h
  refine ⟨⟨by omega,fun ha=>h1.2 (by omega)⟩,fun j hj1 hj2 k hk=>?_⟩
  by_cases hj:(j:Int)=a
  ·have:a.toNat=j:=by omega
   rw [this] at h2
   have:=h2 k hk
   omega
  ·exact h3 j (by omega) hj2 k hk
theorem jdc (w:Int→Int × Bool) (len:Int) (hw:∀ a,0≤a→a≤(w a).1):∀ (ks:List Int) (next:Int),0≤next→next≤(walkL w len ks next).1
 | [],next,_=>xb _
 | k::ks,next,h=>by
  rw [walkL]
  have:=hw next h
  split
  ·exact xb _
  split
  ·exact this
  ·have:=jdc w len hw ks (w next).1 (by omega);omega
theorem jdd (l:List Nd):∀ (f:Nat) (a:Int),0≤a→a≤(walkF l f a).1
 | 0,a,_=>xb _
 | f+1,a,h=>by
  rw [walkF]
  have:=jdc (walkF l f) l.length (jdd l f) (l.getD a.toNat nd0).kids (a+1) (by omega)
  omega
theorem qgz {α:Type} (l:List α) (i:Nat) (d:α) (h:i<l.length):l.drop i=l.getD i d::l.drop (i+1):=by
 rw [zaz h,List.getD_eq_getElem?_getD,ze h];rfl
def qfx (l:List Nd):Bool:=
 !(decide (l.length=0) || decide (800<l.length) || (l.getD 0 nd0).kind != 0) && ((walkF l 20 0).2 && (walkF l 20 0).1 == l.length) && l.all (nodeB l)
structure TreeOk (l:List Nd):Prop where
 len:1≤l.length∧l.length≤800
 root:(l.getD 0 nd0).kind=0
 kids:∀ j:Nat,j<l.length→∀ k∈(l.getD j nd0).kids,(j:Int)<k∧k<l.length
 node:∀ j:Nat,j<l.length→nodeB l (l.getD j nd0)=true
theorem jqp {l:List Nd} (h:qfx l=true):TreeOk l:=by
 unfold qfx at h
 simp only [zf,zah,xq,decide_eq_false_iff_not,bne_eq_false_iff_eq,xu] at h
 obtain ⟨⟨⟨⟨h1,h2⟩,h3⟩,h4,h5⟩,h6⟩:=h
 have hw:walkF l 20 0=((l.length:Int),true):=by rw [← h5];exact Prod.ext rfl h4
 obtain ⟨_,hk⟩:=qaj l 20 0 _ (xb _) hw
 exact ⟨by omega,h3,fun j hj k hkk=>hk j (by omega) (by omega) k hkk,fun j hj=>(qmc _ _ nd0).1 h6 j hj⟩
def qv (l:List Nd) (i:Int):Int:=(l.getD i.toNat nd0).kind
def qbf (at_:Int):List Int→Int→Int
 | [],o=>o
 | k::r,o=>qbf at_ r (if k≤at_ then k else o)
def itemF (l:List Nd) (at_:Int):Int:=qbf at_ (l.getD 0 nd0).kids 0
def inF (l:List (List UInt8)) (s:List UInt8):Bool:=l.any (· == s)
def qfy (n:Nd):List UInt8:=n.words.getD 0 []
def qpa (l:List Nd) (item kind:Int) (out:List (List UInt8)) (i:Nat):List (List UInt8):=
 if (l.getD i nd0).kind=kind then
  (if (itemF l i == (i:Int) || itemF l i == item)=true then (if inF out (qfy (l.getD i nd0))=true then out else out++[qfy (l.getD i nd0)]) else out)
 else out
def qfz (l:List Nd) (item kind:Int) (i:Nat):List (List UInt8):=(List.range i).foldl (qpa l item kind) []
def qdk (l:List Nd) (at_:Int) (kind:Int):List (List UInt8):=qfz l (itemF l at_) kind at_.toNat
def badF (l:List Nd) (i:Nat):Bool:=
 if (l.getD i nd0).kind=1∨(l.getD i nd0).kind=2∨(l.getD i nd0).kind=3 then
  inF (qdk l i 1) (qfy (l.getD i nd0)) || inF (qdk l i 2) (qfy (l.getD i nd0)) || inF (qdk l i 3) (qfy (l.getD i nd0))
 else if (l.getD i nd0).kind=6∨(l.getD i nd0).kind=18 then !inF (qdk l i 2) (qfy (l.getD i nd0))
 else if (l.getD i nd0).kind=7∨(l.getD i nd0).kind=19 then !inF (qdk l i 1) (qfy (l.getD i nd0))
 else if (l.getD i nd0).kind=8 then !inF (qdk l i 1) (qfy (l.getD i nd0)) || !inF (qdk l i 2) ((l.getD i nd0).words.getD 1 [])
 else false
def qhz (l:List Nd):Int × Int:=if Go.St.idx (badF l) (List.range l.length)<0 then (0,0) else (20,(l.getD (Go.St.idx (badF l) (List.range l.length)).toNat nd0).at_)
def qga (l:List Nd) (at_:Int):Int:=if qv l (itemF l at_)=3 then (l.getD (itemF l at_).toNat nd0).nums.getD 0 0 else 1
def qia (l:List Nd) (kind:Int) (n:Int) (i:Nat):Int:=
 if n<100 then (if (l.getD i nd0).kind=kind then (if kind=1 then n+1 else n+min (qga l i) 100) else n) else n
def sumF (l:List Nd) (kind:Int) (i:Nat):Int:=(List.range i).foldl (qia l kind) 0
def qpb (l:List Nd) (at_:Int):Nat→Int→Bool
 | 0,_=>false
 | f+1,a=>(l.getD a.toNat nd0).kids.any fun k=>k == at_ || qpb l at_ f k
def qbn (l:List Nd) (i:Nat):Int:=
 if (l.getD i nd0).kind=1 then
  (if ((l.getD i nd0).nums.getD 0 0<1∨3<(l.getD i nd0).nums.getD 0 0)∨((l.getD i nd0).nums.getD 1 0<1∨8<(l.getD i nd0).nums.getD 1 0)∨3<sumF l 1 (i+1) then 22 else 0)
 else if (l.getD i nd0).kind=2 then
  (if ((l.getD i nd0).nums.getD 0 0<1∨8<(l.getD i nd0).nums.getD 0 0)∨trim ((l.getD i nd0).nums.getD 1 0) ((l.getD i nd0).nums.getD 0 0)≠(l.getD i nd0).nums.getD 1 0∨8<sumF l 2 (i+1) then 22 else 0)
 else if (l.getD i nd0).kind=3 then (if (l.getD i nd0).nums.getD 0 0<1∨4<sumF l 3 (i+1) then 22 else 0)
 else if (l.getD i nd0).kind=13 then (if ((List.range i).any fun j=>(l.getD j nd0).kind == 13 && qpb l i l.length j)=true then 21 else 0)
 else if (l.getD i nd0).kind=17 then (if 127<(l.getD i nd0).nums.getD 0 0 then 22 else 0)
 else 0
def qcg (l:List Nd):Int × Int:=
 if (qhz l).1≠0 then qhz l
 else if Go.St.idx (fun i=>qbn l i != 0) (List.range l.length)<0 then (0,0)
 else (qbn l (Go.St.idx (fun i=>qbn l i != 0) (List.range l.length)).toNat,(l.getD (Go.St.idx (fun i=>qbn l i != 0) (List.range l.length)).toNat nd0).at_)
def qg (p:Pr):Pr:={ p with places:=p.places+1,rest:=p.rest++[false] }
def putF (p:Pr) (frm to act node expr v c:Int):Pr:={ p with edges:=p.edges++[⟨frm,to,act,expr,v,c,false,node⟩] }
def qcm (l:List (List UInt8)) (s:List UInt8):Int:=if Go.St.idx (· == s) l<0 then 0 else Go.St.idx (· == s) l
def qad (p:Pr) (at_ idle:Int):Pr:={ p with rest:=if idle=1 then p.rest.set at_.toNat true else p.rest }
def qfg (l:List Ch) (s:List UInt8):Int:=if Go.St.idx (fun c:Ch=>c.name == s) l<0 then 0 else Go.St.idx (fun c:Ch=>c.name == s) l
def qbj (st:Pr→Int→Int→Int→Pr) (node:Int):Pr→List Int→Int→Int→Pr
 | p,[],frm,to=>putF p frm to 0 node (-1) (-1) (-1)
 | p,[k],frm,to=>st p k frm to
 | p,k::k'::r,frm,to=>qbj st node (st (qg p) k frm p.places) (k'::r) p.places to
def qib (l:List Nd) (blk:Pr→Int→Int→Int→Pr) (frm to:Int) (p:Pr) (k:Int):Pr:=
 if (l.getD k.toNat nd0).kids.length≠0∧qv l ((l.getD k.toNat nd0).kids.getD 0 0)=12 then
  blk (putF (qg p) frm p.places 0 k (-1) (-1) (-1)) k p.places to
 else blk p k frm to
def qer (to:Int) (e:Ed):Ed:={ e with keep:=e.to != to && e.to != 1 }
def qe (l:List Nd) (cs:List Ch):Nat→Pr→Int→Int→Int→Pr
  | 0,p,_,_,_=>p
  | f+1,p,a,frm,to=>
    let n:=l.getD a.toNat nd0
    let blk:=fun (p:Pr) (b frm to:Int)=>qbj (qe l cs f) b p (l.getD b.toNat nd0).kids frm to
    if n.kind=6 then putF p frm to 1 a (n.kids.getD 0 0) (p.vars.getD (qcm p.names (n.words.getD 0 [])).toNat 0) (-1)
    else if n.kind=7 then putF p frm to 2 a (n.kids.getD 0 0) (-1) (qfg cs (n.words.getD 0 []))
    else if n.kind=8 then putF (qad p frm (n.nums.getD 0 0)) frm to 3 a (-1) (p.vars.getD (qcm p.names (n.words.getD 1 [])).toNat 0) (qfg cs (n.words.getD 0 []))
    else if n.kind=9 then putF (qad p frm (n.nums.getD 0 0)) frm to 4 a (n.kids.getD 0 0) (-1) (-1)
    else if n.kind=10 then n.kids.foldl (qib l blk frm to) (qad p frm (n.nums.getD 0 0))
    else if n.kind=11 then
      (let q:=blk (putF (qg p) frm p.places 4 a (n.kids.getD 0 0) (-1) (-1)) (n.kids.getD 1 0) p.places to
       if n.kids.length=2 then putF q frm to 5 a (n.kids.getD 0 0) (-1) (-1)
       else blk (putF (qg q) frm q.places 5 a (n.kids.getD 0 0) (-1) (-1)) (n.kids.getD 2 0) q.places to)
    else if n.kind=12 then blk (putF (putF (qg p) frm p.places 4 a (n.kids.getD 0 0) (-1) (-1)) frm to 5 a (n.kids.getD 0 0) (-1) (-1)) (n.kids.getD 1 0) p.places frm
    else if n.kind=13 then
      (let q:=blk p (n.kids.getD 0 0) frm to
       { q with edges:=q.edges.take p.edges.length++(q.edges.drop p.edges.length).map (qer to) })
    else if n.kind=15 then putF p frm 1 0 a (-1) (-1) (-1)
    else putF p frm to 0 a (-1) (-1) (-1)
def qha (l:List Nd) (m:Md) (k:Int):Md:=
 let n:=l.getD k.toNat nd0
 if n.kind=1 then { m with chans:=m.chans++[⟨n.words.getD 0 [],n.nums.getD 0 0,n.nums.getD 1 0,n.nums.getD 2 0 == 1,n.nums.getD 3 0 == 1⟩] }
 else if n.kind=2 then { m with vars:=m.vars++[⟨n.words.getD 0 [],n.nums.getD 0 0,n.nums.getD 1 0⟩] }
 else if n.kind=4 then { m with safe:=m.safe++[n.kids.getD 0 0] }
 else if n.kind=5 then { m with dead:=true }
 else m
def qee (l:List Nd) (x:Pr × List Vr) (k:Int):Pr × List Vr:=
 let n:=l.getD k.toNat nd0
 ({ x.1 with locals:=x.1.locals++[(x.2.length:Int)],names:=x.1.names++[n.words.getD 0 []],vars:=x.1.vars++[(x.2.length:Int)] },x.2++[⟨n.words.getD 0 [],n.nums.getD 0 0,n.nums.getD 1 0⟩])
def qkx (l:List Nd) (vs:List Vr) (seen:Nat) (k c:Int):Pr:=
 { name:=(l.getD k.toNat nd0).words.getD 0 [],copy:=c,places:=2,rest:=[false,true],names:=(vs.take seen).map (·.name),vars:=(List.range seen).map fun (i:Nat)=>(i:Int),edges:=[] }
def qdq (l:List Nd) (cs:List Ch) (k:Int) (seen:Nat) (x:List Vr × List Pr) (c:Nat):List Vr × List Pr:=
 let n:=l.getD k.toNat nd0
 let y:=(n.kids.take (varsN l n)).foldl (qee l) (qkx l x.1 seen k c,x.1)
 (y.2,x.2++[qbj (qe l cs 20) k y.1 (n.kids.drop (varsN l n)) 0 1])
def qcv (l:List Nd) (cs:List Ch) (x:Nat × List Vr × List Pr) (k:Int):Nat × List Vr × List Pr:=
 let n:=l.getD k.toNat nd0
 let seen:=if n.kind=2 then x.1+1 else x.1
 (seen,if n.kind=3 then (List.range (n.nums.getD 0 0).toNat).foldl (qdq l cs k seen) x.2 else x.2)
def qcw (l:List Nd):Md:=(l.getD 0 nd0).kids.foldl (qha l) { tree:=l }
def qfh (l:List Nd):Md:=
 let m:=qcw l
 let y:=(l.getD 0 nd0).kids.foldl (qcv l m.chans) (0,m.vars,[])
 { m with globals:=m.vars.length,vars:=y.2.1,procs:=y.2.2 }
end Go.St
end
