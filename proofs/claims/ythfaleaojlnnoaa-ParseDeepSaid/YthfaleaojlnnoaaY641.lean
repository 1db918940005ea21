/- Some texts of the library, one behind the other. -/
import Derived.Test.YthfaleaojlnnoaaY636
import Derived.Test.YthfaleaojlnnoaaY617
import Derived.Test.YthfaleaojlnnoaaY62
set_option linter.unusedSimpArgs false
set_option linter.unusedVariables false
section
namespace Go.Proofs.Ythfaleaojlnnoaa
namespace Pa
open Go Go.Sx
theorem qrp {f:Ps→Tr × Ps} {c:Ps→Bool} {sg:Ps→Int} {a:Tr} {p:Ps} (h:c p=false):∀ n,jv f c sg n a p=(a,p)
 | 0=>by rw [jv]
 | n+1=>by rw [jv,za (by rw [h];decide)]
theorem qrq {ts:List Lx.Tok} {part:Ps→Tr × Ps} {p:Ps} (h:∀ s∈[qbg,qlj,sPct,qli,qaj,sLt,sEq2,qhg,sOr2],sees ts (part p).2 s=false):qal ts part p=part p:=by
 have h1:qco ts part p=part p:=by
  unfold qco
  exact qrp (by unfold qdn;rw [h _ (by simp),h _ (by simp),h _ (by simp)];rfl) _
 have h2:sumF ts part p=part p:=by
  unfold sumF
  rw [h1]
  exact qrp (by unfold sumC;rw [h _ (by simp),h _ (by simp)];rfl) _
 have h3:qck ts part p=part p:=by
  unfold qck qgp
  rw [h2,za (by rw [h _ (by simp)];decide)]
 have h4:qcy ts part p=part p:=by
  unfold qcy qgp
  rw [h3,za (by rw [h _ (by simp)];decide)]
 have h5:andF ts part p=part p:=by
  unfold andF
  rw [h4]
  exact qrp (h _ (by simp)) _
 unfold qal
 rw [h5]
 exact qrp (h _ (by simp)) _
structure DeepT (ts:List Lx.Tok) (n:Nat):Prop where
 safe:(ts.getD 0 Lx.tok0).kind=0∧(ts.getD 0 Lx.tok0).s=kSafe
 lp:∀ i,i<n→(ts.getD (1+i) Lx.tok0).kind=2∧(ts.getD (1+i) Lx.tok0).s=sLp
 one:(ts.getD (n+1) Lx.tok0).kind=1
 rp:∀ i,i<n→(ts.getD (n+2+i) Lx.tok0).kind=2∧(ts.getD (n+2+i) Lx.tok0).s=sRp
 semi:(ts.getD (2 * n+2) Lx.tok0).kind=2∧(ts.getD (2 * n+2) Lx.tok0).s=sSemi
 fin:(ts.getD (2 * n+3) Lx.tok0).kind=3
 len:ts.length=2 * n+4
theorem qmj {ts:List Lx.Tok} {i:Nat} {d e f:Int}:tk ts ⟨(i:Int),d,e,f⟩=ts.getD i Lx.tok0:=rfl
theorem qoj {ts:List Lx.Tok} {i:Nat} {d f:Int} {s:List UInt8} (h:(ts.getD i Lx.tok0).kind=2∧(ts.getD i Lx.tok0).s=s) (t:List UInt8):sees ts ⟨(i:Int),d,0,f⟩ t=(s == t):=by
 unfold sees qlk
 rw [qmj,h.1,h.2]
 cases hb:s == t <;> rfl
theorem jqn {ts:List Lx.Tok} {i:Nat} {d f:Int} {s:List UInt8} (h:(ts.getD i Lx.tok0).kind=0∧(ts.getD i Lx.tok0).s=s) (t:List UInt8):sees ts ⟨(i:Int),d,0,f⟩ t=(s == t && Go.St.keyF t):=by
 unfold sees qlk
 rw [qmj,h.1,h.2]
 cases hb:s == t <;> rfl
section
variable {ts:List Lx.Tok} {n:Nat} (D:DeepT ts n)
include D
theorem jdj:∀ (j f:Nat) (d a:Int),j≤n→j<f→d≤200→
  (d+j≤200→∃ ns b g,qo ts f ⟨((n+1 - j:Nat):Int),d,0,a⟩=(.mk 17 [] ns b [],⟨((n+2+j:Nat):Int),d,0,g⟩)) ∧
  (200<d+j→(qo ts f ⟨((n+1 - j:Nat):Int),d,0,a⟩).2.err=12)
 | 0,0,d,a,hj,hf,hd=>by omega
 | 0,f+1,d,a,hj,hf,hd=>by
  refine ⟨fun _=>?_,fun h=>by exfalso;omega⟩
  unfold qo
  simp only [qmj,Nat.sub_zero,D.one]
  have e:numP ts ⟨((n+1:Nat):Int),d,0,a⟩=⟨((n+2:Nat):Int),d,0,a⟩:=by
   unfold numP qcu
   rw [qmj,D.one]
   show adv _=_
   unfold adv
   rw [Ps.mk.injEq]
   exact ⟨by simp only;omega,rfl,rfl,rfl⟩
  exact ⟨_,_,_,by rw [zb (by first|exact ⟨trivial,rfl⟩|exact ⟨trivial,trivial⟩),e]⟩
 | j+1,0,d,a,hj,hf,hd=>by omega
 | j+1,f+1,d,a,hj,hf,hd=>by
  have hlp:=D.lp (n - (j+1)) (by omega)
  rw [show 1+(n - (j+1))=n+1 - (j+1) by omega] at hlp
  have hs:=fun t=>qoj (d:=d) (f:=a) hlp t
  have e1:adv ⟨((n+1 - (j+1):Nat):Int),d,0,a⟩=(⟨((n+1 - j:Nat):Int),d,0,a⟩:Ps):=by
   unfold adv
   rw [Ps.mk.injEq]
   exact ⟨by simp only;omega,rfl,rfl,rfl⟩
  have hk:¬ ((⟨((n+1 - (j+1):Nat):Int),d,0,a⟩:Ps).err=0∧(tk ts ⟨((n+1 - (j+1):Nat):Int),d,0,a⟩).kind=1):=fun h=>by
   have:=h.2
   rw [qmj,hlp.1] at this
   cases this
  have c2:¬ sees ts ⟨((n+1 - (j+1):Nat):Int),d,0,a⟩ kLen=true:=by rw [hs];decide
  have c3:¬ (sees ts ⟨((n+1 - (j+1):Nat):Int),d,0,a⟩ qaj=true∨sees ts ⟨((n+1 - (j+1):Nat):Int),d,0,a⟩ qgo=true):=by rw [hs,hs];decide
  have c4:sees ts ⟨((n+1 - (j+1):Nat):Int),d,0,a⟩ sLp=true:=by rw [hs];decide
  have eP:qo ts (f+1) ⟨((n+1 - (j+1):Nat):Int),d,0,a⟩=((if (inP ts ⟨((n+1 - j:Nat):Int),d,0,a⟩).err=0 then (qal ts (qo ts f) (inP ts ⟨((n+1 - j:Nat):Int),d,0,a⟩)).1 else .mk 17 [] [] (tk ts ⟨((n+1 - (j+1):Nat):Int),d,0,a⟩).pos []),
    must ts (outP (if (inP ts ⟨((n+1 - j:Nat):Int),d,0,a⟩).err=0 then (qal ts (qo ts f) (inP ts ⟨((n+1 - j:Nat):Int),d,0,a⟩)).2 else inP ts ⟨((n+1 - j:Nat):Int),d,0,a⟩)) sRp):=by
   rw [qo]
   have hk':¬ (True∧(tk ts ⟨((n+1 - (j+1):Nat):Int),d,0,a⟩).kind=1):=fun h=>hk ⟨rfl,h.2⟩
   simp only [za hk',za c2,za c3,zb c4,e1]
  by_cases h2:200<d+1
  ·refine ⟨fun h=>by exfalso;omega,fun _=>?_⟩
   have ei:(inP ts ⟨((n+1 - j:Nat):Int),d,0,a⟩).err=12:=by
    unfold inP
    rw [zb h2]
    rfl
   rw [eP]
   simp only [ei]
   have hne:¬ (12:Int)=0:=by decide
   simp only [za hne]
   unfold must
   have hs0:¬ sees ts (outP (inP ts ⟨((n+1 - j:Nat):Int),d,0,a⟩)) sRp=true:=by
    rw [qgq (show (outP (inP ts ⟨((n+1 - j:Nat):Int),d,0,a⟩)).err≠0 by show (inP ts _).err≠0;rw [ei];decide)]
    decide
   rw [za hs0]
   unfold bad
   rw [za (show ¬ (outP (inP ts ⟨((n+1 - j:Nat):Int),d,0,a⟩)).err=0 by show ¬ (inP ts _).err=0;rw [ei];decide)]
   exact ei
  ·have ei:inP ts ⟨((n+1 - j:Nat):Int),d,0,a⟩=⟨((n+1 - j:Nat):Int),d+1,0,a⟩:=by
    unfold inP
    rw [za h2]
   rw [ei] at eP
   simp only [if_true] at eP
   obtain ⟨g1,g2⟩:=jdj j f (d+1) a (by omega) (by omega) (by omega)
   constructor
   ·intro h
    obtain ⟨ns,b,g,hg⟩:=g1 (by omega)
    have hrp:=D.rp j (by omega)
    have hst:qal ts (qo ts f) ⟨((n+1 - j:Nat):Int),d+1,0,a⟩=qo ts f ⟨((n+1 - j:Nat):Int),d+1,0,a⟩:=qrq (by
     rw [hg]
     intro s hm
     rw [qoj hrp]
     revert s
     decide)
    rw [hst,hg] at eP
    rw [eP]
    refine ⟨ns,b,g,?_⟩
    have em:must ts (outP ⟨((n+2+j:Nat):Int),d+1,0,g⟩) sRp=⟨((n+2+(j+1):Nat):Int),d,0,g⟩:=by
     unfold outP must
     simp only [Int.add_sub_cancel]
     rw [zb (by rw [qoj hrp];decide)]
     unfold adv
     rw [Ps.mk.injEq]
     exact ⟨by simp only;omega,rfl,rfl,rfl⟩
    rw [em]
   ·intro h
    have hg:=g2 (by omega)
    have hst:qal ts (qo ts f) ⟨((n+1 - j:Nat):Int),d+1,0,a⟩=qo ts f ⟨((n+1 - j:Nat):Int),d+1,0,a⟩:=qrq (fun s _=>qgq (by rw [hg];decide))
    rw [hst] at eP
    rw [eP]
    generalize qo ts f ⟨((n+1 - j:Nat):Int),d+1,0,a⟩=R at hg
    have ho:(outP R.2).err=12:=hg
    unfold must
    rw [qgq (by rw [ho];decide),za (by decide)]
    unfold bad
    rw [za (by rw [ho];decide)]
    exact ho
theorem jqo:(n≤200→∃ ns a b g,jg ts ⟨0,0,0,0⟩=(.mk 4 [] [] a [.mk 17 [] ns b []],⟨((2 * n+3:Nat):Int),0,0,g⟩)) ∧
  (200<n→(jg ts ⟨0,0,0,0⟩).2.err=12):=by
 have hs:=fun t=>jqn (i:=0) (d:=0) (f:=0) D.safe t
 have hs':∀ t,sees ts ⟨0,0,0,0⟩ t=(kSafe == t && Go.St.keyF t):=hs
 have e1:adv ⟨0,0,0,0⟩=(⟨((n+1 - n:Nat):Int),0,0,0⟩:Ps):=by
  unfold adv
  rw [Ps.mk.injEq]
  exact ⟨by simp only;omega,rfl,rfl,rfl⟩
 have eI:jg ts ⟨0,0,0,0⟩=(.mk 4 [] [] (tk ts ⟨0,0,0,0⟩).pos [(eF ts ⟨((n+1 - n:Nat):Int),0,0,0⟩).1],must ts (eF ts ⟨((n+1 - n:Nat):Int),0,0,0⟩).2 sSemi):=by
  unfold jg
  simp only
  rw [za (by rw [hs'];decide),za (by rw [hs'];decide),za (by rw [hs'];decide),zb (by rw [hs'];decide +kernel),e1]
 obtain ⟨g1,g2⟩:=jdj D n ts.length 0 0 (zh _) (by have:=D.len;omega) (by decide)
 constructor
 ·intro h
  obtain ⟨ns,b,g,hg⟩:=g1 (by omega)
  have hsm:=D.semi
  rw [show 2 * n+2=n+2+n by omega] at hsm
  have hst:eF ts ⟨((n+1 - n:Nat):Int),0,0,0⟩=qo ts ts.length ⟨((n+1 - n:Nat):Int),0,0,0⟩:=qrq (by
   rw [hg]
   intro s hm
   rw [qoj hsm]
   revert s
   decide)
  rw [eI,hst,hg]
  refine ⟨ns,(tk ts ⟨0,0,0,0⟩).pos,b,g,?_⟩
  have em:must ts ⟨((n+2+n:Nat):Int),0,0,g⟩ sSemi=⟨((2 * n+3:Nat):Int),0,0,g⟩:=by
   unfold must
   rw [zb (by rw [qoj hsm];decide)]
   unfold adv
   rw [Ps.mk.injEq]
   exact ⟨by simp only;omega,rfl,rfl,rfl⟩
  rw [em]
 ·intro h
  have hg:=g2 (by omega)
  have hst:eF ts ⟨((n+1 - n:Nat):Int),0,0,0⟩=qo ts ts.length ⟨((n+1 - n:Nat):Int),0,0,0⟩:=qrq (fun s _=>qgq (by rw [hg];decide))
  rw [eI,hst]
  generalize qo ts ts.length ⟨((n+1 - n:Nat):Int),0,0,0⟩=R at hg
  simp only
  unfold must
  rw [qgq (by rw [hg];decide),za (by decide)]
  unfold bad
  rw [za (by rw [hg];decide)]
  exact hg
theorem jqp:(qeq ts).2.1=0↔n≤200:=by
 obtain ⟨m,hm⟩:∃ m,ts.length=m+2:=⟨2 * n+2,by have:=D.len;omega⟩
 have h0:(⟨0,0,0,0⟩:Ps).err=0∧(tk ts ⟨0,0,0,0⟩).kind≠3:=⟨rfl,by
  have:=D.safe.1
  show (ts.getD 0 Lx.tok0).kind≠3
  rw [this];decide⟩
 have eL:qau ts ts.length [] ⟨0,0,0,0⟩=qau ts (m+1) [(jg ts ⟨0,0,0,0⟩).1] (jg ts ⟨0,0,0,0⟩).2:=by
  rw [hm,qau,zb h0]
  rfl
 obtain ⟨g1,g2⟩:=jqo D
 unfold qeq jk
 simp only
 constructor
 ·intro h
  by_cases hn:n≤200
  ·exact hn
  ·exfalso
   have h12:=g2 (by omega)
   have e2:qau ts (m+1) [(jg ts ⟨0,0,0,0⟩).1] (jg ts ⟨0,0,0,0⟩).2=([(jg ts ⟨0,0,0,0⟩).1],(jg ts ⟨0,0,0,0⟩).2):=by
    rw [qau,za (fun h=>by rw [h12] at h;exact absurd h.1 (by decide))]
   rw [eL,e2] at h
   simp only [h12] at h
   rw [zb (by decide)] at h
   exact absurd (show (12:Int)=0 from h) (by decide)
 ·intro hn
  obtain ⟨ns,a,b,g,hg⟩:=g1 hn
  rw [hg] at eL
  have e2:qau ts (m+1) [.mk 4 [] [] a [.mk 17 [] ns b []]] ⟨((2 * n+3:Nat):Int),0,0,g⟩=([.mk 4 [] [] a [.mk 17 [] ns b []]],⟨((2 * n+3:Nat):Int),0,0,g⟩):=by
   rw [qau,za (fun h=>h.2 (by rw [qmj];exact D.fin))]
  rw [eL,e2]
  simp [layT,layL,ql,deepT,deepL]
end
end Pa
end Go.Proofs.Ythfaleaojlnnoaa
end
section
namespace Go.Proofs.Ythfaleaojlnnoaa
open List renaming getD_eq_getElem?_getD → zd
namespace Pa
open List renaming getD_eq_getElem?_getD → zd
open Go Go.Sx
set_option maxRecDepth 100000
def reps (c:UInt8):Nat→Nat→List Lx.Tok
 | 0,_=>[]
 | n+1,p=>⟨2,[c],p⟩::reps c n (p+1)
theorem qfy (c:UInt8):∀ n p,(reps c n p).length=n
 | 0,_=>rfl
 | n+1,p=>by rw [reps,zn,qfy c n]
theorem qwb (c:UInt8):∀ n p i,i<n→((reps c n p).getD i Lx.tok0).kind=2∧((reps c n p).getD i Lx.tok0).s=[c]
 | 0,_,i,h=>absurd h (xc i)
 | n+1,p,0,_=>⟨rfl,rfl⟩
 | n+1,p,i+1,h=>qwb c n (p+1) i (by omega)
theorem jdk {c:UInt8} (h:Lx.blankB c=false∧Lx.cls (c.toNat:Int)=5∧c≠47∧c≠61∧c≠38∧c≠124) (r:List UInt8) (p:Nat):Lx.lexR (c::r) p=(Lx.lexR r (p+1)).map (⟨2,[c],p⟩::·):=by
 obtain ⟨h1,h2,h3,h4,h5,h6⟩:=h
 have hs:Lx.slash2 (c::r)=false:=by
  unfold Lx.slash2
  rw [List.isPrefixOf,show (47 == c)=false from beq_eq_false_iff_ne.2 (Ne.symm h3)];rfl
 have hn:Lx.firstN (c::r)=1:=by
  unfold Lx.firstN
  simp only [h2]
  rw [za (by decide),za (by decide)]
  unfold Lx.signN
  rw [List.isPrefixOf,List.isPrefixOf,List.isPrefixOf,show (61 == c)=false from beq_eq_false_iff_ne.2 (Ne.symm h4),show (38 == c)=false from beq_eq_false_iff_ne.2 (Ne.symm h5),show (124 == c)=false from beq_eq_false_iff_ne.2 (Ne.symm h6)]
  rw [Bool.false_and,Bool.false_and,Bool.false_and,za (by decide)]
  simp only [h2,if_true]
 have hk:Lx.firstK (c::r)=2:=by
  unfold Lx.firstK
  simp only [h2]
  rfl
 rw [Lx.lexR_cons,h1,hs,hn,hk]
 rfl
theorem qwc {c:UInt8} (h:Lx.blankB c=false∧Lx.cls (c.toNat:Int)=5∧c≠47∧c≠61∧c≠38∧c≠124) (r:List UInt8) (us:Nat→List Lx.Tok) (hr:∀ p,Lx.lexR r p=.ok (us p)):∀ n p,Lx.lexR (List.replicate n c++r) p=.ok (reps c n p++us (p+n))
 | 0,p=>hr p
 | n+1,p=>by
  rw [List.replicate_succ,xw,jdk h,qwc h r us hr n (p+1),Nat.add_right_comm]
  rfl
theorem jdl {d:UInt8} (h:Lx.digB d=false) (r:List UInt8) (p:Nat):Lx.lexR (49::d::r) p=(Lx.lexR (d::r) (p+1)).map (⟨1,[49],p⟩::·):=by
 have hb:Lx.blankB 49=false:=by decide +kernel
 have hs:Lx.slash2 (49::d::r)=false:=rfl
 have c3:Lx.cls ((49:UInt8).toNat:Int)=3:=by decide +kernel
 have hn:Lx.firstN (49::d::r)=1:=by
  unfold Lx.firstN
  simp only [c3]
  rw [za (by decide),zb trivial]
  have:Lx.spanN Lx.digB (49::d::r)=1:=by
   rw [Lx.spanN,zb (by decide +kernel),Lx.spanN,za (by rw [h];decide)]
  rw [this,za (by decide)]
 have hk:Lx.firstK (49::d::r)=1:=by
  unfold Lx.firstK
  simp only [c3]
  rfl
 rw [Lx.lexR_cons,hb,hs,hn,hk]
 rfl
theorem jqq (r:List UInt8):Lx.lexR (115::97::102::101::32::r) 0=(Lx.lexR r 5).map (⟨0,kSafe,0⟩::·):=by
 have hb:Lx.blankB 115=false:=by decide +kernel
 have hs:Lx.slash2 (115::97::102::101::32::r)=false:=rfl
 have c2:Lx.cls ((115:UInt8).toNat:Int)=2:=by decide +kernel
 have hn:Lx.firstN (115::97::102::101::32::r)=4:=by
  unfold Lx.firstN
  simp only [c2]
  rw [zb trivial]
  rw [Lx.spanN,zb (by decide +kernel),Lx.spanN,zb (by decide +kernel),Lx.spanN,zb (by decide +kernel),Lx.spanN,zb (by decide +kernel),Lx.spanN,za (by decide +kernel)]
 have hk:Lx.firstK (115::97::102::101::32::r)=0:=by
  unfold Lx.firstK
  simp only [c2]
  rfl
 rw [Lx.lexR_cons,hb,hs,hn,hk]
 show (Lx.lexR (32::r) 4).map _=_
 rw [Lx.lexR_cons,zb (by decide +kernel)]
 rfl
def qio (n:Nat):List UInt8:=115::97::102::101::32::(List.replicate n 40++49::(List.replicate n 41++[59]))
def qip (n p:Nat):List Lx.Tok:=⟨1,[49],p⟩::(reps 41 n (p+1)++[⟨2,[59],((p+1+n:Nat):Int)⟩,⟨3,[],((p+1+n+1:Nat):Int)⟩])
def qhp (n:Nat):List Lx.Tok:=⟨0,kSafe,0⟩::(reps 40 n 5++qip n (5+n))
theorem jqr (n:Nat):Lx.lexR (qio n) 0=.ok (qhp n):=by
 have h59:∀ p,Lx.lexR [59] p=.ok [⟨2,[59],p⟩,⟨3,[],((p+1:Nat):Int)⟩]:=fun p=>by
  rw [jdk (by decide +kernel),Lx.lexR_nil];rfl
 have h41:∀ p,Lx.lexR (List.replicate n 41++[59]) p=.ok (reps 41 n p++[⟨2,[59],((p+n:Nat):Int)⟩,⟨3,[],((p+n+1:Nat):Int)⟩]):=fun p=>qwc (by decide +kernel) [59] (fun p=>[⟨2,[59],p⟩,⟨3,[],((p+1:Nat):Int)⟩]) h59 n p
 have h49:∀ p,Lx.lexR (49::(List.replicate n 41++[59])) p=.ok (qip n p):=fun p=>by
  have h:=h41 (p+1)
  cases n with
  | zero=>
   show Lx.lexR (49::59::[]) p=_
   rw [jdl (by decide +kernel)]
   have h:Lx.lexR [59] (p+1)=_:=h
   rw [h];rfl
  | succ n=>
   rw [List.replicate_succ,xw,jdl (by decide +kernel)]
   rw [List.replicate_succ,xw] at h
   rw [h];rfl
 unfold qio
 rw [jqq,qwc (by decide +kernel) _ (qip n) h49]
 rfl
theorem jdm {α:Type} {l r:List α} {i:Nat} {d:α} (h:i<l.length):(l++r).getD i d=l.getD i d:=by
 rw [zd,zd,zo h]
theorem qmk {α:Type} {l r:List α} {n i:Nat} {d:α} (h:l.length=n):(l++r).getD (n+i) d=r.getD i d:=by
 rw [zd,zd,zk (by omega),show n+i - l.length=i by omega]
theorem qiq {α:Type} {x:α} {l:List α} {i:Nat} {d:α}:(x::l).getD (i+1) d=l.getD i d:=rfl
theorem jqs (n:Nat):DeepT (qhp n) n where
 safe:=⟨rfl,rfl⟩
 lp:=fun i hi=>by
  unfold qhp
  rw [Nat.add_comm 1 i,qiq,jdm (by rw [qfy];exact hi)]
  exact qwb 40 n 5 i hi
 one:=by
  unfold qhp
  rw [qiq]
  have h:=qmk (d:=Lx.tok0) (r:=qip n (5+n)) (i:=0) (qfy 40 n 5)
  rw [zy n] at h
  rw [h]
  rfl
 rp:=fun i hi=>by
  unfold qhp
  rw [show n+2+i=n+(i+1)+1 by omega,qiq,qmk (qfy _ _ _)]
  unfold qip
  rw [qiq,jdm (by rw [qfy];exact hi)]
  exact qwb 41 n _ i hi
 semi:=by
  unfold qhp
  rw [show 2 * n+2=n+(n+0+1)+1 by omega,qiq,qmk (qfy _ _ _)]
  unfold qip
  have h:=qmk (d:=Lx.tok0) (r:=[⟨2,[59],((5+n+1+n:Nat):Int)⟩,⟨3,[],((5+n+1+n+1:Nat):Int)⟩]) (i:=0) (qfy 41 n (5+n+1))
  rw [zy n] at h
  rw [qiq,h]
  exact ⟨rfl,rfl⟩
 fin:=by
  unfold qhp
  rw [show 2 * n+3=n+(n+1+1)+1 by omega,qiq,qmk (qfy _ _ _)]
  unfold qip
  rw [qiq,qmk (qfy _ _ _)]
  rfl
 len:=by
  unfold qhp qip
  rw [zn,zs,qfy,zn,zs,qfy]
  show n+(n+2+1)+1=_
  omega
theorem jqt (n:Nat):(qio n).length=2 * n+7:=by
 unfold qio
 simp
 omega
theorem jqu {n:Nat} (hn:n≤1000):(qan (qio n)).2.1=0↔n≤200:=by
 have e:Lx.lexAll (qio n)=(qhp n,(0,0)):=by
  unfold Lx.lexAll
  rw [za (by rw [jqt];omega),jqr]
 unfold qan
 rw [e,za (fun h=>h rfl)]
 exact jqp (jqs n)
end Pa
end Go.Proofs.Ythfaleaojlnnoaa
end
