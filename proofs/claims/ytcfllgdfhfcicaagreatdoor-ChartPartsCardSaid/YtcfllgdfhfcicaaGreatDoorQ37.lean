/- Some texts of the library, one behind the other. -/
import Derived.Test.YtcfllgdfhfcicaaGreatDoorQ34
import Derived.Test.YtcfllgdfhfcicaaGreatDoorQ35
import Derived.Test.YtcfllgdfhfcicaaGreatDoorQ36
import Derived.Test.YtcfllgdfhfcicaaGreatDoorQ25
import Derived.Test.YtcfllgdfhfcicaaGreatDoorQ23
import Derived.Lib.SplitLaws
import Derived.Lib.IndexMore
import Derived.Lib.IndexBytes
import Derived.Lib.ItoaNum
import Derived.Test.YtcfllgdfhfcicaaGreatDoorQ2
set_option linter.unusedSimpArgs false
set_option linter.unusedVariables false
section
namespace Go.Proofs.YtcfllgdfhfcicaaGreatDoor
open List renaming getD_eq_getElem?_getD → zd
open Go Go.Sx Go.RowKit Go.St
set_option maxRecDepth 100000
set_option maxHeartbeats 4000000
def ws0 (m:Md) (i:Nat) (e:Ev):List (List UInt8):=[Lib.itoa i,whoT m e.prc,jp e.kind,(m.chans.getD e.ch.toNat ch0).name,Lib.itoa e.msg]
def ws1 (m:Md) (i:Nat) (e:Ev):List (List UInt8):=[Lib.itoa i,whoT m e.prc,jp e.kind,(m.chans.getD e.ch.toNat ch0).name,Lib.itoa e.msg,[111,102],Lib.itoa e.frm]
theorem jhh (m:Md) (i:Nat) (e:Ev) (h:e.kind=0):Lib.join (ws0 m i e) [32]++[10]=qas m i e:=by
 unfold qas ws0
 simp [Lib.join,h]
theorem jhi (m:Md) (i:Nat) (e:Ev) (h:¬ e.kind=0):Lib.join (ws1 m i e) [32]++[10]=qas m i e:=by
 unfold qas ws1
 simp [Lib.join,h]
def jhj:Nat→Bool
 | 0=>false
 | _+1=>true
theorem jwt (m:Md) (hM:ModOk m) (hn:NmOk m) (h0:qm m (qt m)=true) (l:List Mv) (hl:l.length≤1000000):Con Tryz.prog 9 [m.av,qgc l] (.str (jgv m (qcd m l))):=by
 have hev:=jws m hM h0 l hl
 obtain ⟨hE,hEl⟩:=qxw hM h0 hl
 generalize qcd m l=E at hev hE hEl ⊢
 have hE0:E.length≤1000000:=xc hEl hl
 refine zK {owns:=[(37,(9,1))]} 300 Tryz.func9 (fun c0 rdb=>?_)
 (repeat' ((conv=>whnf);first|refine zC 300 (hev) ?_|fail))
 refine qcm 1 1 5 1 rfl rfl ?_
 ((conv=>whnf);refine qo (fun _=>rfl) 300 1 (fun i:Nat=>[(13,iv i)]) (fun i=>[(1,.box 59 [bif jhj i then .ptr 1 0 else .nilp,.own 2 0 0 (qbf m E i).length]),(2,.row [] 5 1 0 (qbf m E i).length (bytF (qbf m E i)))]) (fun i=>i≤E.length) (fun i=>E.length - i) (0) (zx _) qa ⟨⟨rfl,Le.refl _,Le.refl _,trivial⟩,⟨⟨rfl,rfl,rfl⟩,rfl,rfl,fun k hk=>absurd hk (zh k)⟩,trivial⟩ (fun g=>by cases g <;> rfl) (by kernel_rfl) ?_;(conv=>whnf))
 intro i hi
 cases hu:jhj i
 ·have hl1:=qsp hn hE hE0 i (by omega)
  by_cases hie:i<E.length
  ·have he:=hE _ (qe E i {} hie)
   have hl2:=qpg hn he i (by omega)
   have c1:=qil (i:Int) (by omega) (by omega)
   have c2:=qpi m hM hn (E.getD i {}).prc
   have c3:=qxx (E.getD i {}).kind
   have c4:=qil (E.getD i {}).msg (by have:=he.msg;omega) (by have:=he.msg;omega)
   have c5:=qil (E.getD i {}).frm (by have:=he.frm;omega) (by have:=he.frm;omega)
   have k1:=he.chn
   have k2:=he.kind
   have hk:(E.getD i {}).kind=0∨¬ (E.getD i {}).kind=0:=by omega
   rcases hk with hk|hk
   ·(repeat' ((conv=>whnf);first|refine Ob.auto ?_|(apply zB <;> intro hb <;> (try simp [-zd] at hb) <;> try (exfalso;omega))))
    ((conv=>whnf);refine zR 300 ?_)
    (repeat' ((conv=>whnf);first|refine zO ?_|refine Ob.auto ?_|refine zX (c1) ?_|refine zX (c2) ?_|refine zX (c3) ?_|refine zX (c4) ?_|(apply zB <;> intro hb <;> (try simp [-zd] at hb) <;> try (exfalso;omega))))
    have hj:=jhh m i (E.getD i {}) hk
    have hjl:=congrArg List.length hj
    rw [zg,zq] at hjl
    ((conv=>whnf);refine qmx (fun _=>rfl) 300 (qst (ws0 m i (E.getD i {})) (by simp [ws0]) (by simp [ws0]) (by omega)) qds ⟨Le.slc rfl (fun k hk=>?_),Le.refl _,trivial⟩ (by rfl) (by kernel_rfl) ?_)
    ·(iterate 7 (rcases k with _|k;· first|rfl|(exfalso;omega)));exfalso;omega
    have e1:Lib.join (ws0 m i (E.getD i {})) [32]++[10]=qas m i (E.getD i {}):=hj
    generalize Lib.join (ws0 m i (E.getD i {})) [32]=J at hjl e1 ⊢
    (repeat' ((conv=>whnf);first|(refine Ob.intro (by (first|exact ⟨by omega,by omega⟩|(show _≤(9223372036854775807:Nat);simp [-zd];omega))) ?_)|fail))
    rw [show J++(⟨#[10]⟩:ByteArray).data.toList=J++[10] from rfl,e1]
    ((conv=>whnf);refine qcx (fun _=>rfl) 300 [1,2] (qss false (qbf m E i) (qas m i (E.getD i {})) (by omega) (by omega)) (by kernel_rfl) ⟨Le.refl _,Le.refl _,trivial⟩ ⟨⟨rfl,Le.refl _,Le.refl _,trivial⟩,⟨⟨rfl,rfl,rfl⟩,rfl,rfl,fun k hk=>LeL.refl _⟩,trivial⟩ (by exact qb rfl) (by exact qb rfl) (by kernel_rfl) ?_)
    (repeat' ((conv=>whnf);first|refine Ob.auto ?_|fail))
    have e2:=(qky m E i).symm
    generalize qbf m E i++qas m i (E.getD i {})=J2 at e2 ⊢
    subst e2
    ((conv=>whnf);refine ⟨i+1,by omega,⟨qa,⟨⟨rfl,Le.refl _,Le.refl _,trivial⟩,⟨⟨rfl,rfl,rfl⟩,rfl,rfl,fun k hk=>LeL.refl _⟩,trivial⟩⟩,⟨qa,qa⟩,?_⟩;(first|omega|(dsimp only;omega)|skip))
   ·(repeat' ((conv=>whnf);first|refine Ob.auto ?_|(apply zB <;> intro hb <;> (try simp [-zd] at hb) <;> try (exfalso;omega))))
    ((conv=>whnf);refine zR 300 ?_)
    (repeat' ((conv=>whnf);first|refine zO ?_|refine Ob.auto ?_|refine zX (c1) ?_|refine zX (c2) ?_|refine zX (c3) ?_|refine zX (c4) ?_|refine zC 300 (c5) ?_|(apply zB <;> intro hb <;> (try simp [-zd] at hb) <;> try (exfalso;omega))))
    have hj:=jhi m i (E.getD i {}) hk
    have hjl:=congrArg List.length hj
    rw [zg,zq] at hjl
    ((conv=>whnf);refine qmx (fun _=>rfl) 300 (qst (ws1 m i (E.getD i {})) (by simp [ws1]) (by simp [ws1]) (by omega)) qds ⟨Le.slc rfl (fun k hk=>?_),Le.refl _,trivial⟩ (by rfl) (by kernel_rfl) ?_)
    ·(iterate 7 (rcases k with _|k;· first|rfl|(exfalso;omega)));exfalso;omega
    have e1:Lib.join (ws1 m i (E.getD i {})) [32]++[10]=qas m i (E.getD i {}):=hj
    generalize Lib.join (ws1 m i (E.getD i {})) [32]=J at hjl e1 ⊢
    (repeat' ((conv=>whnf);first|(refine Ob.intro (by (first|exact ⟨by omega,by omega⟩|(show _≤(9223372036854775807:Nat);simp [-zd];omega))) ?_)|fail))
    rw [show J++(⟨#[10]⟩:ByteArray).data.toList=J++[10] from rfl,e1]
    ((conv=>whnf);refine qcx (fun _=>rfl) 300 [1,2] (qss false (qbf m E i) (qas m i (E.getD i {})) (by omega) (by omega)) (by kernel_rfl) ⟨Le.refl _,Le.refl _,trivial⟩ ⟨⟨rfl,Le.refl _,Le.refl _,trivial⟩,⟨⟨rfl,rfl,rfl⟩,rfl,rfl,fun k hk=>LeL.refl _⟩,trivial⟩ (by exact qb rfl) (by exact qb rfl) (by kernel_rfl) ?_)
    (repeat' ((conv=>whnf);first|refine Ob.auto ?_|fail))
    have e2:=(qky m E i).symm
    generalize qbf m E i++qas m i (E.getD i {})=J2 at e2 ⊢
    subst e2
    ((conv=>whnf);refine ⟨i+1,by omega,⟨qa,⟨⟨rfl,Le.refl _,Le.refl _,trivial⟩,⟨⟨rfl,rfl,rfl⟩,rfl,rfl,fun k hk=>LeL.refl _⟩,trivial⟩⟩,⟨qa,qa⟩,?_⟩;(first|omega|(dsimp only;omega)|skip))
  ·(repeat' ((conv=>whnf);first|(apply zB <;> intro hb <;> (try simp [-zd] at hb) <;> try (exfalso;omega))))
   ((conv=>whnf);refine qcx (fun _=>rfl) 300 [1,2] (jhe 0 (bif false then .ptr 0 0 else .nilp) (qbf m E i)) (by kernel_rfl) ⟨Le.refl _,trivial⟩ ⟨⟨rfl,Le.refl _,Le.refl _,trivial⟩,⟨⟨rfl,rfl,rfl⟩,rfl,rfl,fun k hk=>LeL.refl _⟩,trivial⟩ (by exact qb rfl) (by exact qb rfl) (by kernel_rfl) ?_)
   (repeat' ((conv=>whnf);first|refine Ob.auto ?_|fail))
   rw [show i=E.length by omega]
   exact Le.refl _
 ·have hl1:=qsp hn hE hE0 i (by omega)
  by_cases hie:i<E.length
  ·have he:=hE _ (qe E i {} hie)
   have hl2:=qpg hn he i (by omega)
   have c1:=qil (i:Int) (by omega) (by omega)
   have c2:=qpi m hM hn (E.getD i {}).prc
   have c3:=qxx (E.getD i {}).kind
   have c4:=qil (E.getD i {}).msg (by have:=he.msg;omega) (by have:=he.msg;omega)
   have c5:=qil (E.getD i {}).frm (by have:=he.frm;omega) (by have:=he.frm;omega)
   have k1:=he.chn
   have k2:=he.kind
   have hk:(E.getD i {}).kind=0∨¬ (E.getD i {}).kind=0:=by omega
   rcases hk with hk|hk
   ·(repeat' ((conv=>whnf);first|refine Ob.auto ?_|(apply zB <;> intro hb <;> (try simp [-zd] at hb) <;> try (exfalso;omega))))
    ((conv=>whnf);refine zR 300 ?_)
    (repeat' ((conv=>whnf);first|refine zO ?_|refine Ob.auto ?_|refine zX (c1) ?_|refine zX (c2) ?_|refine zX (c3) ?_|refine zX (c4) ?_|(apply zB <;> intro hb <;> (try simp [-zd] at hb) <;> try (exfalso;omega))))
    have hj:=jhh m i (E.getD i {}) hk
    have hjl:=congrArg List.length hj
    rw [zg,zq] at hjl
    ((conv=>whnf);refine qmx (fun _=>rfl) 300 (qst (ws0 m i (E.getD i {})) (by simp [ws0]) (by simp [ws0]) (by omega)) qds ⟨Le.slc rfl (fun k hk=>?_),Le.refl _,trivial⟩ (by rfl) (by kernel_rfl) ?_)
    ·(iterate 7 (rcases k with _|k;· first|rfl|(exfalso;omega)));exfalso;omega
    have e1:Lib.join (ws0 m i (E.getD i {})) [32]++[10]=qas m i (E.getD i {}):=hj
    generalize Lib.join (ws0 m i (E.getD i {})) [32]=J at hjl e1 ⊢
    (repeat' ((conv=>whnf);first|(refine Ob.intro (by (first|exact ⟨by omega,by omega⟩|(show _≤(9223372036854775807:Nat);simp [-zd];omega))) ?_)|fail))
    rw [show J++(⟨#[10]⟩:ByteArray).data.toList=J++[10] from rfl,e1]
    ((conv=>whnf);refine qcx (fun _=>rfl) 300 [1,2] (qss true (qbf m E i) (qas m i (E.getD i {})) (by omega) (by omega)) (by kernel_rfl) ⟨Le.refl _,Le.refl _,trivial⟩ ⟨⟨rfl,Le.refl _,Le.refl _,trivial⟩,⟨⟨rfl,rfl,rfl⟩,rfl,rfl,fun k hk=>LeL.refl _⟩,trivial⟩ (by exact qb rfl) (by exact qb rfl) (by kernel_rfl) ?_)
    (repeat' ((conv=>whnf);first|refine Ob.auto ?_|fail))
    have e2:=(qky m E i).symm
    generalize qbf m E i++qas m i (E.getD i {})=J2 at e2 ⊢
    subst e2
    ((conv=>whnf);refine ⟨i+1,by omega,⟨qa,⟨⟨rfl,Le.refl _,Le.refl _,trivial⟩,⟨⟨rfl,rfl,rfl⟩,rfl,rfl,fun k hk=>LeL.refl _⟩,trivial⟩⟩,⟨qa,qa⟩,?_⟩;(first|omega|(dsimp only;omega)|skip))
   ·(repeat' ((conv=>whnf);first|refine Ob.auto ?_|(apply zB <;> intro hb <;> (try simp [-zd] at hb) <;> try (exfalso;omega))))
    ((conv=>whnf);refine zR 300 ?_)
    (repeat' ((conv=>whnf);first|refine zO ?_|refine Ob.auto ?_|refine zX (c1) ?_|refine zX (c2) ?_|refine zX (c3) ?_|refine zX (c4) ?_|refine zC 300 (c5) ?_|(apply zB <;> intro hb <;> (try simp [-zd] at hb) <;> try (exfalso;omega))))
    have hj:=jhi m i (E.getD i {}) hk
    have hjl:=congrArg List.length hj
    rw [zg,zq] at hjl
    ((conv=>whnf);refine qmx (fun _=>rfl) 300 (qst (ws1 m i (E.getD i {})) (by simp [ws1]) (by simp [ws1]) (by omega)) qds ⟨Le.slc rfl (fun k hk=>?_),Le.refl _,trivial⟩ (by rfl) (by kernel_rfl) ?_)
    ·(iterate 7 (rcases k with _|k;· first|rfl|(exfalso;omega)));exfalso;omega
    have e1:Lib.join (ws1 m i (E.getD i {})) [32]++[10]=qas m i (E.getD i {}):=hj
    generalize Lib.join (ws1 m i (E.getD i {})) [32]=J at hjl e1 ⊢
    (repeat' ((conv=>whnf);first|(refine Ob.intro (by (first|exact ⟨by omega,by omega⟩|(show _≤(9223372036854775807:Nat);simp [-zd];omega))) ?_)|fail))
    rw [show J++(⟨#[10]⟩:ByteArray).data.toList=J++[10] from rfl,e1]
    ((conv=>whnf);refine qcx (fun _=>rfl) 300 [1,2] (qss true (qbf m E i) (qas m i (E.getD i {})) (by omega) (by omega)) (by kernel_rfl) ⟨Le.refl _,Le.refl _,trivial⟩ ⟨⟨rfl,Le.refl _,Le.refl _,trivial⟩,⟨⟨rfl,rfl,rfl⟩,rfl,rfl,fun k hk=>LeL.refl _⟩,trivial⟩ (by exact qb rfl) (by exact qb rfl) (by kernel_rfl) ?_)
    (repeat' ((conv=>whnf);first|refine Ob.auto ?_|fail))
    have e2:=(qky m E i).symm
    generalize qbf m E i++qas m i (E.getD i {})=J2 at e2 ⊢
    subst e2
    ((conv=>whnf);refine ⟨i+1,by omega,⟨qa,⟨⟨rfl,Le.refl _,Le.refl _,trivial⟩,⟨⟨rfl,rfl,rfl⟩,rfl,rfl,fun k hk=>LeL.refl _⟩,trivial⟩⟩,⟨qa,qa⟩,?_⟩;(first|omega|(dsimp only;omega)|skip))
  ·(repeat' ((conv=>whnf);first|(apply zB <;> intro hb <;> (try simp [-zd] at hb) <;> try (exfalso;omega))))
   ((conv=>whnf);refine qcx (fun _=>rfl) 300 [1,2] (jhe 0 (bif true then .ptr 0 0 else .nilp) (qbf m E i)) (by kernel_rfl) ⟨Le.refl _,trivial⟩ ⟨⟨rfl,Le.refl _,Le.refl _,trivial⟩,⟨⟨rfl,rfl,rfl⟩,rfl,rfl,fun k hk=>LeL.refl _⟩,trivial⟩ (by exact qb rfl) (by exact qb rfl) (by kernel_rfl) ?_)
   (repeat' ((conv=>whnf);first|refine Ob.auto ?_|fail))
   rw [show i=E.length by omega]
   exact Le.refl _
end Go.Proofs.YtcfllgdfhfcicaaGreatDoor
end
section
namespace Go.Proofs.YtcfllgdfhfcicaaGreatDoor
open Go Go.Sx Go.RowKit Go.St
set_option maxRecDepth 100000
set_option maxHeartbeats 8000000
theorem jwu (l:List Nd) (hl:l.length≤9223372036854775807) (hz:∀ n∈l,NdSz n):Con Tryz.prog 8 [js l] (.tup [(qcj l).1.av,.bool (qcj l).2]):=by
 have hm:Tree l→Con Tryz.prog 20 [js l] (.tup [(if (qbp l).1=0 then qcq l else mdZ).av,.bool (decide ((qbp l).1=0))]):=fun ht=>by
  by_cases h:(qbp l).1=0
  ·rw [zb h,zo h];exact jfe l ht h
  ·rw [za h,xx h];exact jtk l ht h
 refine zK {} 300 Tryz.func8 (fun c0 rdb=>?_)
 (repeat' ((conv=>whnf);first|refine Ob.auto ?_|refine zC 300 (jsf l hl) ?_|refine zG 300 (fun hg=>jse l hl hz) ?_|(apply zB <;> intro hb <;> (try simp [-List.getD_eq_getElem?_getD] at hb) <;> try (exfalso;omega))))
 ·have e:qcj l=(mdZ,false):=za fun h=>by
   rcases hb with hb|hb
   ·omega
   ·rw [hb] at h;simp at h
  rw [e]
  exact Le.tup ⟨jff,Le.refl _,trivial⟩
 ·((conv=>whnf);refine qes (fun _=>rfl) 300 (hm (qrv hb.2)) (by rfl) leA (by kernel_rfl) ?_)
  (repeat' ((conv=>whnf);first|refine Ob.auto ?_|fail))
  have e:qcj l=(if (qbp l).1=0 then qcq l else mdZ,decide ((qbp l).1=0)):=by
   unfold qcj
   by_cases h:(qbp l).1=0
   ·rw [zb ⟨hb,h⟩,zb h,zo h]
   ·rw [za (fun g=>h g.2),za h,xx h]
  rw [e]
  exact Le.refl _
set_option maxHeartbeats 2000000
def jhk:List Mv:=[⟨0,0,0,0⟩,⟨0,1,0,0⟩]
theorem jwv:qm model26 (qt model26)=true:=by decide +kernel
theorem jhl:NmOk model26:=qxd ▸ jgt (by decide +kernel)
theorem jww:jgv model26 (qcd model26 jhk)=[48,32,112,46,48,32,115,101,110,100,32,99,32,49,10,49,32,113,46,48,32,114,101,99,118,32,99,32,49,32,111,102,32,48,10]:=by decide +kernel
theorem qya:Con Tryz.prog 7 [] (.bool true):=by
 have h1:=jwt model26 jfi jhl jwv jhk (by decide)
 rw [jww] at h1
 have h2:=qpi model26 jfi jhl 9
 rw [show whoT model26 9=[45] by decide +kernel] at h2
 refine zK {} 300 Tryz.func7 (fun c0 rdb=>?_)
 (repeat' ((conv=>whnf);first|refine zC 300 (jtl) ?_|refine zC 300 (jtm) ?_|fail))
 ((conv=>whnf);refine qes (fun _=>rfl) 300 h1 (by rfl) ⟨Le.refl _,Le.slc rfl (fun j hj=>?_),trivial⟩ (by kernel_rfl) ?_)
 ·have hj:j<2:=hj
  match j,hj with
  | 0,_=>rfl
  | 1,_=>rfl
 (repeat' ((conv=>whnf);first|refine Ob.auto ?_|refine zG 300 (fun hg=>h2) ?_|fail))
 exact Le.of_eq (congrArg AV.bool (by kernel_rfl))
end Go.Proofs.YtcfllgdfhfcicaaGreatDoor
end
section
namespace Go.St
open Go Go.Sx
def VFit (vs:List Vr):Prop:=∀ v∈vs,trim v.value v.width=v.value
theorem VFit.snoc {vs:List Vr} {v:Vr} (h:VFit vs) (hv:trim v.value v.width=v.value):VFit (vs++[v]):=fun u hu=>by
 rcases List.mem_append.1 hu with hu|hu
 ·exact h u hu
 ·rw [zm] at hu
  rw [hu];exact hv
theorem qpj {α β:Type} {f:β→α→β} {P:β→Prop}:∀ (l:List α) (b:β),(∀ a∈l,∀ b,P b→P (f b a))→P b→P (l.foldl f b)
 | [],_,_,h=>h
 | a::r,b,hf,h=>qpj r (f b a) (fun a' ha'=>hf a' (zv _ ha')) (hf a (zn ..) b h)
section
variable {l:List Nd} (ht:Tree l) (hw:∀ i,i<l.length→qbj l i=0)
include hw
theorem jhm {k:Int} (h0:0≤k) (h1:k<l.length) (h2:(l.getD k.toNat nd0).kind=2):trim ((l.getD k.toNat nd0).nums.getD 1 0) ((l.getD k.toNat nd0).nums.getD 0 0)=(l.getD k.toNat nd0).nums.getD 1 0:=by
 have:=hw k.toNat (by omega)
 unfold qbj at this
 rw [za (by omega),zb h2] at this
 split at this
 ·omega
 ·rename_i hn
  exact Classical.byContradiction fun hc=>hn (.inr (.inl hc))
include ht
theorem jwx (k:Int) (hk:k∈(l.getD 0 nd0).kids) (m:Md) (h:VFit m.vars):VFit (qej l m k).vars:=by
 have hb:=ht.kids 0 (by have:=ht.len;omega) k hk
 unfold qej
 simp only
 split
 ·exact h
 split
 ·exact h.snoc (jhm hw (by omega) hb.2 (by assumption))
 split
 ·exact h
 split <;> exact h
theorem jwy {n:Nat} (hn:n<l.length) (k:Int) (hk:k∈(l.getD n nd0).kids.take (varsN l (l.getD n nd0))) (x:Pr × List Vr) (h:VFit x.2):VFit (qcp l x k).2:=by
 have hb:=ht.kids n hn k (List.mem_of_mem_take hk)
 obtain ⟨i,hi,rfl⟩:=List.mem_iff_getElem.1 hk
 have hi':i<varsN l (l.getD n nd0):=by rw [zw] at hi;omega
 have h2:=(qwl l (l.getD n nd0)).2 i hi'
 unfold qcp
 simp only
 refine h.snoc (jhm hw (by omega) hb.2 ?_)
 unfold kidK at h2
 rw [List.getElem_take]
 rw [List.getElem_take] at hb
 rw [List.getD_eq_getElem?_getD (l:=(l.getD n nd0).kids),ze (by rw [zw] at hi;omega)] at h2
 exact h2
theorem jwz (cs:List Ch) {k:Int} (h0:0≤k) (h1:k<l.length) (seen:Nat) (c:Nat) (x:List Vr × List Pr) (h:VFit x.1):VFit (qby l cs k seen x c).1:=by
 unfold qby
 simp only
 exact qpj (P:=fun y:Pr × List Vr=>VFit y.2) _ _ (fun a ha b hb=>jwy ht hw (n:=k.toNat) (by omega) a ha b hb) h
theorem jxa (cs:List Ch) (k:Int) (hk:k∈(l.getD 0 nd0).kids) (x:Nat × List Vr × List Pr) (h:VFit x.2.1):VFit (qbz l cs x k).2.1:=by
 have hb:=ht.kids 0 (by have:=ht.len;omega) k hk
 unfold qbz
 simp only
 split
 ·exact qpj (P:=fun y:List Vr × List Pr=>VFit y.1) _ _ (fun c _ b hb'=>jwz ht hw cs (by omega) hb.2 _ c b hb') h
 ·exact h
theorem jxb:VFit (qcq l).vars:=by
 have h1:VFit (qbs l).vars:=qpj (P:=fun m:Md=>VFit m.vars) _ _ (fun k hk m hm=>jwx ht hw k hk m hm) (fun v hv=>by cases hv)
 unfold qcq
 simp only
 exact qpj (P:=fun x:Nat × List Vr × List Pr=>VFit x.2.1) _ _ (fun k hk x hx=>jxa ht hw _ k hk x hx) h1
end
theorem jxc {m:Md} (hm:MOk m) (hv:VFit m.vars):qm m (qt m)=true:=by
 refine (jg m _).2 ⟨⟨by simp [qt],by simp [qt],by simp [qt],by simp [qt],by simp only [qt];omega⟩,fun i hi=>?_,fun i hi=>?_,fun i hi=>?_⟩
 ·have hi':i<m.procs.length:=by simpa [qt] using hi
  have hp:=hm.place _ (qe m.procs i pr0 hi')
  unfold qnq
  rw [qt,qja _ _ _ _ hi']
  omega
 ·have hi':i<m.vars.length:=by simpa [qt] using hi
  unfold qlx
  rw [qt,qrj _ _ _ _ vr0 hi']
  exact hv _ (qe m.vars i vr0 hi')
 ·have hi':i<m.chans.length:=by simpa [qt] using hi
  have hc:=hm.chan _ (qe m.chans i ch0 hi')
  have hg:(qt m).chans.getD i []=[]:=by rw [qt,qja _ _ _ _ hi']
  refine ⟨?_,fun k hk=>?_⟩
  ·unfold qiz
   rw [hg];exact hc.1
  ·rw [hg] at hk;simp at hk
end Go.St
end
section
namespace Go.Proofs.YtcfllgdfhfcicaaGreatDoor
open Go Go.Sx Go.RowKit Go.St
set_option maxRecDepth 100000
set_option maxHeartbeats 8000000
theorem jhn {l:List Nd} (h:(qcj l).2=true):Go.St.rightB l=true:=by
 unfold qcj at h
 split at h
 ·rename_i e
  exact e.1.2
 ·cases h
end Go.Proofs.YtcfllgdfhfcicaaGreatDoor
end
section
namespace Go.Sp
open Go Go.Lib
def spL (c:UInt8):List UInt8→List (List UInt8)
 | []=>[[]]
 | b::r=>if b=c then []::spL c r else match spL c r with|[]=>[[b]]|w::ws=>(b::w)::ws
theorem spL_ne (c:UInt8) (l:List UInt8):spL c l≠[]:=by
 cases l with
 | nil=>simp [spL]
 | cons b r=>
  unfold spL
  split
  ·simp
  ·split <;> simp
theorem qsu {c:UInt8}:∀ {l:List UInt8},(∀ b∈l,b≠c)→spL c l=[l]
 | [],_=>rfl
 | b::r,h=>by
  unfold spL
  rw [za (h b (zn ..)),qsu (fun x hx=>h x (zv _ hx))]
theorem qsv {c:UInt8}:∀ {a:List UInt8} (r:List UInt8),(∀ b∈a,b≠c)→spL c (a++c::r)=a::spL c r
 | [],r,_=>by simp [spL]
 | b::a,r,h=>by
  rw [zaj,spL,za (h b (zn ..)),qsv r (fun x hx=>h x (zv _ hx))]
theorem qpk (c:UInt8):∀ (s:List UInt8),(index s [c]=-1∧∀ b∈s,b≠c)∨∃ a r,s=a++c::r∧(∀ b∈a,b≠c)∧index s [c]=a.length
 | []=>.inl ⟨rfl,fun _ h=>absurd h (zbp)⟩
 | b::s=>by
  unfold index
  by_cases h:b=c
  ·subst h
   exact .inr ⟨[],s,rfl,fun _ h=>absurd h (zbp),by simp [List.isPrefixOf]⟩
  ·have hp:List.isPrefixOf [c] (b::s)=false:=by simp [List.isPrefixOf,Ne.symm h]
   rw [hp]
   simp only [Bool.false_eq_true,if_false]
   rcases qpk c s with ⟨h1,h2⟩|⟨a,r,h1,h2,h3⟩
   ·refine .inl ⟨by rw [h1];rfl,fun x hx=>?_⟩
    rcases List.mem_cons.1 hx with rfl|hx
    ·exact h
    ·exact h2 x hx
   ·refine .inr ⟨b::a,r,by rw [h1];rfl,fun x hx=>?_,?_⟩
    ·rcases List.mem_cons.1 hx with rfl|hx
     ·exact h
     ·exact h2 x hx
    ·rw [h3,za (by simp)];simp
theorem jho (c:UInt8):∀ (n:Nat) (s:List UInt8),s.count c=n→splitK [c] 0 n s=spL c s
 | 0,s,h=>by
  rw [splitK,qsu fun b hb e=>?_]
  subst e
  exact absurd (List.count_pos_iff.2 hb) (by omega)
 | n+1,s,h=>by
  rcases qpk c s with ⟨h1,h2⟩|⟨a,r,h1,h2,h3⟩
  ·have:=List.count_eq_zero.2 (fun hm=>h2 c hm rfl)
   omega
  ·have ha:a.count c=0:=List.count_eq_zero.2 (fun hm=>h2 c hm rfl)
   rw [splitK,h3,za (by simp),h1,qsv r h2,← jho c n r (by rw [h1] at h;simp [ha] at h;omega)]
   simp [← zbu]
theorem split_one (c:UInt8) (s:List UInt8):splitK [c] 0 (count s [c]) s=spL c s:=jho c _ s (count_one c s).symm
theorem jxd {c:UInt8} {s:List UInt8} (h:∀ b∈s,b≠c):cut s [c]=(s,[],false):=by
 rcases qpk c s with ⟨h1,_⟩|⟨a,r,h1,_,_⟩
 ·unfold cut;rw [h1];rfl
 ·exact absurd rfl (h c (by rw [h1];simp))
theorem jxe {c:UInt8} {a:List UInt8} (r:List UInt8) (h:∀ b∈a,b≠c):cut (a++c::r) [c]=(a,r,true):=by
 rcases qpk c (a++c::r) with ⟨_,h2⟩|⟨a',r',h1,h2,h3⟩
 ·exact absurd rfl (h2 c (by simp))
 ·have hl:a'.length=a.length:=by
   rcases zbj a.length a'.length with hl|hl|hl
   ·have e:=congrArg (fun l=>l[a.length]?) h1
    simp only [zt (zk _),xv,zah,zz hl] at e
    exact absurd rfl (h2 c (zl e.symm))
   ·exact hl.symm
   ·have e:=congrArg (fun l=>l[a'.length]?) h1
    simp only [zt (zk _),xv,zah,zz hl] at e
    exact absurd rfl (h c (zl e))
  unfold cut
  rw [h3,hl,zb (by omega)]
  simp [← zbu]
end Go.Sp
end
section
namespace Go.Proofs.YtcfllgdfhfcicaaGreatDoor
open Go
set_option maxRecDepth 100000
def digB (b:UInt8):Bool:=decide (48≤b.toNat∧b.toNat≤57)
def valD (d:List UInt8):Int:=d.foldl (fun n b=>10 * n+((b.toNat:Int) - 48)) 0
theorem jxf (d:List UInt8) (k:Nat) (hk:k<d.length):valD (d.take (k+1))=10 * valD (d.take k)+(((d.getD k 0).toNat:Int) - 48):=by
 have h:d.take (k+1)=d.take k++[d.getD k 0]:=by
  rw [zbc,List.getD_eq_getElem?_getD,ze hk];rfl
 unfold valD
 rw [h,xu]
 rfl
theorem jxg (d:List UInt8) (h:d.all digB=true):0≤valD d∧valD d<10 ^ d.length:=by
 have key:∀ (l:List UInt8) (n:Int) (k:Nat),l.all digB=true→0≤n→n<10 ^ k→0≤l.foldl (fun n b=>10 * n+((b.toNat:Int) - 48)) n∧l.foldl (fun n b=>10 * n+((b.toNat:Int) - 48)) n<10 ^ (k+l.length):=by
  intro l
  induction l with
  | nil=>intro n k _ h0 h1;exact ⟨h0,h1⟩
  | cons b l ih=>
   intro n k hl h0 h1
   rw [List.all_cons,zf] at hl
   have hb:=zi hl.1
   have h2:=ih (10 * n+((b.toNat:Int) - 48)) (k+1) hl.2 (by omega) (by rw [Int.pow_succ];omega)
   rw [show k+1+l.length=k+(b::l).length by simp;omega] at h2
   exact h2
 have:=key d 0 0 h (xi _) (by decide)
 rw [zr] at this
 exact this
theorem jxh:∀ k,k<7→(10:Int) ^ k≤1000000:=by decide
theorem qim (u:Nat):(Lib.decDigits u).all digB=true∧valD (Lib.decDigits u)=u∧0<(Lib.decDigits u).length:=by
  rw [Lib.decDigits]
  by_cases h:u<10
  ·rw [dif_pos h]
   have hb:(UInt8.ofNat (48+u)).toNat=48+u:=by simp;omega
   refine ⟨?_,?_,by simp⟩
   ·simp only [List.all_cons,List.all_nil,Bool.and_true,digB,hb]
    exact zo ⟨by omega,by omega⟩
   ·simp only [valD,zab,List.foldl_nil,hb]
    omega
  ·rw [dif_neg h]
   obtain ⟨h1,h2,h3⟩:=qim (u / 10)
   have hb:(UInt8.ofNat (48+u % 10)).toNat=48+u % 10:=by simp;omega
   refine ⟨?_,?_,by simp⟩
   ·rw [List.all_append,h1]
    simp only [List.all_cons,List.all_nil,Bool.and_true,digB,hb,zbq]
    exact zo ⟨by omega,by omega⟩
   ·unfold valD at h2 ⊢
    rw [xu,h2]
    simp only [zab,List.foldl_nil,hb]
    omega
termination_by u
theorem jhp:∀ (k u:Nat),u<10 ^ (k+1)→(Lib.decDigits u).length≤k+1
 | 0,u,h=>by rw [Lib.decDigits,dif_pos (by simpa using h)];simp
 | k+1,u,h=>by
  rw [Lib.decDigits]
  by_cases hu:u<10
  ·rw [dif_pos hu];simp
  ·rw [dif_neg hu,zg]
   have:=jhp k (u / 10) (by rw [Nat.pow_succ] at h;omega)
   simp;omega
end Go.Proofs.YtcfllgdfhfcicaaGreatDoor
end
