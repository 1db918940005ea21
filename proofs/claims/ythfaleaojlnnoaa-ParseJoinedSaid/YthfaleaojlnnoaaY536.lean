/- Some texts of the library, one behind the other. -/
import Derived.Test.YthfaleaojlnnoaaY534
import Derived.Test.YthfaleaojlnnoaaY513
import Derived.Test.YthfaleaojlnnoaaY514
import Derived.Test.YthfaleaojlnnoaaY5PcR
import Derived.Test.YthfaleaojlnnoaaY55
import Derived.Test.YthfaleaojlnnoaaY5PaB
import Derived.Test.YthfaleaojlnnoaaY56
import Derived.Test.YthfaleaojlnnoaaProg
import Derived.Test.YthfaleaojlnnoaaY58
import Derived.Test.YthfaleaojlnnoaaY53
import Derived.Test.YthfaleaojlnnoaaY51
import Derived.KernelRfl
import Derived.Test.YthfaleaojlnnoaaY52
set_option linter.unusedSimpArgs false
set_option linter.unusedVariables false
section
namespace Go.Proofs.Ythfaleaojlnnoaa
namespace Pa
open Go Go.Sx Go.St
def spQ (N:Int) (u:Tr):Prop:=(u.l.map Tr.at_).Pairwise (· < ·)∧∀ x∈u.l.map Tr.at_,u.at_≤x∧x≤N
section
variable {ts:List Lx.Tok} {N:Int}
theorem jeh (hp:ts.Pairwise (fun a b=>a.pos<b.pos)) {i j:Int} (h0:0≤i) (hij:i<j) (hj:j<ts.length):posT ts i<posT ts j:=by
 have:=List.pairwise_iff_getElem.1 hp i.toNat j.toNat (by omega) (by omega) (by omega)
 unfold posT
 rw [List.getD_eq_getElem?_getD,zg (by omega),List.getD_eq_getElem?_getD,zg (by omega)]
 exact this
theorem jei (hp:ts.Pairwise (fun a b=>a.pos<b.pos)):∀ (l:List Tr) (i j:Int),SpL ts l i j→0≤i→j≤ts.length→
  (∀ x∈l.map Tr.at_,∃ m,i≤m∧m<j∧x=posT ts m)∧(l.map Tr.at_).Pairwise (· < ·)
 | [],_,_,_,_,_=>⟨fun x hx=>by simp at hx,List.Pairwise.nil⟩
 | t::r,i,j,h,h0,hj=>by
  obtain ⟨e,h1,h2⟩:=spL_cons.1 h
  have h3:=qmr h1
  have h4:=qmt _ _ _ h2
  obtain ⟨m,m1,m2,m3,_⟩:=qwr h1
  obtain ⟨k1,k2⟩:=jei hp r e j h2 (by omega) hj
  rw [xe]
  refine ⟨fun x hx=>?_,List.pairwise_cons.2 ⟨fun x hx=>?_,k2⟩⟩
  ·rcases List.mem_cons.1 hx with rfl|hx
   ·exact ⟨m,m1,by omega,m3⟩
   ·obtain ⟨n,n1,n2,n3⟩:=k1 x hx
    exact ⟨n,by omega,n2,n3⟩
  ·obtain ⟨n,n1,n2,n3⟩:=k1 x hx
   rw [m3,n3]
   exact jeh hp (by omega) (by omega) (by omega)
mutual
theorem spT_Q (hp:ts.Pairwise (fun a b=>a.pos<b.pos)) (hN:∀ t∈ts,t.pos≤N):∀ (t:Tr) (i j:Int),SpT ts t i j→0≤i→j≤ts.length→t.allT (spQ N)
 | .mk k w n a l,i,j,h,h0,hj=>by
  obtain ⟨m,h1,h2,h3,h4⟩:=spT_mk.1 h
  obtain ⟨k1,k2⟩:=jei hp l m j h4 (by omega) hj
  refine qck ⟨k2,fun x hx=>?_⟩ (spL_Q hp hN l m j h4 (by omega) hj)
  obtain ⟨q,q1,q2,q3⟩:=k1 x hx
  obtain ⟨t,ht,e⟩:=qmv (ts:=ts) (i:=q) (by omega) (by omega)
  have h5:=hN t ht
  refine ⟨?_,by omega⟩
  show a≤x
  rw [h3,q3]
  by_cases hmq:m=q
  ·rw [hmq];exact zp _
  ·exact Int.le_of_lt (jeh hp (by omega) (by omega) (by omega))
theorem spL_Q (hp:ts.Pairwise (fun a b=>a.pos<b.pos)) (hN:∀ t∈ts,t.pos≤N):∀ (l:List Tr) (i j:Int),SpL ts l i j→0≤i→j≤ts.length→Tr.allL (spQ N) l
 | [],_,_,_,_,_=>qdn
 | t::r,i,j,h,h0,hj=>by
  obtain ⟨e,h1,h2⟩:=spL_cons.1 h
  have h3:=qmr h1
  have h4:=qmt _ _ _ h2
  exact qdu (spT_Q hp hN t i e h1 h0 (by omega)) (spL_Q hp hN r e j h2 (by omega) hj)
end
end
end Pa
end Go.Proofs.Ythfaleaojlnnoaa
end
section
namespace Go.Proofs.Ythfaleaojlnnoaa
namespace Pa
open Go Go.Sx
def zTok (t:Lx.Tok):Lx.Tok:={ t with pos:=0 }
def zP (p:Ps):Ps:={ p with fat:=0 }
mutual
def zT:Tr→Tr
 | .mk k w n _ l=>.mk k w n 0 (zL l)
def zL:List Tr→List Tr
 | []=>[]
 | t::r=>zT t::zL r
end
def zR (r:Tr × Ps):Tr × Ps:=(zT r.1,zP r.2)
def zS (r:List Tr × Ps):List Tr × Ps:=(zL r.1,zP r.2)
theorem qmy:∀ l r:List Tr,zL (l++r)=zL l++zL r
 | [],r=>by rw [zL];rfl
 | t::l,r=>by rw [xl,zL,zL,qmy l r];rfl
theorem qat (k:Int) (w:List (List UInt8)) (n:List Int) (a:Int) (l:List Tr):zT (.mk k w n a l)=.mk k w n 0 (zL l):=by rw [zT]
theorem qac:zL []=[]:=by rw [zL]
theorem qdc (t:Tr) (r:List Tr):zL (t::r)=zT t::zL r:=by rw [zL]
theorem jej (sg:Int) (a b:Tr):zT (binT sg a b)=binT sg (zT a) (zT b):=by
 unfold binT
 rw [qat,qdc,qdc,qac]
 cases a with
 | mk k w n a l=>rw [qat];rfl
section
variable (ts:List Lx.Tok)
theorem z_tk (p:Ps):tk (ts.map zTok) (zP p)=zTok (tk ts p):=by
 unfold tk zP
 rw [List.getD_eq_getElem?_getD,zi,List.getD_eq_getElem?_getD]
 cases ts[p.at_.toNat]? <;> rfl
theorem qpd (p:Ps):(tk (ts.map zTok) (zP p)).kind=(tk ts p).kind:=by rw [z_tk];rfl
theorem qsf (p:Ps):(tk (ts.map zTok) (zP p)).s=(tk ts p).s:=by rw [z_tk];rfl
theorem qku (p:Ps):(tk (ts.map zTok) (zP p)).pos=0:=by rw [z_tk];rfl
theorem qpe (p:Ps):(zP p).err=p.err:=rfl
theorem qdg (p:Ps) (s:List UInt8):sees (ts.map zTok) (zP p) s=sees ts p s:=by unfold sees qom;rw [qpd,qsf];rfl
theorem qhg (p:Ps):adv (zP p)=zP (adv p):=rfl
theorem qkv (p:Ps):outP (zP p)=zP (outP p):=rfl
theorem qsg (p:Ps) (e:Int):bad (ts.map zTok) (zP p) e=zP (bad ts p e):=by
 unfold bad
 rw [qpe,qku]
 split <;> rfl
theorem jek (p:Ps) (s:List UInt8):took (ts.map zTok) (zP p) s=zP (took ts p s):=by unfold took;rw [qdg];split <;> rfl
theorem qen (p:Ps) (s:List UInt8):must (ts.map zTok) (zP p) s=zP (must ts p s):=by unfold must;rw [qdg,qsg];split <;> rfl
theorem jel (p:Ps):qco (ts.map zTok) (zP p)=qco ts p:=by unfold qco;rw [qpd,qsf];rfl
theorem qmz (p:Ps):qz (ts.map zTok) (zP p)=qz ts p:=by unfold qz;rw [jel,qsf]
theorem qna (p:Ps):qc (ts.map zTok) (zP p)=zP (qc ts p):=by unfold qc;rw [jel,qsg];split <;> rfl
theorem jem (p:Ps):qcg (ts.map zTok) (zP p)=qcg ts p:=by unfold qcg;rw [qpd];rfl
theorem qsh (p:Ps):numN (ts.map zTok) (zP p)=numN ts p:=by unfold numN;rw [jem,qsf]
theorem qsi (p:Ps):numP (ts.map zTok) (zP p)=zP (numP ts p):=by unfold numP;rw [jem,qsg];split <;> rfl
theorem jen (p:Ps) (s:List UInt8):ju (ts.map zTok) (zP p) s=ju ts p s:=by unfold ju;rw [qdg]
theorem z_in (p:Ps):inP (ts.map zTok) (zP p)=zP (inP ts p):=by
 unfold inP
 have e:({ zP p with deep:=(zP p).deep+1 }:Ps)=zP { p with deep:=p.deep+1 }:=rfl
 rw [e,qsg]
 show (if 200<p.deep+1 then _ else _)=_
 split <;> rfl
theorem qpf {f f':Ps→Tr × Ps} (hf:∀ p,f' (zP p)=zR (f p)) {c c':Ps→Bool} (hc:∀ p,c' (zP p)=c p) {sg sg':Ps→Int} (hs:∀ p,sg' (zP p)=sg p):∀ (n:Nat) (a:Tr) (p:Ps),js f' c' sg' n (zT a) (zP p)=zR (js f c sg n a p)
 | 0,a,p=>by rw [js,js];rfl
 | n+1,a,p=>by
  rw [js,js,hc,hs,qhg,hf]
  split
  ·have:=qpf hf hc hs n (binT (sg p) a (f (adv p)).1) (f (adv p)).2
   rw [jej] at this
   exact this
  ·rfl
theorem jeo {f f':Ps→Tr × Ps} (hf:∀ p,f' (zP p)=zR (f p)) (s:List UInt8) (sg:Int) (p:Ps):qek (ts.map zTok) f' s sg (zP p)=zR (qek ts f s sg p):=by
 unfold qek
 rw [hf]
 show (if sees (ts.map zTok) (zP (f p).2) s=true then _ else _)=_
 rw [qdg]
 split
 ·show (binT sg (zT (f p).1) (f' (adv (zP (f p).2))).1,(f' (adv (zP (f p).2))).2)=zR (binT sg (f p).1 (f (adv (f p).2)).1,(f (adv (f p).2)).2)
  rw [qhg,hf]
  unfold zR
  rw [jej]
 ·rfl
section
variable {part part':Ps→Tr × Ps} (hp:∀ p,part' (zP p)=zR (part p))
include hp
theorem jep (p:Ps):qbm (ts.map zTok) part' (zP p)=zR (qbm ts part p):=by
 unfold qbm
 rw [hp,zl]
 exact qpf hp (fun p=>by unfold qdq;simp only [qdg]) (fun p=>by unfold qeu;simp only [qdg]) _ _ _
theorem z_sum (p:Ps):sumF (ts.map zTok) part' (zP p)=zR (sumF ts part p):=by
 unfold sumF
 rw [jep ts hp,zl]
 exact qpf (jep ts hp) (fun p=>by unfold sumC;simp only [qdg]) (fun p=>by unfold sumS;simp only [qdg]) _ _ _
theorem jsk (p:Ps):qch (ts.map zTok) part' (zP p)=zR (qch ts part p):=jeo ts (z_sum ts hp) _ _ p
theorem jeq (p:Ps):qcp (ts.map zTok) part' (zP p)=zR (qcp ts part p):=jeo ts (jsk ts hp) _ _ p
theorem jer (p:Ps):andF (ts.map zTok) part' (zP p)=zR (andF ts part p):=by
 unfold andF
 rw [jeq ts hp,zl]
 exact qpf (jeq ts hp) (fun p=>qdg ts p _) (fun _=>rfl) _ _ _
theorem jes (p:Ps):qal (ts.map zTok) part' (zP p)=zR (qal ts part p):=by
 unfold qal
 rw [jer ts hp,zl]
 exact qpf (jer ts hp) (fun p=>qdg ts p _) (fun _=>rfl) _ _ _
end
theorem qwx:∀ (n:Nat) (p:Ps),qr (ts.map zTok) n (zP p)=zR (qr ts n p)
 | 0,p=>by rw [qr,qr];unfold zR Tr.none;rw [qat,qac]
 | n+1,p=>by
  unfold qr
  simp only [qpd,qku,qpe,qdg,qsh,qsi,qhg,qmz,qna,z_in,jes ts (qwx n)]
  split
  ·unfold zR;simp only [qat,qac]
  split
  ·unfold zR;simp only [qat,qac]
  split
  ·unfold ifOk
   simp only [qpe,qwx n]
   by_cases h:(inP ts (adv p)).err=0
   ·simp only [h,if_true,zR,qat,qac,qdc,qkv]
   ·simp only [h,if_false,zR,qat,qac,qkv]
  split
  ·by_cases h:(inP ts (adv p)).err=0
   ·simp only [h,if_true,zR,qkv,qen]
   ·simp only [h,if_false,zR,qat,qac,qkv,qen]
  ·unfold zR;simp only [qat,qac]
theorem z_e (p:Ps):eF (ts.map zTok) (zP p)=zR (eF ts p):=by
 unfold eF
 rw [zl]
 exact jes ts (qwx ts _) p
end
end Pa
end Go.Proofs.Ythfaleaojlnnoaa
end
section
namespace Go.Proofs.Ythfaleaojlnnoaa
namespace Pa
open Go Go.Sx
section
variable (ts:List Lx.Tok)
theorem qwy {stat stat':Ps→Tr × Ps} (hs:∀ p,stat' (zP p)=zR (stat p)):∀ (n:Nat) (l:List Tr) (p:Ps),ql (ts.map zTok) stat' n (zL l) (zP p)=zS (ql ts stat n l p)
 | 0,l,p=>by rw [ql,ql];rfl
 | n+1,l,p=>by
  rw [ql,ql,qpe,qdg,hs]
  split
  ·split
   ·rfl
   ·have:=qwy hs n (l++[(stat p).1]) (stat p).2
    rw [qmy,qdc,qac] at this
    exact this
  ·rfl
theorem jsl {stat stat':Ps→Tr × Ps} (hs:∀ p,stat' (zP p)=zR (stat p)) (p:Ps):qi (ts.map zTok) stat' (zP p)=zR (qi ts stat p):=by
 unfold qi
 have:=qwy ts hs ts.length [] (inP ts (must ts p sLc))
 rw [qac] at this
 simp only [qen,z_in,qku,zl,this,zS,zR,qat,qkv]
theorem z_or {blk blk':Ps→Tr × Ps} (hb:∀ p,blk' (zP p)=zR (blk p)):∀ (n:Nat) (l:List Tr) (p:Ps),orL (ts.map zTok) blk' n (zL l) (zP p)=zS (orL ts blk n l p)
 | 0,l,p=>by rw [orL,orL];rfl
 | n+1,l,p=>by
  rw [orL,orL,qdg,qhg,hb]
  split
  ·have:=z_or hb n (l++[(blk (adv p)).1]) (blk (adv p)).2
   rw [qmy,qdc,qac] at this
   exact this
  ·rfl
theorem jsm {blk blk':Ps→Tr × Ps} (hb:∀ p,blk' (zP p)=zR (blk p)) (a i:Int) (p:Ps):qam (ts.map zTok) blk' 0 i (zP p)=zR (qam ts blk a i p):=by
 unfold qam
 have:=z_or ts hb ts.length [(blk (must ts p qp)).1] (blk (must ts p qp)).2
 rw [qdc,qac] at this
 simp only [qdg,qhg,qmz,qna,qen,z_e,hb,zl,zR,this,zS]
 split
 ·simp only [qat,qac]
 split
 ·simp only [qat,qac,qdc]
 ·simp only [qat]
theorem jet:∀ (n:Nat) (p:Ps),qd (ts.map zTok) n (zP p)=zR (qd ts n p)
 | 0,p=>by rw [qd,qd];unfold zR Tr.none;rw [qat,qac]
 | n+1,p=>by
  have hb:=jsl ts (jet n)
  unfold qd
  simp only [qku,qdg,jen,jek,qhg,qmz,qna,qen,z_e,jsm ts hb (tk ts p).pos]
  split
  ·rfl
  split
  ·simp only [zR,qat,qac,qdc,qen,z_e]
  split
  ·simp only [zR,hb,qdg,qhg]
   split <;> simp only [qat,qac,qdc]
  split
  ·simp only [zR,hb,qat,qac,qdc]
  split
  ·simp only [zR,hb,qat,qac,qdc]
  split
  ·simp only [zR,qat,qac]
  split
  ·simp only [zR,qat,qac]
  ·simp only [zR,qat,qac,qdc,qen]
theorem z_s (p:Ps):sF (ts.map zTok) (zP p)=zR (sF ts p):=by
 unfold sF
 rw [zl]
 exact jet ts _ p
theorem jeu (p:Ps):jh (ts.map zTok) (zP p)=zR (jh ts p):=by
 unfold jh
 simp only [qku,qdg,qhg,qmz,qna,qen,qsh,qsi]
 split
 ·split <;> simp only [zR,qat,qac,qen]
 ·simp only [zR,qat,qac,qen]
theorem jev:∀ (n:Nat) (l:List Tr) (p:Ps),jg (ts.map zTok) n (zL l) (zP p)=zS (jg ts n l p)
 | 0,l,p=>by rw [jg,jg];rfl
 | n+1,l,p=>by
  rw [jg,jg,qdg,jeu]
  split
  ·have:=jev n (l++[(jh ts p).1]) (jh ts p).2
   rw [qmy,qdc,qac] at this
   exact this
  ·rfl
theorem jsn (p:Ps):qar (ts.map zTok) (zP p)=zR (qar ts p):=by
 unfold qar
 have hv:∀ q,jg (ts.map zTok) ts.length [] (zP q)=zS (jg ts ts.length [] q):=fun q=>by
  have:=jev ts ts.length [] q
  rwa [qac] at this
 have hs:=qwy ts (z_s ts)
 simp only [qku,qdg,qhg,qmz,qna,qen,qsh,qsi,zl]
 split
 ·simp only [qen,hv,zS,z_in,hs,zR,qat,qkv]
 ·simp only [qen,hv,zS,z_in,hs,zR,qat,qkv]
theorem jso (p:Ps):jm (ts.map zTok) (zP p)=zR (jm ts p):=by
 unfold jm
 simp only [qku,qdg,qhg,qmz,qna,qen,qsh,qsi,jen,jek,jeu,jsn,z_e]
 split
 ·rfl
 split
 ·rfl
 split
 ·simp only [zR,qat,qac]
 split
 ·simp only [zR,qat,qac,qdc,qen]
 ·simp only [zR,qat,qac]
theorem qpg:∀ (n:Nat) (l:List Tr) (p:Ps),jd (ts.map zTok) n (zL l) (zP p)=zS (jd ts n l p)
 | 0,l,p=>by rw [jd,jd];rfl
 | n+1,l,p=>by
  rw [jd,jd,qpe,qpd,jso]
  split
  ·have:=qpg n (l++[(jm ts p).1]) (jm ts p).2
   rw [qmy,qdc,qac] at this
   exact this
  ·rfl
end
end Pa
end Go.Proofs.Ythfaleaojlnnoaa
end
section
namespace Go.Proofs.Ythfaleaojlnnoaa
namespace Pa
open Go Go.Sx
def zN (n:Nd):Nd:={ n with at_:=0 }
mutual
theorem z_size:∀ t:Tr,(zT t).size=t.size
 | .mk k w n a l=>by rw [qat,Tr.size,Tr.size,z_sizeL l]
theorem z_sizeL:∀ l:List Tr,Tr.sizeL (zL l)=Tr.sizeL l
 | []=>by rw [qac]
 | t::r=>by rw [qdc,Tr.sizeL,Tr.sizeL,z_size t,z_sizeL r]
end
theorem jew:∀ (n:Nat) (l:List Tr),qn n (zL l)=qn n l
 | n,[]=>by rw [qac]
 | n,t::r=>by rw [qdc,qn,qn,z_size,jew _ r]
mutual
theorem z_lay:∀ (n:Nat) (t:Tr),layT n (zT t)=(layT n t).map zN
 | n,.mk k w ns a l=>by rw [qat,layT,layT,xe,jew,z_layL (n+1) l];rfl
theorem z_layL:∀ (n:Nat) (l:List Tr),layL n (zL l)=(layL n l).map zN
 | n,[]=>by rw [qac,layL];rfl
 | n,t::r=>by rw [qdc,layL,layL,List.map_append,z_size,z_lay n t,z_layL _ r]
end
mutual
theorem z_deep:∀ (t:Tr) (n:Int),t.allT (fun u=>0≤u.at_)→(0≤deepT (zT t) n↔0≤deepT t n)
 | .mk k w ns a l,n,h=>by
  rw [Tr.allT] at h
  have h1:0≤a:=h.1
  rw [qat,deepT,deepT]
  split
  ·exact ⟨fun _=>h1,fun _=>zp _⟩
  ·exact z_deepL l n h.2
theorem z_deepL:∀ (l:List Tr) (n:Int),Tr.allL (fun u=>0≤u.at_) l→(0≤deepL (zL l) n↔0≤deepL l n)
 | [],n,_=>by rw [qac]
 | t::r,n,h=>by
  rw [Tr.allL] at h
  have h1:=z_deep t (n+1) h.1
  have h2:=z_deepL r n h.2
  rw [qdc,deepL,deepL]
  by_cases h3:0≤deepT t (n+1)
  ·rw [zf (h1.2 h3),zf h3];exact h1
  ·rw [ze (fun h=>h3 (h1.1 h)),ze h3];exact h2
end
theorem jex {ts:List Lx.Tok} (ht:ToksOk ts) (h0:0<ts.length) (hp:∀ t∈ts,0≤t.pos) (hx:(ji ts ⟨0,0,0,0⟩).2.err=0):(ji ts ⟨0,0,0,0⟩).1.allT (fun u=>0≤u.at_):=by
 have hA:AtOk ts ⟨0,0,0,0⟩:=⟨zp _,by simp only;omega⟩
 obtain ⟨l,j,e,hs,hj⟩:=qwt ht hA hx
 rw [e]
 refine qck ?_ (spL_nonneg hp l _ j hs (zp _) (by omega))
 obtain ⟨t,hm,e2⟩:=qmv (ts:=ts) (i:=0) (zp _) (by omega)
 have:=hp t hm
 show 0≤posT ts 0
 omega
end Pa
end Go.Proofs.Ythfaleaojlnnoaa
end
section
namespace Go.Proofs.Ythfaleaojlnnoaa
namespace Pa
open Go Go.Sx
end Pa
end Go.Proofs.Ythfaleaojlnnoaa
end
section
namespace Go.Proofs.Ythfaleaojlnnoaa
namespace Pa
open Go Go.Sx
end Pa
end Go.Proofs.Ythfaleaojlnnoaa
end
section
namespace Go.Proofs.Ythfaleaojlnnoaa
namespace Pa
open Go Go.Sx
end Pa
end Go.Proofs.Ythfaleaojlnnoaa
end
section
namespace Go.Proofs.Ythfaleaojlnnoaa
open Go Go.Sx Go.RowKit Go.St Pa
set_option maxRecDepth 100000
set_option maxHeartbeats 4000000
theorem jsp (s:List UInt8):(jk s).1=[]∨∃ t:Tr,(jk s).1=layT 0 t∧t.size≤800:=by
 unfold jk
 split
 ·exact .inl rfl
 unfold qbi
 simp only
 split
 ·exact .inl rfl
 split
 ·exact .inl rfl
 rename_i h8
 split
 ·exact .inl rfl
 rw [lay_lenT] at h8
 exact .inr ⟨_,rfl,by omega⟩
theorem jsq {n:Nd} {c:Int} (h:qq n c=true):(n.words.length:Int)=c:=by
 unfold qq at h
 rw [zh,xw] at h
 exact h.2
theorem jsr {l:List Nd} {n:Nd} (hk:n.kids.length≤800) (h:qbt l n=true):n.words.length≤2∧n.nums.length≤4:=by
 rw [← jnw l n hk] at h
 unfold jbu at h
 rw [zh,zh] at h
 have hw:=jsq h.1.1
 have hn:=h.1.2
 unfold qan at hn
 rw [zh,zw] at hn
 have hn:=hn.1
 constructor
 ·unfold cntW at hw
  split at hw
  ·omega
  split at hw <;> omega
 ·unfold bndF at hn
  repeat' (split at hn)
  all_goals (simp only [zr,zat] at hn;omega)
theorem qsj (s:List UInt8):(jk s).1.length≤800∧∀ nd∈(jk s).1,nd.words.length≤2∧nd.nums.length≤4∧nd.kids.length≤800:=by
 by_cases h:(jk s).2.1=0
 ·have hr:=jsd h
  have ha:(jk s).1.all (qbt (jk s).1)=true:=by
   unfold qvy at hr
   rw [zh] at hr
   exact hr.2
  rcases jsp s with e|⟨t,e,ht⟩
  ·rw [e]
   exact ⟨xu _,fun nd hm=>absurd hm List.not_mem_nil⟩
  ·refine ⟨by rw [e,lay_lenT];omega,fun nd hm=>?_⟩
   have hk8:nd.kids.length≤800:=?_
   ·obtain ⟨h1,h2⟩:=jsr hk8 (List.all_eq_true.1 ha nd hm)
    exact ⟨h1,h2,hk8⟩
   rw [e] at hm
   obtain ⟨j,hj,rfl⟩:=List.getElem_of_mem hm
   rw [lay_lenT] at hj
   have:=kids_lenT 0 t j hj
   rw [List.getD_eq_getElem?_getD,zg (by rw [lay_lenT];exact hj)] at this
   exact xc this ht
 ·rw [jse h]
  exact ⟨xu _,fun nd hm=>absurd hm List.not_mem_nil⟩
theorem qqz {l:List Nd} {i:Nat} (hi:i<l.length):l.getD i nd0∈l:=by
 rw [List.getD_eq_getElem?_getD,zg hi]
 exact xj hi
end Go.Proofs.Ythfaleaojlnnoaa
end
section
namespace Go.Proofs.Ythfaleaojlnnoaa
namespace Pa
open Go Go.Sx
def lexF:Nat→List UInt8→Nat→Except Nat (List Lx.Tok)
 | 0,_,p=>.error p
 | _+1,[],p=>.ok [⟨3,[],p⟩]
 | n+1,b::r,p=>if Lx.blankB b then lexF n r (p+1) else if Lx.slash2 (b::r) then lexF n (r.drop (Lx.lineN r)) (p+1+Lx.lineN r) else if Lx.firstN (b::r)=0 then .error p
  else (lexF n (r.drop (Lx.firstN (b::r) - 1)) (p+Lx.firstN (b::r))).map (⟨Lx.firstK (b::r),(b::r).take (Lx.firstN (b::r)),p⟩::·)
theorem qsk:∀ (n:Nat) (l:List UInt8) (p:Nat),l.length<n→lexF n l p=Lx.lexR l p
 | 0,_,_,h=>absurd h (xf _)
 | n+1,[],p,_=>by rw [Lx.lexR_nil];rfl
 | n+1,b::r,p,h=>by
  have hr:r.length<n:=by simpa using h
  rw [Lx.lexR_cons,lexF,qsk n r _ hr,qsk n (r.drop (Lx.lineN r)) _ (by rw [zq];omega),qsk n (r.drop (Lx.firstN (b::r) - 1)) _ (by rw [zq];omega)]
def qsl (s:List UInt8):List Nd × (Int × Int):=
 match lexF (s.length+1) s 0 with
 | .ok ts=>qbi ts
 | .error p=>([],(10,p))
theorem jey {s:List UInt8} {r:List Nd × (Int × Int)} (h:qsl s=r) (hs:s.length≤4000):jk s=r:=by
 unfold qsl at h
 rw [qsk _ _ _ (zan _)] at h
 have hn:¬ 4000<s.length:=by omega
 unfold jk Lx.lexAll
 split at h
 ·rename_i ts hts
  rw [hts,ze hn]
  exact h
 ·rename_i p hp
  rw [hp,ze hn]
  exact h
end Pa
end Go.Proofs.Ythfaleaojlnnoaa
end
section
namespace Go.Proofs.Ythfaleaojlnnoaa
open List renaming getD_eq_getElem?_getD → zd
open Go Go.Sx Go.RowKit Go.St Pa
set_option maxRecDepth 100000
set_option maxHeartbeats 8000000
theorem jss (s:List UInt8) (hs:s.length≤1000000):Con Try.prog 12 [.str s] (qon (jk s)):=by
 refine zK {} 300 Try.func12 (fun c0 rdb=>?_)
 (repeat' ((conv=>whnf);first|refine zO ?_|refine Ob.auto ?_|refine zC 300 (jms s hs) ?_|refine zD 300 ?_|(apply zB <;> intro hb <;> (try simp [-zd] at hb) <;> try (exfalso;omega))))
 ·have he:(Lx.lexAll s).2.1≠0:=by assumption
  have e:jk s=([],(Lx.lexAll s).2):=zf he
  rw [e]
  exact Le.tup ⟨Le.nils _ _,Le.refl _,trivial⟩
 have he:(Lx.lexAll s).2.1=0:=by assumption
 obtain ⟨ht,h0⟩:=qgi he
 have e:jk s=qbi (Lx.lexAll s).1:=ze (by rw [he];decide)
 rw [e]
 generalize hts:(Lx.lexAll s).1=ts at ht h0 ⊢
 have hP:Pre ts ts.length ⟨0,0,0,0⟩:=⟨⟨zp _,by simp only;omega⟩,by simp,by simp⟩
 ((conv=>whnf);refine zT 300 [2] (jnj ht hP) qa ?_)
 (repeat' ((conv=>whnf);first|refine zO ?_|refine Ob.auto ?_|refine zD 300 ?_|(apply zB <;> intro hb <;> (try simp [-zd] at hb) <;> try (exfalso;omega))))
 ·have hn:(ji ts ⟨0,0,0,0⟩).2.err≠0:=by assumption
  have e:qbi ts=([],((ji ts ⟨0,0,0,0⟩).2.err,(ji ts ⟨0,0,0,0⟩).2.fat)):=zf hn
  rw [e]
  exact Le.tup ⟨Le.nils _ _,Le.refl _,trivial⟩
 have hn:(ji ts ⟨0,0,0,0⟩).2.err=0:=by assumption
 have hsz:(ji ts ⟨0,0,0,0⟩).1.size≤100000:=by
  have:=jdm ht hP.at_ hn
  have:=ht.len
  omega
 have e2:qbi ts=if 800<(layT 0 (ji ts ⟨0,0,0,0⟩).1).length then ([],(12,0)) else if 0≤deepT (ji ts ⟨0,0,0,0⟩).1 1 then ([],(12,deepT (ji ts ⟨0,0,0,0⟩).1 1)) else (layT 0 (ji ts ⟨0,0,0,0⟩).1,(0,0)):=ze (fun h=>h hn)
 rw [e2]
 generalize (ji ts ⟨0,0,0,0⟩).1=t at hsz ⊢
 (conv=>whnf)
 refine qgx (fun _=>rfl) 300 [] (jno t hsz) (by kernel_rfl) leA trivial (by exact qb rfl) (rowsM _) (by kernel_rfl) ?_
 (repeat' ((conv=>whnf);first|refine Ob.auto ?_|refine zC 300 (jnl _ t 1 (zj _) hsz (by decide) (by decide)) ?_|(apply zB <;> intro hb <;> (try simp [-zd] at hb) <;> try (exfalso;omega))|refine Ob.intro ?_ ?_|fail))
 ·have hb8:800<(layT 0 t).length:=by omega
  rw [zf hb8]
  exact Le.tup ⟨Le.nils _ _,Le.refl _,trivial⟩
 ·have hb8:¬ 800<(layT 0 t).length:=by omega
  rw [ze hb8,zf (by assumption)]
  exact Le.tup ⟨Le.nils _ _,Le.refl _,trivial⟩
 ·exact ⟨⟨trivial,⟨rfl,rfl⟩,fun k hk=>⟨trivial,trivial,trivial,⟨hk,⟨rfl,rfl⟩,trivial⟩,trivial,trivial⟩⟩,⟨trivial,trivial,trivial⟩,trivial⟩
 ·have hb8:¬ 800<(layT 0 t).length:=by omega
  rw [ze hb8,ze (by omega)]
  refine Le.tup ⟨Le.slcL rfl (fun k hk=>?_),Le.refl _,trivial⟩
  exact ⟨Le.refl _,Le.refl _,Le.refl _,Le.refl _,Le.refl _,trivial⟩
end Go.Proofs.Ythfaleaojlnnoaa
end
section
namespace Go.Proofs.Ythfaleaojlnnoaa
open Go Go.Sx Go.RowKit Go.St Pa
set_option maxRecDepth 100000
def qwz:List Nd:=[⟨0,[],[],[1],0⟩,⟨4,[],[],[2],0⟩,⟨22,[],[3],[3,4],5⟩,⟨18,[[120]],[],[],5⟩,⟨17,[],[1],[],9⟩]
noncomputable def D9:CE:=⟨Try.prog,tab Try.prog,fun _=>{ lit:=true }⟩
theorem qnb:Con Try.prog 15 [qkc qwz] (.bool true):=
 jkw (D:=D9) (fun _=>rfl) (by kernel_rfl) (n:=100000) (by kernel_rfl)
set_option maxHeartbeats 4000000
def qxa:List UInt8:=[115,97,102,101,32,120,32,60,32,49,59]
def qxb:List UInt8:=[115,97,102,101,32,120,32,60,32,49,32,60,32,50,59]
theorem px9:qsl qxa=(qwz,(0,0)):=by kernel_rfl
theorem px9b:qsl qxb=([],(11,11)):=by kernel_rfl
theorem qnc:Con Try.prog 11 [.str qxa] (.tup [qkc qwz,flt 0 0]):=by
 have h:=qww qxa (by decide)
 rw [jey px9 (by decide)] at h
 exact h
theorem qnd:Con Try.prog 11 [.str qxb] (.tup [qkc [],flt 11 11]):=by
 have h:=qww qxb (by decide)
 rw [jey px9b (by decide)] at h
 exact h
theorem qfp:Con Try.prog 10 [] (.bool true):=by
 refine zK {} 300 Try.func10 (fun c0 rdb=>?_)
 (repeat' ((conv=>whnf);first|refine zA ?_|refine zO ?_|refine Ob.auto ?_|refine zC 300 (qnc) ?_|refine zG 300 (fun hg=>qnc) ?_|(refine CallY.con (qnc) (by rfl) leA ?_)|(refine CallZ.con (fun hg=>qnc) jf (by rfl) ?_)|refine zC 300 (qnd) ?_|refine zG 300 (fun hg=>qnd) ?_|(refine CallY.con (qnd) (by rfl) leA ?_)|(refine CallZ.con (fun hg=>qnd) jf (by rfl) ?_)|refine zC 300 (qnb) ?_|refine zG 300 (fun hg=>qnb) ?_|(refine CallY.con (qnb) (by rfl) leA ?_)|(refine CallZ.con (fun hg=>qnb) jf (by rfl) ?_)|(refine qm (fun _=>rfl) 300 (qnc) qe (by (repeat' (first|exact trivial|exact Le.refl _|(refine And.intro ?_ ?_))) <;> fail) (by rfl) (by kernel_rfl) ?_)|(refine qx (fun _=>rfl) 300 (fun hg=>qnc) (fun hg=>qe) (fun hg=>(by (repeat' (first|exact trivial|exact Le.refl _|exact Le.cnd hg|(refine And.intro ?_ ?_))) <;> fail)) (by rfl) (by kernel_rfl) ?_)|(refine qm (fun _=>rfl) 300 (qnd) qe (by (repeat' (first|exact trivial|exact Le.refl _|(refine And.intro ?_ ?_))) <;> fail) (by rfl) (by kernel_rfl) ?_)|(refine qx (fun _=>rfl) 300 (fun hg=>qnd) (fun hg=>qe) (fun hg=>(by (repeat' (first|exact trivial|exact Le.refl _|exact Le.cnd hg|(refine And.intro ?_ ?_))) <;> fail)) (by rfl) (by kernel_rfl) ?_)|(refine qm (fun _=>rfl) 300 (qnb) qe (by (repeat' (first|exact trivial|exact Le.refl _|(refine And.intro ?_ ?_))) <;> fail) (by rfl) (by kernel_rfl) ?_)|(refine qx (fun _=>rfl) 300 (fun hg=>qnb) (fun hg=>qe) (fun hg=>(by (repeat' (first|exact trivial|exact Le.refl _|exact Le.cnd hg|(refine And.intro ?_ ?_))) <;> fail)) (by rfl) (by kernel_rfl) ?_)|refine zD 300 ?_|(apply zB <;> intro hb <;> (try simp [-List.getD_eq_getElem?_getD] at hb) <;> try (exfalso;omega))|refine Ob.intro ?_ ?_))
 exact Le.refl _
end Go.Proofs.Ythfaleaojlnnoaa
end
