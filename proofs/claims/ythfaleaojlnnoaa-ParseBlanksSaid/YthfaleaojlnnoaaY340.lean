/- Some texts of the library, one behind the other. -/
import Derived.Test.YthfaleaojlnnoaaY3PgQ
import Derived.Test.YthfaleaojlnnoaaY32
set_option linter.unusedSimpArgs false
set_option linter.unusedVariables false
section
namespace Go.Proofs.Ythfaleaojlnnoaa
namespace Pa
open Go Go.Sx Go.St
def spQ (N:Int) (u:Tr):Prop:=(u.l.map Tr.at_).Pairwise (· < ·)∧∀ x∈u.l.map Tr.at_,u.at_≤x∧x≤N
section
variable {ts:List Lx.Tok} {N:Int}
theorem jbk (hp:ts.Pairwise (fun a b=>a.pos<b.pos)) {i j:Int} (h0:0≤i) (hij:i<j) (hj:j<ts.length):posT ts i<posT ts j:=by
 have:=List.pairwise_iff_getElem.1 hp i.toNat j.toNat (by omega) (by omega) (by omega)
 unfold posT
 rw [List.getD_eq_getElem?_getD,ze (by omega),List.getD_eq_getElem?_getD,ze (by omega)]
 exact this
theorem jbl (hp:ts.Pairwise (fun a b=>a.pos<b.pos)):∀ (l:List Tr) (i j:Int),SpL ts l i j→0≤i→j≤ts.length→
  (∀ x∈l.map Tr.at_,∃ m,i≤m∧m<j∧x=posT ts m)∧(l.map Tr.at_).Pairwise (· < ·)
 | [],_,_,_,_,_=>⟨fun x hx=>by simp at hx,List.Pairwise.nil⟩
 | t::r,i,j,h,h0,hj=>by
  obtain ⟨e,h1,h2⟩:=spL_cons.1 h
  have h3:=qkz h1
  have h4:=qlb _ _ _ h2
  obtain ⟨m,m1,m2,m3,_⟩:=qui h1
  obtain ⟨k1,k2⟩:=jbl hp r e j h2 (by omega) hj
  rw [xf]
  refine ⟨fun x hx=>?_,List.pairwise_cons.2 ⟨fun x hx=>?_,k2⟩⟩
  ·rcases List.mem_cons.1 hx with rfl|hx
   ·exact ⟨m,m1,by omega,m3⟩
   ·obtain ⟨n,n1,n2,n3⟩:=k1 x hx
    exact ⟨n,by omega,n2,n3⟩
  ·obtain ⟨n,n1,n2,n3⟩:=k1 x hx
   rw [m3,n3]
   exact jbk hp (by omega) (by omega) (by omega)
mutual
theorem spT_Q (hp:ts.Pairwise (fun a b=>a.pos<b.pos)) (hN:∀ t∈ts,t.pos≤N):∀ (t:Tr) (i j:Int),SpT ts t i j→0≤i→j≤ts.length→t.allT (spQ N)
 | .mk k w n a l,i,j,h,h0,hj=>by
  obtain ⟨m,h1,h2,h3,h4⟩:=spT_mk.1 h
  obtain ⟨k1,k2⟩:=jbl hp l m j h4 (by omega) hj
  refine qbk ⟨k2,fun x hx=>?_⟩ (spL_Q hp hN l m j h4 (by omega) hj)
  obtain ⟨q,q1,q2,q3⟩:=k1 x hx
  obtain ⟨t,ht,e⟩:=qld (ts:=ts) (i:=q) (by omega) (by omega)
  have h5:=hN t ht
  refine ⟨?_,by omega⟩
  show a≤x
  rw [h3,q3]
  by_cases hmq:m=q
  ·rw [hmq];exact zp _
  ·exact Int.le_of_lt (jbk hp (by omega) (by omega) (by omega))
theorem spL_Q (hp:ts.Pairwise (fun a b=>a.pos<b.pos)) (hN:∀ t∈ts,t.pos≤N):∀ (l:List Tr) (i j:Int),SpL ts l i j→0≤i→j≤ts.length→Tr.allL (spQ N) l
 | [],_,_,_,_,_=>qcp
 | t::r,i,j,h,h0,hj=>by
  obtain ⟨e,h1,h2⟩:=spL_cons.1 h
  have h3:=qkz h1
  have h4:=qlb _ _ _ h2
  exact qcu (spT_Q hp hN t i e h1 h0 (by omega)) (spL_Q hp hN r e j h2 (by omega) hj)
end
end
end Pa
end Go.Proofs.Ythfaleaojlnnoaa
end
section
namespace Go.Proofs.Ythfaleaojlnnoaa
namespace Pa
open Go Go.Sx
def zTok (t:Lx.Tok):Lx.Tok:={ t with pos:=0 }
def zP (p:Ps):Ps:={ p with fat:=0 }
mutual
def zT:Tr→Tr
 | .mk k w n _ l=>.mk k w n 0 (zL l)
def zL:List Tr→List Tr
 | []=>[]
 | t::r=>zT t::zL r
end
def zR (r:Tr × Ps):Tr × Ps:=(zT r.1,zP r.2)
def zS (r:List Tr × Ps):List Tr × Ps:=(zL r.1,zP r.2)
theorem qnd:∀ l r:List Tr,zL (l++r)=zL l++zL r
 | [],r=>by rw [zL];rfl
 | t::l,r=>by rw [xk,zL,zL,qnd l r];rfl
theorem qal (k:Int) (w:List (List UInt8)) (n:List Int) (a:Int) (l:List Tr):zT (.mk k w n a l)=.mk k w n 0 (zL l):=by rw [zT]
theorem qaf:zL []=[]:=by rw [zL]
theorem qcq (t:Tr) (r:List Tr):zL (t::r)=zT t::zL r:=by rw [zL]
theorem jbm (sg:Int) (a b:Tr):zT (binT sg a b)=binT sg (zT a) (zT b):=by
 unfold binT
 rw [qal,qcq,qcq,qaf]
 cases a with
 | mk k w n a l=>rw [qal];rfl
section
variable (ts:List Lx.Tok)
theorem z_tk (p:Ps):tk (ts.map zTok) (zP p)=zTok (tk ts p):=by
 unfold tk zP
 rw [List.getD_eq_getElem?_getD,zg,List.getD_eq_getElem?_getD]
 cases ts[p.at_.toNat]? <;> rfl
theorem qne (p:Ps):(tk (ts.map zTok) (zP p)).kind=(tk ts p).kind:=by rw [z_tk];rfl
theorem qqi (p:Ps):(tk (ts.map zTok) (zP p)).s=(tk ts p).s:=by rw [z_tk];rfl
theorem qhp (p:Ps):(tk (ts.map zTok) (zP p)).pos=0:=by rw [z_tk];rfl
theorem qnf (p:Ps):(zP p).err=p.err:=rfl
theorem qck (p:Ps) (s:List UInt8):sees (ts.map zTok) (zP p) s=sees ts p s:=by unfold sees qpa;rw [qne,qqi];rfl
theorem qga (p:Ps):adv (zP p)=zP (adv p):=rfl
theorem qjd (p:Ps):outP (zP p)=zP (outP p):=rfl
theorem qqj (p:Ps) (e:Int):bad (ts.map zTok) (zP p) e=zP (bad ts p e):=by
 unfold bad
 rw [qnf,qhp]
 split <;> rfl
theorem jbn (p:Ps) (s:List UInt8):took (ts.map zTok) (zP p) s=zP (took ts p s):=by unfold took;rw [qck];split <;> rfl
theorem qdl (p:Ps) (s:List UInt8):must (ts.map zTok) (zP p) s=zP (must ts p s):=by unfold must;rw [qck,qqj];split <;> rfl
theorem jbo (p:Ps):qcx (ts.map zTok) (zP p)=qcx ts p:=by unfold qcx;rw [qne,qqi];rfl
theorem qlg (p:Ps):ji (ts.map zTok) (zP p)=ji ts p:=by unfold ji;rw [jbo,qqi]
theorem qlh (p:Ps):qd (ts.map zTok) (zP p)=zP (qd ts p):=by unfold qd;rw [jbo,qqj];split <;> rfl
theorem jbp (p:Ps):qcy (ts.map zTok) (zP p)=qcy ts p:=by unfold qcy;rw [qne];rfl
theorem qqk (p:Ps):numN (ts.map zTok) (zP p)=numN ts p:=by unfold numN;rw [jbp,qqi]
theorem qql (p:Ps):numP (ts.map zTok) (zP p)=zP (numP ts p):=by unfold numP;rw [jbp,qqj];split <;> rfl
theorem jbq (p:Ps) (s:List UInt8):jv (ts.map zTok) (zP p) s=jv ts p s:=by unfold jv;rw [qck]
theorem z_in (p:Ps):inP (ts.map zTok) (zP p)=zP (inP ts p):=by
 unfold inP
 have e:({ zP p with deep:=(zP p).deep+1 }:Ps)=zP { p with deep:=p.deep+1 }:=rfl
 rw [e,qqj]
 show (if 200<p.deep+1 then _ else _)=_
 split <;> rfl
theorem qng {f f':Ps→Tr × Ps} (hf:∀ p,f' (zP p)=zR (f p)) {c c':Ps→Bool} (hc:∀ p,c' (zP p)=c p) {sg sg':Ps→Int} (hs:∀ p,sg' (zP p)=sg p):∀ (n:Nat) (a:Tr) (p:Ps),qav f' c' sg' n (zT a) (zP p)=zR (qav f c sg n a p)
 | 0,a,p=>by rw [qav,qav];rfl
 | n+1,a,p=>by
  rw [qav,qav,hc,hs,qga,hf]
  split
  ·have:=qng hf hc hs n (binT (sg p) a (f (adv p)).1) (f (adv p)).2
   rw [jbm] at this
   exact this
  ·rfl
theorem jbr {f f':Ps→Tr × Ps} (hf:∀ p,f' (zP p)=zR (f p)) (s:List UInt8) (sg:Int) (p:Ps):qet (ts.map zTok) f' s sg (zP p)=zR (qet ts f s sg p):=by
 unfold qet
 rw [hf]
 show (if sees (ts.map zTok) (zP (f p).2) s=true then _ else _)=_
 rw [qck]
 split
 ·show (binT sg (zT (f p).1) (f' (adv (zP (f p).2))).1,(f' (adv (zP (f p).2))).2)=zR (binT sg (f p).1 (f (adv (f p).2)).1,(f (adv (f p).2)).2)
  rw [qga,hf]
  unfold zR
  rw [jbm]
 ·rfl
section
variable {part part':Ps→Tr × Ps} (hp:∀ p,part' (zP p)=zR (part p))
include hp
theorem jbs (p:Ps):qfu (ts.map zTok) part' (zP p)=zR (qfu ts part p):=by
 unfold qfu
 rw [hp,zm]
 exact qng hp (fun p=>by unfold qkj;simp only [qck]) (fun p=>by unfold qmp;simp only [qck]) _ _ _
theorem z_sum (p:Ps):sumF (ts.map zTok) part' (zP p)=zR (sumF ts part p):=by
 unfold sumF
 rw [jbs ts hp,zm]
 exact qng (jbs ts hp) (fun p=>by unfold sumC;simp only [qck]) (fun p=>by unfold sumS;simp only [qck]) _ _ _
theorem jop (p:Ps):qir (ts.map zTok) part' (zP p)=zR (qir ts part p):=jbr ts (z_sum ts hp) _ _ p
theorem jbt (p:Ps):qgl (ts.map zTok) part' (zP p)=zR (qgl ts part p):=jbr ts (jop ts hp) _ _ p
theorem jbu (p:Ps):andF (ts.map zTok) part' (zP p)=zR (andF ts part p):=by
 unfold andF
 rw [jbt ts hp,zm]
 exact qng (jbt ts hp) (fun p=>qck ts p _) (fun _=>rfl) _ _ _
theorem jbv (p:Ps):qba (ts.map zTok) part' (zP p)=zR (qba ts part p):=by
 unfold qba
 rw [jbu ts hp,zm]
 exact qng (jbu ts hp) (fun p=>qck ts p _) (fun _=>rfl) _ _ _
end
theorem qum:∀ (n:Nat) (p:Ps),jc (ts.map zTok) n (zP p)=zR (jc ts n p)
 | 0,p=>by rw [jc,jc];unfold zR Tr.none;rw [qal,qaf]
 | n+1,p=>by
  unfold jc
  simp only [qne,qhp,qnf,qck,qqk,qql,qga,qlg,qlh,z_in,jbv ts (qum n)]
  split
  ·unfold zR;simp only [qal,qaf]
  split
  ·unfold zR;simp only [qal,qaf]
  split
  ·unfold ifOk
   simp only [qnf,qum n]
   by_cases h:(inP ts (adv p)).err=0
   ·simp only [h,if_true,zR,qal,qaf,qcq,qjd]
   ·simp only [h,if_false,zR,qal,qaf,qjd]
  split
  ·by_cases h:(inP ts (adv p)).err=0
   ·simp only [h,if_true,zR,qjd,qdl]
   ·simp only [h,if_false,zR,qal,qaf,qjd,qdl]
  ·unfold zR;simp only [qal,qaf]
theorem z_e (p:Ps):eF (ts.map zTok) (zP p)=zR (eF ts p):=by
 unfold eF
 rw [zm]
 exact jbv ts (qum ts _) p
end
end Pa
end Go.Proofs.Ythfaleaojlnnoaa
end
section
namespace Go.Proofs.Ythfaleaojlnnoaa
namespace Pa
open Go Go.Sx
section
variable (ts:List Lx.Tok)
theorem qun {stat stat':Ps→Tr × Ps} (hs:∀ p,stat' (zP p)=zR (stat p)):∀ (n:Nat) (l:List Tr) (p:Ps),jb (ts.map zTok) stat' n (zL l) (zP p)=zS (jb ts stat n l p)
 | 0,l,p=>by rw [jb,jb];rfl
 | n+1,l,p=>by
  rw [jb,jb,qnf,qck,hs]
  split
  ·split
   ·rfl
   ·have:=qun hs n (l++[(stat p).1]) (stat p).2
    rw [qnd,qcq,qaf] at this
    exact this
  ·rfl
theorem joq {stat stat':Ps→Tr × Ps} (hs:∀ p,stat' (zP p)=zR (stat p)) (p:Ps):qr (ts.map zTok) stat' (zP p)=zR (qr ts stat p):=by
 unfold qr
 have:=qun ts hs ts.length [] (inP ts (must ts p sLc))
 rw [qaf] at this
 simp only [qdl,z_in,qhp,zm,this,zS,zR,qal,qjd]
theorem z_or {blk blk':Ps→Tr × Ps} (hb:∀ p,blk' (zP p)=zR (blk p)):∀ (n:Nat) (l:List Tr) (p:Ps),orL (ts.map zTok) blk' n (zL l) (zP p)=zS (orL ts blk n l p)
 | 0,l,p=>by rw [orL,orL];rfl
 | n+1,l,p=>by
  rw [orL,orL,qck,qga,hb]
  split
  ·have:=z_or hb n (l++[(blk (adv p)).1]) (blk (adv p)).2
   rw [qnd,qcq,qaf] at this
   exact this
  ·rfl
theorem jor {blk blk':Ps→Tr × Ps} (hb:∀ p,blk' (zP p)=zR (blk p)) (a i:Int) (p:Ps):qbo (ts.map zTok) blk' 0 i (zP p)=zR (qbo ts blk a i p):=by
 unfold qbo
 have:=z_or ts hb ts.length [(blk (must ts p jf)).1] (blk (must ts p jf)).2
 rw [qcq,qaf] at this
 simp only [qck,qga,qlg,qlh,qdl,z_e,hb,zm,zR,this,zS]
 split
 ·simp only [qal,qaf]
 split
 ·simp only [qal,qaf,qcq]
 ·simp only [qal]
theorem jbw:∀ (n:Nat) (p:Ps),qf (ts.map zTok) n (zP p)=zR (qf ts n p)
 | 0,p=>by rw [qf,qf];unfold zR Tr.none;rw [qal,qaf]
 | n+1,p=>by
  have hb:=joq ts (jbw n)
  unfold qf
  simp only [qhp,qck,jbq,jbn,qga,qlg,qlh,qdl,z_e,jor ts hb (tk ts p).pos]
  split
  ·rfl
  split
  ·simp only [zR,qal,qaf,qcq,qdl,z_e]
  split
  ·simp only [zR,hb,qck,qga]
   split <;> simp only [qal,qaf,qcq]
  split
  ·simp only [zR,hb,qal,qaf,qcq]
  split
  ·simp only [zR,hb,qal,qaf,qcq]
  split
  ·simp only [zR,qal,qaf]
  split
  ·simp only [zR,qal,qaf]
  ·simp only [zR,qal,qaf,qcq,qdl]
theorem z_s (p:Ps):sF (ts.map zTok) (zP p)=zR (sF ts p):=by
 unfold sF
 rw [zm]
 exact jbw ts _ p
theorem jbx (p:Ps):jt (ts.map zTok) (zP p)=zR (jt ts p):=by
 unfold jt
 simp only [qhp,qck,qga,qlg,qlh,qdl,qqk,qql]
 split
 ·split <;> simp only [zR,qal,qaf,qdl]
 ·simp only [zR,qal,qaf,qdl]
theorem jby:∀ (n:Nat) (l:List Tr) (p:Ps),jn (ts.map zTok) n (zL l) (zP p)=zS (jn ts n l p)
 | 0,l,p=>by rw [jn,jn];rfl
 | n+1,l,p=>by
  rw [jn,jn,qck,jbx]
  split
  ·have:=jby n (l++[(jt ts p).1]) (jt ts p).2
   rw [qnd,qcq,qaf] at this
   exact this
  ·rfl
theorem jos (p:Ps):qbg (ts.map zTok) (zP p)=zR (qbg ts p):=by
 unfold qbg
 have hv:∀ q,jn (ts.map zTok) ts.length [] (zP q)=zS (jn ts ts.length [] q):=fun q=>by
  have:=jby ts ts.length [] q
  rwa [qaf] at this
 have hs:=qun ts (z_s ts)
 simp only [qhp,qck,qga,qlg,qlh,qdl,qqk,qql,zm]
 split
 ·simp only [qdl,hv,zS,z_in,hs,zR,qal,qjd]
 ·simp only [qdl,hv,zS,z_in,hs,zR,qal,qjd]
theorem jot (p:Ps):qaj (ts.map zTok) (zP p)=zR (qaj ts p):=by
 unfold qaj
 simp only [qhp,qck,qga,qlg,qlh,qdl,qqk,qql,jbq,jbn,jbx,jos,z_e]
 split
 ·rfl
 split
 ·rfl
 split
 ·simp only [zR,qal,qaf]
 split
 ·simp only [zR,qal,qaf,qcq,qdl]
 ·simp only [zR,qal,qaf]
theorem jbz:∀ (n:Nat) (l:List Tr) (p:Ps),qbh (ts.map zTok) n (zL l) (zP p)=zS (qbh ts n l p)
 | 0,l,p=>by rw [qbh,qbh];rfl
 | n+1,l,p=>by
  rw [qbh,qbh,qnf,qne,jot]
  split
  ·have:=jbz n (l++[(qaj ts p).1]) (qaj ts p).2
   rw [qnd,qcq,qaf] at this
   exact this
  ·rfl
theorem jca (p:Ps):jj (ts.map zTok) (zP p)=zR (jj ts p):=by
 unfold jj
 have:=jbz ts ts.length [] p
 rw [qaf] at this
 simp only [qhp,zm,this,zS,zR,qal]
end
end Pa
end Go.Proofs.Ythfaleaojlnnoaa
end
