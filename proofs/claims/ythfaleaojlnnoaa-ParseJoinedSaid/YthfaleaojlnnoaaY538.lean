/- Some texts of the library, one behind the other. -/
import Derived.Test.YthfaleaojlnnoaaY537
import Derived.Test.YthfaleaojlnnoaaY536
import Derived.Test.YthfaleaojlnnoaaY513
import Derived.Test.YthfaleaojlnnoaaY52
set_option linter.unusedSimpArgs false
set_option linter.unusedVariables false
section
namespace Go.Proofs.Ythfaleaojlnnoaa
namespace Pa
open Go Go.Sx
section
variable {U V:List Lx.Tok} {k lim:Nat} (S:Sim U V k lim) {p q:Ps}
include S
theorem jsw:TraE U k (qar U) (qar V):=fun p h he=>by
 have hp:=qpi S (jay S.ok) h (jbh S.ok p h) he
 have h1:=qg S.ok h qh
 have a1:=h1.ok h
 have h2:=jj S.ok a1
 have a2:=h2.ok a1
 have h3:Step U (qc U (must U p qh)) (if sees U (qc U (must U p qh)) qai=true then (numN U (adv (qc U (must U p qh))),numP U (adv (qc U (must U p qh)))) else (1,qc U (must U p qh))).2:=by
  split
  ·have h5:=qf S.ok a2 (by assumption)
   exact h5.trans (jt S.ok (h5.ok a2))
  ·exact a2.refl
 unfold qar at he ⊢
 simp only at he ⊢
 have a3:=h3.ok a2
 have h4:=qg S.ok a3 sLc
 have a4:=h4.ok a3
 have h5:=qfm S.ok U.length [] _ a4
 have a5:=h5.ok a4
 have hi:=jo a5
 have h6:=qdf S.ok (qel S.ok) U.length (jg U U.length [] (must U (if sees U (qc U (must U p qh)) qai=true then (numN U (adv (qc U (must U p qh))),numP U (adv (qc U (must U p qh)))) else (1,qc U (must U p qh))).2 sLc)).1 _ hi.1
 have he6:(ql U (sF U) U.length (jg U U.length [] (must U (if sees U (qc U (must U p qh)) qai=true then (numN U (adv (qc U (must U p qh))),numP U (adv (qc U (must U p qh)))) else (1,qc U (must U p qh))).2 sLc)).1 (inP U (jg U U.length [] (must U (if sees U (qc U (must U p qh)) qai=true then (numN U (adv (qc U (must U p qh))),numP U (adv (qc U (must U p qh)))) else (1,qc U (must U p qh))).2 sLc)).2)).2.err=0:=he
 have hie:=h6.err0 he6
 have h0:=hi.1.lo
 have hgs:∀ p,AtOk U p→(0:Int)≤p.at_→(sF U p).2.err=0→p.at_<(sF U p).2.at_:=fun p h _ he=>qos S.ok (by have:=h.lo;have:=h.hi;omega) p h he
 have hil:=qxe S (qel S.ok) hgs hie (by omega) hi.1 h0 he6
 have hve:(jg U U.length [] (must U (if sees U (qc U (must U p qh)) qai=true then (numN U (adv (qc U (must U p qh))),numP U (adv (qc U (must U p qh)))) else (1,qc U (must U p qh))).2 sLc)).2.err=0:=Classical.byContradiction fun hn=>by
  have:=(hi.2.2.2 hn).1
  rw [this] at hie
  exact hn hie
 have e5:=hi.2.1
 have:=h1.le;have:=h2.le;have:=h3.le;have:=h4.le;have:=h5.le
 rw [s_tk S h hp,qdh S h hp,qhz S a1 (by omega),qia S a1 (by omega),qcb S a2 (by omega),qef]
 have eC:(if sees U (qc U (must U p qh)) qai=true then (numN V (shP k (adv (qc U (must U p qh)))),numP V (shP k (adv (qc U (must U p qh))))) else (1,shP k (qc U (must U p qh)))) =
   ((if sees U (qc U (must U p qh)) qai=true then (numN U (adv (qc U (must U p qh))),numP U (adv (qc U (must U p qh)))) else (1,qc U (must U p qh))).1,shP k (if sees U (qc U (must U p qh)) qai=true then (numN U (adv (qc U (must U p qh))),numP U (adv (qc U (must U p qh)))) else (1,qc U (must U p qh))).2):=by
  by_cases c:sees U (qc U (must U p qh)) qai=true
  ·have h7:=qf S.ok a2 c
   have a7:=h7.ok a2
   have:=(jt S.ok a7).le
   rw [zf c] at *
   rw [zf c]
   simp only at *
   rw [qkw S a7 (by omega),qkx S a7 (by omega)]
  ·rw [ze c,ze c]
 rw [eC]
 generalize (if sees U (qc U (must U p qh)) qai=true then (numN U (adv (qc U (must U p qh))),numP U (adv (qc U (must U p qh)))) else (1,qc U (must U p qh)))=C at *
 have a40:=a4.lo
 simp only
 rw [qdh S a3 (by omega),jfl S U.length V.length [] _ S.le (by omega) a4 (by omega) hve]
 show (Tr.mk 3 _ [C.1] _ (ql V (sF V) V.length (jg U U.length [] (must U C.2 sLc)).1 (inP V (shP k (jg U U.length [] (must U C.2 sLc)).2))).1,outP (ql V (sF V) V.length (jg U U.length [] (must U C.2 sLc)).1 (inP V (shP k (jg U U.length [] (must U C.2 sLc)).2))).2)=_
 rw [s_in S a5 (by omega),qxf S (qel S.ok) hgs (s_s S) U.length V.length _ _ S.le (by omega) hi.1 h0 (.inr he6)]
 rfl
theorem jsx:TraE U k (jm U) (jm V):=fun p h he=>by
 have hp:=qpi S (qiy S.ok) h (qkk S.ok p h) he
 unfold jm at he ⊢
 simp only at he ⊢
 rw [qcb S h hp,qcb S h hp,qcb S h hp,qcb S h hp,qef,s_tk S h hp]
 by_cases c1:sees U p kVar=true
 ·rw [zf c1] at he ⊢
  rw [zf c1]
  exact jfk S p h he
 rw [ze c1] at he ⊢
 rw [ze c1]
 by_cases c2:sees U p qh=true
 ·rw [zf c2] at he ⊢
  rw [zf c2]
  exact jsw S p h he
 rw [ze c2] at he ⊢
 rw [ze c2]
 by_cases c3:sees U p qea=true
 ·simp only [zf c3] at he ⊢
  have h1:=qf S.ok h c3
  have a1:=h1.ok h
  have h2:=jj S.ok a1
  have a2:=h2.ok a1
  have h3:=qg S.ok a2 sLb
  have a3:=h3.ok a2
  have h4:=jt S.ok a3
  have a4:=h4.ok a3
  have h5:=qg S.ok a4 sRb
  have a5:=h5.ok a4
  have h6:=qg S.ok a5 kOf
  have a6:=h6.ok a5
  have h7:=jt S.ok a6
  have a7:=h7.ok a6
  have h8:=qcy S.ok a7 qeb
  have a8:=h8.ok a7
  have h9:=qcy S.ok a8 qej
  have a9:=h9.ok a8
  have hl:=qjd S a9 he
  have:=h2.le;have:=h3.le;have:=h4.le;have:=h5.le;have:=h6.le;have:=h7.le;have:=h8.le;have:=h9.le
  rw [qhz S a1 (by omega),qia S a1 (by omega),qdh S a2 (by omega),qkw S a3 (by omega),qkx S a3 (by omega),qdh S a4 (by omega),qdh S a5 (by omega),qkw S a6 (by omega),qkx S a6 (by omega),qxd S a7 (by omega),qxc S a7 (by omega),qxd S a8 (by omega),qxc S a8 (by omega),qnf S a9 he]
  rfl
 simp only [ze c3] at he ⊢
 by_cases c4:sees U p qfd=true
 ·simp only [zf c4] at he ⊢
  have h1:=qf S.ok h c4
  have a1:=h1.ok h
  have h2:=jz S.ok _ a1
  have a2:=h2.ok a1
  rw [s_e S _ a1 a1.lo (qjd S a2 he)]
  show (Tr.mk 4 [] [] _ [(eF U (adv p)).1],must V (shP k (eF U (adv p)).2) qj)=_
  rw [qnf S a2 he]
  rfl
 simp only [ze c4] at he ⊢
 have h1:=qg S.ok h qgc
 have a1:=h1.ok h
 rw [qdh S h hp,qnf S a1 he]
 rfl
theorem qxg (l0:List Tr):∀ (n m:Nat) (l:List Tr) (p:Ps),(U.length:Int)≤n+p.at_→(V.length:Int) - k≤m+p.at_→U.length+k≤V.length→AtOk U p→(jd U n l p).2.err=0→
  ((jd U n l p).2.at_=U.length - 1∧(jd U n l p).2.deep=p.deep)∧∃ m':Nat,(V.length:Int) - k≤m'+(U.length - 1)∧jd V m (l0++l) (shP k p)=jd V m' (l0++(jd U n l p).1) (shP k (jd U n l p).2)
 | 0,m,l,p,hU,hV,hk,h,he=>by have:=h.hi;exfalso;omega
 | n+1,m,l,p,hU,hV,hk,h,he=>by
  have hst:=qkg S.ok (n+1) l p h
  have hpe:=hst.err0 he
  rw [jd] at he ⊢
  by_cases h3:(tk U p).kind=3
  ·have hn:¬ (p.err=0∧(tk U p).kind≠3):=fun h=>h.2 h3
   rw [ze hn]
   have h0:=h.lo
   have h1:=h.hi
   have h2:=(S.ok.last p.at_.toNat (by omega)).1 h3
   exact ⟨⟨by simp only;omega,rfl⟩,m,by omega,rfl⟩
  ·have hc:p.err=0∧(tk U p).kind≠3:=⟨hpe,h3⟩
   rw [zf hc] at he ⊢
   have h1:=qiy S.ok _ h
   have a1:=h1.ok h
   have h2:=qkg S.ok n (l++[(jm U p).1]) _ a1
   have he1:=h2.err0 he
   have hg:=qkk S.ok p h he1
   have hp:=qpi S (qiy S.ok) h (qkk S.ok p h) he1
   cases m with
   | zero=>have:=h.hi;exfalso;omega
   | succ m=>
    obtain ⟨⟨r1,r2⟩,m',r3,r4⟩:=qxg l0 n m (l++[(jm U p).1]) (jm U p).2 (by omega) (by omega) hk a1 he
    refine ⟨⟨r1,r2.trans h1.deep⟩,m',r3,?_⟩
    rw [jd,qne,s_tk S h hp,zf hc,jsx S p h he1,← r4]
    show jd V m (l0++l++[(jm U p).1]) (shP k (jm U p).2)=_
    rw [xt]
end
end Pa
end Go.Proofs.Ythfaleaojlnnoaa
end
section
namespace Go.Proofs.Ythfaleaojlnnoaa
namespace Pa
open Go Go.Sx
theorem qso {p:UInt8→Bool} {c:UInt8} {r:List UInt8} (hc:p c=false):∀ x:List UInt8,Lx.spanN p (x++c::r)=Lx.spanN p x
 | []=>by
  show Lx.spanN p (c::r)=0
  rw [Lx.spanN,hc];rfl
 | b::x=>by rw [xl,Lx.spanN,Lx.spanN,qso hc x]
theorem jsy {b:UInt8} {t r:List UInt8}:Lx.slash2 (b::(t++10::r))=Lx.slash2 (b::t):=by
 unfold Lx.slash2
 cases t with
 | nil=>simp [List.isPrefixOf]
 | cons d t=>simp [List.isPrefixOf]
theorem jsz {b:UInt8} {t r:List UInt8}:Lx.firstN (b::(t++10::r))=Lx.firstN (b::t):=by
 have hw:Lx.wordB 10=false:=by decide +kernel
 have hd:Lx.digB 10=false:=by decide +kernel
 have e1:=qso (r:=r) hw (b::t)
 have e2:=qso (r:=r) hd (b::t)
 rw [xl] at e1 e2
 unfold Lx.firstN
 simp only
 rw [e1,e2]
 split
 ·rfl
 split
 ·rfl
 unfold Lx.signN
 cases t with
 | nil=>simp [List.isPrefixOf]
 | cons d t=>simp [List.isPrefixOf]
theorem jta:∀ (n:Nat) (l:List UInt8) (p:Nat) (ts:List Lx.Tok),l.length≤n→Lx.lexR l p=.ok ts→ts≠[]:=by
 intro n
 induction n with
 | zero=>
  intro l p ts hl h
  obtain rfl:l=[]:=List.length_eq_zero_iff.1 (by omega)
  rw [Lx.lexR_nil] at h
  cases h
  exact List.cons_ne_nil _ _
 | succ n ih=>
  intro l p ts hl h
  cases l with
  | nil=>
   rw [Lx.lexR_nil] at h
   cases h
   exact List.cons_ne_nil _ _
  | cons b r=>
   have hr:r.length≤n:=by simpa using hl
   rw [Lx.lexR_cons] at h
   split at h
   ·exact ih r _ ts hr h
   split at h
   ·exact ih (r.drop (Lx.lineN r)) _ ts (by rw [zq];omega) h
   split at h
   ·cases h
   ·cases hx:Lx.lexR (r.drop (Lx.firstN (b::r) - 1)) (p+Lx.firstN (b::r)) with
    | error e=>rw [hx] at h;cases h
    | ok ts'=>
     rw [hx] at h
     cases h
     exact List.cons_ne_nil _ _
theorem jtb:∀ (n:Nat) (l:List UInt8) (p:Nat) (ts:List Lx.Tok),l.length≤n→Lx.lexR l p=.ok ts→∀ q,∃ us,Lx.lexR l q=.ok us∧us.map zTok=ts.map zTok:=by
 intro n
 induction n with
 | zero=>
  intro l p ts hl h q
  obtain rfl:l=[]:=List.length_eq_zero_iff.1 (by omega)
  rw [Lx.lexR_nil] at h
  cases h
  exact ⟨_,Lx.lexR_nil q,rfl⟩
 | succ n ih=>
  intro l p ts hl h q
  cases l with
  | nil=>
   rw [Lx.lexR_nil] at h
   cases h
   exact ⟨_,Lx.lexR_nil q,rfl⟩
  | cons b r=>
   have hr:r.length≤n:=by simpa using hl
   rw [Lx.lexR_cons] at h
   rw [Lx.lexR_cons]
   split at h
   ·rename_i c
    rw [zf c]
    exact ih r _ ts hr h _
   rename_i c
   rw [ze c]
   split at h
   ·rename_i c
    rw [zf c]
    exact ih (r.drop (Lx.lineN r)) _ ts (by rw [zq];omega) h _
   rename_i c
   rw [ze c]
   split at h
   ·cases h
   ·rename_i c
    rw [ze c]
    cases hx:Lx.lexR (r.drop (Lx.firstN (b::r) - 1)) (p+Lx.firstN (b::r)) with
    | error e=>rw [hx] at h;cases h
    | ok ts'=>
     rw [hx] at h
     cases h
     obtain ⟨us,h1,h2⟩:=ih (r.drop (Lx.firstN (b::r) - 1)) _ ts' (by rw [zq];omega) hx (q+Lx.firstN (b::r))
     rw [h1]
     exact ⟨_,rfl,by rw [xe,xe,h2];rfl⟩
theorem jtc {r:List UInt8} {us:List Lx.Tok} (hr:Lx.lexR r 0=.ok us):∀ (n:Nat) (l:List UInt8) (p:Nat) (ts:List Lx.Tok),l.length≤n→Lx.lexR l p=.ok ts→
  ∀ q,∃ ws,Lx.lexR (l++10::r) q=.ok ws∧ws.map zTok=(ts.map zTok).dropLast++us.map zTok:=by
 have h0:∀ (p q:Nat) (ts:List Lx.Tok),Lx.lexR [] p=.ok ts→∃ ws,Lx.lexR ([]++10::r) q=.ok ws∧ws.map zTok=(ts.map zTok).dropLast++us.map zTok:=fun p q ts h=>by
  rw [Lx.lexR_nil] at h
  cases h
  obtain ⟨ws,h1,h2⟩:=jtb _ r 0 us (zj _) hr (q+1)
  refine ⟨ws,?_,h2⟩
  show Lx.lexR (10::r) q=_
  rw [Lx.lexR_cons,zf (by decide +kernel)]
  exact h1
 intro n
 induction n with
 | zero=>
  intro l p ts hl h q
  obtain rfl:l=[]:=List.length_eq_zero_iff.1 (by omega)
  exact h0 p q ts h
 | succ n ih=>
  intro l p ts hl h q
  cases l with
  | nil=>exact h0 p q ts h
  | cons b t=>
   have ht:t.length≤n:=by simpa using hl
   rw [Lx.lexR_cons] at h
   rw [xl,Lx.lexR_cons,jsy,jsz]
   split at h
   ·rename_i c
    rw [zf c]
    exact ih t _ ts ht h _
   rename_i c
   rw [ze c]
   split at h
   ·rename_i c
    rw [zf c]
    have e:Lx.lineN (t++10::r)=Lx.lineN t:=qso (by decide +kernel) t
    have hle:Lx.lineN t≤t.length:=Lx.spanN_le _ t
    rw [e,List.drop_append_of_le_length hle]
    exact ih (t.drop (Lx.lineN t)) _ ts (by rw [zq];omega) h _
   rename_i c
   rw [ze c]
   split at h
   ·cases h
   ·rename_i c
    rw [ze c]
    have hle:=Lx.firstN_le b t
    rw [zr] at hle
    cases hx:Lx.lexR (t.drop (Lx.firstN (b::t) - 1)) (p+Lx.firstN (b::t)) with
    | error e=>rw [hx] at h;cases h
    | ok ts'=>
     rw [hx] at h
     cases h
     obtain ⟨ws,h1,h2⟩:=ih (t.drop (Lx.firstN (b::t) - 1)) _ ts' (by rw [zq];omega) hx (q+Lx.firstN (b::t))
     rw [List.drop_append_of_le_length (by omega),h1]
     refine ⟨_,rfl,?_⟩
     have hne:=jta _ _ _ _ (zj _) hx
     have hne':ts'.map zTok≠[]:=fun e=>hne (List.map_eq_nil_iff.1 e)
     rw [xe,xe,List.dropLast_cons_of_ne_nil hne',h2,xl]
     congr 1
     unfold zTok Lx.firstK
     obtain ⟨k,hk⟩:∃ k,Lx.firstN (b::t)=k+1:=⟨Lx.firstN (b::t) - 1,by omega⟩
     simp only
     rw [hk,List.take_succ_cons,List.take_succ_cons,List.take_append_of_le_length (by omega)]
end Pa
end Go.Proofs.Ythfaleaojlnnoaa
end
section
namespace Go.Proofs.Ythfaleaojlnnoaa
open List renaming getD_eq_getElem?_getD → zd
namespace Pa
open List renaming getD_eq_getElem?_getD → zd
open Go Go.Sx
theorem jfm {ts:List Lx.Tok} (h:ToksOk ts):ToksOk (ts.map zTok) where
 len:=by rw [zl];exact h.len
 last:=fun i hi=>by
  rw [zl] at hi ⊢
  rw [← h.last i hi,zd,zi,zd]
  cases ts[i]? <;> rfl
 num:=fun t ht hk=>by
  obtain ⟨u,hu,rfl⟩:=List.mem_map.1 ht
  exact h.num u hu hk
theorem jtd (ts:List Lx.Tok):(ts.map zTok).map zTok=ts.map zTok:=by rw [List.map_map];rfl
mutual
theorem zT_zT:∀ t:Tr,zT (zT t)=zT t
 | .mk k w n a l=>by rw [qat,qat,zL_zL l]
theorem zL_zL:∀ l:List Tr,zL (zL l)=zL l
 | []=>by rw [qac,qac]
 | t::r=>by rw [qdc,qdc,zT_zT t,zL_zL r]
end
theorem qxh:∀ l:List Tr,(zL l).length=l.length
 | []=>by rw [qac]
 | t::r=>by rw [qdc,zr,zr,qxh r]
theorem jfn (p:Ps):shP 0 p=p:=by
 show ({ p with at_:=p.at_+0 }:Ps)=p
 rw [Int.add_zero]
theorem jte {A B C:List Lx.Tok} (hA:ToksOk A) (hB:ToksOk B) (a0:0<A.length) (b0:0<B.length) (hC:C=A.dropLast++B) (hz:C.map zTok=C) (ea:(jd A A.length [] ⟨0,0,0,0⟩).2.err=0) (eb:(jd B B.length [] ⟨0,0,0,0⟩).2.err=0) :
  zL (jd C C.length [] ⟨0,0,0,0⟩).1=zL (jd A A.length [] ⟨0,0,0,0⟩).1++(jd B B.length [] ⟨0,0,0,0⟩).1∧(jd C C.length [] ⟨0,0,0,0⟩).2.err=0:=by
 have hCl:C.length=A.length - 1+B.length:=by rw [hC,zv,List.length_dropLast]
 have S1:Sim A C 0 (A.length - 1):=by
  refine ⟨fun i hi=>?_,by omega,hA,by omega⟩
  rw [hC,xb,zd,zd,zt (by rw [List.length_dropLast];exact hi),List.getElem?_dropLast,zf hi]
 have S2:Sim B C (A.length - 1) B.length:=by
  refine ⟨fun i hi=>?_,by omega,hB,by omega⟩
  rw [hC,zd,zd,zn (by rw [List.length_dropLast];omega),List.length_dropLast,Nat.add_sub_cancel]
 obtain ⟨⟨p1,p2⟩,m,p3,p4⟩:=qxg S1 [] A.length C.length [] ⟨0,0,0,0⟩ (by simp only;omega) (by simp only;omega) (by omega) ⟨zp _,by simp only;omega⟩ ea
 have e0:shP 0 (⟨0,0,0,0⟩:Ps)=⟨0,0,0,0⟩:=jfn _
 rw [e0,List.nil_append,List.nil_append,jfn] at p4
 generalize hI:jd A A.length [] ⟨0,0,0,0⟩=I at ea p1 p2 p4 ⊢
 obtain ⟨⟨q1,q2⟩,m2,q3,q4⟩:=qxg S2 (zL I.1) B.length m [] ⟨0,0,0,0⟩ (by simp only;omega) (by simp only;omega) (by omega) ⟨zp _,by simp only;omega⟩ eb
 generalize hJ:jd B B.length [] ⟨0,0,0,0⟩=J at eb q1 q2 q4 ⊢
 have z:=qpg C m I.1 I.2
 rw [hz] at z
 have ez:zP I.2=shP (A.length - 1) ⟨0,0,0,0⟩:=by
  unfold zP shP
  rw [Ps.mk.injEq]
  refine ⟨?_,p2,ea,rfl⟩
  rw [p1];simp only;omega
 rw [ez] at z
 rw [zaz] at q4
 rw [q4] at z
 have e3:(tk C (shP (A.length - 1) J.2)).kind=3:=by
  unfold tk
  show (C.getD (J.2.at_+((A.length - 1:Nat):Int)).toNat Lx.tok0).kind=3
  rw [show (J.2.at_+((A.length - 1:Nat):Int)).toNat=(B.length - 1)+(A.length - 1) by omega,S2.tok _ (by omega)]
  exact (hB.last (B.length - 1) (by omega)).2 (by omega)
 have e4:jd C m2 (zL I.1++J.1) (shP (A.length - 1) J.2)=(zL I.1++J.1,shP (A.length - 1) J.2):=by
  cases m2 with
  | zero=>rw [jd]
  | succ m2=>
   rw [jd,ze]
   exact fun h=>h.2 e3
 rw [e4] at z
 rw [p4]
 have z1:=congrArg (fun r:List Tr × Ps=>r.1) z
 have z2:=congrArg (fun r:List Tr × Ps=>r.2.err) z
 exact ⟨z1.symm,z2.symm.trans eb⟩
theorem jfo:∀ l r:List Tr,Tr.sizeL (l++r)=Tr.sizeL l+Tr.sizeL r
 | [],r=>by simp [Tr.sizeL]
 | t::l,r=>by rw [xl,Tr.sizeL,Tr.sizeL,jfo l r];omega
theorem jfp (n:Int):∀ l r:List Tr,0≤deepL (l++r) n→0≤deepL l n∨0≤deepL r n
 | [],r,h=>.inr h
 | t::l,r,h=>by
  rw [xl,deepL] at h
  rw [deepL]
  by_cases ht:0≤deepT t (n+1)
  ·rw [zf ht];exact .inl ht
  ·rw [ze ht] at h ⊢
   exact jfp n l r h
theorem qsp {ts:List Lx.Tok} (ht:ToksOk ts) (h0:0<ts.length) (hp:∀ t∈ts,0≤t.pos) (e:(qbi ts).2.1=0) :
  (jd ts ts.length [] ⟨0,0,0,0⟩).2.err=0∧Tr.allL (fun u=>0≤u.at_) (jd ts ts.length [] ⟨0,0,0,0⟩).1∧¬ 0≤deepL (jd ts ts.length [] ⟨0,0,0,0⟩).1 1∧(qbi ts).1.length=1+Tr.sizeL (jd ts ts.length [] ⟨0,0,0,0⟩).1∧((qbi ts).1.getD 0 nd0).kids.length=(jd ts ts.length [] ⟨0,0,0,0⟩).1.length:=by
 unfold qbi at e ⊢
 simp only at e ⊢
 by_cases h1:(ji ts ⟨0,0,0,0⟩).2.err≠0
 ·rw [zf h1] at e;exact absurd e h1
 rw [ze h1] at e ⊢
 by_cases h2:800<(layT 0 (ji ts ⟨0,0,0,0⟩).1).length
 ·rw [zf h2] at e;cases e
 rw [ze h2] at e ⊢
 by_cases h3:0≤deepT (ji ts ⟨0,0,0,0⟩).1 1
 ·rw [zf h3] at e;cases e
 rw [ze h3] at e ⊢
 have hn:=jex ht h0 hp (Decidable.not_not.1 h1)
 have hx:=Decidable.not_not.1 h1
 unfold ji at h3 hn hx ⊢
 generalize jd ts ts.length [] ⟨0,0,0,0⟩=I at h3 hn hx ⊢
 rw [Tr.allT] at hn
 rw [deepT,ze (by decide)] at h3
 refine ⟨hx,hn.2,h3,?_,?_⟩
 ·rw [layT_len,Tr.size]
 ·rw [layT]
  exact qiz _ _
theorem jtf {ta tb ts:List Lx.Tok} (ha:ToksOk ta∧0<ta.length) (hb:ToksOk tb∧0<tb.length) (hs:ToksOk ts∧0<ts.length) (pa:∀ t∈ta,0≤t.pos) (pb:∀ t∈tb,0≤t.pos) (ps:∀ t∈ts,0≤t.pos)
  (h:ts.map zTok=(ta.map zTok).dropLast++tb.map zTok) (ea:(qbi ta).2.1=0) (eb:(qbi tb).2.1=0) (h7:(qbi ta).1.length+(qbi tb).1.length≤700) :
  (qbi ts).2=(0,0)∧(qbi ts).1.length+1=(qbi ta).1.length+(qbi tb).1.length∧((qbi ts).1.getD 0 nd0).kids.length=((qbi ta).1.getD 0 nd0).kids.length+((qbi tb).1.getD 0 nd0).kids.length:=by
 obtain ⟨a1,a2,a3,a4,a5⟩:=qsp ha.1 ha.2 pa ea
 obtain ⟨b1,b2,b3,b4,b5⟩:=qsp hb.1 hb.2 pb eb
 have za:jd (ta.map zTok) (ta.map zTok).length [] ⟨0,0,0,0⟩=zS (jd ta ta.length [] ⟨0,0,0,0⟩):=by
  have:=qpg ta ta.length [] ⟨0,0,0,0⟩
  rw [qac] at this
  rw [zl];exact this
 have zb:jd (tb.map zTok) (tb.map zTok).length [] ⟨0,0,0,0⟩=zS (jd tb tb.length [] ⟨0,0,0,0⟩):=by
  have:=qpg tb tb.length [] ⟨0,0,0,0⟩
  rw [qac] at this
  rw [zl];exact this
 have zs:jd (ts.map zTok) (ts.map zTok).length [] ⟨0,0,0,0⟩=zS (jd ts ts.length [] ⟨0,0,0,0⟩):=by
  have:=qpg ts ts.length [] ⟨0,0,0,0⟩
  rw [qac] at this
  rw [zl];exact this
 have hj:=jte (jfm ha.1) (jfm hb.1) (by rw [zl];exact ha.2) (by rw [zl];exact hb.2) h (jtd ts) (by rw [za];exact a1) (by rw [zb];exact b1)
 rw [za,zb,zs] at hj
 generalize hA:jd ta ta.length [] ⟨0,0,0,0⟩=A at *
 generalize hB:jd tb tb.length [] ⟨0,0,0,0⟩=B at *
 generalize hS:jd ts ts.length [] ⟨0,0,0,0⟩=T at *
 obtain ⟨j1,j2⟩:=hj
 have j1':zL T.1=zL (A.1++B.1):=by
  have:zL (zL T.1)=zL (zL A.1)++zL B.1:=j1
  rw [zL_zL,zL_zL] at this
  rw [this,qmy]
 have hse:T.2.err=0:=j2
 have hsz:Tr.sizeL T.1=Tr.sizeL A.1+Tr.sizeL B.1:=by rw [← z_sizeL T.1,j1',z_sizeL,jfo]
 have hln:T.1.length=A.1.length+B.1.length:=by rw [← qxh T.1,j1',qxh,zv]
 have hpe:(ji ts ⟨0,0,0,0⟩).2.err=0:=by unfold ji;rw [hS];exact hse
 have hps:(ji ts ⟨0,0,0,0⟩).1=.mk 0 [] [] (tk ts ⟨0,0,0,0⟩).pos T.1:=by unfold ji;rw [hS]
 have hn:=jex hs.1 hs.2 ps hpe
 rw [hps,Tr.allT] at hn
 have hd:¬ 0≤deepT (ji ts ⟨0,0,0,0⟩).1 1:=fun hd=>by
  rw [hps,deepT,ze (by decide),← z_deepL T.1 1 hn.2,j1',z_deepL _ _ (qwv _ _ a2 b2)] at hd
  rcases jfp 1 _ _ hd with hd|hd
  ·exact a3 hd
  ·exact b3 hd
 have hl:(layT 0 (ji ts ⟨0,0,0,0⟩).1).length=1+Tr.sizeL T.1:=by rw [layT_len,hps,Tr.size]
 have e:qbi ts=(layT 0 (ji ts ⟨0,0,0,0⟩).1,(0,0)):=by
  unfold qbi
  simp only
  rw [ze (fun h=>h hpe),ze (by rw [hl];omega),ze hd]
 rw [e]
 refine ⟨rfl,?_,?_⟩
 ·simp only;rw [hl];omega
 ·rw [hps,layT]
  show (qn _ T.1).length=_
  rw [qiz]
  omega
theorem jtg {a b:List UInt8} (hl:a.length+b.length≤1500) (ea:(jk a).2.1=0) (eb:(jk b).2.1=0) (h7:(jk a).1.length+(jk b).1.length≤700) :
  (jk (a++10::b)).2=(0,0)∧(jk (a++10::b)).1.length+1=(jk a).1.length+(jk b).1.length∧((jk (a++10::b)).1.getD 0 nd0).kids.length=((jk a).1.getD 0 nd0).kids.length+((jk b).1.getD 0 nd0).kids.length∧0<(jk a).1.length∧0<(jk b).1.length:=by
 have key:∀ s:List UInt8,s.length≤1500→(jk s).2.1=0→(Lx.lexAll s).2.1=0∧jk s=qbi (Lx.lexAll s).1∧Lx.lexR s 0=.ok (Lx.lexAll s).1:=fun s hs he=>by
  unfold jk at he ⊢
  by_cases h:(Lx.lexAll s).2.1≠0
  ·rw [zf h] at he;exact absurd he h
  ·rw [ze h]
   refine ⟨Decidable.not_not.1 h,rfl,?_⟩
   unfold Lx.lexAll at h ⊢
   rw [ze (by omega)] at h ⊢
   split at h
   ·rename_i ts hts
    rw [hts]
   ·simp at h
 obtain ⟨a1,a2,a3⟩:=key a (by omega) ea
 obtain ⟨b1,b2,b3⟩:=key b (by omega) eb
 obtain ⟨ws,w1,w2⟩:=jtc b3 _ a 0 _ (zj _) a3 0
 have hw:Lx.lexAll (a++10::b)=(ws,(0,0)):=by
  unfold Lx.lexAll
  rw [ze (by rw [zv,zr];omega),w1]
 have hs0:(Lx.lexAll (a++10::b)).2.1=0:=by rw [hw]
 have e:jk (a++10::b)=qbi (Lx.lexAll (a++10::b)).1:=by
  unfold jk
  rw [ze (fun h=>h hs0)]
 rw [a2] at ea h7 ⊢
 rw [b2] at eb h7 ⊢
 rw [e]
 have t:=qgi hs0
 have P:=(qks hs0).1
 rw [hw] at t P ⊢
 have r:=jtf (qgi a1) (qgi b1) t (fun x hx=>((qks a1).1 x hx).1) (fun x hx=>((qks b1).1 x hx).1) (fun x hx=>(P x hx).1) w2 ea eb h7
 refine ⟨r.1,r.2.1,r.2.2,?_,?_⟩
 ·have:=(qsp (qgi a1).1 (qgi a1).2 (fun x hx=>((qks a1).1 x hx).1) ea).2.2.2.1
  omega
 ·have:=(qsp (qgi b1).1 (qgi b1).2 (fun x hx=>((qks b1).1 x hx).1) eb).2.2.2.1
  omega
end Pa
end Go.Proofs.Ythfaleaojlnnoaa
end
