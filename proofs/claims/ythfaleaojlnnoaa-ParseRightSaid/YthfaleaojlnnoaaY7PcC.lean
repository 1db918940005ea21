/- Contracts of the program's parser: channels and variables. -/
import Derived.Test.YthfaleaojlnnoaaY7PcN
import Derived.Test.YthfaleaojlnnoaaY72
set_option linter.unusedSimpArgs false
set_option linter.unusedVariables false
namespace Go.Proofs.Ythfaleaojlnnoaa
open List renaming getD_eq_getElem?_getD → zd
open Go Go.Sx Go.RowKit Go.St Pa
set_option maxRecDepth 100000
set_option maxHeartbeats 4000000
structure TC (ts:List Lx.Tok):Prop where
 ok:ToksOk ts
 kind:TokK ts
 len:∀ t∈ts,t.s.length≤1000000
section
variable {ts:List Lx.Tok} {p q r:Ps} {n:Nat}
abbrev RdM (ts:List Lx.Tok) (f:FuncId) (F:Ps→Tr × Ps) (p:Ps):Prop:=MTrip Try.prog f [.ptr 0 0] [psc ts p] ((F p).2.err == 0) (F p).1.pv [(0,psc ts (F p).2)] 1 (pfl (F p).2)
theorem qek (hc:TC ts) (h:PreC ts n p):MTrip Try.prog 79 [.ptr 0 0] [psc ts p] ((qd ts p).err == 0) (.str (jn ts p)) [(0,psc ts (qd ts p))] 1 (pfl (qd ts p)):=jlq hc.ok h.at_ h.err (hc.len _ (qjb h.at_))
theorem qgu (hc:TC ts) (h:PreC ts n p):MTrip Try.prog 80 [.ptr 0 0] [psc ts p] ((numP ts p).err == 0) (iv (numN ts p)) [(0,psc ts (numP ts p))] 1 (pfl (numP ts p)):=jls hc.ok h.at_ h.err
theorem qad (hc:TC ts) (h:PreC ts n p) {s:List UInt8} (hs:kwB s=true):MTrip Try.prog 61 [.ptr 0 0,strs [s]] [psc ts p] ((must ts p s).err == 0) (.tup []) [(0,psc ts (must ts p s))] 1 (pfl (must ts p s)):=jlo hc.ok hc.kind h.at_ h.err hs
theorem qfg (hc:TC ts) (h:PreC ts n p) {s:List UInt8} (hs:kwB s=true):Trip Try.prog 81 [.ptr 0 0,.str s] [psc ts p] (iv (qaf ts p s)) [(0,psc ts (took ts p s))] 1:=jlp hc.ok hc.kind h.at_ h.err hs
theorem qqa (hc:TC ts) (h:PreC ts n p) (s:List UInt8):Step ts p (must ts p s):=qe hc.ok h.at_ s
theorem qjg (h:p.err=0) (s:List UInt8):((took ts p s).err == 0)=true:=by
 unfold took
 split
 ·show (p.err == 0)=true;rw [h];rfl
 ·rw [h];rfl
theorem qbw (h:p.err=0):((adv p).err == 0)=true:=by show (p.err == 0)=true;rw [h];rfl
theorem jlt {f:Nat→List AV} {a b c d:Int} (h0:f 0=[iv a]) (h1:f 1=[iv b]) (h2:f 2=[iv c]) (h3:f 3=[iv d]):Le (.slc 1 4 f) (ints [a,b,c,d]):=Le.slc rfl (fun i hi=>by
 match i,hi with
 | 0,_=>exact h0
 | 1,_=>exact h1
 | 2,_=>exact h2
 | 3,_=>exact h3)
theorem qum {f:Nat→List AV} {a b:Int} (h0:f 0=[iv a]) (h1:f 1=[iv b]):Le (.slc 1 2 f) (ints [a,b]):=Le.slc rfl (fun i hi=>by
 match i,hi with
 | 0,_=>exact h0
 | 1,_=>exact h1)
theorem qun (ht:ToksOk ts) (h:AtOk ts p):0≤numN ts p∧numN ts p<1000000:=by
 unfold numN
 split
 ·rename_i e
  unfold qdr at e
  simp only [zf,xn] at e
  have hn:=ht.num _ (qjb h) e.1
  have hd:=qpl hn.2 _ (zi _)
  rw [zam] at hd
  have h6:(10:Int) ^ (tk ts p).s.length≤10 ^ 6:=by exact_mod_cast Nat.pow_le_pow_right (show 0<10 by decide) hn.1
  omega
 ·omega
theorem jlu (hc:TC ts) (h_p:PreC ts n p) (hs:sees ts p qfb=true) (hv:sees ts p kVar=false) (hp:sees ts p qo=false):RdM ts 58 (qax ts) p:=by
 have ht:=hc.ok
 have A_p:=h_p.at_
 have h2:=ht.len
 obtain ⟨p1,e_p1⟩:∃ x,x=must ts p qfb:=⟨_,rfl⟩
 have a_p1:Step ts p p1:=by rw [e_p1];exact qe ht A_p qfb
 have A_p1:=a_p1.ok A_p
 have t_p1:PreC ts n p→MTrip Try.prog 61 [.ptr 0 0,strs [qfb]] [psc ts p] (p1.err == 0) (.tup []) [(0,psc ts p1)] 1 (pfl p1):=fun h'=>by rw [e_p1];exact qad hc h' (by decide +kernel)
 obtain ⟨p2,e_p2⟩:∃ x,x=qd ts p1:=⟨_,rfl⟩
 have a_p2:Step ts p1 p2:=by rw [e_p2];exact jl ht A_p1
 have A_p2:=a_p2.ok A_p1
 have t_p2:PreC ts n p1→MTrip Try.prog 79 [.ptr 0 0] [psc ts p1] (p2.err == 0) (.str (jn ts p1)) [(0,psc ts p2)] 1 (pfl p2):=fun h'=>by rw [e_p2];exact qek hc h'
 obtain ⟨p3,e_p3⟩:∃ x,x=must ts p2 sLb:=⟨_,rfl⟩
 have a_p3:Step ts p2 p3:=by rw [e_p3];exact qe ht A_p2 sLb
 have A_p3:=a_p3.ok A_p2
 have t_p3:PreC ts n p2→MTrip Try.prog 61 [.ptr 0 0,strs [sLb]] [psc ts p2] (p3.err == 0) (.tup []) [(0,psc ts p3)] 1 (pfl p3):=fun h'=>by rw [e_p3];exact qad hc h' (by decide +kernel)
 obtain ⟨p4,e_p4⟩:∃ x,x=numP ts p3:=⟨_,rfl⟩
 have a_p4:Step ts p3 p4:=by rw [e_p4];exact qav ht A_p3
 have A_p4:=a_p4.ok A_p3
 have t_p4:PreC ts n p3→MTrip Try.prog 80 [.ptr 0 0] [psc ts p3] (p4.err == 0) (iv (numN ts p3)) [(0,psc ts p4)] 1 (pfl p4):=fun h'=>by rw [e_p4];exact qgu hc h'
 obtain ⟨p5,e_p5⟩:∃ x,x=must ts p4 sRb:=⟨_,rfl⟩
 have a_p5:Step ts p4 p5:=by rw [e_p5];exact qe ht A_p4 sRb
 have A_p5:=a_p5.ok A_p4
 have t_p5:PreC ts n p4→MTrip Try.prog 61 [.ptr 0 0,strs [sRb]] [psc ts p4] (p5.err == 0) (.tup []) [(0,psc ts p5)] 1 (pfl p5):=fun h'=>by rw [e_p5];exact qad hc h' (by decide +kernel)
 obtain ⟨p6,e_p6⟩:∃ x,x=must ts p5 kOf:=⟨_,rfl⟩
 have a_p6:Step ts p5 p6:=by rw [e_p6];exact qe ht A_p5 kOf
 have A_p6:=a_p6.ok A_p5
 have t_p6:PreC ts n p5→MTrip Try.prog 61 [.ptr 0 0,strs [kOf]] [psc ts p5] (p6.err == 0) (.tup []) [(0,psc ts p6)] 1 (pfl p6):=fun h'=>by rw [e_p6];exact qad hc h' (by decide +kernel)
 obtain ⟨p7,e_p7⟩:∃ x,x=numP ts p6:=⟨_,rfl⟩
 have a_p7:Step ts p6 p7:=by rw [e_p7];exact qav ht A_p6
 have A_p7:=a_p7.ok A_p6
 have t_p7:PreC ts n p6→MTrip Try.prog 80 [.ptr 0 0] [psc ts p6] (p7.err == 0) (iv (numN ts p6)) [(0,psc ts p7)] 1 (pfl p7):=fun h'=>by rw [e_p7];exact qgu hc h'
 obtain ⟨p8,e_p8⟩:∃ x,x=took ts p7 qfy:=⟨_,rfl⟩
 have a_p8:Step ts p7 p8:=by rw [e_p8];exact qdb ht A_p7 qfy
 have A_p8:=a_p8.ok A_p7
 have t_p8:PreC ts n p7→Trip Try.prog 81 [.ptr 0 0,.str qfy] [psc ts p7] (iv (qaf ts p7 qfy)) [(0,psc ts p8)] 1:=fun h'=>by rw [e_p8];exact qfg hc h' (by decide +kernel)
 obtain ⟨p9,e_p9⟩:∃ x,x=took ts p8 qfz:=⟨_,rfl⟩
 have a_p9:Step ts p8 p9:=by rw [e_p9];exact qdb ht A_p8 qfz
 have A_p9:=a_p9.ok A_p8
 have t_p9:PreC ts n p8→Trip Try.prog 81 [.ptr 0 0,.str qfz] [psc ts p8] (iv (qaf ts p8 qfz)) [(0,psc ts p9)] 1:=fun h'=>by rw [e_p9];exact qfg hc h' (by decide +kernel)
 obtain ⟨p10,e_p10⟩:∃ x,x=must ts p9 qj:=⟨_,rfl⟩
 have a_p10:Step ts p9 p10:=by rw [e_p10];exact qe ht A_p9 qj
 have A_p10:=a_p10.ok A_p9
 have t_p10:PreC ts n p9→MTrip Try.prog 61 [.ptr 0 0,strs [qj]] [psc ts p9] (p10.err == 0) (.tup []) [(0,psc ts p10)] 1 (pfl p10):=fun h'=>by rw [e_p10];exact qad hc h' (by decide +kernel)
 have b_p9:Step ts p9 p10:=a_p10
 have b_p8:Step ts p8 p10:=a_p9.trans b_p9
 have b_p7:Step ts p7 p10:=a_p8.trans b_p8
 have b_p6:Step ts p6 p10:=a_p7.trans b_p7
 have b_p5:Step ts p5 p10:=a_p6.trans b_p6
 have b_p4:Step ts p4 p10:=a_p5.trans b_p5
 have b_p3:Step ts p3 p10:=a_p4.trans b_p4
 have b_p2:Step ts p2 p10:=a_p3.trans b_p3
 have b_p1:Step ts p1 p10:=a_p2.trans b_p2
 have b_p10:Step ts p10 p10:=A_p10.refl
 have hF:qax ts p=(.mk 1 [jn ts p1] [numN ts p3,numN ts p6,qaf ts p7 qfy,qaf ts p8 qfz] (tk ts p).pos [],p10):=by
  subst e_p10 e_p9 e_p8 e_p7 e_p6 e_p5 e_p4 e_p3 e_p2
  have e0:p1=adv p:=e_p1.trans (zb hs)
  subst e0
  unfold qax
  rw [za (by rw [hv];decide),za (by rw [hp];decide),zb hs]
 rw [RdM,hF]
 dsimp only
 refine qat (T:=tab Try.prog) (C:={}) 600 (fun _=>rfl) Try.func58 rfl (by kernel_rfl) (by kernel_rfl) (fun c0 rdb mpb=>?_)
 (repeat' ((conv=>whnf);first|refine zA ?_|refine zO ?_|refine Ob.auto ?_|refine zD 600 ?_|(apply zB <;> intro hb <;> (try simp [-zd] at hb) <;> try (exfalso;omega))|refine Ob.intro ?_ ?_))
 ((conv=>whnf);refine zT 600 [0] (qbc h_p.at_ 1) qa ?_)
 (repeat' ((conv=>whnf);first|refine zA ?_|refine zO ?_|refine Ob.auto ?_|refine zD 600 ?_|(apply zB <;> intro hb <;> (try simp [-zd] at hb) <;> try (exfalso;omega))|refine Ob.intro ?_ ?_))
 (((conv=>whnf);refine jr frzA ?_);(conv=>whnf);refine qm (fun _=>rfl) 600 [0] (t_p1 h_p) (by kernel_rfl) (by kernel_rfl) ⟨Le.refl _,jf rfl,trivial⟩ qa (by exact qb rfl) (by exact qb rfl) (by kernel_rfl) (fun hk=>js b_p1 hk) (fun hok=>?_))
 have h_p1:=h_p.step a_p1 hok
 (repeat' ((conv=>whnf);first|refine zA ?_|refine zO ?_|refine Ob.auto ?_|refine zD 600 ?_|(apply zB <;> intro hb <;> (try simp [-zd] at hb) <;> try (exfalso;omega))|refine Ob.intro ?_ ?_))
 ((conv=>whnf);refine qm (fun _=>rfl) 600 [0] (t_p2 h_p1) (by kernel_rfl) (by kernel_rfl) leA qa (by exact qb rfl) (by exact qb rfl) (by kernel_rfl) (fun hk=>js b_p2 hk) (fun hok=>?_))
 have h_p2:=h_p1.step a_p2 hok
 (repeat' ((conv=>whnf);first|refine zA ?_|refine zO ?_|refine Ob.auto ?_|refine zD 600 ?_|(apply zB <;> intro hb <;> (try simp [-zd] at hb) <;> try (exfalso;omega))|refine Ob.intro ?_ ?_))
 (((conv=>whnf);refine jr frzA ?_);(conv=>whnf);refine qm (fun _=>rfl) 600 [0] (t_p3 h_p2) (by kernel_rfl) (by kernel_rfl) ⟨Le.refl _,jf rfl,trivial⟩ qa (by exact qb rfl) (by exact qb rfl) (by kernel_rfl) (fun hk=>js b_p3 hk) (fun hok=>?_))
 have h_p3:=h_p2.step a_p3 hok
 (repeat' ((conv=>whnf);first|refine zA ?_|refine zO ?_|refine Ob.auto ?_|refine zD 600 ?_|(apply zB <;> intro hb <;> (try simp [-zd] at hb) <;> try (exfalso;omega))|refine Ob.intro ?_ ?_))
 ((conv=>whnf);refine qm (fun _=>rfl) 600 [0] (t_p4 h_p3) (by kernel_rfl) (by kernel_rfl) leA qa (by exact qb rfl) (by exact qb rfl) (by kernel_rfl) (fun hk=>js b_p4 hk) (fun hok=>?_))
 have h_p4:=h_p3.step a_p4 hok
 (repeat' ((conv=>whnf);first|refine zA ?_|refine zO ?_|refine Ob.auto ?_|refine zD 600 ?_|(apply zB <;> intro hb <;> (try simp [-zd] at hb) <;> try (exfalso;omega))|refine Ob.intro ?_ ?_))
 (((conv=>whnf);refine jr frzA ?_);(conv=>whnf);refine qm (fun _=>rfl) 600 [0] (t_p5 h_p4) (by kernel_rfl) (by kernel_rfl) ⟨Le.refl _,jf rfl,trivial⟩ qa (by exact qb rfl) (by exact qb rfl) (by kernel_rfl) (fun hk=>js b_p5 hk) (fun hok=>?_))
 have h_p5:=h_p4.step a_p5 hok
 (repeat' ((conv=>whnf);first|refine zA ?_|refine zO ?_|refine Ob.auto ?_|refine zD 600 ?_|(apply zB <;> intro hb <;> (try simp [-zd] at hb) <;> try (exfalso;omega))|refine Ob.intro ?_ ?_))
 (((conv=>whnf);refine jr frzA ?_);(conv=>whnf);refine qm (fun _=>rfl) 600 [0] (t_p6 h_p5) (by kernel_rfl) (by kernel_rfl) ⟨Le.refl _,jf rfl,trivial⟩ qa (by exact qb rfl) (by exact qb rfl) (by kernel_rfl) (fun hk=>js b_p6 hk) (fun hok=>?_))
 have h_p6:=h_p5.step a_p6 hok
 (repeat' ((conv=>whnf);first|refine zA ?_|refine zO ?_|refine Ob.auto ?_|refine zD 600 ?_|(apply zB <;> intro hb <;> (try simp [-zd] at hb) <;> try (exfalso;omega))|refine Ob.intro ?_ ?_))
 ((conv=>whnf);refine qm (fun _=>rfl) 600 [0] (t_p7 h_p6) (by kernel_rfl) (by kernel_rfl) leA qa (by exact qb rfl) (by exact qb rfl) (by kernel_rfl) (fun hk=>js b_p7 hk) (fun hok=>?_))
 have h_p7:=h_p6.step a_p7 hok
 (repeat' ((conv=>whnf);first|refine zA ?_|refine zO ?_|refine Ob.auto ?_|refine zD 600 ?_|(apply zB <;> intro hb <;> (try simp [-zd] at hb) <;> try (exfalso;omega))|refine Ob.intro ?_ ?_))
 ((conv=>whnf);refine zT 600 [0] (t_p8 h_p7) qa ?_)
 have h_p8:=h_p7.step a_p8 (e_p8 ▸ qjg h_p7.err _)
 (repeat' ((conv=>whnf);first|refine zA ?_|refine zO ?_|refine Ob.auto ?_|refine zD 600 ?_|(apply zB <;> intro hb <;> (try simp [-zd] at hb) <;> try (exfalso;omega))|refine Ob.intro ?_ ?_))
 ((conv=>whnf);refine zT 600 [0] (t_p9 h_p8) qa ?_)
 have h_p9:=h_p8.step a_p9 (e_p9 ▸ qjg h_p8.err _)
 (repeat' ((conv=>whnf);first|refine zA ?_|refine zO ?_|refine Ob.auto ?_|refine zD 600 ?_|(apply zB <;> intro hb <;> (try simp [-zd] at hb) <;> try (exfalso;omega))|refine Ob.intro ?_ ?_))
 (((conv=>whnf);refine jr frzA ?_);(conv=>whnf);refine qm (fun _=>rfl) 600 [0] (t_p10 h_p9) (by kernel_rfl) (by kernel_rfl) ⟨Le.refl _,jf rfl,trivial⟩ qa (by exact qb rfl) (by exact qb rfl) (by kernel_rfl) (fun hk=>js b_p10 hk) (fun hok=>?_))
 have h_p10:=h_p9.step a_p10 hok
 (repeat' ((conv=>whnf);first|refine zA ?_|refine zO ?_|refine Ob.auto ?_|refine zD 600 ?_|(apply zB <;> intro hb <;> (try simp [-zd] at hb) <;> try (exfalso;omega))|refine Ob.intro ?_ ?_))
 exact ⟨hok,Le.rptrL ⟨Le.refl _,jf rfl,jlt rfl rfl rfl rfl,Le.refl _,Le.refl _,Le.nils _ _,trivial⟩,qa⟩
theorem jak (hc:TC ts) (h_p:PreC ts n p):RdM ts 59 (qah ts) p:=by
 have ht:=hc.ok
 have A_p:=h_p.at_
 have h2:=ht.len
 cases hq:sees ts (numP ts (must ts (qd ts (must ts p kVar)) kOf)) sEq with
 | false=>
  obtain ⟨p1,e_p1⟩:∃ x,x=must ts p kVar:=⟨_,rfl⟩
  have a_p1:Step ts p p1:=by rw [e_p1];exact qe ht A_p kVar
  have A_p1:=a_p1.ok A_p
  have t_p1:PreC ts n p→MTrip Try.prog 61 [.ptr 0 0,strs [kVar]] [psc ts p] (p1.err == 0) (.tup []) [(0,psc ts p1)] 1 (pfl p1):=fun h'=>by rw [e_p1];exact qad hc h' (by decide +kernel)
  obtain ⟨p2,e_p2⟩:∃ x,x=qd ts p1:=⟨_,rfl⟩
  have a_p2:Step ts p1 p2:=by rw [e_p2];exact jl ht A_p1
  have A_p2:=a_p2.ok A_p1
  have t_p2:PreC ts n p1→MTrip Try.prog 79 [.ptr 0 0] [psc ts p1] (p2.err == 0) (.str (jn ts p1)) [(0,psc ts p2)] 1 (pfl p2):=fun h'=>by rw [e_p2];exact qek hc h'
  obtain ⟨p3,e_p3⟩:∃ x,x=must ts p2 kOf:=⟨_,rfl⟩
  have a_p3:Step ts p2 p3:=by rw [e_p3];exact qe ht A_p2 kOf
  have A_p3:=a_p3.ok A_p2
  have t_p3:PreC ts n p2→MTrip Try.prog 61 [.ptr 0 0,strs [kOf]] [psc ts p2] (p3.err == 0) (.tup []) [(0,psc ts p3)] 1 (pfl p3):=fun h'=>by rw [e_p3];exact qad hc h' (by decide +kernel)
  obtain ⟨p4,e_p4⟩:∃ x,x=numP ts p3:=⟨_,rfl⟩
  have a_p4:Step ts p3 p4:=by rw [e_p4];exact qav ht A_p3
  have A_p4:=a_p4.ok A_p3
  have t_p4:PreC ts n p3→MTrip Try.prog 80 [.ptr 0 0] [psc ts p3] (p4.err == 0) (iv (numN ts p3)) [(0,psc ts p4)] 1 (pfl p4):=fun h'=>by rw [e_p4];exact qgu hc h'
  obtain ⟨p5,e_p5⟩:∃ x,x=took ts p4 sEq:=⟨_,rfl⟩
  have a_p5:Step ts p4 p5:=by rw [e_p5];exact qdb ht A_p4 sEq
  have A_p5:=a_p5.ok A_p4
  have t_p5:PreC ts n p4→Trip Try.prog 81 [.ptr 0 0,.str sEq] [psc ts p4] (iv (qaf ts p4 sEq)) [(0,psc ts p5)] 1:=fun h'=>by rw [e_p5];exact qfg hc h' (by decide +kernel)
  obtain ⟨p6,e_p6⟩:∃ x,x=must ts p5 qj:=⟨_,rfl⟩
  have a_p6:Step ts p5 p6:=by rw [e_p6];exact qe ht A_p5 qj
  have A_p6:=a_p6.ok A_p5
  have t_p6:PreC ts n p5→MTrip Try.prog 61 [.ptr 0 0,strs [qj]] [psc ts p5] (p6.err == 0) (.tup []) [(0,psc ts p6)] 1 (pfl p6):=fun h'=>by rw [e_p6];exact qad hc h' (by decide +kernel)
  have b_p5:Step ts p5 p6:=a_p6
  have b_p4:Step ts p4 p6:=a_p5.trans b_p5
  have b_p3:Step ts p3 p6:=a_p4.trans b_p4
  have b_p2:Step ts p2 p6:=a_p3.trans b_p3
  have b_p1:Step ts p1 p6:=a_p2.trans b_p2
  have b_p6:Step ts p6 p6:=A_p6.refl
  have hq':sees ts p4 sEq=false:=by subst e_p4 e_p3 e_p2 e_p1;exact hq
  have hF:qah ts p=(.mk 2 [jn ts p1] [numN ts p3,0] (tk ts p).pos [],p6):=by
   have e5:p5=p4:=e_p5.trans (za (by rw [hq'];decide))
   rw [e_p6,e5]
   subst e_p4 e_p3 e_p2 e_p1
   unfold qah
   simp only
   rw [za (by rw [hq];decide)]
  have hfl:qaf ts p4 sEq=0:=za (by rw [hq'];decide)
  rw [hfl] at t_p5
  rw [RdM,hF]
  dsimp only
  refine qat (T:=tab Try.prog) (C:={}) 600 (fun _=>rfl) Try.func59 rfl (by kernel_rfl) (by kernel_rfl) (fun c0 rdb mpb=>?_)
  (repeat' ((conv=>whnf);first|refine zA ?_|refine zO ?_|refine Ob.auto ?_|refine zD 600 ?_|(apply zB <;> intro hb <;> (try simp [-zd] at hb) <;> try (exfalso;omega))|refine Ob.intro ?_ ?_))
  ((conv=>whnf);refine zT 600 [0] (qbc h_p.at_ 2) qa ?_)
  (repeat' ((conv=>whnf);first|refine zA ?_|refine zO ?_|refine Ob.auto ?_|refine zD 600 ?_|(apply zB <;> intro hb <;> (try simp [-zd] at hb) <;> try (exfalso;omega))|refine Ob.intro ?_ ?_))
  (((conv=>whnf);refine jr frzA ?_);(conv=>whnf);refine qm (fun _=>rfl) 600 [0] (t_p1 h_p) (by kernel_rfl) (by kernel_rfl) ⟨Le.refl _,jf rfl,trivial⟩ qa (by exact qb rfl) (by exact qb rfl) (by kernel_rfl) (fun hk=>js b_p1 hk) (fun hok=>?_))
  have h_p1:=h_p.step a_p1 hok
  (repeat' ((conv=>whnf);first|refine zA ?_|refine zO ?_|refine Ob.auto ?_|refine zD 600 ?_|(apply zB <;> intro hb <;> (try simp [-zd] at hb) <;> try (exfalso;omega))|refine Ob.intro ?_ ?_))
  ((conv=>whnf);refine qm (fun _=>rfl) 600 [0] (t_p2 h_p1) (by kernel_rfl) (by kernel_rfl) leA qa (by exact qb rfl) (by exact qb rfl) (by kernel_rfl) (fun hk=>js b_p2 hk) (fun hok=>?_))
  have h_p2:=h_p1.step a_p2 hok
  (repeat' ((conv=>whnf);first|refine zA ?_|refine zO ?_|refine Ob.auto ?_|refine zD 600 ?_|(apply zB <;> intro hb <;> (try simp [-zd] at hb) <;> try (exfalso;omega))|refine Ob.intro ?_ ?_))
  (((conv=>whnf);refine jr frzA ?_);(conv=>whnf);refine qm (fun _=>rfl) 600 [0] (t_p3 h_p2) (by kernel_rfl) (by kernel_rfl) ⟨Le.refl _,jf rfl,trivial⟩ qa (by exact qb rfl) (by exact qb rfl) (by kernel_rfl) (fun hk=>js b_p3 hk) (fun hok=>?_))
  have h_p3:=h_p2.step a_p3 hok
  (repeat' ((conv=>whnf);first|refine zA ?_|refine zO ?_|refine Ob.auto ?_|refine zD 600 ?_|(apply zB <;> intro hb <;> (try simp [-zd] at hb) <;> try (exfalso;omega))|refine Ob.intro ?_ ?_))
  ((conv=>whnf);refine qm (fun _=>rfl) 600 [0] (t_p4 h_p3) (by kernel_rfl) (by kernel_rfl) leA qa (by exact qb rfl) (by exact qb rfl) (by kernel_rfl) (fun hk=>js b_p4 hk) (fun hok=>?_))
  have h_p4:=h_p3.step a_p4 hok
  (repeat' ((conv=>whnf);first|refine zA ?_|refine zO ?_|refine Ob.auto ?_|refine zD 600 ?_|(apply zB <;> intro hb <;> (try simp [-zd] at hb) <;> try (exfalso;omega))|refine Ob.intro ?_ ?_))
  ((conv=>whnf);refine zT 600 [0] (t_p5 h_p4) qa ?_)
  have h_p5:=h_p4.step a_p5 (e_p5 ▸ qjg h_p4.err _)
  (repeat' ((conv=>whnf);first|refine zA ?_|refine zO ?_|refine Ob.auto ?_|refine zD 600 ?_|(apply zB <;> intro hb <;> (try simp [-zd] at hb) <;> try (exfalso;omega))|refine Ob.intro ?_ ?_))
  (((conv=>whnf);refine jr frzA ?_);(conv=>whnf);refine qm (fun _=>rfl) 600 [0] (t_p6 h_p5) (by kernel_rfl) (by kernel_rfl) ⟨Le.refl _,jf rfl,trivial⟩ qa (by exact qb rfl) (by exact qb rfl) (by kernel_rfl) (fun hk=>js b_p6 hk) (fun hok=>?_))
  have h_p6:=h_p5.step a_p6 hok
  (repeat' ((conv=>whnf);first|refine zA ?_|refine zO ?_|refine Ob.auto ?_|refine zD 600 ?_|(apply zB <;> intro hb <;> (try simp [-zd] at hb) <;> try (exfalso;omega))|refine Ob.intro ?_ ?_))
  exact ⟨hok,Le.rptrL ⟨Le.refl _,jf rfl,qum rfl rfl,Le.refl _,Le.refl _,Le.nils _ _,trivial⟩,qa⟩
 | true=>
  cases hm:sees ts (adv (numP ts (must ts (qd ts (must ts p kVar)) kOf))) qbf with
  | false=>
   obtain ⟨p1,e_p1⟩:∃ x,x=must ts p kVar:=⟨_,rfl⟩
   have a_p1:Step ts p p1:=by rw [e_p1];exact qe ht A_p kVar
   have A_p1:=a_p1.ok A_p
   have t_p1:PreC ts n p→MTrip Try.prog 61 [.ptr 0 0,strs [kVar]] [psc ts p] (p1.err == 0) (.tup []) [(0,psc ts p1)] 1 (pfl p1):=fun h'=>by rw [e_p1];exact qad hc h' (by decide +kernel)
   obtain ⟨p2,e_p2⟩:∃ x,x=qd ts p1:=⟨_,rfl⟩
   have a_p2:Step ts p1 p2:=by rw [e_p2];exact jl ht A_p1
   have A_p2:=a_p2.ok A_p1
   have t_p2:PreC ts n p1→MTrip Try.prog 79 [.ptr 0 0] [psc ts p1] (p2.err == 0) (.str (jn ts p1)) [(0,psc ts p2)] 1 (pfl p2):=fun h'=>by rw [e_p2];exact qek hc h'
   obtain ⟨p3,e_p3⟩:∃ x,x=must ts p2 kOf:=⟨_,rfl⟩
   have a_p3:Step ts p2 p3:=by rw [e_p3];exact qe ht A_p2 kOf
   have A_p3:=a_p3.ok A_p2
   have t_p3:PreC ts n p2→MTrip Try.prog 61 [.ptr 0 0,strs [kOf]] [psc ts p2] (p3.err == 0) (.tup []) [(0,psc ts p3)] 1 (pfl p3):=fun h'=>by rw [e_p3];exact qad hc h' (by decide +kernel)
   obtain ⟨p4,e_p4⟩:∃ x,x=numP ts p3:=⟨_,rfl⟩
   have a_p4:Step ts p3 p4:=by rw [e_p4];exact qav ht A_p3
   have A_p4:=a_p4.ok A_p3
   have t_p4:PreC ts n p3→MTrip Try.prog 80 [.ptr 0 0] [psc ts p3] (p4.err == 0) (iv (numN ts p3)) [(0,psc ts p4)] 1 (pfl p4):=fun h'=>by rw [e_p4];exact qgu hc h'
   obtain ⟨p5,e_p5⟩:∃ x,x=took ts p4 sEq:=⟨_,rfl⟩
   have a_p5:Step ts p4 p5:=by rw [e_p5];exact qdb ht A_p4 sEq
   have A_p5:=a_p5.ok A_p4
   have t_p5:PreC ts n p4→Trip Try.prog 81 [.ptr 0 0,.str sEq] [psc ts p4] (iv (qaf ts p4 sEq)) [(0,psc ts p5)] 1:=fun h'=>by rw [e_p5];exact qfg hc h' (by decide +kernel)
   obtain ⟨p6,e_p6⟩:∃ x,x=took ts p5 qbf:=⟨_,rfl⟩
   have a_p6:Step ts p5 p6:=by rw [e_p6];exact qdb ht A_p5 qbf
   have A_p6:=a_p6.ok A_p5
   have t_p6:PreC ts n p5→Trip Try.prog 81 [.ptr 0 0,.str qbf] [psc ts p5] (iv (qaf ts p5 qbf)) [(0,psc ts p6)] 1:=fun h'=>by rw [e_p6];exact qfg hc h' (by decide +kernel)
   obtain ⟨p7,e_p7⟩:∃ x,x=numP ts p6:=⟨_,rfl⟩
   have a_p7:Step ts p6 p7:=by rw [e_p7];exact qav ht A_p6
   have A_p7:=a_p7.ok A_p6
   have t_p7:PreC ts n p6→MTrip Try.prog 80 [.ptr 0 0] [psc ts p6] (p7.err == 0) (iv (numN ts p6)) [(0,psc ts p7)] 1 (pfl p7):=fun h'=>by rw [e_p7];exact qgu hc h'
   obtain ⟨p8,e_p8⟩:∃ x,x=must ts p7 qj:=⟨_,rfl⟩
   have a_p8:Step ts p7 p8:=by rw [e_p8];exact qe ht A_p7 qj
   have A_p8:=a_p8.ok A_p7
   have t_p8:PreC ts n p7→MTrip Try.prog 61 [.ptr 0 0,strs [qj]] [psc ts p7] (p8.err == 0) (.tup []) [(0,psc ts p8)] 1 (pfl p8):=fun h'=>by rw [e_p8];exact qad hc h' (by decide +kernel)
   have b_p7:Step ts p7 p8:=a_p8
   have b_p6:Step ts p6 p8:=a_p7.trans b_p7
   have b_p5:Step ts p5 p8:=a_p6.trans b_p6
   have b_p4:Step ts p4 p8:=a_p5.trans b_p5
   have b_p3:Step ts p3 p8:=a_p4.trans b_p4
   have b_p2:Step ts p2 p8:=a_p3.trans b_p3
   have b_p1:Step ts p1 p8:=a_p2.trans b_p2
   have b_p8:Step ts p8 p8:=A_p8.refl
   have hq':sees ts p4 sEq=true:=by subst e_p4 e_p3 e_p2 e_p1;exact hq
   have e5:p5=adv p4:=e_p5.trans (zb hq')
   have hm':sees ts p5 qbf=false:=by rw [e5];subst e_p4 e_p3 e_p2 e_p1;exact hm
   have e6:p6=p5:=e_p6.trans (za (by rw [hm'];decide))
   have hF:qah ts p=(.mk 2 [jn ts p1] [numN ts p3,numN ts p6] (tk ts p).pos [],p8):=by
    rw [e_p8,e_p7,e6,e5]
    subst e_p4 e_p3 e_p2 e_p1
    unfold qah
    simp only
    rw [zb hq,za (by rw [hm];decide)]
   have hfl:qaf ts p4 sEq=1:=zb hq'
   rw [hfl] at t_p5
   have hfm:qaf ts p5 qbf=0:=za (by rw [hm'];decide)
   rw [hfm] at t_p6
   have hnb:=qun ht A_p6
   rw [RdM,hF]
   dsimp only
   refine qat (T:=tab Try.prog) (C:={}) 600 (fun _=>rfl) Try.func59 rfl (by kernel_rfl) (by kernel_rfl) (fun c0 rdb mpb=>?_)
   (repeat' ((conv=>whnf);first|refine zA ?_|refine zO ?_|refine Ob.auto ?_|refine zD 600 ?_|(apply zB <;> intro hb <;> (try simp [-zd] at hb) <;> try (exfalso;omega))|refine Ob.intro ?_ ?_))
   ((conv=>whnf);refine zT 600 [0] (qbc h_p.at_ 2) qa ?_)
   (repeat' ((conv=>whnf);first|refine zA ?_|refine zO ?_|refine Ob.auto ?_|refine zD 600 ?_|(apply zB <;> intro hb <;> (try simp [-zd] at hb) <;> try (exfalso;omega))|refine Ob.intro ?_ ?_))
   (((conv=>whnf);refine jr frzA ?_);(conv=>whnf);refine qm (fun _=>rfl) 600 [0] (t_p1 h_p) (by kernel_rfl) (by kernel_rfl) ⟨Le.refl _,jf rfl,trivial⟩ qa (by exact qb rfl) (by exact qb rfl) (by kernel_rfl) (fun hk=>js b_p1 hk) (fun hok=>?_))
   have h_p1:=h_p.step a_p1 hok
   (repeat' ((conv=>whnf);first|refine zA ?_|refine zO ?_|refine Ob.auto ?_|(refine Ob.intro (by (exact qv (by omega) (by omega))) ?_)|refine zD 600 ?_|(apply zB <;> intro hb <;> (try simp [-zd] at hb) <;> try (exfalso;omega))|refine Ob.intro ?_ ?_))
   ((conv=>whnf);refine qm (fun _=>rfl) 600 [0] (t_p2 h_p1) (by kernel_rfl) (by kernel_rfl) leA qa (by exact qb rfl) (by exact qb rfl) (by kernel_rfl) (fun hk=>js b_p2 hk) (fun hok=>?_))
   have h_p2:=h_p1.step a_p2 hok
   (repeat' ((conv=>whnf);first|refine zA ?_|refine zO ?_|refine Ob.auto ?_|(refine Ob.intro (by (exact qv (by omega) (by omega))) ?_)|refine zD 600 ?_|(apply zB <;> intro hb <;> (try simp [-zd] at hb) <;> try (exfalso;omega))|refine Ob.intro ?_ ?_))
   (((conv=>whnf);refine jr frzA ?_);(conv=>whnf);refine qm (fun _=>rfl) 600 [0] (t_p3 h_p2) (by kernel_rfl) (by kernel_rfl) ⟨Le.refl _,jf rfl,trivial⟩ qa (by exact qb rfl) (by exact qb rfl) (by kernel_rfl) (fun hk=>js b_p3 hk) (fun hok=>?_))
   have h_p3:=h_p2.step a_p3 hok
   (repeat' ((conv=>whnf);first|refine zA ?_|refine zO ?_|refine Ob.auto ?_|(refine Ob.intro (by (exact qv (by omega) (by omega))) ?_)|refine zD 600 ?_|(apply zB <;> intro hb <;> (try simp [-zd] at hb) <;> try (exfalso;omega))|refine Ob.intro ?_ ?_))
   ((conv=>whnf);refine qm (fun _=>rfl) 600 [0] (t_p4 h_p3) (by kernel_rfl) (by kernel_rfl) leA qa (by exact qb rfl) (by exact qb rfl) (by kernel_rfl) (fun hk=>js b_p4 hk) (fun hok=>?_))
   have h_p4:=h_p3.step a_p4 hok
   (repeat' ((conv=>whnf);first|refine zA ?_|refine zO ?_|refine Ob.auto ?_|(refine Ob.intro (by (exact qv (by omega) (by omega))) ?_)|refine zD 600 ?_|(apply zB <;> intro hb <;> (try simp [-zd] at hb) <;> try (exfalso;omega))|refine Ob.intro ?_ ?_))
   ((conv=>whnf);refine zT 600 [0] (t_p5 h_p4) qa ?_)
   have h_p5:=h_p4.step a_p5 (e_p5 ▸ qjg h_p4.err _)
   (repeat' ((conv=>whnf);first|refine zA ?_|refine zO ?_|refine Ob.auto ?_|(refine Ob.intro (by (exact qv (by omega) (by omega))) ?_)|refine zD 600 ?_|(apply zB <;> intro hb <;> (try simp [-zd] at hb) <;> try (exfalso;omega))|refine Ob.intro ?_ ?_))
   ((conv=>whnf);refine zT 600 [0] (t_p6 h_p5) qa ?_)
   have h_p6:=h_p5.step a_p6 (e_p6 ▸ qjg h_p5.err _)
   (repeat' ((conv=>whnf);first|refine zA ?_|refine zO ?_|refine Ob.auto ?_|(refine Ob.intro (by (exact qv (by omega) (by omega))) ?_)|refine zD 600 ?_|(apply zB <;> intro hb <;> (try simp [-zd] at hb) <;> try (exfalso;omega))|refine Ob.intro ?_ ?_))
   ((conv=>whnf);refine qm (fun _=>rfl) 600 [0] (t_p7 h_p6) (by kernel_rfl) (by kernel_rfl) leA qa (by exact qb rfl) (by exact qb rfl) (by kernel_rfl) (fun hk=>js b_p7 hk) (fun hok=>?_))
   have h_p7:=h_p6.step a_p7 hok
   (repeat' ((conv=>whnf);first|refine zA ?_|refine zO ?_|refine Ob.auto ?_|(refine Ob.intro (by (exact qv (by omega) (by omega))) ?_)|refine zD 600 ?_|(apply zB <;> intro hb <;> (try simp [-zd] at hb) <;> try (exfalso;omega))|refine Ob.intro ?_ ?_))
   (((conv=>whnf);refine jr frzA ?_);(conv=>whnf);refine qm (fun _=>rfl) 600 [0] (t_p8 h_p7) (by kernel_rfl) (by kernel_rfl) ⟨Le.refl _,jf rfl,trivial⟩ qa (by exact qb rfl) (by exact qb rfl) (by kernel_rfl) (fun hk=>js b_p8 hk) (fun hok=>?_))
   have h_p8:=h_p7.step a_p8 hok
   (repeat' ((conv=>whnf);first|refine zA ?_|refine zO ?_|refine Ob.auto ?_|(refine Ob.intro (by (exact qv (by omega) (by omega))) ?_)|refine zD 600 ?_|(apply zB <;> intro hb <;> (try simp [-zd] at hb) <;> try (exfalso;omega))|refine Ob.intro ?_ ?_))
   exact ⟨hok,Le.rptrL ⟨Le.refl _,jf rfl,qum rfl (by first|exact rfl|exact congrArg (fun x=>[iv x]) (by omega)),Le.refl _,Le.refl _,Le.nils _ _,trivial⟩,qa⟩
  | true=>
   obtain ⟨p1,e_p1⟩:∃ x,x=must ts p kVar:=⟨_,rfl⟩
   have a_p1:Step ts p p1:=by rw [e_p1];exact qe ht A_p kVar
   have A_p1:=a_p1.ok A_p
   have t_p1:PreC ts n p→MTrip Try.prog 61 [.ptr 0 0,strs [kVar]] [psc ts p] (p1.err == 0) (.tup []) [(0,psc ts p1)] 1 (pfl p1):=fun h'=>by rw [e_p1];exact qad hc h' (by decide +kernel)
   obtain ⟨p2,e_p2⟩:∃ x,x=qd ts p1:=⟨_,rfl⟩
   have a_p2:Step ts p1 p2:=by rw [e_p2];exact jl ht A_p1
   have A_p2:=a_p2.ok A_p1
   have t_p2:PreC ts n p1→MTrip Try.prog 79 [.ptr 0 0] [psc ts p1] (p2.err == 0) (.str (jn ts p1)) [(0,psc ts p2)] 1 (pfl p2):=fun h'=>by rw [e_p2];exact qek hc h'
   obtain ⟨p3,e_p3⟩:∃ x,x=must ts p2 kOf:=⟨_,rfl⟩
   have a_p3:Step ts p2 p3:=by rw [e_p3];exact qe ht A_p2 kOf
   have A_p3:=a_p3.ok A_p2
   have t_p3:PreC ts n p2→MTrip Try.prog 61 [.ptr 0 0,strs [kOf]] [psc ts p2] (p3.err == 0) (.tup []) [(0,psc ts p3)] 1 (pfl p3):=fun h'=>by rw [e_p3];exact qad hc h' (by decide +kernel)
   obtain ⟨p4,e_p4⟩:∃ x,x=numP ts p3:=⟨_,rfl⟩
   have a_p4:Step ts p3 p4:=by rw [e_p4];exact qav ht A_p3
   have A_p4:=a_p4.ok A_p3
   have t_p4:PreC ts n p3→MTrip Try.prog 80 [.ptr 0 0] [psc ts p3] (p4.err == 0) (iv (numN ts p3)) [(0,psc ts p4)] 1 (pfl p4):=fun h'=>by rw [e_p4];exact qgu hc h'
   obtain ⟨p5,e_p5⟩:∃ x,x=took ts p4 sEq:=⟨_,rfl⟩
   have a_p5:Step ts p4 p5:=by rw [e_p5];exact qdb ht A_p4 sEq
   have A_p5:=a_p5.ok A_p4
   have t_p5:PreC ts n p4→Trip Try.prog 81 [.ptr 0 0,.str sEq] [psc ts p4] (iv (qaf ts p4 sEq)) [(0,psc ts p5)] 1:=fun h'=>by rw [e_p5];exact qfg hc h' (by decide +kernel)
   obtain ⟨p6,e_p6⟩:∃ x,x=took ts p5 qbf:=⟨_,rfl⟩
   have a_p6:Step ts p5 p6:=by rw [e_p6];exact qdb ht A_p5 qbf
   have A_p6:=a_p6.ok A_p5
   have t_p6:PreC ts n p5→Trip Try.prog 81 [.ptr 0 0,.str qbf] [psc ts p5] (iv (qaf ts p5 qbf)) [(0,psc ts p6)] 1:=fun h'=>by rw [e_p6];exact qfg hc h' (by decide +kernel)
   obtain ⟨p7,e_p7⟩:∃ x,x=numP ts p6:=⟨_,rfl⟩
   have a_p7:Step ts p6 p7:=by rw [e_p7];exact qav ht A_p6
   have A_p7:=a_p7.ok A_p6
   have t_p7:PreC ts n p6→MTrip Try.prog 80 [.ptr 0 0] [psc ts p6] (p7.err == 0) (iv (numN ts p6)) [(0,psc ts p7)] 1 (pfl p7):=fun h'=>by rw [e_p7];exact qgu hc h'
   obtain ⟨p8,e_p8⟩:∃ x,x=must ts p7 qj:=⟨_,rfl⟩
   have a_p8:Step ts p7 p8:=by rw [e_p8];exact qe ht A_p7 qj
   have A_p8:=a_p8.ok A_p7
   have t_p8:PreC ts n p7→MTrip Try.prog 61 [.ptr 0 0,strs [qj]] [psc ts p7] (p8.err == 0) (.tup []) [(0,psc ts p8)] 1 (pfl p8):=fun h'=>by rw [e_p8];exact qad hc h' (by decide +kernel)
   have b_p7:Step ts p7 p8:=a_p8
   have b_p6:Step ts p6 p8:=a_p7.trans b_p7
   have b_p5:Step ts p5 p8:=a_p6.trans b_p6
   have b_p4:Step ts p4 p8:=a_p5.trans b_p5
   have b_p3:Step ts p3 p8:=a_p4.trans b_p4
   have b_p2:Step ts p2 p8:=a_p3.trans b_p3
   have b_p1:Step ts p1 p8:=a_p2.trans b_p2
   have b_p8:Step ts p8 p8:=A_p8.refl
   have hq':sees ts p4 sEq=true:=by subst e_p4 e_p3 e_p2 e_p1;exact hq
   have e5:p5=adv p4:=e_p5.trans (zb hq')
   have hm':sees ts p5 qbf=true:=by rw [e5];subst e_p4 e_p3 e_p2 e_p1;exact hm
   have e6:p6=adv p5:=e_p6.trans (zb hm')
   have hF:qah ts p=(.mk 2 [jn ts p1] [numN ts p3,0 - numN ts p6] (tk ts p).pos [],p8):=by
    rw [e_p8,e_p7,e6,e5]
    subst e_p4 e_p3 e_p2 e_p1
    unfold qah
    simp only
    rw [zb hq,zb hm]
   have hfl:qaf ts p4 sEq=1:=zb hq'
   rw [hfl] at t_p5
   have hfm:qaf ts p5 qbf=1:=zb hm'
   rw [hfm] at t_p6
   have hnb:=qun ht A_p6
   rw [RdM,hF]
   dsimp only
   refine qat (T:=tab Try.prog) (C:={}) 600 (fun _=>rfl) Try.func59 rfl (by kernel_rfl) (by kernel_rfl) (fun c0 rdb mpb=>?_)
   (repeat' ((conv=>whnf);first|refine zA ?_|refine zO ?_|refine Ob.auto ?_|refine zD 600 ?_|(apply zB <;> intro hb <;> (try simp [-zd] at hb) <;> try (exfalso;omega))|refine Ob.intro ?_ ?_))
   ((conv=>whnf);refine zT 600 [0] (qbc h_p.at_ 2) qa ?_)
   (repeat' ((conv=>whnf);first|refine zA ?_|refine zO ?_|refine Ob.auto ?_|refine zD 600 ?_|(apply zB <;> intro hb <;> (try simp [-zd] at hb) <;> try (exfalso;omega))|refine Ob.intro ?_ ?_))
   (((conv=>whnf);refine jr frzA ?_);(conv=>whnf);refine qm (fun _=>rfl) 600 [0] (t_p1 h_p) (by kernel_rfl) (by kernel_rfl) ⟨Le.refl _,jf rfl,trivial⟩ qa (by exact qb rfl) (by exact qb rfl) (by kernel_rfl) (fun hk=>js b_p1 hk) (fun hok=>?_))
   have h_p1:=h_p.step a_p1 hok
   (repeat' ((conv=>whnf);first|refine zA ?_|refine zO ?_|refine Ob.auto ?_|(refine Ob.intro (by (exact qv (by omega) (by omega))) ?_)|refine zD 600 ?_|(apply zB <;> intro hb <;> (try simp [-zd] at hb) <;> try (exfalso;omega))|refine Ob.intro ?_ ?_))
   ((conv=>whnf);refine qm (fun _=>rfl) 600 [0] (t_p2 h_p1) (by kernel_rfl) (by kernel_rfl) leA qa (by exact qb rfl) (by exact qb rfl) (by kernel_rfl) (fun hk=>js b_p2 hk) (fun hok=>?_))
   have h_p2:=h_p1.step a_p2 hok
   (repeat' ((conv=>whnf);first|refine zA ?_|refine zO ?_|refine Ob.auto ?_|(refine Ob.intro (by (exact qv (by omega) (by omega))) ?_)|refine zD 600 ?_|(apply zB <;> intro hb <;> (try simp [-zd] at hb) <;> try (exfalso;omega))|refine Ob.intro ?_ ?_))
   (((conv=>whnf);refine jr frzA ?_);(conv=>whnf);refine qm (fun _=>rfl) 600 [0] (t_p3 h_p2) (by kernel_rfl) (by kernel_rfl) ⟨Le.refl _,jf rfl,trivial⟩ qa (by exact qb rfl) (by exact qb rfl) (by kernel_rfl) (fun hk=>js b_p3 hk) (fun hok=>?_))
   have h_p3:=h_p2.step a_p3 hok
   (repeat' ((conv=>whnf);first|refine zA ?_|refine zO ?_|refine Ob.auto ?_|(refine Ob.intro (by (exact qv (by omega) (by omega))) ?_)|refine zD 600 ?_|(apply zB <;> intro hb <;> (try simp [-zd] at hb) <;> try (exfalso;omega))|refine Ob.intro ?_ ?_))
   ((conv=>whnf);refine qm (fun _=>rfl) 600 [0] (t_p4 h_p3) (by kernel_rfl) (by kernel_rfl) leA qa (by exact qb rfl) (by exact qb rfl) (by kernel_rfl) (fun hk=>js b_p4 hk) (fun hok=>?_))
   have h_p4:=h_p3.step a_p4 hok
   (repeat' ((conv=>whnf);first|refine zA ?_|refine zO ?_|refine Ob.auto ?_|(refine Ob.intro (by (exact qv (by omega) (by omega))) ?_)|refine zD 600 ?_|(apply zB <;> intro hb <;> (try simp [-zd] at hb) <;> try (exfalso;omega))|refine Ob.intro ?_ ?_))
   ((conv=>whnf);refine zT 600 [0] (t_p5 h_p4) qa ?_)
   have h_p5:=h_p4.step a_p5 (e_p5 ▸ qjg h_p4.err _)
   (repeat' ((conv=>whnf);first|refine zA ?_|refine zO ?_|refine Ob.auto ?_|(refine Ob.intro (by (exact qv (by omega) (by omega))) ?_)|refine zD 600 ?_|(apply zB <;> intro hb <;> (try simp [-zd] at hb) <;> try (exfalso;omega))|refine Ob.intro ?_ ?_))
   ((conv=>whnf);refine zT 600 [0] (t_p6 h_p5) qa ?_)
   have h_p6:=h_p5.step a_p6 (e_p6 ▸ qjg h_p5.err _)
   (repeat' ((conv=>whnf);first|refine zA ?_|refine zO ?_|refine Ob.auto ?_|(refine Ob.intro (by (exact qv (by omega) (by omega))) ?_)|refine zD 600 ?_|(apply zB <;> intro hb <;> (try simp [-zd] at hb) <;> try (exfalso;omega))|refine Ob.intro ?_ ?_))
   ((conv=>whnf);refine qm (fun _=>rfl) 600 [0] (t_p7 h_p6) (by kernel_rfl) (by kernel_rfl) leA qa (by exact qb rfl) (by exact qb rfl) (by kernel_rfl) (fun hk=>js b_p7 hk) (fun hok=>?_))
   have h_p7:=h_p6.step a_p7 hok
   (repeat' ((conv=>whnf);first|refine zA ?_|refine zO ?_|refine Ob.auto ?_|(refine Ob.intro (by (exact qv (by omega) (by omega))) ?_)|refine zD 600 ?_|(apply zB <;> intro hb <;> (try simp [-zd] at hb) <;> try (exfalso;omega))|refine Ob.intro ?_ ?_))
   (((conv=>whnf);refine jr frzA ?_);(conv=>whnf);refine qm (fun _=>rfl) 600 [0] (t_p8 h_p7) (by kernel_rfl) (by kernel_rfl) ⟨Le.refl _,jf rfl,trivial⟩ qa (by exact qb rfl) (by exact qb rfl) (by kernel_rfl) (fun hk=>js b_p8 hk) (fun hok=>?_))
   have h_p8:=h_p7.step a_p8 hok
   (repeat' ((conv=>whnf);first|refine zA ?_|refine zO ?_|refine Ob.auto ?_|(refine Ob.intro (by (exact qv (by omega) (by omega))) ?_)|refine zD 600 ?_|(apply zB <;> intro hb <;> (try simp [-zd] at hb) <;> try (exfalso;omega))|refine Ob.intro ?_ ?_))
   exact ⟨hok,Le.rptrL ⟨Le.refl _,jf rfl,qum rfl (by first|exact rfl|exact congrArg (fun x=>[iv x]) (by omega)),Le.refl _,Le.refl _,Le.nils _ _,trivial⟩,qa⟩
end
end Go.Proofs.Ythfaleaojlnnoaa
