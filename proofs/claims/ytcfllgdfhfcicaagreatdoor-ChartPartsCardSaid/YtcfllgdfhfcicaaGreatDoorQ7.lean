/- Some texts of the library, one behind the other. -/
import Derived.Test.YtcfllgdfhfcicaaGreatDoorQ6
import Derived.Test.YtcfllgdfhfcicaaGreatDoorQ5
import Derived.Test.YtcfllgdfhfcicaaGreatDoorQ2
set_option linter.unusedSimpArgs false
set_option linter.unusedVariables false
section
namespace Go.Proofs.YtcfllgdfhfcicaaGreatDoor
open Go.Sx Go.RowKit
set_option maxRecDepth 100000
set_option maxHeartbeats 2000000
theorem jqi (s:List UInt8) (hs:s.length≤1000000):Con Tryz.prog 39 [.str s] (Lx.lexAV s):=by
 refine zK {owns:=[(4,(132,3))]} 300 Tryz.func39 (fun c0 rdb=>?_)
 repeat' ((conv=>whnf);first|refine Ob.auto ?_|(apply zB <;> intro hb <;> (try simp at hb) <;> try (exfalso;omega)))
 ·rw [Lx.lexAV,Lx.lexAll,zb (by omega)]
  exact Le.tup ⟨Le.nils 3 _,Le.refl _,trivial⟩
 (conv=>whnf);refine qjy (fun _=>rfl) 300 1 (fun g:List Lx.Tok × Nat=>⟨[(0,.str s),(3,.ptr 0 0),(4,.own 1 0 0 g.1.length),(5,.int .i64 g.2)],[(1,.row [] 132 3 0 g.1.length (encL Lx.encTok Lx.tok0 g.1)),(0,.box 50 [.int .i64 0,.int .i64 0])],2⟩)
  (fun g=>g.2≤s.length∧Lx.lexR s 0=Lx.prep g.1 (Lx.lexR (s.drop g.2) g.2)∧g.1.length≤g.2) (fun g=>s.length - g.2) ([],0) ⟨by simp,by simp [Lx.prep_nil],by simp⟩ subA (fun _=>rfl) (by kernel_rfl) ?_
 rintro ⟨acc,p⟩ ⟨hp,hr,hl⟩
 simp only at hp hr hl
 repeat' ((conv=>whnf);first|refine Ob.auto ?_|(apply zB <;> intro hb <;> (try simp at hb) <;> try (exfalso;omega)))
 ·obtain ⟨b,hd,hby⟩:=Lx.drop_cons hb
  have hpl:=hb
  have hd0:=hd
  generalize s.drop (p+1)=r at hd
  have hlen:=congrArg List.length hd
  simp only [xf,xm] at hlen
  have hn:=Lx.firstN_le b r
  rw [xm] at hn
  rw [hd] at hr
  ((conv=>whnf);refine qes (fun _=>rfl) 300 (jcp [32,9,13,10] (qax s p) (by simp)) (by rfl) leA (by kernel_rfl) ?_)
  rw [hby]
  repeat' ((conv=>whnf);first|refine Ob.auto ?_|(refine Br.intro (fun hb=>?_) (fun hb=>?_)))
  ·(conv=>whnf);refine Exists.intro (acc,p+1) ⟨⟨by omega,?_,by simp;omega⟩,subA,by simp;omega⟩
   rw [Lx.blank_has] at hb
   rw [hr,Lx.lexR_cons,zb hb]
   rw [hd] at hd0
   injection hd0 with _ hd0
   rw [hd0]
  ·rw [Lx.blank_has] at hb
   have hbl:=hb
   ((conv=>whnf);refine qes (fun _=>rfl) 300 (qrn s p hp hs) (by rfl) leA (by kernel_rfl) ?_)
   repeat' ((conv=>whnf);first|(refine Br.intro (fun hb=>?_) (fun hb=>?_)))
   ·have hsl:Lx.slash2 (b::r)=true:=by rw [← hd,Lx.slash2,← Lx.two_pre];exact hb
    (conv=>whnf);refine qjy (fun _=>rfl) 300 2 (fun j:Nat=>⟨[(0,.str s),(3,.ptr 0 0),(4,.own 1 0 0 acc.length),(5,.int .i64 (p+j:Nat))],[(1,.row [] 132 3 0 acc.length (encL Lx.encTok Lx.tok0 acc)),(0,.box 50 [.int .i64 0,.int .i64 0])],2⟩)
     (fun j=>p+j≤s.length∧Lx.lineN (b::r)=j+Lx.lineN (s.drop (p+j))) (fun j=>s.length - (p+j)) 0 ⟨by omega,by rw [xl,hd,zr]⟩ subA (fun _=>rfl) (by kernel_rfl) ?_
    rintro j ⟨hj,hln⟩
    repeat' ((conv=>whnf);first|refine Ob.auto ?_|(refine Br.intro (fun hb=>?_) (fun hb=>?_)))
    ·simp only [zf,xd] at hb
     have hlt:p+j<s.length:=by omega
     have hb2:=hb.2
     rw [Lx.byteAt_get hlt,Lx.ne10] at hb2
     (conv=>whnf);refine Exists.intro (j+1) ⟨⟨by omega,?_⟩,subA,by omega⟩
     rw [hln,Lx.lineN,Lx.spanN_step hlt hb2]
     simp only [Lx.lineN]
     rw [show p+j+1=p+(j+1) by omega]
     omega
    ·have hz:Lx.lineN (s.drop (p+j))=0:=by
      by_cases hlt:p+j<s.length
      ·refine Lx.spanN_end hlt ?_
       simp only [Bool.and_eq_false_iff,decide_eq_false_iff_not] at hb
       rcases hb with hb|hb
       ·omega
       ·rw [Lx.byteAt_get hlt,Lx.ne10] at hb
        exact hb
      ·exact Lx.spanN_out (by omega)
     rw [hz,xl] at hln
     have hls:=Lx.lexR_slash hsl p
     rw [hln] at hls
     (conv=>whnf);refine Exists.intro (acc,p+j) ⟨⟨by simp;omega,?_,by simp;omega⟩,subA,by simp;omega⟩
     rw [hr,hls.1,← hd,zbu]
   ·have hsl:Lx.slash2 (b::r)=false:=by rw [← hd,Lx.slash2,← Lx.two_pre];exact hb
    have hz:Lx.skipN (b::r)=0:=Lx.skip_none hsl (.inr ⟨b,r,rfl,hbl⟩)
    rw [Lx.lexR_tok hz] at hr
    ((conv=>whnf);refine qes (fun _=>rfl) 300 (qrn s p hp hs) (by rfl) leA (by kernel_rfl) ?_)
    ((conv=>whnf);refine qmw (fun _=>rfl) 300 (fun _=>qrn s p hp hs) (by rfl) (fun hg=>by repeat' (first|exact trivial|exact Le.refl _|exact Le.cnd hg|(refine And.intro ?_ ?_))) (by kernel_rfl) ?_)
    repeat' ((conv=>whnf);first|refine Ob.auto ?_|fail)
    ((conv=>whnf);refine qmw (fun _=>rfl) 300 (fun _=>qrn s p hp hs) (by rfl) (fun hg=>by repeat' (first|exact trivial|exact Le.refl _|exact Le.cnd hg|(refine And.intro ?_ ?_))) (by kernel_rfl) ?_)
    repeat' ((conv=>whnf);first|refine Ob.auto ?_|fail)
    (conv=>whnf);refine Br.intro (fun hb=>?_) (fun hb=>?_)
    ·have hor:[61,61].isPrefixOf (b::r)=true∨[38,38].isPrefixOf (b::r)=true∨[124,124].isPrefixOf (b::r)=true:=by
      rw [← hd,← Lx.two_pre,← Lx.two_pre,← Lx.two_pre]
      simp only [zad] at hb
      rcases hb with (hb|hb)|hb
      ·exact .inl hb
      ·exact .inr (.inl hb)
      ·exact .inr (.inr hb)
     have hN:Lx.firstN (b::r)=2:=(Lx.first_two hor).1
     have hK:Lx.firstK (b::r)=2:=(Lx.first_two hor).2
     repeat' ((conv=>whnf);first|refine Ob.auto ?_|fail)
     (conv=>whnf);refine Br.intro (fun hb=>?_) (fun hb=>?_)
     ·exfalso;simp at hb;omega
     ·rw [za (by omega),Lx.prep_snoc,hN,hK] at hr
      have hdr:s.drop (p+2)=(b::r).drop 2:=by rw [← hd,zbu]
      have htk:(s.take (p+2)).drop p=(b::r).take 2:=by rw [← hd,zbt,zap]
      have hq:((p:Int)+((2:Nat):Int)).toNat=p+2:=by omega
      repeat' ((conv=>whnf);first|refine Ob.auto ?_|fail)
      (conv=>whnf);refine Exists.intro (acc++[⟨2,(b::r).take 2,p⟩],p+2) ⟨⟨by simp;omega,?_,by simp;omega⟩,?_,by simp;omega⟩
      ·rw [hr,← hdr]
      ·refine ⟨subA,⟨⟨rfl,rfl,rfl⟩,rfl,by simp,fun i _=>LeL.of_eq (congrFun (qnb Lx.encTok Lx.tok0 acc ⟨2,(b::r).take 2,p⟩ _ ?_) i)⟩,subA⟩
       refine congrArg (fun x=>[AV.int .i64 2,AV.str x,AV.int .i64 p]) ?_
       rw [← htk,← hq];rfl
    ·have hnor:[61,61].isPrefixOf (b::r)=false∧[38,38].isPrefixOf (b::r)=false∧[124,124].isPrefixOf (b::r)=false:=by
      rw [← hd,← Lx.two_pre,← Lx.two_pre,← Lx.two_pre]
      simp only [xw] at hb
      exact ⟨hb.1.1,hb.1.2,hb.2⟩
     repeat' ((conv=>whnf);first|refine Ob.auto ?_|fail)
     ((conv=>whnf);refine qes (fun _=>rfl) 300 (jqg (qax s p)) (by rfl) leA (by kernel_rfl) ?_)
     rw [hby]
     (conv=>whnf);refine Br.intro (fun hb=>?_) (fun hb=>?_)
     ·have hc:Lx.cls (b.toNat:Int)=2:=by
       have:=Lx.letC_cls b
       rw [Lx.letC,hb] at this
       simpa using this.symm
      (conv=>whnf);refine qjy (fun _=>rfl) 300 2 (fun j:Nat=>⟨[(0,.str s),(3,.ptr 0 0),(4,.own 1 0 0 acc.length),(5,.int .i64 p),(6,.int .i64 (p+j:Nat)),(7,.int .i64 0)],[(1,.row [] 132 3 0 acc.length (encL Lx.encTok Lx.tok0 acc)),(0,.box 50 [.int .i64 0,.int .i64 0])],2⟩)
       (fun j=>p+j≤s.length∧Lx.spanN Lx.wordB (b::r)=j+Lx.spanN Lx.wordB (s.drop (p+j))) (fun j=>s.length - (p+j)) 0 ⟨by omega,by rw [xl,hd,zr]⟩ subA (fun _=>rfl) (by kernel_rfl) ?_
      rintro j ⟨hj,hln⟩
      repeat' ((conv=>whnf);first|refine Ob.auto ?_|fail)
      ((conv=>whnf);refine qmw (fun _=>rfl) 300 (fun _=>jqh (qax s (p+j:Nat))) (by rfl) (fun hg=>by repeat' (first|exact trivial|exact Le.refl _|exact Le.cnd hg|(refine And.intro ?_ ?_))) (by kernel_rfl) ?_)
      repeat' ((conv=>whnf);first|refine Ob.auto ?_|fail)
      (conv=>whnf);refine Br.intro (fun hb=>?_) (fun hb=>?_)
      ·simp only [zf,xd] at hb
       have hlt:p+j<s.length:=by omega
       have hb2:Lx.wordC (qax s (p+j:Nat))=true:=by first|exact hb.2|(simp only [Lx.digC,zf,xd];exact hb.2)
       rw [Lx.byteAt_get hlt,Lx.wordC_B] at hb2
       repeat' ((conv=>whnf);first|refine Ob.auto ?_|fail)
       (conv=>whnf);refine Exists.intro (j+1) ⟨⟨by omega,?_⟩,subA,by omega⟩
       rw [hln,Lx.spanN_step hlt hb2,show p+j+1=p+(j+1) by omega]
       omega
      ·have hz0:Lx.spanN Lx.wordB (s.drop (p+j))=0:=by
        by_cases hlt:p+j<s.length
        ·refine Lx.spanN_end hlt ?_
         rw [← Lx.wordC_B,← Lx.byteAt_get hlt]
         rw [show decide (((p+j:Nat):Int)<(s.length:Int))=true from zo (by omega),zbq] at hb
         exact hb
        ·exact Lx.spanN_out (by omega)
       rw [hz0,xl] at hln
       have hj0:0<j:=by rw [← hln];exact Lx.span_pos (Lx.let_word hc)
       have hN:Lx.firstN (b::r)=j:=by rw [(Lx.first_let hc).1,hln]
       have hK:Lx.firstK (b::r)=0:=(Lx.first_let hc).2
       repeat' ((conv=>whnf);first|refine Ob.auto ?_|fail)
       (conv=>whnf);refine Br.intro (fun hb=>?_) (fun hb=>?_)
       ·exfalso;simp at hb;omega
       ·rw [za (by omega),Lx.prep_snoc,hN,hK] at hr
        have hdr:s.drop (p+j)=(b::r).drop j:=by rw [← hd,zbu]
        have htk:(s.take (p+j)).drop p=(b::r).take j:=by rw [← hd,zbt,zap]
        have hq:((p:Int)+((j:Nat):Int)).toNat=p+j:=by omega
        repeat' ((conv=>whnf);first|refine Ob.auto ?_|fail)
        (conv=>whnf);refine Exists.intro (acc++[⟨0,(b::r).take j,p⟩],p+j) ⟨⟨by simp;omega,?_,by simp;omega⟩,?_,by simp;omega⟩
        ·rw [hr,← hdr]
        ·refine ⟨subA,⟨⟨rfl,rfl,rfl⟩,rfl,by simp,fun i _=>LeL.of_eq (congrFun (qnb Lx.encTok Lx.tok0 acc ⟨0,(b::r).take j,p⟩ _ ?_) i)⟩,subA⟩
         refine congrArg (fun x=>[AV.int .i64 0,AV.str x,AV.int .i64 p]) ?_
         rw [← htk,← hq];rfl
     ·have hc:¬ Lx.cls (b.toNat:Int)=2:=by
       have:=Lx.letC_cls b
       rw [Lx.letC,hb] at this
       simpa using this.symm
      repeat' ((conv=>whnf);first|refine Ob.auto ?_|fail)
      ((conv=>whnf);refine qes (fun _=>rfl) 300 (jco (qax s p)) (by rfl) leA (by kernel_rfl) ?_)
      rw [hby]
      (conv=>whnf);refine Br.intro (fun hb=>?_) (fun hb=>?_)
      ·have hc3:Lx.cls (b.toNat:Int)=3:=by
        have:=Lx.digC_cls b
        rw [Lx.digC,hb] at this
        simpa using this.symm
       replace hc:=hc3
       (conv=>whnf);refine qjy (fun _=>rfl) 300 2 (fun j:Nat=>⟨[(0,.str s),(3,.ptr 0 0),(4,.own 1 0 0 acc.length),(5,.int .i64 p),(6,.int .i64 (p+j:Nat)),(7,.int .i64 1)],[(1,.row [] 132 3 0 acc.length (encL Lx.encTok Lx.tok0 acc)),(0,.box 50 [.int .i64 0,.int .i64 0])],2⟩)
        (fun j=>p+j≤s.length∧Lx.spanN Lx.digB (b::r)=j+Lx.spanN Lx.digB (s.drop (p+j))) (fun j=>s.length - (p+j)) 0 ⟨by omega,by rw [xl,hd,zr]⟩ subA (fun _=>rfl) (by kernel_rfl) ?_
       rintro j ⟨hj,hln⟩
       repeat' ((conv=>whnf);first|refine Ob.auto ?_|fail)
       ((conv=>whnf);refine qmw (fun _=>rfl) 300 (fun _=>jco (qax s (p+j:Nat))) (by rfl) (fun hg=>by repeat' (first|exact trivial|exact Le.refl _|exact Le.cnd hg|(refine And.intro ?_ ?_))) (by kernel_rfl) ?_)
       repeat' ((conv=>whnf);first|refine Ob.auto ?_|fail)
       (conv=>whnf);refine Br.intro (fun hb=>?_) (fun hb=>?_)
       ·simp only [zf,xd] at hb
        have hlt:p+j<s.length:=by omega
        have hb2:Lx.digC (qax s (p+j:Nat))=true:=by first|exact hb.2|(simp only [Lx.digC,zf,xd];exact hb.2)
        rw [Lx.byteAt_get hlt,Lx.digC_B] at hb2
        repeat' ((conv=>whnf);first|refine Ob.auto ?_|fail)
        (conv=>whnf);refine Exists.intro (j+1) ⟨⟨by omega,?_⟩,subA,by omega⟩
        rw [hln,Lx.spanN_step hlt hb2,show p+j+1=p+(j+1) by omega]
        omega
       ·have hz0:Lx.spanN Lx.digB (s.drop (p+j))=0:=by
         by_cases hlt:p+j<s.length
         ·refine Lx.spanN_end hlt ?_
          rw [← Lx.digC_B,← Lx.byteAt_get hlt]
          rw [show decide (((p+j:Nat):Int)<(s.length:Int))=true from zo (by omega),zbq] at hb
          exact hb
         ·exact Lx.spanN_out (by omega)
        rw [hz0,xl] at hln
        have hj0:0<j:=by rw [← hln];exact Lx.span_pos (Lx.dig_dig hc)
        repeat' ((conv=>whnf);first|refine Ob.auto ?_|fail)
        by_cases hj6:6<j
        ·have hN:Lx.firstN (b::r)=0:=by rw [(Lx.first_dig hc).1,hln,zb hj6]
         (conv=>whnf);refine Br.intro (fun hb=>?_) (fun hb=>?_)
         ·rw [zb hN] at hr
          repeat' ((conv=>whnf);first|refine Ob.auto ?_|fail)
          rw [Lx.lexAV,Lx.lexAll,za (by omega),hr]
          exact Le.tup ⟨Le.nils 3 _,Le.refl _,trivial⟩
         ·exfalso;simp at hb;omega
        ·have hN:Lx.firstN (b::r)=j:=by rw [(Lx.first_dig hc).1,hln,za hj6]
         have hK:Lx.firstK (b::r)=1:=(Lx.first_dig hc).2
         (conv=>whnf);refine Br.intro (fun hb=>?_) (fun hb=>?_)
         ·exfalso;simp at hb;omega
         ·rw [za (by omega),Lx.prep_snoc,hN,hK] at hr
          have hdr:s.drop (p+j)=(b::r).drop j:=by rw [← hd,zbu]
          have htk:(s.take (p+j)).drop p=(b::r).take j:=by rw [← hd,zbt,zap]
          have hq:((p:Int)+((j:Nat):Int)).toNat=p+j:=by omega
          repeat' ((conv=>whnf);first|refine Ob.auto ?_|fail)
          (conv=>whnf);refine Exists.intro (acc++[⟨1,(b::r).take j,p⟩],p+j) ⟨⟨by simp;omega,?_,by simp;omega⟩,?_,by simp;omega⟩
          ·rw [hr,← hdr]
          ·refine ⟨subA,⟨⟨rfl,rfl,rfl⟩,rfl,by simp,fun i _=>LeL.of_eq (congrFun (qnb Lx.encTok Lx.tok0 acc ⟨1,(b::r).take j,p⟩ _ ?_) i)⟩,subA⟩
           refine congrArg (fun x=>[AV.int .i64 1,AV.str x,AV.int .i64 p]) ?_
           rw [← htk,← hq];rfl
      ·have hc3:¬ Lx.cls (b.toNat:Int)=3:=by
        have:=Lx.digC_cls b
        rw [Lx.digC,hb] at this
        simpa using this.symm
       have hfs:=Lx.first_sig (r:=r) hnor.1 hnor.2.1 hnor.2.2 hc hc3
       repeat' ((conv=>whnf);first|refine Ob.auto ?_|fail)
       ((conv=>whnf);refine qes (fun _=>rfl) 300 (jcp Lx.signs (qax s p) (by decide)) (by rfl) leA (by kernel_rfl) ?_)
       rw [hby,Lx.has_signs]
       (conv=>whnf);refine Br.intro (fun hb=>?_) (fun hb=>?_)
       ·rw [zb (zi hb)] at hfs
        have hN:=hfs.1
        have hK:=hfs.2
        repeat' ((conv=>whnf);first|refine Ob.auto ?_|fail)
        (conv=>whnf);refine Br.intro (fun hb=>?_) (fun hb=>?_)
        ·exfalso;simp at hb;omega
        ·rw [za (by omega),Lx.prep_snoc,hN,hK] at hr
         have hdr:s.drop (p+1)=(b::r).drop 1:=by rw [← hd,zbu]
         have htk:(s.take (p+1)).drop p=(b::r).take 1:=by rw [← hd,zbt,zap]
         have hq:((p:Int)+((1:Nat):Int)).toNat=p+1:=by omega
         repeat' ((conv=>whnf);first|refine Ob.auto ?_|fail)
         (conv=>whnf);refine Exists.intro (acc++[⟨2,(b::r).take 1,p⟩],p+1) ⟨⟨by simp;omega,?_,by simp;omega⟩,?_,by simp;omega⟩
         ·rw [hr,← hdr]
         ·refine ⟨subA,⟨⟨rfl,rfl,rfl⟩,rfl,by simp,fun i _=>LeL.of_eq (congrFun (qnb Lx.encTok Lx.tok0 acc ⟨2,(b::r).take 1,p⟩ _ ?_) i)⟩,subA⟩
          refine congrArg (fun x=>[AV.int .i64 2,AV.str x,AV.int .i64 p]) ?_
          rw [← htk,← hq];rfl
       ·rw [za (of_decide_eq_false hb)] at hfs
        repeat' ((conv=>whnf);first|refine Ob.auto ?_|fail)
        (conv=>whnf);refine Br.intro (fun hb=>?_) (fun hb=>?_)
        ·rw [zb hfs.1] at hr
         repeat' ((conv=>whnf);first|refine Ob.auto ?_|fail)
         rw [Lx.lexAV,Lx.lexAll,za (by omega),hr]
         exact Le.tup ⟨Le.nils 3 _,Le.refl _,trivial⟩
        ·exfalso;simp at hb
 ·have hpe:p=s.length:=by omega
  subst hpe
  rw [List.drop_length,Lx.lexR_nil] at hr
  rw [Lx.lexAV,Lx.lexAll,za (by omega),hr]
  refine Le.tup (ys:=[_,_]) ⟨Le.of_eq (Eq.trans (congrArg (AV.slc 3 (acc.length+1)) (qnb Lx.encTok Lx.tok0 acc ⟨3,[],s.length⟩ _ rfl)) ?_),Le.refl _,trivial⟩
  simp [Lx.prep,Lx.toks,slcL]
end Go.Proofs.YtcfllgdfhfcicaaGreatDoor
end
section
namespace Go.Proofs.YtcfllgdfhfcicaaGreatDoor
open List renaming getD_eq_getElem?_getD → zd
open Go Go.Sx Go.RowKit Go.St Pa
set_option maxRecDepth 100000
set_option maxHeartbeats 2000000
section
variable {ts:List Lx.Tok} {p:Ps}
abbrev pso (ts:List Lx.Tok) (p:Ps):SO:=.box 94 (p.cells ts)
theorem qfx:Con Tryz.prog 73 [.rptr (p.cells ts)] (.bool (p.err == 0)):=by
 refine zK {} 300 Tryz.func73 (fun c0 rdb=>?_)
 (repeat' ((conv=>whnf);first|refine Ob.auto ?_|fail))
 exact Le.refl _
theorem qko (h:AtOk ts p):Con Tryz.prog 74 [.rptr (p.cells ts)] (.agg (Lx.encTok (tk ts p))):=by
 have h0:=h.lo
 have h1:=h.hi
 refine zK {} 300 Tryz.func74 (fun c0 rdb=>?_)
 (repeat' ((conv=>whnf);first|refine zO ?_|refine Ob.auto ?_|refine zD 300 ?_|fail))
 exact Le.refl _
theorem qfg (h:AtOk ts p) (s:List UInt8):Con Tryz.prog 100 [.rptr (p.cells ts),.str s] (.bool (sees ts p s)):=by
 refine zK {} 300 Tryz.func100 (fun c0 rdb=>?_)
 (repeat' ((conv=>whnf);first|refine Ob.auto ?_|refine zC 300 (qko h) ?_|refine zC 300 (qfx) ?_|refine zG 300 (fun hg=>jcj _) ?_|fail))
 refine Le.of_eq (congrArg AV.bool ?_)
 unfold sees qvk
 rw [Bool.and_assoc]
theorem qro (h:AtOk ts p) (e:Int):Trip Tryz.prog 137 [.ptr 0 0,iv e] [pso ts p] (.tup []) [(0,pso ts (bad ts p e))] 1:=by
 refine zL {} 300 Tryz.func137 (fun c0 rdb mpb=>?_)
 (repeat' ((conv=>whnf);first|refine zE 300 (qko h) ?_|refine zE 300 (qfx) ?_|(apply zB <;> intro hb <;> (try simp [-zd] at hb) <;> try (exfalso;omega))))
 ·have e1:bad ts p e={ p with err:=e,fat:=(tk ts p).pos }:=zb hb
  rw [e1]
  exact ⟨Le.refl _,qa⟩
 ·have e1:bad ts p e=p:=za hb
  rw [e1]
  exact ⟨Le.refl _,qa⟩
theorem qaw (ht:ToksOk ts) (h:AtOk ts p) (s:List UInt8):Trip Tryz.prog 103 [.ptr 0 0,.str s] [pso ts p] (.bool (sees ts p s)) [(0,pso ts (took ts p s))] 1:=by
 have h0:=h.lo
 have h1:=h.hi
 have h2:=ht.len
 refine zL {} 300 Tryz.func103 (fun c0 rdb mpb=>?_)
 (repeat' ((conv=>whnf);first|refine Ob.auto ?_|refine zE 300 (qfg h s) ?_|(apply zB <;> intro hb <;> (try simp [-zd] at hb) <;> try (exfalso;omega))))
 ·rw [hb,took,za (by rw [hb];decide)]
  exact ⟨Le.refl _,qa⟩
 ·rw [hb,took,zb hb]
  exact ⟨Le.refl _,qa⟩
theorem qba (ht:ToksOk ts) (h:AtOk ts p) (s:List UInt8):Trip Tryz.prog 105 [.ptr 0 0,.str s] [pso ts p] (.tup []) [(0,pso ts (must ts p s))] 1:=by
 refine zL {} 300 Tryz.func105 (fun c0 rdb mpb=>?_)
 ((conv=>whnf);refine zT 300 [0] (qaw ht h s) qa ?_)
 (repeat' ((conv=>whnf);first|(apply zB <;> intro hb <;> (try simp [-zd] at hb) <;> try (exfalso;omega))))
 ·have e1:took ts p s=p:=za (by rw [hb];decide)
  have e2:must ts p s=bad ts p 11:=za (by rw [hb];decide)
  rw [e1]
  ((conv=>whnf);refine zT 300 [0] (qro h 11) qa ?_)
  rw [e2]
  exact ⟨Le.refl _,qa⟩
 ·have e1:took ts p s=adv p:=zb hb
  have e2:must ts p s=adv p:=zb hb
  rw [e1,e2]
  exact ⟨Le.refl _,qa⟩
theorem qhz (ht:ToksOk ts) (h:AtOk ts p):Trip Tryz.prog 104 [.ptr 0 0] [pso ts p] (.str (qad ts p)) [(0,pso ts (qf ts p))] 1:=by
 have h0:=h.lo
 have h1:=h.hi
 have h2:=ht.len
 refine zL {} 300 Tryz.func104 (fun c0 rdb mpb=>?_)
 (repeat' ((conv=>whnf);first|refine Ob.auto ?_|refine zG 300 (fun hg=>jck _) ?_|refine zE 300 (qko h) ?_|refine zF 300 (fun hg=>qfx) ?_|(apply zB <;> intro hb <;> (try simp [-zd] at hb) <;> try (exfalso;omega))))
 ·have e:qhx ts p=false:=by
   unfold qhx
   rcases hb with (hb|hb)|hb <;> simp [hb]
  ((conv=>whnf);refine zT 300 [0] (qro h 11) qa ?_)
  rw [qad,qf,za (by rw [e];decide),za (by rw [e];decide)]
  exact ⟨Le.refl _,qa⟩
 ·have e:qhx ts p=true:=by
   unfold qhx
   simp [hb.1.1,hb.1.2,hb.2]
  rw [qad,qf,zb e,zb e]
  exact ⟨Le.refl _,qa⟩
theorem qkp (ht:ToksOk ts) (h:AtOk ts p):Trip Tryz.prog 106 [.ptr 0 0] [pso ts p] (iv (numN ts p)) [(0,pso ts (numP ts p))] 1:=by
 have h0:=h.lo
 have h1:=h.hi
 have h2:=ht.len
 refine zL {} 300 Tryz.func106 (fun c0 rdb mpb=>?_)
 (repeat' ((conv=>whnf);first|refine Ob.auto ?_|refine zE 300 (qko h) ?_|refine zF 300 (fun hg=>qfx) ?_|(apply zB <;> intro hb <;> (try simp [-zd] at hb) <;> try (exfalso;omega))))
 ·have e:qgx ts p=false:=by
   unfold qgx
   rcases hb with hb|hb <;> simp [hb]
  ((conv=>whnf);refine zT 300 [0] (qro h 11) qa ?_)
  rw [numN,numP,za (by rw [e];decide),za (by rw [e];decide)]
  exact ⟨Le.refl _,qa⟩
 ·have e:qgx ts p=true:=by
   unfold qgx
   simp [hb.1,hb.2]
  have hnum:=ht.num _ (jcd h) hb.1
  have hdg:=qvl hnum.2
  rw [numN,numP,zb e,zb e]
  ((conv=>whnf);refine qo (fun _=>rfl) 300 1 (fun i:Nat=>[(4,iv (qgy ((tk ts p).s.take i))),(5,iv i)]) (fun _=>[]) (fun i=>i≤(tk ts p).s.length) (fun i=>(tk ts p).s.length - i) (0) (by omega) qa qa (fun _=>rfl) (by kernel_rfl) ?_;(conv=>whnf))
  intro i hi
  have h3:=hdg i hi
  have h6:(10:Int) ^ i≤10 ^ 6:=by exact_mod_cast Nat.pow_le_pow_right (show 0<10 by decide) (show i≤6 by omega)
  have hby:i<(tk ts p).s.length→qax (tk ts p).s (i:Int)=(((tk ts p).s[i]?.getD 0).toNat:Int)∧48≤((tk ts p).s[i]?.getD 0).toNat∧((tk ts p).s[i]?.getD 0).toNat≤57:=fun hlt=>by
   have h7:=hnum.2 _ (zao hlt)
   rw [ze hlt]
   exact ⟨Lx.byteAt_get hlt,h7⟩
  (repeat' ((conv=>whnf);first|refine Ob.auto ?_|(refine Ob.intro (by (first|exact ⟨by omega,by omega⟩|exact qec (by omega) (by omega)|exact ⟨by have:=hby (by omega);show (0:Int)≤_;omega,by have:=hby (by omega);show _≤(255:Int);omega⟩|exact qec (by have:=hby (by omega);omega) (by have:=hby (by omega);omega))) ?_)|(apply zB <;> intro hb <;> (try simp [-zd] at hb) <;> try (exfalso;omega))))
  ·have h7:=hby hb
   have h8:qgy ((tk ts p).s.take (i+1))=10 * qgy ((tk ts p).s.take i)+(qax (tk ts p).s (i:Int) - 48):=by
    rw [List.take_succ_eq_append_getElem hb,jcc,Lx.byteAt_get hb]
   ((conv=>whnf);refine ⟨i+1,by omega,⟨⟨Le.of_eq (congrArg iv h8.symm),Le.refl _,trivial⟩,qa⟩,⟨qa,qa⟩,?_⟩;(first|omega|(dsimp only;omega)|skip))
  ·rw [List.take_of_length_le hb]
   exact ⟨Le.refl _,qa⟩
theorem qvv (ht:ToksOk ts) (h:AtOk ts p) (s:List UInt8):Trip Tryz.prog 107 [.ptr 0 0,.str s] [pso ts p] (iv (qgz ts p s)) [(0,pso ts (took ts p s))] 1:=by
 refine zL {} 300 Tryz.func107 (fun c0 rdb mpb=>?_)
 ((conv=>whnf);refine zT 300 [0] (qaw ht h s) qa ?_)
 (repeat' ((conv=>whnf);first|(apply zB <;> intro hb <;> (try simp [-zd] at hb) <;> try (exfalso;omega))))
 ·rw [qgz,zb hb]
  exact ⟨Le.refl _,qa⟩
 ·rw [qgz,za (by rw [hb];decide)]
  exact ⟨Le.refl _,qa⟩
theorem qkq (h:AtOk ts p) (k:Int):Con Tryz.prog 72 [.rptr (p.cells ts),iv k] (.agg [iv k,.nils,.nils,.nils,iv (tk ts p).pos,.nils]):=by
 refine zK {} 300 Tryz.func72 (fun c0 rdb=>?_)
 (repeat' ((conv=>whnf);first|refine Ob.auto ?_|refine zC 300 (qko h) ?_|fail))
 exact Le.refl _
theorem qme (h:AtOk ts p) (hd:0≤p.deep∧p.deep≤100000):Trip Tryz.prog 135 [.ptr 0 0] [pso ts p] (.tup []) [(0,pso ts (inP ts p))] 1:=by
 refine zL {} 300 Tryz.func135 (fun c0 rdb mpb=>?_)
 (repeat' ((conv=>whnf);first|refine Ob.auto ?_|(apply zB <;> intro hb <;> (try simp [-zd] at hb) <;> try (exfalso;omega))))
 ·have h':AtOk ts { p with deep:=p.deep+1 }:=⟨h.lo,h.hi⟩
  ((conv=>whnf);refine zT 300 [0] (qro h' 12) qa ?_)
  rw [inP,zb (by omega)]
  exact ⟨Le.refl _,qa⟩
 ·rw [inP,za (by omega)]
  exact ⟨Le.refl _,qa⟩
end
end Go.Proofs.YtcfllgdfhfcicaaGreatDoor
end
