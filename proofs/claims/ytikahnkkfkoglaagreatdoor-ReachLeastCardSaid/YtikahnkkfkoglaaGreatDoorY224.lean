/- Some texts of the library, one behind the other. -/
import Derived.Test.YtikahnkkfkoglaaGreatDoorY222
import Derived.Test.YtikahnkkfkoglaaGreatDoorY223
import Derived.Test.YtikahnkkfkoglaaGreatDoorY22
set_option linter.unusedSimpArgs false
set_option linter.unusedVariables false
section
namespace Go.Proofs.YtikahnkkfkoglaaGreatDoor
open Go.Sx Go.RowKit
set_option maxRecDepth 100000
theorem jgc (c:Int):Con Tryz.prog 59 [.int .u8 c] (.bool (decide (48≤c) && decide (c≤57))):=jfv c
theorem jts (c:Int):Con Tryz.prog 57 [.int .u8 c] (.bool (decide (65≤c) && decide (c≤90) || decide (97≤c) && decide (c≤122))):=qxx c
theorem jgd (l:List UInt8) (c:Int) (hl:l.length≤1000):Con Tryz.prog 55 [.str l,.int .u8 c] (.bool (Lx.hasB l c)):=by
 refine zK {} 100 Tryz.func55 (fun c0 rdb=>?_)
 (conv=>whnf);refine qke (fun _=>rfl) 100 1 (fun k:Nat=>⟨[(0,.str l),(1,.int .u8 c),(5,.int .i64 k)],[],0⟩)
  (fun k=>k≤l.length∧Lx.hasB (l.take k) c=false) (fun k=>l.length - k) 0 ⟨by omega,by simp [Lx.hasB]⟩ subA (fun _=>rfl) (by kernel_rfl) ?_
 rintro k ⟨hk,hf⟩
 repeat' ((conv=>whnf);first|refine Ob.auto ?_|(apply zB <;> intro hb <;> (try simp at hb) <;> try (exfalso;omega)))
 ·have h1:=Lx.hasB_step (by assumption) c
  refine Le.of_eq (congrArg AV.bool ?_)
  rw [hb,beq_self_eq_true,Bool.or_true] at h1
  exact (Lx.hasB_take h1).symm
 ·(conv=>whnf);refine Exists.intro (k+1) ⟨⟨by omega,?_⟩,subA,by omega⟩
  rw [Lx.hasB_step (by assumption) c,hf]
  simpa using hb
 ·rw [zbi (by omega)] at hf
  exact Le.of_eq (by rw [hf])
theorem jtt (c:Int):Con Tryz.prog 58 [.int .u8 c] (.bool (Lx.wordC c)):=jfw c
theorem qtp (s:List UInt8) (i:Nat) (hi:i≤s.length) (hs:s.length≤1000000):Con Tryz.prog 56 [.str s,.int .i64 i] (.str (Lx.twoL (s.drop i))):=by
 refine zK {} 100 Tryz.func56 (fun c0 rdb=>?_)
 repeat' ((conv=>whnf);first|refine Ob.auto ?_|(apply zB <;> intro hb <;> (try simp at hb) <;> try (exfalso;omega)))
 ·refine Le.of_eq (congrArg AV.str ?_)
  rw [Lx.twoL,xj,zb (by omega),show ((i:Int)+2).toNat=i+2 by omega,zr,zbn,zan]
 ·refine Le.of_eq (congrArg AV.str ?_)
  rw [Lx.twoL,xj,za (by omega)]
set_option maxHeartbeats 2000000
theorem jtu (s:List UInt8) (hs:s.length≤1000000):Con Tryz.prog 35 [.str s] (Lx.lexAV s):=by
 refine zK {owns:=[(4,(122,3))]} 300 Tryz.func35 (fun c0 rdb=>?_)
 repeat' ((conv=>whnf);first|refine Ob.auto ?_|(apply zB <;> intro hb <;> (try simp at hb) <;> try (exfalso;omega)))
 ·rw [Lx.lexAV,Lx.lexAll,zb (by omega)]
  exact Le.tup ⟨Le.nils 3 _,Le.refl _,trivial⟩
 (conv=>whnf);refine qke (fun _=>rfl) 300 1 (fun g:List Lx.Tok × Nat=>⟨[(0,.str s),(3,.ptr 0 0),(4,.own 1 0 0 g.1.length),(5,.int .i64 g.2)],[(1,.row [] 122 3 0 g.1.length (encL Lx.encTok Lx.tok0 g.1)),(0,.box 57 [.int .i64 0,.int .i64 0])],2⟩)
  (fun g=>g.2≤s.length∧Lx.lexR s 0=Lx.prep g.1 (Lx.lexR (s.drop g.2) g.2)∧g.1.length≤g.2) (fun g=>s.length - g.2) ([],0) ⟨by simp,by simp [Lx.prep_nil],by simp⟩ subA (fun _=>rfl) (by kernel_rfl) ?_
 rintro ⟨acc,p⟩ ⟨hp,hr,hl⟩
 simp only at hp hr hl
 repeat' ((conv=>whnf);first|refine Ob.auto ?_|(apply zB <;> intro hb <;> (try simp at hb) <;> try (exfalso;omega)))
 ·obtain ⟨b,hd,hby⟩:=Lx.drop_cons hb
  have hpl:=hb
  have hd0:=hd
  generalize s.drop (p+1)=r at hd
  have hlen:=congrArg List.length hd
  simp only [xj,xg] at hlen
  have hn:=Lx.firstN_le b r
  rw [xg] at hn
  rw [hd] at hr
  ((conv=>whnf);refine qex (fun _=>rfl) 300 (jgd [32,9,13,10] (qbi s p) (by simp)) (by rfl) leA (by kernel_rfl) ?_)
  rw [hby]
  repeat' ((conv=>whnf);first|refine Ob.auto ?_|(refine Br.intro (fun hb=>?_) (fun hb=>?_)))
  ·(conv=>whnf);refine Exists.intro (acc,p+1) ⟨⟨by omega,?_,by simp;omega⟩,subA,by simp;omega⟩
   rw [Lx.blank_has] at hb
   rw [hr,Lx.lexR_cons,zb hb]
   rw [hd] at hd0
   injection hd0 with _ hd0
   rw [hd0]
  ·rw [Lx.blank_has] at hb
   have hbl:=hb
   ((conv=>whnf);refine qex (fun _=>rfl) 300 (qtp s p hp hs) (by rfl) leA (by kernel_rfl) ?_)
   repeat' ((conv=>whnf);first|(refine Br.intro (fun hb=>?_) (fun hb=>?_)))
   ·have hsl:Lx.slash2 (b::r)=true:=by rw [← hd,Lx.slash2,← Lx.two_pre];exact hb
    (conv=>whnf);refine qke (fun _=>rfl) 300 2 (fun j:Nat=>⟨[(0,.str s),(3,.ptr 0 0),(4,.own 1 0 0 acc.length),(5,.int .i64 (p+j:Nat))],[(1,.row [] 122 3 0 acc.length (encL Lx.encTok Lx.tok0 acc)),(0,.box 57 [.int .i64 0,.int .i64 0])],2⟩)
     (fun j=>p+j≤s.length∧Lx.lineN (b::r)=j+Lx.lineN (s.drop (p+j))) (fun j=>s.length - (p+j)) 0 ⟨by omega,by rw [xm,hd,zo]⟩ subA (fun _=>rfl) (by kernel_rfl) ?_
    rintro j ⟨hj,hln⟩
    repeat' ((conv=>whnf);first|refine Ob.auto ?_|(refine Br.intro (fun hb=>?_) (fun hb=>?_)))
    ·simp only [zf,xd] at hb
     have hlt:p+j<s.length:=by omega
     have hb2:=hb.2
     rw [Lx.byteAt_get hlt,Lx.ne10] at hb2
     (conv=>whnf);refine Exists.intro (j+1) ⟨⟨by omega,?_⟩,subA,by omega⟩
     rw [hln,Lx.lineN,Lx.spanN_step hlt hb2]
     simp only [Lx.lineN]
     rw [show p+j+1=p+(j+1) by omega]
     omega
    ·have hz:Lx.lineN (s.drop (p+j))=0:=by
      by_cases hlt:p+j<s.length
      ·refine Lx.spanN_end hlt ?_
       simp only [Bool.and_eq_false_iff,decide_eq_false_iff_not] at hb
       rcases hb with hb|hb
       ·omega
       ·rw [Lx.byteAt_get hlt,Lx.ne10] at hb
        exact hb
      ·exact Lx.spanN_out (by omega)
     rw [hz,xm] at hln
     have hls:=Lx.lexR_slash hsl p
     rw [hln] at hls
     (conv=>whnf);refine Exists.intro (acc,p+j) ⟨⟨by simp;omega,?_,by simp;omega⟩,subA,by simp;omega⟩
     rw [hr,hls.1,← hd,List.drop_drop]
   ·have hsl:Lx.slash2 (b::r)=false:=by rw [← hd,Lx.slash2,← Lx.two_pre];exact hb
    have hz:Lx.skipN (b::r)=0:=Lx.skip_none hsl (.inr ⟨b,r,rfl,hbl⟩)
    rw [Lx.lexR_tok hz] at hr
    ((conv=>whnf);refine qex (fun _=>rfl) 300 (qtp s p hp hs) (by rfl) leA (by kernel_rfl) ?_)
    ((conv=>whnf);refine qnt (fun _=>rfl) 300 (fun _=>qtp s p hp hs) (by rfl) (fun hg=>by repeat' (first|exact trivial|exact Le.refl _|exact Le.cnd hg|(refine And.intro ?_ ?_))) (by kernel_rfl) ?_)
    repeat' ((conv=>whnf);first|refine Ob.auto ?_|fail)
    ((conv=>whnf);refine qnt (fun _=>rfl) 300 (fun _=>qtp s p hp hs) (by rfl) (fun hg=>by repeat' (first|exact trivial|exact Le.refl _|exact Le.cnd hg|(refine And.intro ?_ ?_))) (by kernel_rfl) ?_)
    repeat' ((conv=>whnf);first|refine Ob.auto ?_|fail)
    (conv=>whnf);refine Br.intro (fun hb=>?_) (fun hb=>?_)
    ·have hor:[61,61].isPrefixOf (b::r)=true∨[38,38].isPrefixOf (b::r)=true∨[124,124].isPrefixOf (b::r)=true:=by
      rw [← hd,← Lx.two_pre,← Lx.two_pre,← Lx.two_pre]
      simp only [xr] at hb
      rcases hb with (hb|hb)|hb
      ·exact .inl hb
      ·exact .inr (.inl hb)
      ·exact .inr (.inr hb)
     have hN:Lx.firstN (b::r)=2:=(Lx.first_two hor).1
     have hK:Lx.firstK (b::r)=2:=(Lx.first_two hor).2
     repeat' ((conv=>whnf);first|refine Ob.auto ?_|fail)
     (conv=>whnf);refine Br.intro (fun hb=>?_) (fun hb=>?_)
     ·exfalso;simp at hb;omega
     ·rw [za (by omega),Lx.prep_snoc,hN,hK] at hr
      have hdr:s.drop (p+2)=(b::r).drop 2:=by rw [← hd,List.drop_drop]
      have htk:(s.take (p+2)).drop p=(b::r).take 2:=by rw [← hd,zbn,zan]
      have hq:((p:Int)+((2:Nat):Int)).toNat=p+2:=by omega
      repeat' ((conv=>whnf);first|refine Ob.auto ?_|fail)
      (conv=>whnf);refine Exists.intro (acc++[⟨2,(b::r).take 2,p⟩],p+2) ⟨⟨by simp;omega,?_,by simp;omega⟩,?_,by simp;omega⟩
      ·rw [hr,← hdr]
      ·refine ⟨subA,⟨⟨rfl,rfl,rfl⟩,rfl,by simp,fun i _=>LeL.of_eq (congrFun (qnx Lx.encTok Lx.tok0 acc ⟨2,(b::r).take 2,p⟩ _ ?_) i)⟩,subA⟩
       refine congrArg (fun x=>[AV.int .i64 2,AV.str x,AV.int .i64 p]) ?_
       rw [← htk,← hq];rfl
    ·have hnor:[61,61].isPrefixOf (b::r)=false∧[38,38].isPrefixOf (b::r)=false∧[124,124].isPrefixOf (b::r)=false:=by
      rw [← hd,← Lx.two_pre,← Lx.two_pre,← Lx.two_pre]
      simp only [xq] at hb
      exact ⟨hb.1.1,hb.1.2,hb.2⟩
     repeat' ((conv=>whnf);first|refine Ob.auto ?_|fail)
     ((conv=>whnf);refine qex (fun _=>rfl) 300 (jts (qbi s p)) (by rfl) leA (by kernel_rfl) ?_)
     rw [hby]
     (conv=>whnf);refine Br.intro (fun hb=>?_) (fun hb=>?_)
     ·have hc:Lx.cls (b.toNat:Int)=2:=by
       have:=Lx.letC_cls b
       rw [Lx.letC,hb] at this
       simpa using this.symm
      (conv=>whnf);refine qke (fun _=>rfl) 300 2 (fun j:Nat=>⟨[(0,.str s),(3,.ptr 0 0),(4,.own 1 0 0 acc.length),(5,.int .i64 p),(6,.int .i64 (p+j:Nat)),(7,.int .i64 0)],[(1,.row [] 122 3 0 acc.length (encL Lx.encTok Lx.tok0 acc)),(0,.box 57 [.int .i64 0,.int .i64 0])],2⟩)
       (fun j=>p+j≤s.length∧Lx.spanN Lx.wordB (b::r)=j+Lx.spanN Lx.wordB (s.drop (p+j))) (fun j=>s.length - (p+j)) 0 ⟨by omega,by rw [xm,hd,zo]⟩ subA (fun _=>rfl) (by kernel_rfl) ?_
      rintro j ⟨hj,hln⟩
      repeat' ((conv=>whnf);first|refine Ob.auto ?_|fail)
      ((conv=>whnf);refine qnt (fun _=>rfl) 300 (fun _=>jtt (qbi s (p+j:Nat))) (by rfl) (fun hg=>by repeat' (first|exact trivial|exact Le.refl _|exact Le.cnd hg|(refine And.intro ?_ ?_))) (by kernel_rfl) ?_)
      repeat' ((conv=>whnf);first|refine Ob.auto ?_|fail)
      (conv=>whnf);refine Br.intro (fun hb=>?_) (fun hb=>?_)
      ·simp only [zf,xd] at hb
       have hlt:p+j<s.length:=by omega
       have hb2:Lx.wordC (qbi s (p+j:Nat))=true:=by first|exact hb.2|(simp only [Lx.digC,zf,xd];exact hb.2)
       rw [Lx.byteAt_get hlt,Lx.wordC_B] at hb2
       repeat' ((conv=>whnf);first|refine Ob.auto ?_|fail)
       (conv=>whnf);refine Exists.intro (j+1) ⟨⟨by omega,?_⟩,subA,by omega⟩
       rw [hln,Lx.spanN_step hlt hb2,show p+j+1=p+(j+1) by omega]
       omega
      ·have hz0:Lx.spanN Lx.wordB (s.drop (p+j))=0:=by
        by_cases hlt:p+j<s.length
        ·refine Lx.spanN_end hlt ?_
         rw [← Lx.wordC_B,← Lx.byteAt_get hlt]
         rw [show decide (((p+j:Nat):Int)<(s.length:Int))=true from xn (by omega),zat] at hb
         exact hb
        ·exact Lx.spanN_out (by omega)
       rw [hz0,xm] at hln
       have hj0:0<j:=by rw [← hln];exact Lx.span_pos (Lx.let_word hc)
       have hN:Lx.firstN (b::r)=j:=by rw [(Lx.first_let hc).1,hln]
       have hK:Lx.firstK (b::r)=0:=(Lx.first_let hc).2
       repeat' ((conv=>whnf);first|refine Ob.auto ?_|fail)
       (conv=>whnf);refine Br.intro (fun hb=>?_) (fun hb=>?_)
       ·exfalso;simp at hb;omega
       ·rw [za (by omega),Lx.prep_snoc,hN,hK] at hr
        have hdr:s.drop (p+j)=(b::r).drop j:=by rw [← hd,List.drop_drop]
        have htk:(s.take (p+j)).drop p=(b::r).take j:=by rw [← hd,zbn,zan]
        have hq:((p:Int)+((j:Nat):Int)).toNat=p+j:=by omega
        repeat' ((conv=>whnf);first|refine Ob.auto ?_|fail)
        (conv=>whnf);refine Exists.intro (acc++[⟨0,(b::r).take j,p⟩],p+j) ⟨⟨by simp;omega,?_,by simp;omega⟩,?_,by simp;omega⟩
        ·rw [hr,← hdr]
        ·refine ⟨subA,⟨⟨rfl,rfl,rfl⟩,rfl,by simp,fun i _=>LeL.of_eq (congrFun (qnx Lx.encTok Lx.tok0 acc ⟨0,(b::r).take j,p⟩ _ ?_) i)⟩,subA⟩
         refine congrArg (fun x=>[AV.int .i64 0,AV.str x,AV.int .i64 p]) ?_
         rw [← htk,← hq];rfl
     ·have hc:¬ Lx.cls (b.toNat:Int)=2:=by
       have:=Lx.letC_cls b
       rw [Lx.letC,hb] at this
       simpa using this.symm
      repeat' ((conv=>whnf);first|refine Ob.auto ?_|fail)
      ((conv=>whnf);refine qex (fun _=>rfl) 300 (jgc (qbi s p)) (by rfl) leA (by kernel_rfl) ?_)
      rw [hby]
      (conv=>whnf);refine Br.intro (fun hb=>?_) (fun hb=>?_)
      ·have hc3:Lx.cls (b.toNat:Int)=3:=by
        have:=Lx.digC_cls b
        rw [Lx.digC,hb] at this
        simpa using this.symm
       replace hc:=hc3
       (conv=>whnf);refine qke (fun _=>rfl) 300 2 (fun j:Nat=>⟨[(0,.str s),(3,.ptr 0 0),(4,.own 1 0 0 acc.length),(5,.int .i64 p),(6,.int .i64 (p+j:Nat)),(7,.int .i64 1)],[(1,.row [] 122 3 0 acc.length (encL Lx.encTok Lx.tok0 acc)),(0,.box 57 [.int .i64 0,.int .i64 0])],2⟩)
        (fun j=>p+j≤s.length∧Lx.spanN Lx.digB (b::r)=j+Lx.spanN Lx.digB (s.drop (p+j))) (fun j=>s.length - (p+j)) 0 ⟨by omega,by rw [xm,hd,zo]⟩ subA (fun _=>rfl) (by kernel_rfl) ?_
       rintro j ⟨hj,hln⟩
       repeat' ((conv=>whnf);first|refine Ob.auto ?_|fail)
       ((conv=>whnf);refine qnt (fun _=>rfl) 300 (fun _=>jgc (qbi s (p+j:Nat))) (by rfl) (fun hg=>by repeat' (first|exact trivial|exact Le.refl _|exact Le.cnd hg|(refine And.intro ?_ ?_))) (by kernel_rfl) ?_)
       repeat' ((conv=>whnf);first|refine Ob.auto ?_|fail)
       (conv=>whnf);refine Br.intro (fun hb=>?_) (fun hb=>?_)
       ·simp only [zf,xd] at hb
        have hlt:p+j<s.length:=by omega
        have hb2:Lx.digC (qbi s (p+j:Nat))=true:=by first|exact hb.2|(simp only [Lx.digC,zf,xd];exact hb.2)
        rw [Lx.byteAt_get hlt,Lx.digC_B] at hb2
        repeat' ((conv=>whnf);first|refine Ob.auto ?_|fail)
        (conv=>whnf);refine Exists.intro (j+1) ⟨⟨by omega,?_⟩,subA,by omega⟩
        rw [hln,Lx.spanN_step hlt hb2,show p+j+1=p+(j+1) by omega]
        omega
       ·have hz0:Lx.spanN Lx.digB (s.drop (p+j))=0:=by
         by_cases hlt:p+j<s.length
         ·refine Lx.spanN_end hlt ?_
          rw [← Lx.digC_B,← Lx.byteAt_get hlt]
          rw [show decide (((p+j:Nat):Int)<(s.length:Int))=true from xn (by omega),zat] at hb
          exact hb
         ·exact Lx.spanN_out (by omega)
        rw [hz0,xm] at hln
        have hj0:0<j:=by rw [← hln];exact Lx.span_pos (Lx.dig_dig hc)
        repeat' ((conv=>whnf);first|refine Ob.auto ?_|fail)
        by_cases hj6:6<j
        ·have hN:Lx.firstN (b::r)=0:=by rw [(Lx.first_dig hc).1,hln,zb hj6]
         (conv=>whnf);refine Br.intro (fun hb=>?_) (fun hb=>?_)
         ·rw [zb hN] at hr
          repeat' ((conv=>whnf);first|refine Ob.auto ?_|fail)
          rw [Lx.lexAV,Lx.lexAll,za (by omega),hr]
          exact Le.tup ⟨Le.nils 3 _,Le.refl _,trivial⟩
         ·exfalso;simp at hb;omega
        ·have hN:Lx.firstN (b::r)=j:=by rw [(Lx.first_dig hc).1,hln,za hj6]
         have hK:Lx.firstK (b::r)=1:=(Lx.first_dig hc).2
         (conv=>whnf);refine Br.intro (fun hb=>?_) (fun hb=>?_)
         ·exfalso;simp at hb;omega
         ·rw [za (by omega),Lx.prep_snoc,hN,hK] at hr
          have hdr:s.drop (p+j)=(b::r).drop j:=by rw [← hd,List.drop_drop]
          have htk:(s.take (p+j)).drop p=(b::r).take j:=by rw [← hd,zbn,zan]
          have hq:((p:Int)+((j:Nat):Int)).toNat=p+j:=by omega
          repeat' ((conv=>whnf);first|refine Ob.auto ?_|fail)
          (conv=>whnf);refine Exists.intro (acc++[⟨1,(b::r).take j,p⟩],p+j) ⟨⟨by simp;omega,?_,by simp;omega⟩,?_,by simp;omega⟩
          ·rw [hr,← hdr]
          ·refine ⟨subA,⟨⟨rfl,rfl,rfl⟩,rfl,by simp,fun i _=>LeL.of_eq (congrFun (qnx Lx.encTok Lx.tok0 acc ⟨1,(b::r).take j,p⟩ _ ?_) i)⟩,subA⟩
           refine congrArg (fun x=>[AV.int .i64 1,AV.str x,AV.int .i64 p]) ?_
           rw [← htk,← hq];rfl
      ·have hc3:¬ Lx.cls (b.toNat:Int)=3:=by
        have:=Lx.digC_cls b
        rw [Lx.digC,hb] at this
        simpa using this.symm
       have hfs:=Lx.first_sig (r:=r) hnor.1 hnor.2.1 hnor.2.2 hc hc3
       repeat' ((conv=>whnf);first|refine Ob.auto ?_|fail)
       ((conv=>whnf);refine qex (fun _=>rfl) 300 (jgd Lx.signs (qbi s p) (by decide)) (by rfl) leA (by kernel_rfl) ?_)
       rw [hby,Lx.has_signs]
       (conv=>whnf);refine Br.intro (fun hb=>?_) (fun hb=>?_)
       ·rw [zb (zm hb)] at hfs
        have hN:=hfs.1
        have hK:=hfs.2
        repeat' ((conv=>whnf);first|refine Ob.auto ?_|fail)
        (conv=>whnf);refine Br.intro (fun hb=>?_) (fun hb=>?_)
        ·exfalso;simp at hb;omega
        ·rw [za (by omega),Lx.prep_snoc,hN,hK] at hr
         have hdr:s.drop (p+1)=(b::r).drop 1:=by rw [← hd,List.drop_drop]
         have htk:(s.take (p+1)).drop p=(b::r).take 1:=by rw [← hd,zbn,zan]
         have hq:((p:Int)+((1:Nat):Int)).toNat=p+1:=by omega
         repeat' ((conv=>whnf);first|refine Ob.auto ?_|fail)
         (conv=>whnf);refine Exists.intro (acc++[⟨2,(b::r).take 1,p⟩],p+1) ⟨⟨by simp;omega,?_,by simp;omega⟩,?_,by simp;omega⟩
         ·rw [hr,← hdr]
         ·refine ⟨subA,⟨⟨rfl,rfl,rfl⟩,rfl,by simp,fun i _=>LeL.of_eq (congrFun (qnx Lx.encTok Lx.tok0 acc ⟨2,(b::r).take 1,p⟩ _ ?_) i)⟩,subA⟩
          refine congrArg (fun x=>[AV.int .i64 2,AV.str x,AV.int .i64 p]) ?_
          rw [← htk,← hq];rfl
       ·rw [za (of_decide_eq_false hb)] at hfs
        repeat' ((conv=>whnf);first|refine Ob.auto ?_|fail)
        (conv=>whnf);refine Br.intro (fun hb=>?_) (fun hb=>?_)
        ·rw [zb hfs.1] at hr
         repeat' ((conv=>whnf);first|refine Ob.auto ?_|fail)
         rw [Lx.lexAV,Lx.lexAll,za (by omega),hr]
         exact Le.tup ⟨Le.nils 3 _,Le.refl _,trivial⟩
        ·exfalso;simp at hb
 ·have hpe:p=s.length:=by omega
  subst hpe
  rw [List.drop_length,Lx.lexR_nil] at hr
  rw [Lx.lexAV,Lx.lexAll,za (by omega),hr]
  refine Le.tup (ys:=[_,_]) ⟨Le.of_eq (Eq.trans (congrArg (AV.slc 3 (acc.length+1)) (qnx Lx.encTok Lx.tok0 acc ⟨3,[],s.length⟩ _ rfl)) ?_),Le.refl _,trivial⟩
  simp [Lx.prep,Lx.toks,slcL]
end Go.Proofs.YtikahnkkfkoglaaGreatDoor
end
