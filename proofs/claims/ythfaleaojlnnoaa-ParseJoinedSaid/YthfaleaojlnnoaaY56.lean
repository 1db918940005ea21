/- Some texts of the library, one behind the other. -/
import Derived.Test.YthfaleaojlnnoaaY53
import Derived.Test.YthfaleaojlnnoaaY52
import Derived.Test.YthfaleaojlnnoaaProg
import Derived.KernelRfl
import Derived.Test.YthfaleaojlnnoaaY5LexPlain
set_option linter.unusedSimpArgs false
set_option linter.unusedVariables false
section
namespace Go.Proofs.Ythfaleaojlnnoaa
open List renaming getD_eq_getElem?_getD → zd
open Go Go.Sx Go.RowKit Go.St
set_option maxRecDepth 100000
set_option maxHeartbeats 2000000
abbrev bv (n:Int):AV:=.int .u8 n
theorem jaz (c:Int):Con Try.prog 33 [bv c] (.bool (decide (48≤c) && decide (c≤57))):=by
 refine zK {} 300 Try.func33 (fun c0 rdb=>?_)
 (repeat' ((conv=>whnf);first|refine Ob.auto ?_|fail))
 exact Le.refl _
theorem qvp (c:Int):Con Try.prog 31 [bv c] (.bool (qit c)):=by
 refine zK {} 300 Try.func31 (fun c0 rdb=>?_)
 (repeat' ((conv=>whnf);first|refine Ob.auto ?_|fail))
 exact Le.refl _
theorem jba (c:Int):Con Try.prog 32 [bv c] (.bool (qkd c)):=by
 refine zK {} 300 Try.func32 (fun c0 rdb=>?_)
 (repeat' ((conv=>whnf);first|refine Ob.auto ?_|refine zC 300 (qvp c) ?_|refine zG 300 (fun hg=>jaz c) ?_|fail))
 exact Le.refl _
theorem jmo (f:Nat→List AV) (h:∀ i,i<21→f i=encL (fun s=>[.str s]) [] keyL i):Le (.slc 1 21 f) (strs keyL):=Le.slc rfl h
theorem jbb (s:List UInt8):Con Try.prog 89 [.str s] (.bool (keyF s)):=by
 refine zK {} 300 Try.func89 (fun c0 rdb=>?_)
 ((conv=>whnf);refine qbs (fun _=>rfl) 300 1 (fun i:Nat=>[(4,iv i),(3,strs keyL)]) (fun _=>[]) (fun i=>i≤keyL.length∧∀ j,j<i→(keyL.getD j [] == s)=false) (fun i=>keyL.length - i) (0) (⟨by omega,fun j hj=>absurd hj (xf j)⟩) ⟨Le.refl _,jmo _ (fun i hi=>match i,hi with|0,_=>rfl|1,_=>rfl|2,_=>rfl|3,_=>rfl|4,_=>rfl|5,_=>rfl|6,_=>rfl|7,_=>rfl|8,_=>rfl|9,_=>rfl|10,_=>rfl|11,_=>rfl|12,_=>rfl|13,_=>rfl|14,_=>rfl|15,_=>rfl|16,_=>rfl|17,_=>rfl|18,_=>rfl|19,_=>rfl|20,_=>rfl|n+21,h=>absurd h (by omega)),trivial⟩ qa (fun _=>rfl) (by kernel_rfl) ?_;(conv=>whnf))
 intro i hi
 have h21:keyL.length=21:=rfl
 (repeat' ((conv=>whnf);first|refine Ob.auto ?_|(apply zB <;> intro hb <;> (try simp [-zd] at hb) <;> try (exfalso;omega))))
 ·refine Le.of_eq (congrArg AV.bool ?_)
  unfold keyF
  exact (List.any_eq_true.2 ⟨keyL.getD i [],qqz keyL i [] (by omega),by simpa using hb⟩).symm
 ·((conv=>whnf);refine ⟨i+1,⟨by omega,qvj hi.2 (beq_eq_false_iff_ne.2 hb)⟩,⟨qa,qa⟩,⟨qa,qa⟩,?_⟩;(first|omega|(dsimp only;omega)|skip))
 ·refine Le.of_eq (congrArg AV.bool ?_)
  unfold keyF
  rw [eq_comm,Bool.eq_false_iff]
  intro h
  obtain ⟨x,hx,he⟩:=List.any_eq_true.1 h
  obtain ⟨j,hj,rfl⟩:=List.mem_iff_getElem.1 hx
  have:=hi.2 j (by omega)
  rw [zd,zg hj] at this
  simp only [zaw] at this
  rw [this] at he;cases he
theorem jmp (s:List UInt8):Con Try.prog 76 [.str s] (.bool (nameF s)):=by
 refine zK {} 300 Try.func76 (fun c0 rdb=>?_)
 (repeat' ((conv=>whnf);first|refine Ob.auto ?_|(refine Ob.intro (by ((intro h;simp at h ⊢;exact ⟨h,by have:=List.length_pos_iff.2 h.1;omega⟩))) ?_)|refine zG 300 (fun hg=>qvp _) ?_|refine zG 300 (fun hg=>jbb s) ?_|(apply zB <;> intro hb <;> (try simp [-zd] at hb) <;> try (exfalso;omega))))
 ·refine Le.of_eq (congrArg AV.bool ?_)
  unfold nameF
  have:(decide (s.length=0) || decide (12<s.length) || !qit (qbj s 0) || keyF s)=true:=by
   simp only [zab,zw,List.length_eq_zero_iff,xn]
   rcases hb with ((hb|hb)|hb)|hb
   ·exact .inl (.inl (.inl hb))
   ·exact .inl (.inl (.inr (by omega)))
   ·exact .inl (.inr hb)
   ·exact .inr hb
  rw [this];rfl
 ·have h0:(decide (s.length=0) || decide (12<s.length) || !qit (qbj s 0) || keyF s)=false:=by
   simp only [Bool.or_eq_false_iff,decide_eq_false_iff_not,List.length_eq_zero_iff,Bool.not_eq_false']
   exact ⟨⟨⟨hb.1.1.1,by omega⟩,hb.1.2⟩,hb.2⟩
  ((conv=>whnf);refine qbs (fun _=>rfl) 300 1 (fun i:Nat=>[(3,iv i)]) (fun _=>[]) (fun i=>i≤s.length∧∀ j,j<i→qkd (qbj s j)=true) (fun i=>s.length - i) (0) (⟨by omega,fun j hj=>absurd hj (xf j)⟩) qa qa (fun _=>rfl) (by kernel_rfl) ?_;(conv=>whnf))
  intro i hi
  (repeat' ((conv=>whnf);first|refine Ob.auto ?_|refine zC 300 (jba _) ?_|(apply zB <;> intro hb <;> (try simp [-zd] at hb) <;> try (exfalso;omega))))
  ·refine Le.of_eq (congrArg AV.bool ?_)
   unfold nameF
   rw [h0,jme (q:=fun i=>qkd (qbj s i)) (i:=i) (by omega) hb];rfl
  ·((conv=>whnf);refine ⟨i+1,⟨by omega,qvj hi.2 hb⟩,⟨qa,qa⟩,⟨qa,qa⟩,?_⟩;(first|omega|(dsimp only;omega)|skip))
  ·refine Le.of_eq (congrArg AV.bool ?_)
   unfold nameF
   rw [h0,jmf (q:=fun i=>qkd (qbj s i)) (fun j hj=>hi.2 j (by omega))];rfl
end Go.Proofs.Ythfaleaojlnnoaa
end
section
namespace Go.Proofs.Ythfaleaojlnnoaa
open Go.Sx Go.RowKit
set_option maxRecDepth 100000
theorem jbc (c:Int):Con Try.prog 33 [.int .u8 c] (.bool (decide (48≤c) && decide (c≤57))):=jaz c
theorem jmq (c:Int):Con Try.prog 31 [.int .u8 c] (.bool (decide (65≤c) && decide (c≤90) || decide (97≤c) && decide (c≤122))):=qvp c
theorem jbd (l:List UInt8) (c:Int) (hl:l.length≤1000):Con Try.prog 29 [.str l,.int .u8 c] (.bool (Lx.hasB l c)):=by
 refine zK {} 100 Try.func29 (fun c0 rdb=>?_)
 (conv=>whnf);refine qgu (fun _=>rfl) 100 1 (fun k:Nat=>⟨[(0,.str l),(1,.int .u8 c),(5,.int .i64 k)],[],0⟩)
  (fun k=>k≤l.length∧Lx.hasB (l.take k) c=false) (fun k=>l.length - k) 0 ⟨by omega,by simp [Lx.hasB]⟩ subA (fun _=>rfl) (by kernel_rfl) ?_
 rintro k ⟨hk,hf⟩
 repeat' ((conv=>whnf);first|refine Ob.auto ?_|(apply zB <;> intro hb <;> (try simp at hb) <;> try (exfalso;omega)))
 ·have h1:=Lx.hasB_step (by assumption) c
  refine Le.of_eq (congrArg AV.bool ?_)
  rw [hb,beq_self_eq_true,Bool.or_true] at h1
  exact (Lx.hasB_take h1).symm
 ·(conv=>whnf);refine Exists.intro (k+1) ⟨⟨by omega,?_⟩,subA,by omega⟩
  rw [Lx.hasB_step (by assumption) c,hf]
  simpa using hb
 ·rw [List.take_of_length_le (by omega)] at hf
  exact Le.of_eq (by rw [hf])
theorem jmr (c:Int):Con Try.prog 32 [.int .u8 c] (.bool (Lx.wordC c)):=jba c
theorem qrc (s:List UInt8) (i:Nat) (hi:i≤s.length) (hs:s.length≤1000000):Con Try.prog 30 [.str s,.int .i64 i] (.str (Lx.twoL (s.drop i))):=by
 refine zK {} 100 Try.func30 (fun c0 rdb=>?_)
 repeat' ((conv=>whnf);first|refine Ob.auto ?_|(apply zB <;> intro hb <;> (try simp at hb) <;> try (exfalso;omega)))
 ·refine Le.of_eq (congrArg AV.str ?_)
  rw [Lx.twoL,zq,zf (by omega),show ((i:Int)+2).toNat=i+2 by omega,Int.toNat_natCast,zay,xz]
 ·refine Le.of_eq (congrArg AV.str ?_)
  rw [Lx.twoL,zq,ze (by omega)]
set_option maxHeartbeats 2000000
theorem jms (s:List UInt8) (hs:s.length≤1000000):Con Try.prog 17 [.str s] (Lx.lexAV s):=by
 refine zK {owns:=[(4,(41,3))]} 300 Try.func17 (fun c0 rdb=>?_)
 repeat' ((conv=>whnf);first|refine Ob.auto ?_|(apply zB <;> intro hb <;> (try simp at hb) <;> try (exfalso;omega)))
 ·rw [Lx.lexAV,Lx.lexAll,zf (by omega)]
  exact Le.tup ⟨Le.nils 3 _,Le.refl _,trivial⟩
 (conv=>whnf);refine qgu (fun _=>rfl) 300 1 (fun g:List Lx.Tok × Nat=>⟨[(0,.str s),(3,.ptr 0 0),(4,.own 1 0 0 g.1.length),(5,.int .i64 g.2)],[(1,.row [] 41 3 0 g.1.length (encL Lx.encTok Lx.tok0 g.1)),(0,.box 26 [.int .i64 0,.int .i64 0])],2⟩)
  (fun g=>g.2≤s.length∧Lx.lexR s 0=Lx.prep g.1 (Lx.lexR (s.drop g.2) g.2)∧g.1.length≤g.2) (fun g=>s.length - g.2) ([],0) ⟨by simp,by simp [Lx.prep_nil],by simp⟩ subA (fun _=>rfl) (by kernel_rfl) ?_
 rintro ⟨acc,p⟩ ⟨hp,hr,hl⟩
 simp only at hp hr hl
 repeat' ((conv=>whnf);first|refine Ob.auto ?_|(apply zB <;> intro hb <;> (try simp at hb) <;> try (exfalso;omega)))
 ·obtain ⟨b,hd,hby⟩:=Lx.drop_cons hb
  have hpl:=hb
  have hd0:=hd
  generalize s.drop (p+1)=r at hd
  have hlen:=congrArg List.length hd
  simp only [zq,zr] at hlen
  have hn:=Lx.firstN_le b r
  rw [zr] at hn
  rw [hd] at hr
  ((conv=>whnf);refine qce (fun _=>rfl) 300 (jbd [32,9,13,10] (qbj s p) (by simp)) (by rfl) leA (by kernel_rfl) ?_)
  rw [hby]
  repeat' ((conv=>whnf);first|refine Ob.auto ?_|(refine Br.intro (fun hb=>?_) (fun hb=>?_)))
  ·(conv=>whnf);refine Exists.intro (acc,p+1) ⟨⟨by omega,?_,by simp;omega⟩,subA,by simp;omega⟩
   rw [Lx.blank_has] at hb
   rw [hr,Lx.lexR_cons,zf hb]
   rw [hd] at hd0
   injection hd0 with _ hd0
   rw [hd0]
  ·rw [Lx.blank_has] at hb
   have hbl:=hb
   ((conv=>whnf);refine qce (fun _=>rfl) 300 (qrc s p hp hs) (by rfl) leA (by kernel_rfl) ?_)
   repeat' ((conv=>whnf);first|(refine Br.intro (fun hb=>?_) (fun hb=>?_)))
   ·have hsl:Lx.slash2 (b::r)=true:=by rw [← hd,Lx.slash2,← Lx.two_pre];exact hb
    (conv=>whnf);refine qgu (fun _=>rfl) 300 2 (fun j:Nat=>⟨[(0,.str s),(3,.ptr 0 0),(4,.own 1 0 0 acc.length),(5,.int .i64 (p+j:Nat))],[(1,.row [] 41 3 0 acc.length (encL Lx.encTok Lx.tok0 acc)),(0,.box 26 [.int .i64 0,.int .i64 0])],2⟩)
     (fun j=>p+j≤s.length∧Lx.lineN (b::r)=j+Lx.lineN (s.drop (p+j))) (fun j=>s.length - (p+j)) 0 ⟨by omega,by rw [xb,hd,zu]⟩ subA (fun _=>rfl) (by kernel_rfl) ?_
    rintro j ⟨hj,hln⟩
    repeat' ((conv=>whnf);first|refine Ob.auto ?_|(refine Br.intro (fun hb=>?_) (fun hb=>?_)))
    ·simp only [zh,zw] at hb
     have hlt:p+j<s.length:=by omega
     have hb2:=hb.2
     rw [Lx.byteAt_get hlt,Lx.ne10] at hb2
     (conv=>whnf);refine Exists.intro (j+1) ⟨⟨by omega,?_⟩,subA,by omega⟩
     rw [hln,Lx.lineN,Lx.spanN_step hlt hb2]
     simp only [Lx.lineN]
     rw [show p+j+1=p+(j+1) by omega]
     omega
    ·have hz:Lx.lineN (s.drop (p+j))=0:=by
      by_cases hlt:p+j<s.length
      ·refine Lx.spanN_end hlt ?_
       simp only [Bool.and_eq_false_iff,decide_eq_false_iff_not] at hb
       rcases hb with hb|hb
       ·omega
       ·rw [Lx.byteAt_get hlt,Lx.ne10] at hb
        exact hb
      ·exact Lx.spanN_out (by omega)
     rw [hz,xb] at hln
     have hls:=Lx.lexR_slash hsl p
     rw [hln] at hls
     (conv=>whnf);refine Exists.intro (acc,p+j) ⟨⟨by simp;omega,?_,by simp;omega⟩,subA,by simp;omega⟩
     rw [hr,hls.1,← hd,zad]
   ·have hsl:Lx.slash2 (b::r)=false:=by rw [← hd,Lx.slash2,← Lx.two_pre];exact hb
    have hz:Lx.skipN (b::r)=0:=Lx.skip_none hsl (.inr ⟨b,r,rfl,hbl⟩)
    rw [Lx.lexR_tok hz] at hr
    ((conv=>whnf);refine qce (fun _=>rfl) 300 (qrc s p hp hs) (by rfl) leA (by kernel_rfl) ?_)
    ((conv=>whnf);refine qhl (fun _=>rfl) 300 (fun _=>qrc s p hp hs) (by rfl) (fun hg=>by repeat' (first|exact trivial|exact Le.refl _|exact Le.cnd hg|(refine And.intro ?_ ?_))) (by kernel_rfl) ?_)
    repeat' ((conv=>whnf);first|refine Ob.auto ?_|fail)
    ((conv=>whnf);refine qhl (fun _=>rfl) 300 (fun _=>qrc s p hp hs) (by rfl) (fun hg=>by repeat' (first|exact trivial|exact Le.refl _|exact Le.cnd hg|(refine And.intro ?_ ?_))) (by kernel_rfl) ?_)
    repeat' ((conv=>whnf);first|refine Ob.auto ?_|fail)
    (conv=>whnf);refine Br.intro (fun hb=>?_) (fun hb=>?_)
    ·have hor:[61,61].isPrefixOf (b::r)=true∨[38,38].isPrefixOf (b::r)=true∨[124,124].isPrefixOf (b::r)=true:=by
      rw [← hd,← Lx.two_pre,← Lx.two_pre,← Lx.two_pre]
      simp only [zab] at hb
      rcases hb with (hb|hb)|hb
      ·exact .inl hb
      ·exact .inr (.inl hb)
      ·exact .inr (.inr hb)
     have hN:Lx.firstN (b::r)=2:=(Lx.first_two hor).1
     have hK:Lx.firstK (b::r)=2:=(Lx.first_two hor).2
     repeat' ((conv=>whnf);first|refine Ob.auto ?_|fail)
     (conv=>whnf);refine Br.intro (fun hb=>?_) (fun hb=>?_)
     ·exfalso;simp at hb;omega
     ·rw [ze (by omega),Lx.prep_snoc,hN,hK] at hr
      have hdr:s.drop (p+2)=(b::r).drop 2:=by rw [← hd,zad]
      have htk:(s.take (p+2)).drop p=(b::r).take 2:=by rw [← hd,zay,xz]
      have hq:((p:Int)+((2:Nat):Int)).toNat=p+2:=by omega
      repeat' ((conv=>whnf);first|refine Ob.auto ?_|fail)
      (conv=>whnf);refine Exists.intro (acc++[⟨2,(b::r).take 2,p⟩],p+2) ⟨⟨by simp;omega,?_,by simp;omega⟩,?_,by simp;omega⟩
      ·rw [hr,← hdr]
      ·refine ⟨subA,⟨⟨rfl,rfl,rfl⟩,rfl,by simp,fun i _=>LeL.of_eq (congrFun (qjr Lx.encTok Lx.tok0 acc ⟨2,(b::r).take 2,p⟩ _ ?_) i)⟩,subA⟩
       refine congrArg (fun x=>[AV.int .i64 2,AV.str x,AV.int .i64 p]) ?_
       rw [← htk,← hq];rfl
    ·have hnor:[61,61].isPrefixOf (b::r)=false∧[38,38].isPrefixOf (b::r)=false∧[124,124].isPrefixOf (b::r)=false:=by
      rw [← hd,← Lx.two_pre,← Lx.two_pre,← Lx.two_pre]
      simp only [Bool.or_eq_false_iff] at hb
      exact ⟨hb.1.1,hb.1.2,hb.2⟩
     repeat' ((conv=>whnf);first|refine Ob.auto ?_|fail)
     ((conv=>whnf);refine qce (fun _=>rfl) 300 (jmq (qbj s p)) (by rfl) leA (by kernel_rfl) ?_)
     rw [hby]
     (conv=>whnf);refine Br.intro (fun hb=>?_) (fun hb=>?_)
     ·have hc:Lx.cls (b.toNat:Int)=2:=by
       have:=Lx.letC_cls b
       rw [Lx.letC,hb] at this
       simpa using this.symm
      (conv=>whnf);refine qgu (fun _=>rfl) 300 2 (fun j:Nat=>⟨[(0,.str s),(3,.ptr 0 0),(4,.own 1 0 0 acc.length),(5,.int .i64 p),(6,.int .i64 (p+j:Nat)),(7,.int .i64 0)],[(1,.row [] 41 3 0 acc.length (encL Lx.encTok Lx.tok0 acc)),(0,.box 26 [.int .i64 0,.int .i64 0])],2⟩)
       (fun j=>p+j≤s.length∧Lx.spanN Lx.wordB (b::r)=j+Lx.spanN Lx.wordB (s.drop (p+j))) (fun j=>s.length - (p+j)) 0 ⟨by omega,by rw [xb,hd,zu]⟩ subA (fun _=>rfl) (by kernel_rfl) ?_
      rintro j ⟨hj,hln⟩
      repeat' ((conv=>whnf);first|refine Ob.auto ?_|fail)
      ((conv=>whnf);refine qhl (fun _=>rfl) 300 (fun _=>jmr (qbj s (p+j:Nat))) (by rfl) (fun hg=>by repeat' (first|exact trivial|exact Le.refl _|exact Le.cnd hg|(refine And.intro ?_ ?_))) (by kernel_rfl) ?_)
      repeat' ((conv=>whnf);first|refine Ob.auto ?_|fail)
      (conv=>whnf);refine Br.intro (fun hb=>?_) (fun hb=>?_)
      ·simp only [zh,zw] at hb
       have hlt:p+j<s.length:=by omega
       have hb2:Lx.wordC (qbj s (p+j:Nat))=true:=by first|exact hb.2|(simp only [Lx.digC,zh,zw];exact hb.2)
       rw [Lx.byteAt_get hlt,Lx.wordC_B] at hb2
       repeat' ((conv=>whnf);first|refine Ob.auto ?_|fail)
       (conv=>whnf);refine Exists.intro (j+1) ⟨⟨by omega,?_⟩,subA,by omega⟩
       rw [hln,Lx.spanN_step hlt hb2,show p+j+1=p+(j+1) by omega]
       omega
      ·have hz0:Lx.spanN Lx.wordB (s.drop (p+j))=0:=by
        by_cases hlt:p+j<s.length
        ·refine Lx.spanN_end hlt ?_
         rw [← Lx.wordC_B,← Lx.byteAt_get hlt]
         rw [show decide (((p+j:Nat):Int)<(s.length:Int))=true from zas (by omega),Bool.true_and] at hb
         exact hb
        ·exact Lx.spanN_out (by omega)
       rw [hz0,xb] at hln
       have hj0:0<j:=by rw [← hln];exact Lx.span_pos (Lx.let_word hc)
       have hN:Lx.firstN (b::r)=j:=by rw [(Lx.first_let hc).1,hln]
       have hK:Lx.firstK (b::r)=0:=(Lx.first_let hc).2
       repeat' ((conv=>whnf);first|refine Ob.auto ?_|fail)
       (conv=>whnf);refine Br.intro (fun hb=>?_) (fun hb=>?_)
       ·exfalso;simp at hb;omega
       ·rw [ze (by omega),Lx.prep_snoc,hN,hK] at hr
        have hdr:s.drop (p+j)=(b::r).drop j:=by rw [← hd,zad]
        have htk:(s.take (p+j)).drop p=(b::r).take j:=by rw [← hd,zay,xz]
        have hq:((p:Int)+((j:Nat):Int)).toNat=p+j:=by omega
        repeat' ((conv=>whnf);first|refine Ob.auto ?_|fail)
        (conv=>whnf);refine Exists.intro (acc++[⟨0,(b::r).take j,p⟩],p+j) ⟨⟨by simp;omega,?_,by simp;omega⟩,?_,by simp;omega⟩
        ·rw [hr,← hdr]
        ·refine ⟨subA,⟨⟨rfl,rfl,rfl⟩,rfl,by simp,fun i _=>LeL.of_eq (congrFun (qjr Lx.encTok Lx.tok0 acc ⟨0,(b::r).take j,p⟩ _ ?_) i)⟩,subA⟩
         refine congrArg (fun x=>[AV.int .i64 0,AV.str x,AV.int .i64 p]) ?_
         rw [← htk,← hq];rfl
     ·have hc:¬ Lx.cls (b.toNat:Int)=2:=by
       have:=Lx.letC_cls b
       rw [Lx.letC,hb] at this
       simpa using this.symm
      repeat' ((conv=>whnf);first|refine Ob.auto ?_|fail)
      ((conv=>whnf);refine qce (fun _=>rfl) 300 (jbc (qbj s p)) (by rfl) leA (by kernel_rfl) ?_)
      rw [hby]
      (conv=>whnf);refine Br.intro (fun hb=>?_) (fun hb=>?_)
      ·have hc3:Lx.cls (b.toNat:Int)=3:=by
        have:=Lx.digC_cls b
        rw [Lx.digC,hb] at this
        simpa using this.symm
       replace hc:=hc3
       (conv=>whnf);refine qgu (fun _=>rfl) 300 2 (fun j:Nat=>⟨[(0,.str s),(3,.ptr 0 0),(4,.own 1 0 0 acc.length),(5,.int .i64 p),(6,.int .i64 (p+j:Nat)),(7,.int .i64 1)],[(1,.row [] 41 3 0 acc.length (encL Lx.encTok Lx.tok0 acc)),(0,.box 26 [.int .i64 0,.int .i64 0])],2⟩)
        (fun j=>p+j≤s.length∧Lx.spanN Lx.digB (b::r)=j+Lx.spanN Lx.digB (s.drop (p+j))) (fun j=>s.length - (p+j)) 0 ⟨by omega,by rw [xb,hd,zu]⟩ subA (fun _=>rfl) (by kernel_rfl) ?_
       rintro j ⟨hj,hln⟩
       repeat' ((conv=>whnf);first|refine Ob.auto ?_|fail)
       ((conv=>whnf);refine qhl (fun _=>rfl) 300 (fun _=>jbc (qbj s (p+j:Nat))) (by rfl) (fun hg=>by repeat' (first|exact trivial|exact Le.refl _|exact Le.cnd hg|(refine And.intro ?_ ?_))) (by kernel_rfl) ?_)
       repeat' ((conv=>whnf);first|refine Ob.auto ?_|fail)
       (conv=>whnf);refine Br.intro (fun hb=>?_) (fun hb=>?_)
       ·simp only [zh,zw] at hb
        have hlt:p+j<s.length:=by omega
        have hb2:Lx.digC (qbj s (p+j:Nat))=true:=by first|exact hb.2|(simp only [Lx.digC,zh,zw];exact hb.2)
        rw [Lx.byteAt_get hlt,Lx.digC_B] at hb2
        repeat' ((conv=>whnf);first|refine Ob.auto ?_|fail)
        (conv=>whnf);refine Exists.intro (j+1) ⟨⟨by omega,?_⟩,subA,by omega⟩
        rw [hln,Lx.spanN_step hlt hb2,show p+j+1=p+(j+1) by omega]
        omega
       ·have hz0:Lx.spanN Lx.digB (s.drop (p+j))=0:=by
         by_cases hlt:p+j<s.length
         ·refine Lx.spanN_end hlt ?_
          rw [← Lx.digC_B,← Lx.byteAt_get hlt]
          rw [show decide (((p+j:Nat):Int)<(s.length:Int))=true from zas (by omega),Bool.true_and] at hb
          exact hb
         ·exact Lx.spanN_out (by omega)
        rw [hz0,xb] at hln
        have hj0:0<j:=by rw [← hln];exact Lx.span_pos (Lx.dig_dig hc)
        repeat' ((conv=>whnf);first|refine Ob.auto ?_|fail)
        by_cases hj6:6<j
        ·have hN:Lx.firstN (b::r)=0:=by rw [(Lx.first_dig hc).1,hln,zf hj6]
         (conv=>whnf);refine Br.intro (fun hb=>?_) (fun hb=>?_)
         ·rw [zf hN] at hr
          repeat' ((conv=>whnf);first|refine Ob.auto ?_|fail)
          rw [Lx.lexAV,Lx.lexAll,ze (by omega),hr]
          exact Le.tup ⟨Le.nils 3 _,Le.refl _,trivial⟩
         ·exfalso;simp at hb;omega
        ·have hN:Lx.firstN (b::r)=j:=by rw [(Lx.first_dig hc).1,hln,ze hj6]
         have hK:Lx.firstK (b::r)=1:=(Lx.first_dig hc).2
         (conv=>whnf);refine Br.intro (fun hb=>?_) (fun hb=>?_)
         ·exfalso;simp at hb;omega
         ·rw [ze (by omega),Lx.prep_snoc,hN,hK] at hr
          have hdr:s.drop (p+j)=(b::r).drop j:=by rw [← hd,zad]
          have htk:(s.take (p+j)).drop p=(b::r).take j:=by rw [← hd,zay,xz]
          have hq:((p:Int)+((j:Nat):Int)).toNat=p+j:=by omega
          repeat' ((conv=>whnf);first|refine Ob.auto ?_|fail)
          (conv=>whnf);refine Exists.intro (acc++[⟨1,(b::r).take j,p⟩],p+j) ⟨⟨by simp;omega,?_,by simp;omega⟩,?_,by simp;omega⟩
          ·rw [hr,← hdr]
          ·refine ⟨subA,⟨⟨rfl,rfl,rfl⟩,rfl,by simp,fun i _=>LeL.of_eq (congrFun (qjr Lx.encTok Lx.tok0 acc ⟨1,(b::r).take j,p⟩ _ ?_) i)⟩,subA⟩
           refine congrArg (fun x=>[AV.int .i64 1,AV.str x,AV.int .i64 p]) ?_
           rw [← htk,← hq];rfl
      ·have hc3:¬ Lx.cls (b.toNat:Int)=3:=by
        have:=Lx.digC_cls b
        rw [Lx.digC,hb] at this
        simpa using this.symm
       have hfs:=Lx.first_sig (r:=r) hnor.1 hnor.2.1 hnor.2.2 hc hc3
       repeat' ((conv=>whnf);first|refine Ob.auto ?_|fail)
       ((conv=>whnf);refine qce (fun _=>rfl) 300 (jbd Lx.signs (qbj s p) (by decide)) (by rfl) leA (by kernel_rfl) ?_)
       rw [hby,Lx.has_signs]
       (conv=>whnf);refine Br.intro (fun hb=>?_) (fun hb=>?_)
       ·rw [zf (zaq hb)] at hfs
        have hN:=hfs.1
        have hK:=hfs.2
        repeat' ((conv=>whnf);first|refine Ob.auto ?_|fail)
        (conv=>whnf);refine Br.intro (fun hb=>?_) (fun hb=>?_)
        ·exfalso;simp at hb;omega
        ·rw [ze (by omega),Lx.prep_snoc,hN,hK] at hr
         have hdr:s.drop (p+1)=(b::r).drop 1:=by rw [← hd,zad]
         have htk:(s.take (p+1)).drop p=(b::r).take 1:=by rw [← hd,zay,xz]
         have hq:((p:Int)+((1:Nat):Int)).toNat=p+1:=by omega
         repeat' ((conv=>whnf);first|refine Ob.auto ?_|fail)
         (conv=>whnf);refine Exists.intro (acc++[⟨2,(b::r).take 1,p⟩],p+1) ⟨⟨by simp;omega,?_,by simp;omega⟩,?_,by simp;omega⟩
         ·rw [hr,← hdr]
         ·refine ⟨subA,⟨⟨rfl,rfl,rfl⟩,rfl,by simp,fun i _=>LeL.of_eq (congrFun (qjr Lx.encTok Lx.tok0 acc ⟨2,(b::r).take 1,p⟩ _ ?_) i)⟩,subA⟩
          refine congrArg (fun x=>[AV.int .i64 2,AV.str x,AV.int .i64 p]) ?_
          rw [← htk,← hq];rfl
       ·rw [ze (of_decide_eq_false hb)] at hfs
        repeat' ((conv=>whnf);first|refine Ob.auto ?_|fail)
        (conv=>whnf);refine Br.intro (fun hb=>?_) (fun hb=>?_)
        ·rw [zf hfs.1] at hr
         repeat' ((conv=>whnf);first|refine Ob.auto ?_|fail)
         rw [Lx.lexAV,Lx.lexAll,ze (by omega),hr]
         exact Le.tup ⟨Le.nils 3 _,Le.refl _,trivial⟩
        ·exfalso;simp at hb
 ·have hpe:p=s.length:=by omega
  subst hpe
  rw [List.drop_length,Lx.lexR_nil] at hr
  rw [Lx.lexAV,Lx.lexAll,ze (by omega),hr]
  refine Le.tup (ys:=[_,_]) ⟨Le.of_eq (Eq.trans (congrArg (AV.slc 3 (acc.length+1)) (qjr Lx.encTok Lx.tok0 acc ⟨3,[],s.length⟩ _ rfl)) ?_),Le.refl _,trivial⟩
  simp [Lx.prep,Lx.toks,slcL]
end Go.Proofs.Ythfaleaojlnnoaa
end
