/- Some texts of the library, one behind the other. -/
import Derived.Test.YthfaleaojlnnoaaY7PcL2
import Derived.Test.YthfaleaojlnnoaaY77
import Derived.Test.YthfaleaojlnnoaaY72
set_option linter.unusedSimpArgs false
set_option linter.unusedVariables false
section
namespace Go.Proofs.Ythfaleaojlnnoaa
open Go.Sx Go.RowKit
set_option maxRecDepth 100000
theorem qlc (s:List UInt8) (hs:s.length≤1000000):Con Try.prog 18 [.str s] (Lx.lexAV s):=by
 have hfit:=Lx.skipN_le s
 refine zK {owns:=[(4,(41,3))]} 300 Try.func18 (fun c0 rdb=>?_)
 repeat' ((conv=>whnf);first|refine Ob.auto ?_|(apply zB <;> intro hb <;> (try simp at hb) <;> try (exfalso;omega))|refine Ob.intro ?_ ?_)
 ·rw [Lx.lexAV,Lx.lexAll,zb (by omega)]
  exact Le.tup ⟨Le.nils 3 _,Le.refl _,trivial⟩
 ((conv=>whnf);refine qau (fun _=>rfl) 300 (jag s hs) (by rfl) leA (by kernel_rfl) ?_)
 repeat' ((conv=>whnf);first|refine Ob.auto ?_|(apply zB <;> intro hb <;> (try simp at hb) <;> try (exfalso;omega))|refine Ob.intro ?_ ?_)
 (conv=>whnf);refine qmb (fun _=>rfl) 300 1 (fun g:List Lx.Tok × Nat=>⟨[(0,.str s),(3,.ptr 0 0),(4,.own 1 0 0 g.1.length),(5,.int .i64 g.2)],[(1,.row [] 41 3 0 g.1.length (encL Lx.encTok Lx.tok0 g.1)),(0,.box 26 [.int .i64 0,.int .i64 0])],2⟩)
  (fun g=>g.2≤s.length∧Lx.lexR s 0=Lx.prep g.1 (Lx.lexR (s.drop g.2) g.2)∧Lx.skipN (s.drop g.2)=0∧g.1.length≤g.2) (fun g=>s.length - g.2) ([],Lx.skipN s) ⟨hfit,by simpa [Lx.prep_nil] using (Lx.lexR_skip s 0).symm,Lx.skip_done s,by simp⟩ subA (fun _=>rfl) (by kernel_rfl) ?_
 rintro ⟨acc,p⟩ ⟨hp,hr,hz,hl⟩
 simp only at hp hr hz hl
 repeat' ((conv=>whnf);first|refine Ob.auto ?_|(apply zB <;> intro hb <;> (try simp at hb) <;> try (exfalso;omega))|refine Ob.intro ?_ ?_)
 ·obtain ⟨b,hd,-⟩:=Lx.drop_cons hb
  generalize s.drop (p+1)=r at hd
  have hlen:=congrArg List.length hd
  simp only [zr,zq] at hlen
  rw [hd] at hr hz
  rw [Lx.lexR_tok hz] at hr
  have hn:=Lx.firstN_le b r
  have hk:=Lx.firstK_range (b::r)
  rw [zq] at hn
  (conv=>whnf)
  refine qau (fun _=>rfl) 300 (jlf b r (by omega)) (by rfl) ⟨Le.of_eq (by rw [← hd];rfl),trivial⟩ (by kernel_rfl) ?_
  repeat' ((conv=>whnf);first|refine Ob.auto ?_|(apply zB <;> intro hb <;> (try simp at hb) <;> try (exfalso;omega))|refine Ob.intro ?_ ?_)
  ·rw [zb hb] at hr
   rw [Lx.lexAV,Lx.lexAll,za (by omega),hr]
   exact Le.tup ⟨Le.nils 3 _,Le.refl _,trivial⟩
  ·rw [za hb,Lx.prep_snoc] at hr
   generalize hnn:Lx.firstN (b::r)=n at *
   have hq:((p:Int)+(n:Int)).toNat=p+n:=by omega
   have hdr:s.drop (p+n)=(b::r).drop n:=by rw [← hd,zar]
   have htk:(s.take (p+n)).drop p=(b::r).take n:=by rw [← hd,List.drop_take,Nat.add_sub_cancel_left]
   have hsk:=Lx.skipN_le (s.drop (p+n))
   rw [zr] at hsk
   (conv=>whnf)
   refine qau (fun _=>rfl) 300 (jag (s.drop (p+n)) (by rw [zr];omega)) (by rfl) ⟨Le.of_eq (by rw [← hq]),trivial⟩ (by kernel_rfl) ?_
   repeat' ((conv=>whnf);first|refine Ob.auto ?_|(apply zB <;> intro hb <;> (try simp at hb) <;> try (exfalso;omega))|refine Ob.intro ?_ ?_)
   (conv=>whnf);refine Exists.intro (acc++[⟨Lx.firstK (b::r),(b::r).take n,p⟩],p+n+Lx.skipN (s.drop (p+n))) ⟨⟨by omega,?_,?_,?_⟩,?_,by omega⟩
   ·rw [hr,← hdr,← Lx.lexR_skip (s.drop (p+n)) (p+n),zar]
   ·have:=Lx.skip_done (s.drop (p+n))
    rwa [zar] at this
   ·simp;omega
   ·refine ⟨subA,⟨⟨rfl,rfl,rfl⟩,rfl,by simp,fun i _=>LeL.of_eq (congrFun (qwr Lx.encTok Lx.tok0 acc ⟨Lx.firstK (b::r),(b::r).take n,p⟩ _ ?_) i)⟩,subA⟩
    refine congrArg (fun x=>[AV.int .i64 (Lx.firstK (b::r)),AV.str x,AV.int .i64 p]) ?_
    rw [← htk,← hq];rfl
 ·have hpe:p=s.length:=by omega
  subst hpe
  rw [List.drop_length,Lx.lexR_nil] at hr
  rw [Lx.lexAV,Lx.lexAll,za (by omega),hr]
  refine Le.tup (ys:=[_,_]) ⟨Le.of_eq (Eq.trans (congrArg (AV.slc 3 (acc.length+1)) (qwr Lx.encTok Lx.tok0 acc ⟨3,[],s.length⟩ _ rfl)) ?_),Le.refl _,trivial⟩
  simp [Lx.prep,Lx.toks,slcL]
end Go.Proofs.Ythfaleaojlnnoaa
end
section
namespace Go.Proofs.Ythfaleaojlnnoaa
open Go Go.Sx Go.RowKit Go.St
set_option maxRecDepth 100000
theorem qul (s:List UInt8):Lx.keyB s=keyF s:=by
 show (Lx.keys.any fun k=>s == k)=(Lx.keys.any fun k=>k == s)
 congr 1
 funext k
 rw [xc]
 simp only [xn]
 exact eq_comm
theorem jah (c:Int) (h1:¬ ((65≤c∧c≤90)∨(97≤c∧c≤122))) (h2:¬ (48≤c∧c≤57)) (h3:¬ c=95):Lx.cls c≠2∧Lx.cls c≠3∧Lx.cls c≠4:=by
 unfold Lx.cls
 rw [za h1,za h2,za h3]
 split
 ·decide
 ·split
  ·decide
  ·split <;> decide
theorem jlg (b:UInt8):qhn (b.toNat:Int)=decide (Lx.cls (b.toNat:Int)=2):=by
 generalize (b.toNat:Int)=c
 unfold qhn
 rw [xc]
 simp only [xh,zf,zo]
 constructor
 ·intro h;unfold Lx.cls;rw [zb h]
 ·intro h
  refine Classical.byContradiction fun h1=>?_
  by_cases h2:48≤c∧c≤57
  ·unfold Lx.cls at h;rw [za h1,zb h2] at h;cases h
  ·by_cases h3:c=95
   ·unfold Lx.cls at h;rw [za h1,za h2,zb h3] at h;cases h
   ·exact (jah c h1 h2 h3).1 h
theorem jai (b:UInt8):qix (b.toNat:Int)=Lx.wordB b:=by
 unfold qix Lx.wordB Lx.isCls qhn
 generalize (b.toNat:Int)=c
 rw [xc]
 simp only [xh,zf,zo,List.any_cons,List.any_nil,Bool.or_false,xn]
 by_cases h1:(65≤c∧c≤90)∨(97≤c∧c≤122)
 ·have e:Lx.cls c=2:=by unfold Lx.cls;rw [zb h1]
  exact ⟨fun _=>.inl e,fun _=>.inl (.inl h1)⟩
 by_cases h2:48≤c∧c≤57
 ·have e:Lx.cls c=3:=by unfold Lx.cls;rw [za h1,zb h2]
  exact ⟨fun _=>.inr (.inl e),fun _=>.inl (.inr h2)⟩
 by_cases h3:c=95
 ·have e:Lx.cls c=4:=by unfold Lx.cls;rw [za h1,za h2,zb h3]
  exact ⟨fun _=>.inr (.inr e),fun _=>.inr h3⟩
 ·obtain ⟨e1,e2,e3⟩:=jah c h1 h2 h3
  constructor
  ·rintro ((h|h)|h)
   ·exact absurd h h1
   ·exact absurd h h2
   ·exact absurd h h3
  ·rintro (h|h|h)
   ·exact absurd h e1
   ·exact absurd h e2
   ·exact absurd h e3
theorem jlh (p:UInt8→Bool) (l:List UInt8):Lx.spanN p l=l.length↔∀ b∈l,p b=true:=by
 induction l with
 | nil=>simp [Lx.spanN]
 | cons b r ih=>
  simp only [Lx.spanN,zq,List.mem_cons,forall_eq_or_imp]
  cases hp:p b with
  | false=>simp
  | true=>simp [← ih];omega
theorem jli (s:List UInt8):Lx.nameB s=nameF s:=by
 cases s with
 | nil=>rfl
 | cons b r=>
  have h0:qcl (b::r) 0=(b.toNat:Int):=rfl
  rw [Lx.nameB,nameF,h0,jlg,qul]
  rw [xc]
  generalize keyF (b::r)=kb
  simp only [zf,zo,xd,zao,decide_eq_false_iff_not,Bool.not_eq_false',zs,zas]
  rw [jlh]
  constructor
  ·rintro ⟨⟨⟨h1,h2⟩,h3⟩,h4⟩
   refine ⟨⟨⟨⟨by simp,by omega⟩,h2⟩,h4⟩,fun i hi=>?_⟩
   rw [Lx.byteAt_get hi,jai]
   exact h3 _ (xt hi)
  ·rintro ⟨⟨⟨⟨h1,h2⟩,h3⟩,h4⟩,h5⟩
   refine ⟨⟨⟨by omega,h3⟩,fun x hx=>?_⟩,h4⟩
   obtain ⟨i,hi,rfl⟩:=List.mem_iff_getElem.1 hx
   have:=h5 i hi
   rwa [Lx.byteAt_get hi,jai] at this
theorem qdu (s:List UInt8):Con Try.prog 95 [.str s] (.bool (keyF s)):=by
 rw [← qul]
 refine zK {} 300 Try.func95 (fun c0 rdb=>?_)
 repeat' ((conv=>whnf);first|refine Ob.auto ?_|(refine Br.intro (fun hb=>?_) (fun hb=>?_))|refine Ob.intro ?_ ?_)
 all_goals first|(exfalso;simp_all;done)|(refine Le.of_eq (congrArg AV.bool ?_);simp_all [Lx.keyB,Lx.keys];done)
theorem qjf (s:List UInt8) (hs:s.length≤1000000):Con Try.prog 72 [.str s] (.bool (nameF s)):=by
 rw [← jli]
 refine zK {} 300 Try.func72 (fun c0 rdb=>?_)
 have hpos:∀ x:Bool,(!(s == []) && x)=true→0<s.length:=by
  intro x h
  cases s with
  | nil=>simp at h
  | cons b r=>simp
 repeat' ((conv=>whnf);first|(refine Ob.intro (fun h=>⟨h,by omega,by have:=hpos _ h;omega⟩) ?_)|(refine Ob.intro (by first|rfl|exact fun h=>h|exact fun h=>⟨h,trivial⟩|exact fun h=>⟨h,h,trivial⟩) ?_))
 ((conv=>whnf);refine qcn (fun _=>rfl) 300 (fun _=>qnk (qcl s 0)) (by rfl) (fun hg=>by repeat' (first|exact trivial|exact Le.refl _|exact Le.cnd hg|(refine And.intro ?_ ?_))) (by kernel_rfl) ?_)
 repeat' ((conv=>whnf);first|refine Ob.auto ?_|refine Ob.intro ?_ ?_)
 (conv=>whnf)
 refine qcn (fun _=>rfl) 300 (fun _=>qpy s [2,3,4] hs (by decide)) (by rfl) (fun hg=>⟨Le.cnd hg,Le.trans (Le.cnd hg) (jaf 2 3 4 _ rfl rfl rfl),trivial⟩) (by kernel_rfl) ?_
 repeat' ((conv=>whnf);first|refine Ob.auto ?_|refine Ob.intro ?_ ?_)
 ((conv=>whnf);refine qcn (fun _=>rfl) 300 (fun _=>qdu s) (by rfl) (fun hg=>by repeat' (first|exact trivial|exact Le.refl _|exact Le.cnd hg|(refine And.intro ?_ ?_))) (by kernel_rfl) ?_)
 repeat' ((conv=>whnf);first|refine Ob.auto ?_|refine Ob.intro ?_ ?_)
 refine Le.of_eq (congrArg AV.bool ?_)
 rw [← qul]
 cases s with
 | nil=>rfl
 | cons b r=>
  have h0:qcl (b::r) 0=(b.toNat:Int):=rfl
  have h1:Lx.spanN (Lx.isCls [2,3,4]) (b::r)=Lx.spanN Lx.wordB (b::r):=rfl
  rw [Lx.nameB,h0,h1,xc]
  generalize Lx.spanN Lx.wordB (b::r)=n
  generalize Lx.keyB (b::r)=kb
  simp only [zf,zo,xn,xd,zq]
  constructor
  ·rintro ⟨⟨⟨⟨-,h2⟩,h3⟩,h4⟩,h5⟩
   exact ⟨⟨⟨by omega,h3⟩,by omega⟩,h5⟩
  ·rintro ⟨⟨⟨h2,h3⟩,h4⟩,h5⟩
   exact ⟨⟨⟨⟨rfl,by omega⟩,h3⟩,by omega⟩,h5⟩
end Go.Proofs.Ythfaleaojlnnoaa
end
