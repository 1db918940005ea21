/- Some texts of the library, one behind the other. -/
import Derived.Test.YthfaleaojlnnoaaY617
import Derived.Test.YthfaleaojlnnoaaY62
set_option linter.unusedSimpArgs false
set_option linter.unusedVariables false
section
namespace Go.Proofs.Ythfaleaojlnnoaa
open Go.Sx Go.RowKit
set_option maxRecDepth 100000
theorem qqu (s:List UInt8) (cl:List Int) (hs:s.length≤1000000) (hc:cl.length≤1000000):Con Try.prog 53 [.str s,Lx.ints cl] (.int .i64 (Lx.spanN (Lx.isCls cl) s)):=by
 refine zK {} 300 Try.func53 (fun c0 rdb=>?_)
 repeat' ((conv=>whnf);first|refine Ob.auto ?_|(apply zB <;> intro hb <;> (try simp at hb) <;> try (exfalso;omega))|refine Ob.intro ?_ ?_)
 (conv=>whnf);refine qgh (fun _=>rfl) 300 1 (fun k:Nat=>⟨[(0,.str s),(1,Lx.ints cl),(10,.int .i64 s.length),(11,.int .i64 k)],[],0⟩)
  (fun k=>k≤s.length∧Lx.spanN (Lx.isCls cl) s=k+Lx.spanN (Lx.isCls cl) (s.drop k)) (fun k=>s.length - k) 0 ⟨by omega,by simp⟩ subA (fun _=>rfl) (by kernel_rfl) ?_
 rintro k ⟨hk,hsp⟩
 repeat' ((conv=>whnf);first|refine Ob.auto ?_|(apply zB <;> intro hb <;> (try simp at hb) <;> try (exfalso;omega))|refine Ob.intro ?_ ?_)
 rotate_left 1
 ·refine Le.of_eq ?_
  have:s.drop k=[]:=List.drop_eq_nil_of_le (by omega)
  rw [hsp,this]
  simp [Lx.spanN]
  omega
 ·obtain ⟨b,hdb,hby⟩:=Lx.drop_cons hb
  (conv=>whnf);refine qgh (fun _=>rfl) 300 2 (fun j:Nat=>⟨[(0,.str s),(1,Lx.ints cl),(5,.int .i64 k),(6,.bool ((cl.take j).any fun c=>Lx.cls (b.toNat:Int) == c)),(10,.int .i64 s.length),(11,.int .i64 k),(14,Lx.ints cl),(15,.int .i64 cl.length),(16,.int .i64 j)],[],0⟩)
   (fun j=>j≤cl.length) (fun j=>cl.length - j) 0 (by omega) subA (fun _=>rfl) (by kernel_rfl) ?_
  intro j hj
  repeat' ((conv=>whnf);first|refine Ob.auto ?_|(apply zB <;> intro hb <;> (try simp at hb) <;> try (exfalso;omega))|refine Ob.intro ?_ ?_)
  ·((conv=>whnf);refine qha (fun _=>rfl) 300 (fun _=>qqt (qbd s k)) (by rfl) (fun hg=>by repeat' (first|exact trivial|exact Le.refl _|exact Le.cnd hg|(refine And.intro ?_ ?_))) (by kernel_rfl) ?_)
   repeat' ((conv=>whnf);first|refine Ob.auto ?_|(apply zB <;> intro hb <;> (try simp at hb) <;> try (exfalso;omega))|refine Ob.intro ?_ ?_)
   (conv=>whnf);refine Exists.intro (j+1) ⟨by omega,?_,by omega⟩
   refine ⟨?_,trivial⟩
   repeat' (first|exact trivial|exact Le.refl _|exact Le.of_eq (by congr 1;omega)|(refine And.intro ?_ ?_))
   refine Le.of_eq ?_
   rw [Lx.getD_take_any _ _ _ ‹j<cl.length›,hby]
   rfl
  ·refine Le.of_eq ?_
   have hj':j=cl.length:=by omega
   have:Lx.isCls cl b=false:=by
    simp only [Lx.isCls,List.any_eq_false,xr]
    rw [hj',zac] at hb
    exact fun c hc=>hb c hc
   rw [hsp,hdb,Lx.spanN,this]
   simp
  ·have hj':j=cl.length:=by omega
   have:Lx.isCls cl b=true:=by
    simp only [Lx.isCls,List.any_eq_true,xr]
    rw [hj',zac] at hb
    exact ⟨_,hb,rfl⟩
   (conv=>whnf);refine Exists.intro (k+1) ⟨⟨by omega,?_⟩,subA,by omega⟩
   rw [hsp,hdb,Lx.spanN,this]
   simp
   omega
theorem jmg (s p:List UInt8):Con Try.prog 77 [.str s,.str p] (.bool (p.isPrefixOf s)):=by
 refine zK {} 100 Try.func77 (fun c0 rdb=>?_)
 repeat' ((conv=>whnf);first|refine Ob.auto ?_|(apply zB <;> intro hb <;> (try simp at hb) <;> try (exfalso;omega))|refine Ob.intro ?_ ?_)
 refine Le.of_eq ?_
 congr 1
 rw [xf]
 simp only [ze,zr,xr,Int.toNat_natCast,List.isPrefixOf_iff_prefix,List.prefix_iff_eq_take]
 constructor
 ·rintro ⟨_,h⟩;exact h.symm
 ·intro h
  refine ⟨?_,h.symm⟩
  have:=congrArg List.length h
  rw [xg] at this
  omega
theorem qqv (s p:List UInt8):Con Try.prog 54 [.str s,.str p] (.bool (p.isPrefixOf s)):=by
 refine zK {} 100 Try.func54 (fun c0 rdb=>?_)
 repeat' ((conv=>whnf);first|refine Ob.auto ?_|(apply zB <;> intro hb <;> (try simp at hb) <;> try (exfalso;omega))|refine Ob.intro ?_ ?_)
 ((conv=>whnf);refine qbt (fun _=>rfl) 100 (jmg s p) (by rfl) leA (by kernel_rfl) ?_)
 repeat' ((conv=>whnf);first|refine Ob.auto ?_|(apply zB <;> intro hb <;> (try simp at hb) <;> try (exfalso;omega))|refine Ob.intro ?_ ?_)
 exact Le.refl _
theorem jmh (b:UInt8) (r:List UInt8):Con Try.prog 57 [.str (b::r)] (.int .i64 (Lx.signN (b::r))):=by
 refine zK {} 100 Try.func57 (fun c0 rdb=>?_)
 repeat' ((conv=>whnf);first|refine Ob.auto ?_|(apply zB <;> intro hb <;> (try simp at hb) <;> try (exfalso;omega))|refine Ob.intro ?_ ?_)
 (conv=>whnf);refine qgh (fun _=>rfl) 100 1 (fun k:Nat=>⟨[(0,.str (b::r)),(5,.agg [.str [61,61],.str [38,38],.str [124,124]]),(6,.int .i64 k)],[],0⟩)
  (fun k=>k≤3∧(0<k→[61,61].isPrefixOf (b::r)=false)∧(1<k→[38,38].isPrefixOf (b::r)=false)∧(2<k→[124,124].isPrefixOf (b::r)=false)) (fun k=>3 - k) 0 ⟨by omega,by omega,by omega,by omega⟩ subA (fun _=>rfl) (by kernel_rfl) ?_
 rintro k ⟨hk,h0,h1,h2⟩
 obtain rfl|rfl|rfl|rfl:k=0∨k=1∨k=2∨k=3:=by omega
 ·repeat' ((conv=>whnf);first|refine Ob.auto ?_|(apply zB <;> intro hb <;> (try simp at hb) <;> try (exfalso;omega))|refine Ob.intro ?_ ?_)
  ((conv=>whnf);refine qbt (fun _=>rfl) 100 (qqv (b::r) [61,61]) (by rfl) leA (by kernel_rfl) ?_)
  repeat' ((conv=>whnf);first|refine Ob.auto ?_|(refine Br.intro (fun hb=>?_) (fun hb=>?_))|refine Ob.intro ?_ ?_)
  ·exact Le.of_eq (by rw [Lx.sign_two (.inl hb)];rfl)
  ·(conv=>whnf);refine Exists.intro 1 ⟨⟨by omega,fun _=>hb,by omega,by omega⟩,subA,by omega⟩
 ·repeat' ((conv=>whnf);first|refine Ob.auto ?_|(apply zB <;> intro hb <;> (try simp at hb) <;> try (exfalso;omega))|refine Ob.intro ?_ ?_)
  ((conv=>whnf);refine qbt (fun _=>rfl) 100 (qqv (b::r) [38,38]) (by rfl) leA (by kernel_rfl) ?_)
  repeat' ((conv=>whnf);first|refine Ob.auto ?_|(refine Br.intro (fun hb=>?_) (fun hb=>?_))|refine Ob.intro ?_ ?_)
  ·exact Le.of_eq (by rw [Lx.sign_two (.inr (.inl hb))];rfl)
  ·(conv=>whnf);refine Exists.intro 2 ⟨⟨by omega,fun _=>h0 (by omega),fun _=>hb,by omega⟩,subA,by omega⟩
 ·repeat' ((conv=>whnf);first|refine Ob.auto ?_|(apply zB <;> intro hb <;> (try simp at hb) <;> try (exfalso;omega))|refine Ob.intro ?_ ?_)
  ((conv=>whnf);refine qbt (fun _=>rfl) 100 (qqv (b::r) [124,124]) (by rfl) leA (by kernel_rfl) ?_)
  repeat' ((conv=>whnf);first|refine Ob.auto ?_|(refine Br.intro (fun hb=>?_) (fun hb=>?_))|refine Ob.intro ?_ ?_)
  ·exact Le.of_eq (by rw [Lx.sign_two (.inr (.inr hb))];rfl)
  ·(conv=>whnf);refine Exists.intro 3 ⟨⟨by omega,fun _=>h0 (by omega),fun _=>h1 (by omega),fun _=>hb⟩,subA,by omega⟩
 ·repeat' ((conv=>whnf);first|refine Ob.auto ?_|(apply zB <;> intro hb <;> (try simp at hb) <;> try (exfalso;omega))|refine Ob.intro ?_ ?_)
  ((conv=>whnf);refine qbt (fun _=>rfl) 100 (qqt b.toNat) (by rfl) leA (by kernel_rfl) ?_)
  repeat' ((conv=>whnf);first|refine Ob.auto ?_|(apply zB <;> intro hb <;> (try simp at hb) <;> try (exfalso;omega))|refine Ob.intro ?_ ?_)
  ·refine Le.of_eq ?_
   rw [Lx.sign_one (h0 (by omega)) (h1 (by omega)) (h2 (by omega)),zb hb];rfl
  ·refine Le.of_eq ?_
   rw [Lx.sign_one (h0 (by omega)) (h1 (by omega)) (h2 (by omega)),za hb];rfl
theorem jaz (x:Int) (f:Nat→List AV) (h0:f 0=[.int .i64 x]):Le (.slc 1 1 f) (Lx.ints [x]):=
  Le.slc rfl (fun i hi => by obtain rfl : i = 0 := by omega
                             rw [h0];rfl)
theorem jba (x y z:Int) (f:Nat→List AV) (h0:f 0=[.int .i64 x]) (h1:f 1=[.int .i64 y]) (h2:f 2=[.int .i64 z]):Le (.slc 1 3 f) (Lx.ints [x,y,z]):=
 Le.slc rfl (fun i hi=>by
  obtain rfl|rfl|rfl:i=0∨i=1∨i=2:=by omega
  ·rw [h0];rfl
  ·rw [h1];rfl
  ·rw [h2];rfl)
theorem jbb (s:List UInt8) (hs:s.length≤1000000):Con Try.prog 34 [.str s] (.int .i64 (Lx.skipN s)):=by
 refine zK {} 100 Try.func34 (fun c0 rdb=>?_)
 repeat' ((conv=>whnf);first|refine Ob.auto ?_|(apply zB <;> intro hb <;> (try simp at hb) <;> try (exfalso;omega))|refine Ob.intro ?_ ?_)
 (conv=>whnf);refine qgh (fun _=>rfl) 100 1 (fun n:Nat=>⟨[(0,.str s),(3,.int .i64 n)],[],0⟩)
  (fun n=>n≤s.length∧Lx.skipN s=n+Lx.skipN (s.drop n)) (fun n=>s.length - n) 0 ⟨by omega,by simp⟩ subA (fun _=>rfl) (by kernel_rfl) ?_
 rintro n ⟨hn,hsk⟩
 repeat' ((conv=>whnf);first|refine Ob.auto ?_|(apply zB <;> intro hb <;> (try simp at hb) <;> try (exfalso;omega))|refine Ob.intro ?_ ?_)
 (conv=>whnf)
 refine qbt (fun _=>rfl) 100 (qqu (s.drop n) [1] (by simp;omega) (by simp)) (by rfl) ⟨Le.refl _,jaz 1 _ rfl,trivial⟩ (by kernel_rfl) ?_
 have hm:=Lx.spanN_le (Lx.isCls [1]) (s.drop n)
 rw [zp] at hm
 have hbl:=Lx.skip_blank (s.drop n)
 have hst:=Lx.span_stop Lx.blankB (s.drop n)
 change Lx.spanN Lx.blankB (s.drop n)≤_ at hm
 generalize hmm:Lx.spanN (Lx.isCls [1]) (s.drop n)=m
 change Lx.spanN Lx.blankB (s.drop n)=m at hmm
 rw [hmm] at hm hbl hst
 rw [zaa] at hbl hst
 repeat' ((conv=>whnf);first|refine Ob.auto ?_|(apply zB <;> intro hb <;> (try simp at hb) <;> try (exfalso;omega))|refine Ob.intro ?_ ?_)
 ((conv=>whnf);refine qbt (fun _=>rfl) 100 (qqv (s.drop (n+m)) [47,47]) (by rfl) leA (by kernel_rfl) ?_)
 repeat' ((conv=>whnf);first|refine Ob.auto ?_|(refine Br.intro (fun hb=>?_) (fun hb=>?_))|refine Ob.intro ?_ ?_)
 ·have hz:Lx.skipN (s.drop (n+m))=0:=Lx.skip_none (by simpa [Lx.slash2] using hb) hst
  exact Le.of_eq (by rw [hsk,hbl,hz];simp)
 ·have hsl:=Lx.skip_slash (l:=s.drop (n+m)) (by simpa [Lx.slash2] using hb)
  have hix:=Lx.index_line (s.drop (n+m))
  have hll:=Lx.spanN_le (fun b=>b != 10) (s.drop (n+m))
  change Lx.lineN (s.drop (n+m))≤_ at hll
  rw [zp] at hix hll
  ((conv=>whnf);refine qbt (fun _=>rfl) 100 (jay (s.drop (n+m)) 10) (by rfl) leA (by kernel_rfl) ?_)
  change Lib.indexByte (s.drop (n+m)) ((10:Int).toNat.toUInt8)=_ at hix
  rw [hix]
  generalize Lx.lineN (s.drop (n+m))=k at hsl hix hll ⊢
  rw [zaa] at hsl
  by_cases hk:k<s.length - (n+m)
  ·rw [zb hk]
   repeat' ((conv=>whnf);first|refine Ob.auto ?_|(apply zB <;> intro hb <;> (try simp at hb) <;> try (exfalso;omega))|refine Ob.intro ?_ ?_)
   (conv=>whnf);refine Exists.intro (n+m+k) ⟨⟨by omega,?_⟩,subA,by omega⟩
   rw [hsk,hbl,hsl.1]
   omega
  ·rw [za hk]
   repeat' ((conv=>whnf);first|refine Ob.auto ?_|(apply zB <;> intro hb <;> (try simp at hb) <;> try (exfalso;omega))|refine Ob.intro ?_ ?_)
   refine Le.of_eq ?_
   have:s.drop (n+m+k)=[]:=List.drop_eq_nil_of_le (by omega)
   rw [hsk,hbl,hsl.1,this,Lx.skipN_nil]
   congr 1
   omega
theorem jmi (b:UInt8) (r:List UInt8) (hs:r.length≤999999):Con Try.prog 35 [.str (b::r)] (.tup [.int .i64 (Lx.firstK (b::r)),.int .i64 (Lx.firstN (b::r))]):=by
 refine zK {} 100 Try.func35 (fun c0 rdb=>?_)
 repeat' ((conv=>whnf);first|refine Ob.auto ?_|(apply zB <;> intro hb <;> (try simp at hb) <;> try (exfalso;omega))|refine Ob.intro ?_ ?_)
 ((conv=>whnf);refine qbt (fun _=>rfl) 100 (qqt b.toNat) (by rfl) leA (by kernel_rfl) ?_)
 repeat' ((conv=>whnf);first|refine Ob.auto ?_|(apply zB <;> intro hb <;> (try simp at hb) <;> try (exfalso;omega))|refine Ob.intro ?_ ?_)
 ·(conv=>whnf)
  refine qbt (fun _=>rfl) 100 (qqu (b::r) [2,3,4] (by simp;omega) (by simp)) (by rfl) ⟨Le.refl _,jba 2 3 4 _ rfl rfl rfl,trivial⟩ (by kernel_rfl) ?_
  repeat' ((conv=>whnf);first|refine Ob.auto ?_|(apply zB <;> intro hb <;> (try simp at hb) <;> try (exfalso;omega))|refine Ob.intro ?_ ?_)
  refine Le.of_eq ?_
  simp only [Lx.firstK,Lx.firstN,zb hb]
  rfl
 ·(conv=>whnf)
  refine qbt (fun _=>rfl) 100 (qqu (b::r) [3] (by simp;omega) (by simp)) (by rfl) ⟨Le.refl _,jaz 3 _ rfl,trivial⟩ (by kernel_rfl) ?_
  have h2:¬ Lx.cls (b.toNat:Int)=2:=by rename_i h;exact h
  have h3:Lx.cls (b.toNat:Int)=3:=hb
  repeat' ((conv=>whnf);first|refine Ob.auto ?_|(apply zB <;> intro hb <;> (try simp at hb) <;> try (exfalso;omega))|refine Ob.intro ?_ ?_)
  ·refine Le.of_eq ?_
   have:6<Lx.spanN Lx.digB (b::r):=by change 6<Lx.spanN (Lx.isCls [3]) (b::r);omega
   simp only [Lx.firstK,Lx.firstN,za h2,zb h3,zb this]
   rfl
  ·refine Le.of_eq ?_
   have:¬ 6<Lx.spanN Lx.digB (b::r):=by change ¬ 6<Lx.spanN (Lx.isCls [3]) (b::r);omega
   simp only [Lx.firstK,Lx.firstN,za h2,zb h3,za this]
   rfl
 ·have h2:¬ Lx.cls (b.toNat:Int)=2:=by rename_i h;exact h
  have h3:¬ Lx.cls (b.toNat:Int)=3:=hb
  ((conv=>whnf);refine qbt (fun _=>rfl) 100 (jmh b r) (by rfl) leA (by kernel_rfl) ?_)
  repeat' ((conv=>whnf);first|refine Ob.auto ?_|(apply zB <;> intro hb <;> (try simp at hb) <;> try (exfalso;omega))|refine Ob.intro ?_ ?_)
  refine Le.of_eq ?_
  simp only [Lx.firstK,Lx.firstN,za h2,za h3]
theorem qlu (s:List UInt8) (hs:s.length≤1000000):Con Try.prog 18 [.str s] (Lx.lexAV s):=by
 have hfit:=Lx.skipN_le s
 refine zK {owns:=[(4,(41,3))]} 300 Try.func18 (fun c0 rdb=>?_)
 repeat' ((conv=>whnf);first|refine Ob.auto ?_|(apply zB <;> intro hb <;> (try simp at hb) <;> try (exfalso;omega))|refine Ob.intro ?_ ?_)
 ·rw [Lx.lexAV,Lx.lexAll,zb (by omega)]
  exact Le.tup ⟨Le.nils 3 _,Le.refl _,trivial⟩
 ((conv=>whnf);refine qbt (fun _=>rfl) 300 (jbb s hs) (by rfl) leA (by kernel_rfl) ?_)
 repeat' ((conv=>whnf);first|refine Ob.auto ?_|(apply zB <;> intro hb <;> (try simp at hb) <;> try (exfalso;omega))|refine Ob.intro ?_ ?_)
 (conv=>whnf);refine qgh (fun _=>rfl) 300 1 (fun g:List Lx.Tok × Nat=>⟨[(0,.str s),(3,.ptr 0 0),(4,.own 1 0 0 g.1.length),(5,.int .i64 g.2)],[(1,.row [] 41 3 0 g.1.length (encL Lx.encTok Lx.tok0 g.1)),(0,.box 26 [.int .i64 0,.int .i64 0])],2⟩)
  (fun g=>g.2≤s.length∧Lx.lexR s 0=Lx.prep g.1 (Lx.lexR (s.drop g.2) g.2)∧Lx.skipN (s.drop g.2)=0∧g.1.length≤g.2) (fun g=>s.length - g.2) ([],Lx.skipN s) ⟨hfit,by simpa [Lx.prep_nil] using (Lx.lexR_skip s 0).symm,Lx.skip_done s,by simp⟩ subA (fun _=>rfl) (by kernel_rfl) ?_
 rintro ⟨acc,p⟩ ⟨hp,hr,hz,hl⟩
 simp only at hp hr hz hl
 repeat' ((conv=>whnf);first|refine Ob.auto ?_|(apply zB <;> intro hb <;> (try simp at hb) <;> try (exfalso;omega))|refine Ob.intro ?_ ?_)
 ·obtain ⟨b,hd,-⟩:=Lx.drop_cons hb
  generalize s.drop (p+1)=r at hd
  have hlen:=congrArg List.length hd
  simp only [zp,zn] at hlen
  rw [hd] at hr hz
  rw [Lx.lexR_tok hz] at hr
  have hn:=Lx.firstN_le b r
  have hk:=Lx.firstK_range (b::r)
  rw [zn] at hn
  (conv=>whnf)
  refine qbt (fun _=>rfl) 300 (jmi b r (by omega)) (by rfl) ⟨Le.of_eq (by rw [← hd];rfl),trivial⟩ (by kernel_rfl) ?_
  repeat' ((conv=>whnf);first|refine Ob.auto ?_|(apply zB <;> intro hb <;> (try simp at hb) <;> try (exfalso;omega))|refine Ob.intro ?_ ?_)
  ·rw [zb hb] at hr
   rw [Lx.lexAV,Lx.lexAll,za (by omega),hr]
   exact Le.tup ⟨Le.nils 3 _,Le.refl _,trivial⟩
  ·rw [za hb,Lx.prep_snoc] at hr
   generalize hnn:Lx.firstN (b::r)=n at *
   have hq:((p:Int)+(n:Int)).toNat=p+n:=by omega
   have hdr:s.drop (p+n)=(b::r).drop n:=by rw [← hd,zaa]
   have htk:(s.take (p+n)).drop p=(b::r).take n:=by rw [← hd,zaw,xv]
   have hsk:=Lx.skipN_le (s.drop (p+n))
   rw [zp] at hsk
   (conv=>whnf)
   refine qbt (fun _=>rfl) 300 (jbb (s.drop (p+n)) (by rw [zp];omega)) (by rfl) ⟨Le.of_eq (by rw [← hq]),trivial⟩ (by kernel_rfl) ?_
   repeat' ((conv=>whnf);first|refine Ob.auto ?_|(apply zB <;> intro hb <;> (try simp at hb) <;> try (exfalso;omega))|refine Ob.intro ?_ ?_)
   (conv=>whnf);refine Exists.intro (acc++[⟨Lx.firstK (b::r),(b::r).take n,p⟩],p+n+Lx.skipN (s.drop (p+n))) ⟨⟨by omega,?_,?_,?_⟩,?_,by omega⟩
   ·rw [hr,← hdr,← Lx.lexR_skip (s.drop (p+n)) (p+n),zaa]
   ·have:=Lx.skip_done (s.drop (p+n))
    rwa [zaa] at this
   ·simp;omega
   ·refine ⟨subA,⟨⟨rfl,rfl,rfl⟩,rfl,by simp,fun i _=>LeL.of_eq (congrFun (qje Lx.encTok Lx.tok0 acc ⟨Lx.firstK (b::r),(b::r).take n,p⟩ _ ?_) i)⟩,subA⟩
    refine congrArg (fun x=>[AV.int .i64 (Lx.firstK (b::r)),AV.str x,AV.int .i64 p]) ?_
    rw [← htk,← hq];rfl
 ·have hpe:p=s.length:=by omega
  subst hpe
  rw [List.drop_length,Lx.lexR_nil] at hr
  rw [Lx.lexAV,Lx.lexAll,za (by omega),hr]
  refine Le.tup (ys:=[_,_]) ⟨Le.of_eq (Eq.trans (congrArg (AV.slc 3 (acc.length+1)) (qje Lx.encTok Lx.tok0 acc ⟨3,[],s.length⟩ _ rfl)) ?_),Le.refl _,trivial⟩
  simp [Lx.prep,Lx.toks,slcL]
end Go.Proofs.Ythfaleaojlnnoaa
end
