/- Contracts of the lexer's spans. -/
import Derived.Test.YthfaleaojlnnoaaY712
import Derived.Test.YthfaleaojlnnoaaY72
set_option linter.unusedSimpArgs false
set_option linter.unusedVariables false
namespace Go.Proofs.Ythfaleaojlnnoaa
open Go.Sx Go.RowKit
set_option maxRecDepth 100000
theorem qpy (s:List UInt8) (cl:List Int) (hs:s.length≤1000000) (hc:cl.length≤1000000):Con Try.prog 53 [.str s,Lx.ints cl] (.int .i64 (Lx.spanN (Lx.isCls cl) s)):=by
 refine zK {} 300 Try.func53 (fun c0 rdb=>?_)
 repeat' ((conv=>whnf);first|refine Ob.auto ?_|(apply zB <;> intro hb <;> (try simp at hb) <;> try (exfalso;omega))|refine Ob.intro ?_ ?_)
 (conv=>whnf);refine qmb (fun _=>rfl) 300 1 (fun k:Nat=>⟨[(0,.str s),(1,Lx.ints cl),(10,.int .i64 s.length),(11,.int .i64 k)],[],0⟩)
  (fun k=>k≤s.length∧Lx.spanN (Lx.isCls cl) s=k+Lx.spanN (Lx.isCls cl) (s.drop k)) (fun k=>s.length - k) 0 ⟨by omega,by simp⟩ subA (fun _=>rfl) (by kernel_rfl) ?_
 rintro k ⟨hk,hsp⟩
 repeat' ((conv=>whnf);first|refine Ob.auto ?_|(apply zB <;> intro hb <;> (try simp at hb) <;> try (exfalso;omega))|refine Ob.intro ?_ ?_)
 rotate_left 1
 ·refine Le.of_eq ?_
  have:s.drop k=[]:=List.drop_eq_nil_of_le (by omega)
  rw [hsp,this]
  simp [Lx.spanN]
  omega
 ·obtain ⟨b,hdb,hby⟩:=Lx.drop_cons hb
  (conv=>whnf);refine qmb (fun _=>rfl) 300 2 (fun j:Nat=>⟨[(0,.str s),(1,Lx.ints cl),(5,.int .i64 k),(6,.bool ((cl.take j).any fun c=>Lx.cls (b.toNat:Int) == c)),(10,.int .i64 s.length),(11,.int .i64 k),(14,Lx.ints cl),(15,.int .i64 cl.length),(16,.int .i64 j)],[],0⟩)
   (fun j=>j≤cl.length) (fun j=>cl.length - j) 0 (by omega) subA (fun _=>rfl) (by kernel_rfl) ?_
  intro j hj
  repeat' ((conv=>whnf);first|refine Ob.auto ?_|(apply zB <;> intro hb <;> (try simp at hb) <;> try (exfalso;omega))|refine Ob.intro ?_ ?_)
  ·((conv=>whnf);refine qcn (fun _=>rfl) 300 (fun _=>qnk (qcl s k)) (by rfl) (fun hg=>by repeat' (first|exact trivial|exact Le.refl _|exact Le.cnd hg|(refine And.intro ?_ ?_))) (by kernel_rfl) ?_)
   repeat' ((conv=>whnf);first|refine Ob.auto ?_|(apply zB <;> intro hb <;> (try simp at hb) <;> try (exfalso;omega))|refine Ob.intro ?_ ?_)
   (conv=>whnf);refine Exists.intro (j+1) ⟨by omega,?_,by omega⟩
   refine ⟨?_,trivial⟩
   repeat' (first|exact trivial|exact Le.refl _|exact Le.of_eq (by congr 1;omega)|(refine And.intro ?_ ?_))
   refine Le.of_eq ?_
   rw [Lx.getD_take_any _ _ _ ‹j<cl.length›,hby]
   rfl
  ·refine Le.of_eq ?_
   have hj':j=cl.length:=by omega
   have:Lx.isCls cl b=false:=by
    simp only [Lx.isCls,List.any_eq_false,xn]
    rw [hj',zam] at hb
    exact fun c hc=>hb c hc
   rw [hsp,hdb,Lx.spanN,this]
   simp
  ·have hj':j=cl.length:=by omega
   have:Lx.isCls cl b=true:=by
    simp only [Lx.isCls,List.any_eq_true,xn]
    rw [hj',zam] at hb
    exact ⟨_,hb,rfl⟩
   (conv=>whnf);refine Exists.intro (k+1) ⟨⟨by omega,?_⟩,subA,by omega⟩
   rw [hsp,hdb,Lx.spanN,this]
   simp
   omega
theorem jld (s p:List UInt8):Con Try.prog 77 [.str s,.str p] (.bool (p.isPrefixOf s)):=by
 refine zK {} 100 Try.func77 (fun c0 rdb=>?_)
 repeat' ((conv=>whnf);first|refine Ob.auto ?_|(apply zB <;> intro hb <;> (try simp at hb) <;> try (exfalso;omega))|refine Ob.intro ?_ ?_)
 refine Le.of_eq ?_
 congr 1
 rw [xc]
 simp only [zf,zo,xn,Int.toNat_natCast,List.isPrefixOf_iff_prefix,List.prefix_iff_eq_take]
 constructor
 ·rintro ⟨_,h⟩;exact h.symm
 ·intro h
  refine ⟨?_,h.symm⟩
  have:=congrArg List.length h
  rw [xr] at this
  omega
theorem qpz (s p:List UInt8):Con Try.prog 54 [.str s,.str p] (.bool (p.isPrefixOf s)):=by
 refine zK {} 100 Try.func54 (fun c0 rdb=>?_)
 repeat' ((conv=>whnf);first|refine Ob.auto ?_|(apply zB <;> intro hb <;> (try simp at hb) <;> try (exfalso;omega))|refine Ob.intro ?_ ?_)
 ((conv=>whnf);refine qau (fun _=>rfl) 100 (jld s p) (by rfl) leA (by kernel_rfl) ?_)
 repeat' ((conv=>whnf);first|refine Ob.auto ?_|(apply zB <;> intro hb <;> (try simp at hb) <;> try (exfalso;omega))|refine Ob.intro ?_ ?_)
 exact Le.refl _
theorem jle (b:UInt8) (r:List UInt8):Con Try.prog 57 [.str (b::r)] (.int .i64 (Lx.signN (b::r))):=by
 refine zK {} 100 Try.func57 (fun c0 rdb=>?_)
 repeat' ((conv=>whnf);first|refine Ob.auto ?_|(apply zB <;> intro hb <;> (try simp at hb) <;> try (exfalso;omega))|refine Ob.intro ?_ ?_)
 (conv=>whnf);refine qmb (fun _=>rfl) 100 1 (fun k:Nat=>⟨[(0,.str (b::r)),(5,.agg [.str [61,61],.str [38,38],.str [124,124]]),(6,.int .i64 k)],[],0⟩)
  (fun k=>k≤3∧(0<k→[61,61].isPrefixOf (b::r)=false)∧(1<k→[38,38].isPrefixOf (b::r)=false)∧(2<k→[124,124].isPrefixOf (b::r)=false)) (fun k=>3 - k) 0 ⟨by omega,by omega,by omega,by omega⟩ subA (fun _=>rfl) (by kernel_rfl) ?_
 rintro k ⟨hk,h0,h1,h2⟩
 obtain rfl|rfl|rfl|rfl:k=0∨k=1∨k=2∨k=3:=by omega
 ·repeat' ((conv=>whnf);first|refine Ob.auto ?_|(apply zB <;> intro hb <;> (try simp at hb) <;> try (exfalso;omega))|refine Ob.intro ?_ ?_)
  ((conv=>whnf);refine qau (fun _=>rfl) 100 (qpz (b::r) [61,61]) (by rfl) leA (by kernel_rfl) ?_)
  repeat' ((conv=>whnf);first|refine Ob.auto ?_|(refine Br.intro (fun hb=>?_) (fun hb=>?_))|refine Ob.intro ?_ ?_)
  ·exact Le.of_eq (by rw [Lx.sign_two (.inl hb)];rfl)
  ·(conv=>whnf);refine Exists.intro 1 ⟨⟨by omega,fun _=>hb,by omega,by omega⟩,subA,by omega⟩
 ·repeat' ((conv=>whnf);first|refine Ob.auto ?_|(apply zB <;> intro hb <;> (try simp at hb) <;> try (exfalso;omega))|refine Ob.intro ?_ ?_)
  ((conv=>whnf);refine qau (fun _=>rfl) 100 (qpz (b::r) [38,38]) (by rfl) leA (by kernel_rfl) ?_)
  repeat' ((conv=>whnf);first|refine Ob.auto ?_|(refine Br.intro (fun hb=>?_) (fun hb=>?_))|refine Ob.intro ?_ ?_)
  ·exact Le.of_eq (by rw [Lx.sign_two (.inr (.inl hb))];rfl)
  ·(conv=>whnf);refine Exists.intro 2 ⟨⟨by omega,fun _=>h0 (by omega),fun _=>hb,by omega⟩,subA,by omega⟩
 ·repeat' ((conv=>whnf);first|refine Ob.auto ?_|(apply zB <;> intro hb <;> (try simp at hb) <;> try (exfalso;omega))|refine Ob.intro ?_ ?_)
  ((conv=>whnf);refine qau (fun _=>rfl) 100 (qpz (b::r) [124,124]) (by rfl) leA (by kernel_rfl) ?_)
  repeat' ((conv=>whnf);first|refine Ob.auto ?_|(refine Br.intro (fun hb=>?_) (fun hb=>?_))|refine Ob.intro ?_ ?_)
  ·exact Le.of_eq (by rw [Lx.sign_two (.inr (.inr hb))];rfl)
  ·(conv=>whnf);refine Exists.intro 3 ⟨⟨by omega,fun _=>h0 (by omega),fun _=>h1 (by omega),fun _=>hb⟩,subA,by omega⟩
 ·repeat' ((conv=>whnf);first|refine Ob.auto ?_|(apply zB <;> intro hb <;> (try simp at hb) <;> try (exfalso;omega))|refine Ob.intro ?_ ?_)
  ((conv=>whnf);refine qau (fun _=>rfl) 100 (qnk b.toNat) (by rfl) leA (by kernel_rfl) ?_)
  repeat' ((conv=>whnf);first|refine Ob.auto ?_|(apply zB <;> intro hb <;> (try simp at hb) <;> try (exfalso;omega))|refine Ob.intro ?_ ?_)
  ·refine Le.of_eq ?_
   rw [Lx.sign_one (h0 (by omega)) (h1 (by omega)) (h2 (by omega)),zb hb];rfl
  ·refine Le.of_eq ?_
   rw [Lx.sign_one (h0 (by omega)) (h1 (by omega)) (h2 (by omega)),za hb];rfl
theorem jae (x:Int) (f:Nat→List AV) (h0:f 0=[.int .i64 x]):Le (.slc 1 1 f) (Lx.ints [x]):=
  Le.slc rfl (fun i hi => by obtain rfl : i = 0 := by omega
                             rw [h0];rfl)
theorem jaf (x y z:Int) (f:Nat→List AV) (h0:f 0=[.int .i64 x]) (h1:f 1=[.int .i64 y]) (h2:f 2=[.int .i64 z]):Le (.slc 1 3 f) (Lx.ints [x,y,z]):=
 Le.slc rfl (fun i hi=>by
  obtain rfl|rfl|rfl:i=0∨i=1∨i=2:=by omega
  ·rw [h0];rfl
  ·rw [h1];rfl
  ·rw [h2];rfl)
theorem jag (s:List UInt8) (hs:s.length≤1000000):Con Try.prog 34 [.str s] (.int .i64 (Lx.skipN s)):=by
 refine zK {} 100 Try.func34 (fun c0 rdb=>?_)
 repeat' ((conv=>whnf);first|refine Ob.auto ?_|(apply zB <;> intro hb <;> (try simp at hb) <;> try (exfalso;omega))|refine Ob.intro ?_ ?_)
 (conv=>whnf);refine qmb (fun _=>rfl) 100 1 (fun n:Nat=>⟨[(0,.str s),(3,.int .i64 n)],[],0⟩)
  (fun n=>n≤s.length∧Lx.skipN s=n+Lx.skipN (s.drop n)) (fun n=>s.length - n) 0 ⟨by omega,by simp⟩ subA (fun _=>rfl) (by kernel_rfl) ?_
 rintro n ⟨hn,hsk⟩
 repeat' ((conv=>whnf);first|refine Ob.auto ?_|(apply zB <;> intro hb <;> (try simp at hb) <;> try (exfalso;omega))|refine Ob.intro ?_ ?_)
 (conv=>whnf)
 refine qau (fun _=>rfl) 100 (qpy (s.drop n) [1] (by simp;omega) (by simp)) (by rfl) ⟨Le.refl _,jae 1 _ rfl,trivial⟩ (by kernel_rfl) ?_
 have hm:=Lx.spanN_le (Lx.isCls [1]) (s.drop n)
 rw [zr] at hm
 have hbl:=Lx.skip_blank (s.drop n)
 have hst:=Lx.span_stop Lx.blankB (s.drop n)
 change Lx.spanN Lx.blankB (s.drop n)≤_ at hm
 generalize hmm:Lx.spanN (Lx.isCls [1]) (s.drop n)=m
 change Lx.spanN Lx.blankB (s.drop n)=m at hmm
 rw [hmm] at hm hbl hst
 rw [zar] at hbl hst
 repeat' ((conv=>whnf);first|refine Ob.auto ?_|(apply zB <;> intro hb <;> (try simp at hb) <;> try (exfalso;omega))|refine Ob.intro ?_ ?_)
 ((conv=>whnf);refine qau (fun _=>rfl) 100 (qpz (s.drop (n+m)) [47,47]) (by rfl) leA (by kernel_rfl) ?_)
 repeat' ((conv=>whnf);first|refine Ob.auto ?_|(refine Br.intro (fun hb=>?_) (fun hb=>?_))|refine Ob.intro ?_ ?_)
 ·have hz:Lx.skipN (s.drop (n+m))=0:=Lx.skip_none (by simpa [Lx.slash2] using hb) hst
  exact Le.of_eq (by rw [hsk,hbl,hz];simp)
 ·have hsl:=Lx.skip_slash (l:=s.drop (n+m)) (by simpa [Lx.slash2] using hb)
  have hix:=Lx.index_line (s.drop (n+m))
  have hll:=Lx.spanN_le (fun b=>b != 10) (s.drop (n+m))
  change Lx.lineN (s.drop (n+m))≤_ at hll
  rw [zr] at hix hll
  ((conv=>whnf);refine qau (fun _=>rfl) 100 (jad (s.drop (n+m)) 10) (by rfl) leA (by kernel_rfl) ?_)
  change Lib.indexByte (s.drop (n+m)) ((10:Int).toNat.toUInt8)=_ at hix
  rw [hix]
  generalize Lx.lineN (s.drop (n+m))=k at hsl hix hll ⊢
  rw [zar] at hsl
  by_cases hk:k<s.length - (n+m)
  ·rw [zb hk]
   repeat' ((conv=>whnf);first|refine Ob.auto ?_|(apply zB <;> intro hb <;> (try simp at hb) <;> try (exfalso;omega))|refine Ob.intro ?_ ?_)
   (conv=>whnf);refine Exists.intro (n+m+k) ⟨⟨by omega,?_⟩,subA,by omega⟩
   rw [hsk,hbl,hsl.1]
   omega
  ·rw [za hk]
   repeat' ((conv=>whnf);first|refine Ob.auto ?_|(apply zB <;> intro hb <;> (try simp at hb) <;> try (exfalso;omega))|refine Ob.intro ?_ ?_)
   refine Le.of_eq ?_
   have:s.drop (n+m+k)=[]:=List.drop_eq_nil_of_le (by omega)
   rw [hsk,hbl,hsl.1,this,Lx.skipN_nil]
   congr 1
   omega
theorem jlf (b:UInt8) (r:List UInt8) (hs:r.length≤999999):Con Try.prog 35 [.str (b::r)] (.tup [.int .i64 (Lx.firstK (b::r)),.int .i64 (Lx.firstN (b::r))]):=by
 refine zK {} 100 Try.func35 (fun c0 rdb=>?_)
 repeat' ((conv=>whnf);first|refine Ob.auto ?_|(apply zB <;> intro hb <;> (try simp at hb) <;> try (exfalso;omega))|refine Ob.intro ?_ ?_)
 ((conv=>whnf);refine qau (fun _=>rfl) 100 (qnk b.toNat) (by rfl) leA (by kernel_rfl) ?_)
 repeat' ((conv=>whnf);first|refine Ob.auto ?_|(apply zB <;> intro hb <;> (try simp at hb) <;> try (exfalso;omega))|refine Ob.intro ?_ ?_)
 ·(conv=>whnf)
  refine qau (fun _=>rfl) 100 (qpy (b::r) [2,3,4] (by simp;omega) (by simp)) (by rfl) ⟨Le.refl _,jaf 2 3 4 _ rfl rfl rfl,trivial⟩ (by kernel_rfl) ?_
  repeat' ((conv=>whnf);first|refine Ob.auto ?_|(apply zB <;> intro hb <;> (try simp at hb) <;> try (exfalso;omega))|refine Ob.intro ?_ ?_)
  refine Le.of_eq ?_
  simp only [Lx.firstK,Lx.firstN,zb hb]
  rfl
 ·(conv=>whnf)
  refine qau (fun _=>rfl) 100 (qpy (b::r) [3] (by simp;omega) (by simp)) (by rfl) ⟨Le.refl _,jae 3 _ rfl,trivial⟩ (by kernel_rfl) ?_
  have h2:¬ Lx.cls (b.toNat:Int)=2:=by rename_i h;exact h
  have h3:Lx.cls (b.toNat:Int)=3:=hb
  repeat' ((conv=>whnf);first|refine Ob.auto ?_|(apply zB <;> intro hb <;> (try simp at hb) <;> try (exfalso;omega))|refine Ob.intro ?_ ?_)
  ·refine Le.of_eq ?_
   have:6<Lx.spanN Lx.digB (b::r):=by change 6<Lx.spanN (Lx.isCls [3]) (b::r);omega
   simp only [Lx.firstK,Lx.firstN,za h2,zb h3,zb this]
   rfl
  ·refine Le.of_eq ?_
   have:¬ 6<Lx.spanN Lx.digB (b::r):=by change ¬ 6<Lx.spanN (Lx.isCls [3]) (b::r);omega
   simp only [Lx.firstK,Lx.firstN,za h2,zb h3,za this]
   rfl
 ·have h2:¬ Lx.cls (b.toNat:Int)=2:=by rename_i h;exact h
  have h3:¬ Lx.cls (b.toNat:Int)=3:=hb
  ((conv=>whnf);refine qau (fun _=>rfl) 100 (jle b r) (by rfl) leA (by kernel_rfl) ?_)
  repeat' ((conv=>whnf);first|refine Ob.auto ?_|(apply zB <;> intro hb <;> (try simp at hb) <;> try (exfalso;omega))|refine Ob.intro ?_ ?_)
  refine Le.of_eq ?_
  simp only [Lx.firstK,Lx.firstN,za h2,za h3]
end Go.Proofs.Ythfaleaojlnnoaa
