/- Some texts of the library, one behind the other. -/
import Derived.Test.YthfaleaojlnnoaaY514
import Derived.Test.YthfaleaojlnnoaaY5LexPlain
import Derived.Test.YthfaleaojlnnoaaProg
import Derived.Test.YthfaleaojlnnoaaY52
set_option linter.unusedSimpArgs false
set_option linter.unusedVariables false
section
namespace Go.Proofs.Ythfaleaojlnnoaa
namespace Pa
open Go Go.Sx
abbrev TokK (ts:List Lx.Tok):Prop:=∀ t∈ts,(t.kind=3∧t.s=[])∨(t.s≠[]∧t.kind=Lx.firstK t.s)
theorem joe:∀ (n:Nat) (l:List UInt8) (p:Nat) (ts:List Lx.Tok),l.length≤n→Lx.lexR l p=.ok ts→TokK ts:=by
 intro n
 induction n with
 | zero=>
  intro l p ts hl h
  obtain rfl:l=[]:=List.length_eq_zero_iff.1 (by omega)
  rw [Lx.lexR_nil] at h
  cases h
  intro t ht
  rw [List.mem_singleton.1 ht]
  exact .inl ⟨rfl,rfl⟩
 | succ n ih=>
  intro l p ts hl h
  cases l with
  | nil=>
   rw [Lx.lexR_nil] at h
   cases h
   intro t ht
   rw [List.mem_singleton.1 ht]
   exact .inl ⟨rfl,rfl⟩
  | cons b r=>
   have hr:r.length≤n:=by simpa using hl
   rw [Lx.lexR_cons] at h
   split at h
   ·exact ih r _ ts hr h
   split at h
   ·exact ih (r.drop (Lx.lineN r)) _ ts (by rw [zq];omega) h
   split at h
   ·cases h
   ·rename_i h0
    cases hx:Lx.lexR (r.drop (Lx.firstN (b::r) - 1)) (p+Lx.firstN (b::r)) with
    | error e=>rw [hx] at h;cases h
    | ok ts'=>
     rw [hx] at h
     cases h
     have h1:=ih (r.drop (Lx.firstN (b::r) - 1)) _ ts' (by rw [zq];omega) hx
     intro t ht
     rcases List.mem_cons.1 ht with rfl|ht
     ·obtain ⟨k,hk⟩:∃ k,Lx.firstN (b::r)=k+1:=⟨Lx.firstN (b::r) - 1,by omega⟩
      refine .inr ⟨?_,?_⟩
      ·show (b::r).take (Lx.firstN (b::r))≠[]
       rw [hk];simp
      ·show Lx.firstK (b::r)=Lx.firstK ((b::r).take (Lx.firstN (b::r)))
       rw [hk,List.take_succ_cons];rfl
     ·exact h1 t ht
theorem jof {s:List UInt8} (h:(Lx.lexAll s).2.1=0):TokK (Lx.lexAll s).1:=by
 unfold Lx.lexAll at h ⊢
 split at h
 ·simp at h
 rename_i hs
 rw [ze hs]
 split at h
 ·rename_i ts hts
  exact joe _ s 0 ts (zj _) hts
 ·simp at h
def kwB (s:List UInt8):Bool:=!s.isEmpty && (Lx.firstK s == 2 || Lx.firstK s == 0 && Go.St.keyF s)
theorem qdt {ts:List Lx.Tok} (hk:TokK ts) {p:Ps} (h:AtOk ts p) (he:p.err=0) {s:List UInt8} (hs:kwB s=true):sees ts p s=((tk ts p).s == s):=by
 unfold kwB at hs
 simp only [zh,xn,zab,xw] at hs
 unfold sees qom
 rw [he]
 by_cases e:(tk ts p).s=s
 ·rcases hk _ (qhs h) with ⟨_,h2⟩|⟨_,h2⟩
  ·rw [e] at h2;rw [h2] at hs;simp at hs
  ·rw [e] at h2
   rw [h2,beq_iff_eq.2 e]
   rcases hs.2 with h3|h3
   ·rw [h3];rfl
   ·rw [h3.1,h3.2];rfl
 ·rw [beq_eq_false_iff_ne.2 e];rfl
mutual
def Tr.pvA:Tr→AV
 | .mk k w n a l=>.rptr [iv k,strs w,ints n,.nils,iv a,.slc 1 l.length fun i=>[(Tr.pvL l).getD i .nilp]]
def Tr.pvL:List Tr→List AV
 | []=>[]
 | t::r=>t.pvA::Tr.pvL r
end
def qox (l:List Tr):AV:=.slc 1 l.length fun i=>[(Tr.pvL l).getD i .nilp]
def Tr.cellsB (t:Tr):List AV:=[iv t.kind,strs t.words,ints t.nums,.nils,iv t.at_,qox t.l]
def Tr.pv (t:Tr):AV:=.rptr t.cellsB
theorem Tr.pvA_eq (t:Tr):t.pvA=t.pv:=by cases t;rfl
theorem Tr.pvL_get:∀ (l:List Tr) (i:Nat),i<l.length→(Tr.pvL l).getD i .nilp=(l.getD i Tr.none).pv
 | [],i,h=>absurd h (xf i)
 | t::r,0,_=>by rw [Tr.pvL];exact t.pvA_eq
 | t::r,i+1,h=>by
  have:=Tr.pvL_get r i (by simpa using h)
  rw [Tr.pvL]
  simpa using this
def opF (n:Int) (s:List UInt8):Int:=
 if n=0 then (if s=sOr2 then 0 else -1) else if n=1 then (if s=qhr then 1 else -1) else if n=2 then (if s=sEq2 then 2 else -1) else if n=3 then (if s=sLt then 3 else -1)
 else if n=4 then (if s=qok then 4 else if s=qaq then 5 else -1) else if n=5 then (if s=qai then 6 else if s=qol then 7 else if s=sPct then 8 else -1) else -1
def qdm (ts:List Lx.Tok) (part:Ps→Tr × Ps) (n:Int):Ps→Tr × Ps:=
 if n=0 then qal ts part else if n=1 then andF ts part else if n=2 then qcp ts part else if n=3 then qch ts part else if n=4 then sumF ts part else if n=5 then qbm ts part else part
end Pa
end Go.Proofs.Ythfaleaojlnnoaa
end
section
namespace Go.Proofs.Ythfaleaojlnnoaa
open Go.Sx Go.RowKit
set_option maxRecDepth 100000
theorem jog (l:List UInt8) (c:Int):Con Try.prog 97 [.str l,.int .u8 c] (.int .i64 (Lib.indexByte l c.toNat.toUInt8)):=
 jim Try.func97 (by kernel_rfl) (by kernel_rfl) (by kernel_rfl) (by kernel_rfl) l c
theorem joh (l:List UInt8) (c:Int):Con Try.prog 78 [.str l,.int .u8 c] (.int .i64 (Lib.indexByte l c.toNat.toUInt8)):=by
 refine zK {} 100 Try.func78 (fun c0 rdb=>?_)
 repeat' ((conv=>whnf);first|refine Ob.auto ?_|(apply zB <;> intro hb <;> (try simp at hb) <;> try (exfalso;omega))|refine Ob.intro ?_ ?_)
 ((conv=>whnf);refine qce (fun _=>rfl) 100 (jog l c) (by rfl) leA (by kernel_rfl) ?_)
 repeat' ((conv=>whnf);first|refine Ob.auto ?_|(apply zB <;> intro hb <;> (try simp at hb) <;> try (exfalso;omega))|refine Ob.intro ?_ ?_)
 exact Le.refl _
theorem jcd (l:List UInt8) (c:Int):Con Try.prog 55 [.str l,.int .u8 c] (.int .i64 (Lib.indexByte l c.toNat.toUInt8)):=by
 refine zK {} 100 Try.func55 (fun c0 rdb=>?_)
 repeat' ((conv=>whnf);first|refine Ob.auto ?_|(apply zB <;> intro hb <;> (try simp at hb) <;> try (exfalso;omega))|refine Ob.intro ?_ ?_)
 ((conv=>whnf);refine qce (fun _=>rfl) 100 (joh l c) (by rfl) leA (by kernel_rfl) ?_)
 repeat' ((conv=>whnf);first|refine Ob.auto ?_|(apply zB <;> intro hb <;> (try simp at hb) <;> try (exfalso;omega))|refine Ob.intro ?_ ?_)
 exact Le.refl _
theorem qrn (c:Int):Con Try.prog 56 [.int .u8 c] (.int .i64 (Lx.cls c)):=by
 refine zK {} 300 Try.func56 (fun c0 rdb=>?_)
 repeat' ((conv=>whnf);first|refine Ob.auto ?_|(apply zB <;> intro hb <;> (try simp at hb) <;> try (exfalso;omega))|refine Ob.intro ?_ ?_)
 rotate_right 1
 ·((conv=>whnf);refine qce (fun _=>rfl) 100 (jcd Lx.signs c) (by rfl) leA (by kernel_rfl) ?_)
  repeat' ((conv=>whnf);first|refine Ob.auto ?_|(apply zB <;> intro hb <;> (try simp at hb) <;> try (exfalso;omega))|refine Ob.intro ?_ ?_)
  ·refine Le.of_eq ?_
   simp only [Lx.cls]
   grind
  ·refine Le.of_eq ?_
   simp only [Lx.cls]
   grind
 all_goals
  refine Le.of_eq ?_
  simp only [Lx.cls]
  grind
theorem qro (s:List UInt8) (cl:List Int) (hs:s.length≤1000000) (hc:cl.length≤1000000):Con Try.prog 53 [.str s,Lx.ints cl] (.int .i64 (Lx.spanN (Lx.isCls cl) s)):=by
 refine zK {} 300 Try.func53 (fun c0 rdb=>?_)
 repeat' ((conv=>whnf);first|refine Ob.auto ?_|(apply zB <;> intro hb <;> (try simp at hb) <;> try (exfalso;omega))|refine Ob.intro ?_ ?_)
 (conv=>whnf);refine qgu (fun _=>rfl) 300 1 (fun k:Nat=>⟨[(0,.str s),(1,Lx.ints cl),(10,.int .i64 s.length),(11,.int .i64 k)],[],0⟩)
  (fun k=>k≤s.length∧Lx.spanN (Lx.isCls cl) s=k+Lx.spanN (Lx.isCls cl) (s.drop k)) (fun k=>s.length - k) 0 ⟨by omega,by simp⟩ subA (fun _=>rfl) (by kernel_rfl) ?_
 rintro k ⟨hk,hsp⟩
 repeat' ((conv=>whnf);first|refine Ob.auto ?_|(apply zB <;> intro hb <;> (try simp at hb) <;> try (exfalso;omega))|refine Ob.intro ?_ ?_)
 rotate_left 1
 ·refine Le.of_eq ?_
  have:s.drop k=[]:=List.drop_eq_nil_of_le (by omega)
  rw [hsp,this]
  simp [Lx.spanN]
  omega
 ·obtain ⟨b,hdb,hby⟩:=Lx.drop_cons hb
  (conv=>whnf);refine qgu (fun _=>rfl) 300 2 (fun j:Nat=>⟨[(0,.str s),(1,Lx.ints cl),(5,.int .i64 k),(6,.bool ((cl.take j).any fun c=>Lx.cls (b.toNat:Int) == c)),(10,.int .i64 s.length),(11,.int .i64 k),(14,Lx.ints cl),(15,.int .i64 cl.length),(16,.int .i64 j)],[],0⟩)
   (fun j=>j≤cl.length) (fun j=>cl.length - j) 0 (by omega) subA (fun _=>rfl) (by kernel_rfl) ?_
  intro j hj
  repeat' ((conv=>whnf);first|refine Ob.auto ?_|(apply zB <;> intro hb <;> (try simp at hb) <;> try (exfalso;omega))|refine Ob.intro ?_ ?_)
  ·((conv=>whnf);refine qhl (fun _=>rfl) 300 (fun _=>qrn (qbj s k)) (by rfl) (fun hg=>by repeat' (first|exact trivial|exact Le.refl _|exact Le.cnd hg|(refine And.intro ?_ ?_))) (by kernel_rfl) ?_)
   repeat' ((conv=>whnf);first|refine Ob.auto ?_|(apply zB <;> intro hb <;> (try simp at hb) <;> try (exfalso;omega))|refine Ob.intro ?_ ?_)
   (conv=>whnf);refine Exists.intro (j+1) ⟨by omega,?_,by omega⟩
   refine ⟨?_,trivial⟩
   repeat' (first|exact trivial|exact Le.refl _|exact Le.of_eq (by congr 1;omega)|(refine And.intro ?_ ?_))
   refine Le.of_eq ?_
   rw [Lx.getD_take_any _ _ _ ‹j<cl.length›,hby]
   rfl
  ·refine Le.of_eq ?_
   have hj':j=cl.length:=by omega
   have:Lx.isCls cl b=false:=by
    simp only [Lx.isCls,List.any_eq_false,xw]
    rw [hj',zaf] at hb
    exact fun c hc=>hb c hc
   rw [hsp,hdb,Lx.spanN,this]
   simp
  ·have hj':j=cl.length:=by omega
   have:Lx.isCls cl b=true:=by
    simp only [Lx.isCls,List.any_eq_true,xw]
    rw [hj',zaf] at hb
    exact ⟨_,hb,rfl⟩
   (conv=>whnf);refine Exists.intro (k+1) ⟨⟨by omega,?_⟩,subA,by omega⟩
   rw [hsp,hdb,Lx.spanN,this]
   simp
   omega
theorem joi (s p:List UInt8):Con Try.prog 77 [.str s,.str p] (.bool (p.isPrefixOf s)):=by
 refine zK {} 100 Try.func77 (fun c0 rdb=>?_)
 repeat' ((conv=>whnf);first|refine Ob.auto ?_|(apply zB <;> intro hb <;> (try simp at hb) <;> try (exfalso;omega))|refine Ob.intro ?_ ?_)
 refine Le.of_eq ?_
 congr 1
 rw [xh]
 simp only [zh,zw,xw,Int.toNat_natCast,List.isPrefixOf_iff_prefix,List.prefix_iff_eq_take]
 constructor
 ·rintro ⟨_,h⟩;exact h.symm
 ·intro h
  refine ⟨?_,h.symm⟩
  have:=congrArg List.length h
  rw [xi] at this
  omega
theorem qrp (s p:List UInt8):Con Try.prog 54 [.str s,.str p] (.bool (p.isPrefixOf s)):=by
 refine zK {} 100 Try.func54 (fun c0 rdb=>?_)
 repeat' ((conv=>whnf);first|refine Ob.auto ?_|(apply zB <;> intro hb <;> (try simp at hb) <;> try (exfalso;omega))|refine Ob.intro ?_ ?_)
 ((conv=>whnf);refine qce (fun _=>rfl) 100 (joi s p) (by rfl) leA (by kernel_rfl) ?_)
 repeat' ((conv=>whnf);first|refine Ob.auto ?_|(apply zB <;> intro hb <;> (try simp at hb) <;> try (exfalso;omega))|refine Ob.intro ?_ ?_)
 exact Le.refl _
theorem joj (b:UInt8) (r:List UInt8):Con Try.prog 57 [.str (b::r)] (.int .i64 (Lx.signN (b::r))):=by
 refine zK {} 100 Try.func57 (fun c0 rdb=>?_)
 repeat' ((conv=>whnf);first|refine Ob.auto ?_|(apply zB <;> intro hb <;> (try simp at hb) <;> try (exfalso;omega))|refine Ob.intro ?_ ?_)
 (conv=>whnf);refine qgu (fun _=>rfl) 100 1 (fun k:Nat=>⟨[(0,.str (b::r)),(5,.agg [.str [61,61],.str [38,38],.str [124,124]]),(6,.int .i64 k)],[],0⟩)
  (fun k=>k≤3∧(0<k→[61,61].isPrefixOf (b::r)=false)∧(1<k→[38,38].isPrefixOf (b::r)=false)∧(2<k→[124,124].isPrefixOf (b::r)=false)) (fun k=>3 - k) 0 ⟨by omega,by omega,by omega,by omega⟩ subA (fun _=>rfl) (by kernel_rfl) ?_
 rintro k ⟨hk,h0,h1,h2⟩
 obtain rfl|rfl|rfl|rfl:k=0∨k=1∨k=2∨k=3:=by omega
 ·repeat' ((conv=>whnf);first|refine Ob.auto ?_|(apply zB <;> intro hb <;> (try simp at hb) <;> try (exfalso;omega))|refine Ob.intro ?_ ?_)
  ((conv=>whnf);refine qce (fun _=>rfl) 100 (qrp (b::r) [61,61]) (by rfl) leA (by kernel_rfl) ?_)
  repeat' ((conv=>whnf);first|refine Ob.auto ?_|(refine Br.intro (fun hb=>?_) (fun hb=>?_))|refine Ob.intro ?_ ?_)
  ·exact Le.of_eq (by rw [Lx.sign_two (.inl hb)];rfl)
  ·(conv=>whnf);refine Exists.intro 1 ⟨⟨by omega,fun _=>hb,by omega,by omega⟩,subA,by omega⟩
 ·repeat' ((conv=>whnf);first|refine Ob.auto ?_|(apply zB <;> intro hb <;> (try simp at hb) <;> try (exfalso;omega))|refine Ob.intro ?_ ?_)
  ((conv=>whnf);refine qce (fun _=>rfl) 100 (qrp (b::r) [38,38]) (by rfl) leA (by kernel_rfl) ?_)
  repeat' ((conv=>whnf);first|refine Ob.auto ?_|(refine Br.intro (fun hb=>?_) (fun hb=>?_))|refine Ob.intro ?_ ?_)
  ·exact Le.of_eq (by rw [Lx.sign_two (.inr (.inl hb))];rfl)
  ·(conv=>whnf);refine Exists.intro 2 ⟨⟨by omega,fun _=>h0 (by omega),fun _=>hb,by omega⟩,subA,by omega⟩
 ·repeat' ((conv=>whnf);first|refine Ob.auto ?_|(apply zB <;> intro hb <;> (try simp at hb) <;> try (exfalso;omega))|refine Ob.intro ?_ ?_)
  ((conv=>whnf);refine qce (fun _=>rfl) 100 (qrp (b::r) [124,124]) (by rfl) leA (by kernel_rfl) ?_)
  repeat' ((conv=>whnf);first|refine Ob.auto ?_|(refine Br.intro (fun hb=>?_) (fun hb=>?_))|refine Ob.intro ?_ ?_)
  ·exact Le.of_eq (by rw [Lx.sign_two (.inr (.inr hb))];rfl)
  ·(conv=>whnf);refine Exists.intro 3 ⟨⟨by omega,fun _=>h0 (by omega),fun _=>h1 (by omega),fun _=>hb⟩,subA,by omega⟩
 ·repeat' ((conv=>whnf);first|refine Ob.auto ?_|(apply zB <;> intro hb <;> (try simp at hb) <;> try (exfalso;omega))|refine Ob.intro ?_ ?_)
  ((conv=>whnf);refine qce (fun _=>rfl) 100 (qrn b.toNat) (by rfl) leA (by kernel_rfl) ?_)
  repeat' ((conv=>whnf);first|refine Ob.auto ?_|(apply zB <;> intro hb <;> (try simp at hb) <;> try (exfalso;omega))|refine Ob.intro ?_ ?_)
  ·refine Le.of_eq ?_
   rw [Lx.sign_one (h0 (by omega)) (h1 (by omega)) (h2 (by omega)),zf hb];rfl
  ·refine Le.of_eq ?_
   rw [Lx.sign_one (h0 (by omega)) (h1 (by omega)) (h2 (by omega)),ze hb];rfl
theorem jce (x:Int) (f:Nat→List AV) (h0:f 0=[.int .i64 x]):Le (.slc 1 1 f) (Lx.ints [x]):=
  Le.slc rfl (fun i hi => by obtain rfl : i = 0 := by omega
                             rw [h0];rfl)
theorem jcf (x y z:Int) (f:Nat→List AV) (h0:f 0=[.int .i64 x]) (h1:f 1=[.int .i64 y]) (h2:f 2=[.int .i64 z]):Le (.slc 1 3 f) (Lx.ints [x,y,z]):=
 Le.slc rfl (fun i hi=>by
  obtain rfl|rfl|rfl:i=0∨i=1∨i=2:=by omega
  ·rw [h0];rfl
  ·rw [h1];rfl
  ·rw [h2];rfl)
theorem jcg (s:List UInt8) (hs:s.length≤1000000):Con Try.prog 34 [.str s] (.int .i64 (Lx.skipN s)):=by
 refine zK {} 100 Try.func34 (fun c0 rdb=>?_)
 repeat' ((conv=>whnf);first|refine Ob.auto ?_|(apply zB <;> intro hb <;> (try simp at hb) <;> try (exfalso;omega))|refine Ob.intro ?_ ?_)
 (conv=>whnf);refine qgu (fun _=>rfl) 100 1 (fun n:Nat=>⟨[(0,.str s),(3,.int .i64 n)],[],0⟩)
  (fun n=>n≤s.length∧Lx.skipN s=n+Lx.skipN (s.drop n)) (fun n=>s.length - n) 0 ⟨by omega,by simp⟩ subA (fun _=>rfl) (by kernel_rfl) ?_
 rintro n ⟨hn,hsk⟩
 repeat' ((conv=>whnf);first|refine Ob.auto ?_|(apply zB <;> intro hb <;> (try simp at hb) <;> try (exfalso;omega))|refine Ob.intro ?_ ?_)
 (conv=>whnf)
 refine qce (fun _=>rfl) 100 (qro (s.drop n) [1] (by simp;omega) (by simp)) (by rfl) ⟨Le.refl _,jce 1 _ rfl,trivial⟩ (by kernel_rfl) ?_
 have hm:=Lx.spanN_le (Lx.isCls [1]) (s.drop n)
 rw [zq] at hm
 have hbl:=Lx.skip_blank (s.drop n)
 have hst:=Lx.span_stop Lx.blankB (s.drop n)
 change Lx.spanN Lx.blankB (s.drop n)≤_ at hm
 generalize hmm:Lx.spanN (Lx.isCls [1]) (s.drop n)=m
 change Lx.spanN Lx.blankB (s.drop n)=m at hmm
 rw [hmm] at hm hbl hst
 rw [zad] at hbl hst
 repeat' ((conv=>whnf);first|refine Ob.auto ?_|(apply zB <;> intro hb <;> (try simp at hb) <;> try (exfalso;omega))|refine Ob.intro ?_ ?_)
 ((conv=>whnf);refine qce (fun _=>rfl) 100 (qrp (s.drop (n+m)) [47,47]) (by rfl) leA (by kernel_rfl) ?_)
 repeat' ((conv=>whnf);first|refine Ob.auto ?_|(refine Br.intro (fun hb=>?_) (fun hb=>?_))|refine Ob.intro ?_ ?_)
 ·have hz:Lx.skipN (s.drop (n+m))=0:=Lx.skip_none (by simpa [Lx.slash2] using hb) hst
  exact Le.of_eq (by rw [hsk,hbl,hz];simp)
 ·have hsl:=Lx.skip_slash (l:=s.drop (n+m)) (by simpa [Lx.slash2] using hb)
  have hix:=Lx.index_line (s.drop (n+m))
  have hll:=Lx.spanN_le (fun b=>b != 10) (s.drop (n+m))
  change Lx.lineN (s.drop (n+m))≤_ at hll
  rw [zq] at hix hll
  ((conv=>whnf);refine qce (fun _=>rfl) 100 (jcd (s.drop (n+m)) 10) (by rfl) leA (by kernel_rfl) ?_)
  change Lib.indexByte (s.drop (n+m)) ((10:Int).toNat.toUInt8)=_ at hix
  rw [hix]
  generalize Lx.lineN (s.drop (n+m))=k at hsl hix hll ⊢
  rw [zad] at hsl
  by_cases hk:k<s.length - (n+m)
  ·rw [zf hk]
   repeat' ((conv=>whnf);first|refine Ob.auto ?_|(apply zB <;> intro hb <;> (try simp at hb) <;> try (exfalso;omega))|refine Ob.intro ?_ ?_)
   (conv=>whnf);refine Exists.intro (n+m+k) ⟨⟨by omega,?_⟩,subA,by omega⟩
   rw [hsk,hbl,hsl.1]
   omega
  ·rw [ze hk]
   repeat' ((conv=>whnf);first|refine Ob.auto ?_|(apply zB <;> intro hb <;> (try simp at hb) <;> try (exfalso;omega))|refine Ob.intro ?_ ?_)
   refine Le.of_eq ?_
   have:s.drop (n+m+k)=[]:=List.drop_eq_nil_of_le (by omega)
   rw [hsk,hbl,hsl.1,this,Lx.skipN_nil]
   congr 1
   omega
theorem jok (b:UInt8) (r:List UInt8) (hs:r.length≤999999):Con Try.prog 35 [.str (b::r)] (.tup [.int .i64 (Lx.firstK (b::r)),.int .i64 (Lx.firstN (b::r))]):=by
 refine zK {} 100 Try.func35 (fun c0 rdb=>?_)
 repeat' ((conv=>whnf);first|refine Ob.auto ?_|(apply zB <;> intro hb <;> (try simp at hb) <;> try (exfalso;omega))|refine Ob.intro ?_ ?_)
 ((conv=>whnf);refine qce (fun _=>rfl) 100 (qrn b.toNat) (by rfl) leA (by kernel_rfl) ?_)
 repeat' ((conv=>whnf);first|refine Ob.auto ?_|(apply zB <;> intro hb <;> (try simp at hb) <;> try (exfalso;omega))|refine Ob.intro ?_ ?_)
 ·(conv=>whnf)
  refine qce (fun _=>rfl) 100 (qro (b::r) [2,3,4] (by simp;omega) (by simp)) (by rfl) ⟨Le.refl _,jcf 2 3 4 _ rfl rfl rfl,trivial⟩ (by kernel_rfl) ?_
  repeat' ((conv=>whnf);first|refine Ob.auto ?_|(apply zB <;> intro hb <;> (try simp at hb) <;> try (exfalso;omega))|refine Ob.intro ?_ ?_)
  refine Le.of_eq ?_
  simp only [Lx.firstK,Lx.firstN,zf hb]
  rfl
 ·(conv=>whnf)
  refine qce (fun _=>rfl) 100 (qro (b::r) [3] (by simp;omega) (by simp)) (by rfl) ⟨Le.refl _,jce 3 _ rfl,trivial⟩ (by kernel_rfl) ?_
  have h2:¬ Lx.cls (b.toNat:Int)=2:=by rename_i h;exact h
  have h3:Lx.cls (b.toNat:Int)=3:=hb
  repeat' ((conv=>whnf);first|refine Ob.auto ?_|(apply zB <;> intro hb <;> (try simp at hb) <;> try (exfalso;omega))|refine Ob.intro ?_ ?_)
  ·refine Le.of_eq ?_
   have:6<Lx.spanN Lx.digB (b::r):=by change 6<Lx.spanN (Lx.isCls [3]) (b::r);omega
   simp only [Lx.firstK,Lx.firstN,ze h2,zf h3,zf this]
   rfl
  ·refine Le.of_eq ?_
   have:¬ 6<Lx.spanN Lx.digB (b::r):=by change ¬ 6<Lx.spanN (Lx.isCls [3]) (b::r);omega
   simp only [Lx.firstK,Lx.firstN,ze h2,zf h3,ze this]
   rfl
 ·have h2:¬ Lx.cls (b.toNat:Int)=2:=by rename_i h;exact h
  have h3:¬ Lx.cls (b.toNat:Int)=3:=hb
  ((conv=>whnf);refine qce (fun _=>rfl) 100 (joj b r) (by rfl) leA (by kernel_rfl) ?_)
  repeat' ((conv=>whnf);first|refine Ob.auto ?_|(apply zB <;> intro hb <;> (try simp at hb) <;> try (exfalso;omega))|refine Ob.intro ?_ ?_)
  refine Le.of_eq ?_
  simp only [Lx.firstK,Lx.firstN,ze h2,ze h3]
theorem qml (s:List UInt8) (hs:s.length≤1000000):Con Try.prog 18 [.str s] (Lx.lexAV s):=by
 have hfit:=Lx.skipN_le s
 refine zK {owns:=[(4,(41,3))]} 300 Try.func18 (fun c0 rdb=>?_)
 repeat' ((conv=>whnf);first|refine Ob.auto ?_|(apply zB <;> intro hb <;> (try simp at hb) <;> try (exfalso;omega))|refine Ob.intro ?_ ?_)
 ·rw [Lx.lexAV,Lx.lexAll,zf (by omega)]
  exact Le.tup ⟨Le.nils 3 _,Le.refl _,trivial⟩
 ((conv=>whnf);refine qce (fun _=>rfl) 300 (jcg s hs) (by rfl) leA (by kernel_rfl) ?_)
 repeat' ((conv=>whnf);first|refine Ob.auto ?_|(apply zB <;> intro hb <;> (try simp at hb) <;> try (exfalso;omega))|refine Ob.intro ?_ ?_)
 (conv=>whnf);refine qgu (fun _=>rfl) 300 1 (fun g:List Lx.Tok × Nat=>⟨[(0,.str s),(3,.ptr 0 0),(4,.own 1 0 0 g.1.length),(5,.int .i64 g.2)],[(1,.row [] 41 3 0 g.1.length (encL Lx.encTok Lx.tok0 g.1)),(0,.box 26 [.int .i64 0,.int .i64 0])],2⟩)
  (fun g=>g.2≤s.length∧Lx.lexR s 0=Lx.prep g.1 (Lx.lexR (s.drop g.2) g.2)∧Lx.skipN (s.drop g.2)=0∧g.1.length≤g.2) (fun g=>s.length - g.2) ([],Lx.skipN s) ⟨hfit,by simpa [Lx.prep_nil] using (Lx.lexR_skip s 0).symm,Lx.skip_done s,by simp⟩ subA (fun _=>rfl) (by kernel_rfl) ?_
 rintro ⟨acc,p⟩ ⟨hp,hr,hz,hl⟩
 simp only at hp hr hz hl
 repeat' ((conv=>whnf);first|refine Ob.auto ?_|(apply zB <;> intro hb <;> (try simp at hb) <;> try (exfalso;omega))|refine Ob.intro ?_ ?_)
 ·obtain ⟨b,hd,-⟩:=Lx.drop_cons hb
  generalize s.drop (p+1)=r at hd
  have hlen:=congrArg List.length hd
  simp only [zq,zr] at hlen
  rw [hd] at hr hz
  rw [Lx.lexR_tok hz] at hr
  have hn:=Lx.firstN_le b r
  have hk:=Lx.firstK_range (b::r)
  rw [zr] at hn
  (conv=>whnf)
  refine qce (fun _=>rfl) 300 (jok b r (by omega)) (by rfl) ⟨Le.of_eq (by rw [← hd];rfl),trivial⟩ (by kernel_rfl) ?_
  repeat' ((conv=>whnf);first|refine Ob.auto ?_|(apply zB <;> intro hb <;> (try simp at hb) <;> try (exfalso;omega))|refine Ob.intro ?_ ?_)
  ·rw [zf hb] at hr
   rw [Lx.lexAV,Lx.lexAll,ze (by omega),hr]
   exact Le.tup ⟨Le.nils 3 _,Le.refl _,trivial⟩
  ·rw [ze hb,Lx.prep_snoc] at hr
   generalize hnn:Lx.firstN (b::r)=n at *
   have hq:((p:Int)+(n:Int)).toNat=p+n:=by omega
   have hdr:s.drop (p+n)=(b::r).drop n:=by rw [← hd,zad]
   have htk:(s.take (p+n)).drop p=(b::r).take n:=by rw [← hd,zay,xz]
   have hsk:=Lx.skipN_le (s.drop (p+n))
   rw [zq] at hsk
   (conv=>whnf)
   refine qce (fun _=>rfl) 300 (jcg (s.drop (p+n)) (by rw [zq];omega)) (by rfl) ⟨Le.of_eq (by rw [← hq]),trivial⟩ (by kernel_rfl) ?_
   repeat' ((conv=>whnf);first|refine Ob.auto ?_|(apply zB <;> intro hb <;> (try simp at hb) <;> try (exfalso;omega))|refine Ob.intro ?_ ?_)
   (conv=>whnf);refine Exists.intro (acc++[⟨Lx.firstK (b::r),(b::r).take n,p⟩],p+n+Lx.skipN (s.drop (p+n))) ⟨⟨by omega,?_,?_,?_⟩,?_,by omega⟩
   ·rw [hr,← hdr,← Lx.lexR_skip (s.drop (p+n)) (p+n),zad]
   ·have:=Lx.skip_done (s.drop (p+n))
    rwa [zad] at this
   ·simp;omega
   ·refine ⟨subA,⟨⟨rfl,rfl,rfl⟩,rfl,by simp,fun i _=>LeL.of_eq (congrFun (qjr Lx.encTok Lx.tok0 acc ⟨Lx.firstK (b::r),(b::r).take n,p⟩ _ ?_) i)⟩,subA⟩
    refine congrArg (fun x=>[AV.int .i64 (Lx.firstK (b::r)),AV.str x,AV.int .i64 p]) ?_
    rw [← htk,← hq];rfl
 ·have hpe:p=s.length:=by omega
  subst hpe
  rw [List.drop_length,Lx.lexR_nil] at hr
  rw [Lx.lexAV,Lx.lexAll,ze (by omega),hr]
  refine Le.tup (ys:=[_,_]) ⟨Le.of_eq (Eq.trans (congrArg (AV.slc 3 (acc.length+1)) (qjr Lx.encTok Lx.tok0 acc ⟨3,[],s.length⟩ _ rfl)) ?_),Le.refl _,trivial⟩
  simp [Lx.prep,Lx.toks,slcL]
end Go.Proofs.Ythfaleaojlnnoaa
end
