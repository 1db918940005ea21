/- Some texts of the library, one behind the other. -/
import Derived.Test.YthfaleaojlnnoaaY7Pa2
import Derived.Test.YthfaleaojlnnoaaY7LexPlain
import Derived.Test.YthfaleaojlnnoaaProg
import Derived.Test.YthfaleaojlnnoaaY72
set_option linter.unusedSimpArgs false
set_option linter.unusedVariables false
section
namespace Go.Proofs.Ythfaleaojlnnoaa
namespace Pa
open Go Go.Sx
theorem jkv:∀ b:UInt8,Lx.digB b=true→48≤b.toNat∧b.toNat≤57:=by
 have h:∀ b:Fin 256,Lx.digB (UInt8.ofNat b)=true→48≤b.val∧b.val≤57:=by decide +kernel
 intro b hb
 have:=h ⟨b.toNat,b.toNat_lt⟩
 simp only [UInt8.ofNat_toNat] at this
 exact this hb
theorem jac (p:UInt8→Bool):∀ l:List UInt8,∀ b∈l.take (Lx.spanN p l),p b=true
 | [],b,h=>by simp at h
 | x::r,b,h=>by
  rw [Lx.spanN] at h
  split at h
  ·rename_i hx
   rw [Nat.add_comm,List.take_succ_cons] at h
   rcases List.mem_cons.1 h with rfl|h
   ·exact hx
   ·exact jac p r b h
  ·simp at h
theorem jkw (l:List UInt8):Lx.firstK l≠3:=by
 unfold Lx.firstK
 split
 ·decide
 ·split
  ·decide
  ·split <;> decide
theorem jkx {l:List UInt8} (h:Lx.firstK l=1) (h0:Lx.firstN l≠0):(l.take (Lx.firstN l)).length≤6∧∀ b∈l.take (Lx.firstN l),48≤b.toNat∧b.toNat≤57:=by
 cases l with
 | nil=>simp [Lx.firstK] at h
 | cons x r=>
  unfold Lx.firstK at h
  unfold Lx.firstN at h0 ⊢
  simp only at h h0 ⊢
  split at h
  ·simp at h
  ·rename_i h2
   rw [za h2] at h0 ⊢
   split at h
   ·rename_i h3
    rw [zb h3] at h0 ⊢
    split at h0
    ·exact absurd rfl h0
    ·rename_i h6
     rw [za h6]
     refine ⟨?_,fun b hb=>jkv b (jac _ _ b hb)⟩
     rw [xr];omega
   ·simp at h
theorem jky:∀ (n:Nat) (l:List UInt8) (p:Nat) (ts:List Lx.Tok),l.length≤n→Lx.lexR l p=.ok ts→
  ∃ pre e,ts=pre++[⟨3,[],e⟩]∧(∀ t∈pre,t.kind≠3∧(t.kind=1→t.s.length≤6∧∀ b∈t.s,48≤b.toNat∧b.toNat≤57))∧pre.length≤l.length:=by
 intro n
 induction n with
 | zero=>
  intro l p ts hl h
  obtain rfl:l=[]:=List.length_eq_zero_iff.1 (by omega)
  rw [Lx.lexR_nil] at h
  cases h
  exact ⟨[],_,rfl,fun t ht=>by simp at ht,zi _⟩
 | succ n ih=>
  intro l p ts hl h
  cases l with
  | nil=>
   rw [Lx.lexR_nil] at h
   cases h
   exact ⟨[],_,rfl,fun t ht=>by simp at ht,zi _⟩
  | cons b r=>
   have hr:r.length≤n:=by simpa using hl
   rw [Lx.lexR_cons] at h
   split at h
   ·obtain ⟨pre,e,h1,h2,h3⟩:=ih r _ ts hr h
    exact ⟨pre,e,h1,h2,by simp;omega⟩
   split at h
   ·obtain ⟨pre,e,h1,h2,h3⟩:=ih (r.drop (Lx.lineN r)) _ ts (by rw [zr];omega) h
    exact ⟨pre,e,h1,h2,by rw [zr] at h3;simp;omega⟩
   split at h
   ·cases h
   ·rename_i h0
    cases hx:Lx.lexR (r.drop (Lx.firstN (b::r) - 1)) (p+Lx.firstN (b::r)) with
    | error e=>rw [hx] at h;cases h
    | ok ts'=>
     rw [hx] at h
     cases h
     obtain ⟨pre,e,h1,h2,h3⟩:=ih (r.drop (Lx.firstN (b::r) - 1)) _ ts' (by rw [zr];omega) hx
     refine ⟨⟨Lx.firstK (b::r),(b::r).take (Lx.firstN (b::r)),p⟩::pre,e,by rw [h1];rfl,fun t ht=>?_,by rw [zr] at h3;simp;omega⟩
     rcases List.mem_cons.1 ht with rfl|ht
     ·exact ⟨jkw (b::r),fun hk=>jkx (l:=b::r) hk h0⟩
     ·exact h2 t ht
theorem quk {s:List UInt8} (h:(Lx.lexAll s).2.1=0):ToksOk (Lx.lexAll s).1∧0<(Lx.lexAll s).1.length:=by
 unfold Lx.lexAll at h ⊢
 split at h
 ·simp at h
 rename_i hs
 rw [za hs]
 split at h
 ·rename_i ts hts
  obtain ⟨pre,e,h1,h2,h3⟩:=jky _ s 0 ts (zi _) hts
  simp only
  subst h1
  refine ⟨⟨by simp;omega,fun i hi=>?_,fun t ht hk=>?_⟩,by simp⟩
  ·rw [List.getD_eq_getElem?_getD]
   by_cases hip:i<pre.length
   ·rw [zp hip,ze hip]
    have:=(h2 _ (xt hip)).1
    simp only [zal,xa,List.length_singleton]
    constructor
    ·intro h;exact absurd h this
    ·intro h;omega
   ·have:i=pre.length:=by simp at hi;omega
    subst this
    rw [zm (zi _),xy]
    simp
  ·rcases List.mem_append.1 ht with ht|ht
   ·exact (h2 t ht).2 hk
   ·rw [xm] at ht
    subst ht
    simp at hk
 ·simp at h
end Pa
end Go.Proofs.Ythfaleaojlnnoaa
end
section
namespace Go.Proofs.Ythfaleaojlnnoaa
namespace Pa
open Go Go.Sx
abbrev TokK (ts:List Lx.Tok):Prop:=∀ t∈ts,(t.kind=3∧t.s=[])∨(t.s≠[]∧t.kind=Lx.firstK t.s)
theorem jkz:∀ (n:Nat) (l:List UInt8) (p:Nat) (ts:List Lx.Tok),l.length≤n→Lx.lexR l p=.ok ts→TokK ts:=by
 intro n
 induction n with
 | zero=>
  intro l p ts hl h
  obtain rfl:l=[]:=List.length_eq_zero_iff.1 (by omega)
  rw [Lx.lexR_nil] at h
  cases h
  intro t ht
  rw [List.mem_singleton.1 ht]
  exact .inl ⟨rfl,rfl⟩
 | succ n ih=>
  intro l p ts hl h
  cases l with
  | nil=>
   rw [Lx.lexR_nil] at h
   cases h
   intro t ht
   rw [List.mem_singleton.1 ht]
   exact .inl ⟨rfl,rfl⟩
  | cons b r=>
   have hr:r.length≤n:=by simpa using hl
   rw [Lx.lexR_cons] at h
   split at h
   ·exact ih r _ ts hr h
   split at h
   ·exact ih (r.drop (Lx.lineN r)) _ ts (by rw [zr];omega) h
   split at h
   ·cases h
   ·rename_i h0
    cases hx:Lx.lexR (r.drop (Lx.firstN (b::r) - 1)) (p+Lx.firstN (b::r)) with
    | error e=>rw [hx] at h;cases h
    | ok ts'=>
     rw [hx] at h
     cases h
     have h1:=ih (r.drop (Lx.firstN (b::r) - 1)) _ ts' (by rw [zr];omega) hx
     intro t ht
     rcases List.mem_cons.1 ht with rfl|ht
     ·obtain ⟨k,hk⟩:∃ k,Lx.firstN (b::r)=k+1:=⟨Lx.firstN (b::r) - 1,by omega⟩
      refine .inr ⟨?_,?_⟩
      ·show (b::r).take (Lx.firstN (b::r))≠[]
       rw [hk];simp
      ·show Lx.firstK (b::r)=Lx.firstK ((b::r).take (Lx.firstN (b::r)))
       rw [hk,List.take_succ_cons];rfl
     ·exact h1 t ht
theorem jla {s:List UInt8} (h:(Lx.lexAll s).2.1=0):TokK (Lx.lexAll s).1:=by
 unfold Lx.lexAll at h ⊢
 split at h
 ·simp at h
 rename_i hs
 rw [za hs]
 split at h
 ·rename_i ts hts
  exact jkz _ s 0 ts (zi _) hts
 ·simp at h
def kwB (s:List UInt8):Bool:=!s.isEmpty && (Lx.firstK s == 2 || Lx.firstK s == 0 && Go.St.keyF s)
theorem qcx {ts:List Lx.Tok} (hk:TokK ts) {p:Ps} (h:AtOk ts p) (he:p.err=0) {s:List UInt8} (hs:kwB s=true):sees ts p s=((tk ts p).s == s):=by
 unfold kwB at hs
 simp only [zf,xd,xh,xn] at hs
 unfold sees qtl
 rw [he]
 by_cases e:(tk ts p).s=s
 ·rcases hk _ (qjb h) with ⟨_,h2⟩|⟨_,h2⟩
  ·rw [e] at h2;rw [h2] at hs;simp at hs
  ·rw [e] at h2
   rw [h2,beq_iff_eq.2 e]
   rcases hs.2 with h3|h3
   ·rw [h3];rfl
   ·rw [h3.1,h3.2];rfl
 ·rw [beq_eq_false_iff_ne.2 e];rfl
mutual
def Tr.pvA:Tr→AV
 | .mk k w n a l=>.rptr [iv k,strs w,ints n,.nils,iv a,.slc 1 l.length fun i=>[(Tr.pvL l).getD i .nilp]]
def Tr.pvL:List Tr→List AV
 | []=>[]
 | t::r=>t.pvA::Tr.pvL r
end
def qnj (l:List Tr):AV:=.slc 1 l.length fun i=>[(Tr.pvL l).getD i .nilp]
def Tr.cellsB (t:Tr):List AV:=[iv t.kind,strs t.words,ints t.nums,.nils,iv t.at_,qnj t.l]
def Tr.pv (t:Tr):AV:=.rptr t.cellsB
theorem Tr.pvA_eq (t:Tr):t.pvA=t.pv:=by cases t;rfl
theorem Tr.pvL_get:∀ (l:List Tr) (i:Nat),i<l.length→(Tr.pvL l).getD i .nilp=(l.getD i Tr.none).pv
 | [],i,h=>absurd h (zv i)
 | t::r,0,_=>by rw [Tr.pvL];exact t.pvA_eq
 | t::r,i+1,h=>by
  have:=Tr.pvL_get r i (by simpa using h)
  rw [Tr.pvL]
  simpa using this
def opF (n:Int) (s:List UInt8):Int:=
 if n=0 then (if s=sOr2 then 0 else -1) else if n=1 then (if s=qpj then 1 else -1) else if n=2 then (if s=sEq2 then 2 else -1) else if n=3 then (if s=sLt then 3 else -1)
 else if n=4 then (if s=qmy then 4 else if s=qbf then 5 else -1) else if n=5 then (if s=qbl then 6 else if s=qmz then 7 else if s=sPct then 8 else -1) else -1
def qcq (ts:List Lx.Tok) (part:Ps→Tr × Ps) (n:Int):Ps→Tr × Ps:=
 if n=0 then qbr ts part else if n=1 then andF ts part else if n=2 then qja ts part else if n=3 then qnb ts part else if n=4 then sumF ts part else if n=5 then qiz ts part else part
end Pa
end Go.Proofs.Ythfaleaojlnnoaa
end
section
namespace Go.Proofs.Ythfaleaojlnnoaa
open Go.Sx Go.RowKit
set_option maxRecDepth 100000
theorem jlb (l:List UInt8) (c:Int):Con Try.prog 97 [.str l,.int .u8 c] (.int .i64 (Lib.indexByte l c.toNat.toUInt8)):=
 jfo Try.func97 (by kernel_rfl) (by kernel_rfl) (by kernel_rfl) (by kernel_rfl) l c
theorem jlc (l:List UInt8) (c:Int):Con Try.prog 78 [.str l,.int .u8 c] (.int .i64 (Lib.indexByte l c.toNat.toUInt8)):=by
 refine zK {} 100 Try.func78 (fun c0 rdb=>?_)
 repeat' ((conv=>whnf);first|refine Ob.auto ?_|(apply zB <;> intro hb <;> (try simp at hb) <;> try (exfalso;omega))|refine Ob.intro ?_ ?_)
 ((conv=>whnf);refine qau (fun _=>rfl) 100 (jlb l c) (by rfl) leA (by kernel_rfl) ?_)
 repeat' ((conv=>whnf);first|refine Ob.auto ?_|(apply zB <;> intro hb <;> (try simp at hb) <;> try (exfalso;omega))|refine Ob.intro ?_ ?_)
 exact Le.refl _
theorem jad (l:List UInt8) (c:Int):Con Try.prog 55 [.str l,.int .u8 c] (.int .i64 (Lib.indexByte l c.toNat.toUInt8)):=by
 refine zK {} 100 Try.func55 (fun c0 rdb=>?_)
 repeat' ((conv=>whnf);first|refine Ob.auto ?_|(apply zB <;> intro hb <;> (try simp at hb) <;> try (exfalso;omega))|refine Ob.intro ?_ ?_)
 ((conv=>whnf);refine qau (fun _=>rfl) 100 (jlc l c) (by rfl) leA (by kernel_rfl) ?_)
 repeat' ((conv=>whnf);first|refine Ob.auto ?_|(apply zB <;> intro hb <;> (try simp at hb) <;> try (exfalso;omega))|refine Ob.intro ?_ ?_)
 exact Le.refl _
theorem qnk (c:Int):Con Try.prog 56 [.int .u8 c] (.int .i64 (Lx.cls c)):=by
 refine zK {} 300 Try.func56 (fun c0 rdb=>?_)
 repeat' ((conv=>whnf);first|refine Ob.auto ?_|(apply zB <;> intro hb <;> (try simp at hb) <;> try (exfalso;omega))|refine Ob.intro ?_ ?_)
 rotate_right 1
 ·((conv=>whnf);refine qau (fun _=>rfl) 100 (jad Lx.signs c) (by rfl) leA (by kernel_rfl) ?_)
  repeat' ((conv=>whnf);first|refine Ob.auto ?_|(apply zB <;> intro hb <;> (try simp at hb) <;> try (exfalso;omega))|refine Ob.intro ?_ ?_)
  ·refine Le.of_eq ?_
   simp only [Lx.cls]
   grind
  ·refine Le.of_eq ?_
   simp only [Lx.cls]
   grind
 all_goals
  refine Le.of_eq ?_
  simp only [Lx.cls]
  grind
end Go.Proofs.Ythfaleaojlnnoaa
end
