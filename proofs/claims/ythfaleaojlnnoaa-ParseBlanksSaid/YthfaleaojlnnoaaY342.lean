/- Some texts of the library, one behind the other. -/
import Derived.Test.YthfaleaojlnnoaaY310
import Derived.Test.YthfaleaojlnnoaaY312
import Derived.Test.YthfaleaojlnnoaaY3PcR
import Derived.Test.YthfaleaojlnnoaaY340
import Derived.Test.YthfaleaojlnnoaaY3PgQ
import Derived.Test.YthfaleaojlnnoaaY341
import Derived.Test.YthfaleaojlnnoaaY3Pa0
import Derived.Test.YthfaleaojlnnoaaY3PaB
import Derived.Test.YthfaleaojlnnoaaY3LexQ2
import Derived.Test.YthfaleaojlnnoaaProg
import Derived.Test.YthfaleaojlnnoaaY39
import Derived.Test.YthfaleaojlnnoaaY33
import Derived.Test.YthfaleaojlnnoaaY31
import Derived.KernelRfl
import Derived.Test.YthfaleaojlnnoaaY32
set_option linter.unusedSimpArgs false
set_option linter.unusedVariables false
section
namespace Go.Proofs.Ythfaleaojlnnoaa
open List renaming getD_eq_getElem?_getD → zd
open Go Go.Sx Go.RowKit Go.St Pa
set_option maxRecDepth 100000
set_option maxHeartbeats 4000000
theorem jpc (s:List UInt8):(jg s).1=[]∨∃ t:Tr,(jg s).1=layT 0 t∧t.size≤800:=by
 unfold jg
 split
 ·exact .inl rfl
 unfold qdy
 simp only
 split
 ·exact .inl rfl
 split
 ·exact .inl rfl
 rename_i h8
 split
 ·exact .inl rfl
 rw [lay_lenT] at h8
 exact .inr ⟨_,rfl,by omega⟩
theorem jpd {n:Nd} {c:Int} (h:qj n c=true):(n.words.length:Int)=c:=by
 unfold qj at h
 rw [zf,xu] at h
 exact h.2
theorem jpe {l:List Nd} {n:Nd} (hk:n.kids.length≤800) (h:qaz l n=true):n.words.length≤2∧n.nums.length≤4:=by
 rw [← jka l n hk] at h
 unfold qyy at h
 rw [zf,zf] at h
 have hw:=jpd h.1.1
 have hn:=h.1.2
 unfold qaa at hn
 rw [zf,zt] at hn
 have hn:=hn.1
 constructor
 ·unfold cntW at hw
  split at hw
  ·omega
  split at hw <;> omega
 ·unfold bndF at hn
  repeat' (split at hn)
  all_goals (simp only [zh,xz] at hn;omega)
theorem jpf (s:List UInt8):(jg s).1.length≤800∧∀ nd∈(jg s).1,nd.words.length≤2∧nd.nums.length≤4∧nd.kids.length≤800:=by
 by_cases h:(jg s).2.1=0
 ·have hr:=joi h
  have ha:(jg s).1.all (qaz (jg s).1)=true:=by
   unfold qtp at hr
   rw [zf] at hr
   exact hr.2
  rcases jpc s with e|⟨t,e,ht⟩
  ·rw [e]
   exact ⟨xh _,fun nd hm=>absurd hm List.not_mem_nil⟩
  ·refine ⟨by rw [e,lay_lenT];omega,fun nd hm=>?_⟩
   have hk8:nd.kids.length≤800:=?_
   ·obtain ⟨h1,h2⟩:=jpe hk8 (List.all_eq_true.1 ha nd hm)
    exact ⟨h1,h2,hk8⟩
   rw [e] at hm
   obtain ⟨j,hj,rfl⟩:=List.getElem_of_mem hm
   rw [lay_lenT] at hj
   have:=kids_lenT 0 t j hj
   rw [zd,ze (by rw [lay_lenT];exact hj)] at this
   exact zx this ht
 ·rw [joj h]
  exact ⟨xh _,fun nd hm=>absurd hm List.not_mem_nil⟩
theorem qtc {l:List Nd} {i:Nat} (hi:i<l.length):l.getD i nd0∈l:=by
 rw [zd,ze hi]
 exact xq hi
theorem jce {s t:List UInt8} (h:(jg s).1.map zN=(jg t).1.map zN):Con Try.prog 13 [qcw (jg s).1,qcw (jg t).1] (.bool true):=by
 obtain ⟨h1,h2⟩:=jpf s
 have hl:=congrArg List.length h
 rw [zm,zm] at hl
 refine jjs _ _ hl (by omega) (fun i hi=>?_)
 obtain ⟨a,b,c⟩:=h2 _ (qtc hi)
 have e:=congrArg (fun l=>l[i]?) h
 simp only [zg,ze hi,ze (show i<(jg t).1.length by omega),xd,Option.some.injEq] at e
 have g1:(jg s).1.getD i nd0=(jg s).1[i]:=by rw [zd,ze hi];rfl
 have g2:(jg t).1.getD i nd0=(jg t).1[i]'(by omega):=by rw [zd,ze (by omega)];rfl
 rw [g1] at a b c
 rw [g1,g2]
 generalize (jg s).1[i]=x at e a b c
 generalize (jg t).1[i]'(by omega)=y at e
 have e1:=congrArg Nd.kind e
 have e2:=congrArg Nd.words e
 have e3:=congrArg Nd.nums e
 have e4:=congrArg Nd.kids e
 exact ⟨e1,e2,e3,e4,by omega,by omega,by omega⟩
end Go.Proofs.Ythfaleaojlnnoaa
end
section
namespace Go.Proofs.Ythfaleaojlnnoaa
namespace Pa
open Go Go.Sx
def lexF:Nat→List UInt8→Nat→Except Nat (List Lx.Tok)
 | 0,_,p=>.error p
 | _+1,[],p=>.ok [⟨3,[],p⟩]
 | n+1,b::r,p=>if Lx.blankB b then lexF n r (p+1) else if Lx.slash2 (b::r) then lexF n (r.drop (Lx.lineN r)) (p+1+Lx.lineN r) else if Lx.firstN (b::r)=0 then .error p
  else (lexF n (r.drop (Lx.firstN (b::r) - 1)) (p+Lx.firstN (b::r))).map (⟨Lx.firstK (b::r),(b::r).take (Lx.firstN (b::r)),p⟩::·)
theorem qqm:∀ (n:Nat) (l:List UInt8) (p:Nat),l.length<n→lexF n l p=Lx.lexR l p
 | 0,_,_,h=>absurd h (xw _)
 | n+1,[],p,_=>by rw [Lx.lexR_nil];rfl
 | n+1,b::r,p,h=>by
  have hr:r.length<n:=by simpa using h
  rw [Lx.lexR_cons,lexF,qqm n r _ hr,qqm n (r.drop (Lx.lineN r)) _ (by rw [zk];omega),qqm n (r.drop (Lx.firstN (b::r) - 1)) _ (by rw [zk];omega)]
def qqn (s:List UInt8):List Nd × (Int × Int):=
 match lexF (s.length+1) s 0 with
 | .ok ts=>qdy ts
 | .error p=>([],(10,p))
theorem jcf {s:List UInt8} {r:List Nd × (Int × Int)} (h:qqn s=r) (hs:s.length≤4000):jg s=r:=by
 unfold qqn at h
 rw [qqm _ _ _ (Nat.lt_succ_self _)] at h
 have hn:¬ 4000<s.length:=by omega
 unfold jg Lx.lexAll
 split at h
 ·rename_i ts hts
  rw [hts,za hn]
  exact h
 ·rename_i p hp
  rw [hp,za hn]
  exact h
end Pa
end Go.Proofs.Ythfaleaojlnnoaa
end
section
namespace Go.Proofs.Ythfaleaojlnnoaa
open Go Go.Sx Go.RowKit Go.St Pa
set_option maxRecDepth 100000
set_option maxHeartbeats 8000000

def qur:List Nd:=[⟨0,[],[],[1],0⟩,⟨4,[],[],[2],0⟩,⟨22,[],[3],[3,4],5⟩,⟨18,[[120]],[],[],5⟩,⟨17,[],[1],[],9⟩]
noncomputable def D9:CE:=⟨Try.prog,tab Try.prog,fun _=>{ lit:=true }⟩
theorem qli:Con Try.prog 15 [qcw qur] (.bool true):=
 jhm (D:=D9) (fun _=>rfl) (by kernel_rfl) (n:=100000) (by kernel_rfl)
set_option maxHeartbeats 4000000
def qus:List UInt8:=[115,97,102,101,32,120,32,60,32,49,59]
def qut:List UInt8:=[115,97,102,101,32,120,32,60,32,49,32,60,32,50,59]
theorem px9:qqn qus=(qur,(0,0)):=by kernel_rfl
theorem px9b:qqn qut=([],(11,11)):=by kernel_rfl
theorem qlj:Con Try.prog 11 [.str qus] (.tup [qcw qur,flt 0 0]):=by
 have h:=qnc qus (by decide)
 rw [jcf px9 (by decide)] at h
 exact h
theorem qlk:Con Try.prog 11 [.str qut] (.tup [qcw [],flt 11 11]):=by
 have h:=qnc qut (by decide)
 rw [jcf px9b (by decide)] at h
 exact h
theorem qbp:Con Try.prog 10 [] (.bool true):=by
 refine zK {} 300 Try.func10 (fun c0 rdb=>?_)
 (repeat' ((conv=>whnf);first|refine zA ?_|refine zO ?_|refine Ob.auto ?_|refine zC 300 (qlj) ?_|refine zG 300 (fun hg=>qlj) ?_|(refine CallY.con (qlj) (by rfl) leA ?_)|(refine CallZ.con (fun hg=>qlj) qu (by rfl) ?_)|refine zC 300 (qlk) ?_|refine zG 300 (fun hg=>qlk) ?_|(refine CallY.con (qlk) (by rfl) leA ?_)|(refine CallZ.con (fun hg=>qlk) qu (by rfl) ?_)|refine zC 300 (qli) ?_|refine zG 300 (fun hg=>qli) ?_|(refine CallY.con (qli) (by rfl) leA ?_)|(refine CallZ.con (fun hg=>qli) qu (by rfl) ?_)|(refine ql (fun _=>rfl) 300 (qlj) qc (by (repeat' (first|exact trivial|exact Le.refl _|(refine And.intro ?_ ?_))) <;> fail) (by rfl) (by kernel_rfl) ?_)|(refine qv (fun _=>rfl) 300 (fun hg=>qlj) (fun hg=>qc) (fun hg=>(by (repeat' (first|exact trivial|exact Le.refl _|exact Le.cnd hg|(refine And.intro ?_ ?_))) <;> fail)) (by rfl) (by kernel_rfl) ?_)|(refine ql (fun _=>rfl) 300 (qlk) qc (by (repeat' (first|exact trivial|exact Le.refl _|(refine And.intro ?_ ?_))) <;> fail) (by rfl) (by kernel_rfl) ?_)|(refine qv (fun _=>rfl) 300 (fun hg=>qlk) (fun hg=>qc) (fun hg=>(by (repeat' (first|exact trivial|exact Le.refl _|exact Le.cnd hg|(refine And.intro ?_ ?_))) <;> fail)) (by rfl) (by kernel_rfl) ?_)|(refine ql (fun _=>rfl) 300 (qli) qc (by (repeat' (first|exact trivial|exact Le.refl _|(refine And.intro ?_ ?_))) <;> fail) (by rfl) (by kernel_rfl) ?_)|(refine qv (fun _=>rfl) 300 (fun hg=>qli) (fun hg=>qc) (fun hg=>(by (repeat' (first|exact trivial|exact Le.refl _|exact Le.cnd hg|(refine And.intro ?_ ?_))) <;> fail)) (by rfl) (by kernel_rfl) ?_)|refine zD 300 ?_|(apply zB <;> intro hb <;> (try simp [-List.getD_eq_getElem?_getD] at hb) <;> try (exfalso;omega))|refine Ob.intro ?_ ?_))
 exact Le.refl _
end Go.Proofs.Ythfaleaojlnnoaa
end
