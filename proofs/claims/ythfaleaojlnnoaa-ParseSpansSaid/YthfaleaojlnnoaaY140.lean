/- Some texts of the library, one behind the other. -/
import Derived.Test.YthfaleaojlnnoaaY139
import Derived.Test.YthfaleaojlnnoaaY1Pa0
import Derived.Test.YthfaleaojlnnoaaY18
import Derived.Test.YthfaleaojlnnoaaY1PaB
import Derived.Test.YthfaleaojlnnoaaY111
import Derived.Test.YthfaleaojlnnoaaY17
import Derived.Test.YthfaleaojlnnoaaProg
import Derived.Test.YthfaleaojlnnoaaY13
import Derived.Test.YthfaleaojlnnoaaY11
import Derived.KernelRfl
import Derived.Test.YthfaleaojlnnoaaY1PcR
import Derived.Test.YthfaleaojlnnoaaY12
set_option linter.unusedSimpArgs false
set_option linter.unusedVariables false
section
namespace Go.Proofs.Ythfaleaojlnnoaa
open Go Go.Sx Go.RowKit Go.St Pa
set_option maxRecDepth 100000
set_option maxHeartbeats 4000000
theorem jan:∀ (l:List Tr) (n:Nat),∀ k∈qt n l,0≤k∧k<((n+Tr.sizeL l:Nat):Int)
 | [],n,k,h=>absurd h List.not_mem_nil
 | t::r,n,k,h=>by
  have hp:=qkn t
  rw [Tr.sizeL]
  rw [qt,List.mem_cons] at h
  rcases h with rfl|h
  ·exact ⟨by omega,by omega⟩
  ·have:=jan r (n+t.size) k h
   exact ⟨this.1,by omega⟩
mutual
theorem kids_ltT:∀ (t:Tr) (n:Nat),∀ nd∈layT n t,∀ k∈nd.kids,0≤k∧k<((n+t.size:Nat):Int)
 | .mk kk w ns a l,n,nd,hm,k,hk=>by
  rw [layT,List.mem_cons] at hm
  rw [Tr.size]
  rcases hm with rfl|hm
  ·have:=jan l (n+1) k hk
   exact ⟨this.1,by omega⟩
  ·have:=kids_ltL l (n+1) nd hm k hk
   exact ⟨this.1,by omega⟩
theorem kids_ltL:∀ (l:List Tr) (n:Nat),∀ nd∈layL n l,∀ k∈nd.kids,0≤k∧k<((n+Tr.sizeL l:Nat):Int)
 | [],n,nd,hm,k,hk=>absurd hm List.not_mem_nil
 | t::r,n,nd,hm,k,hk=>by
  rw [layL,zad] at hm
  rw [Tr.sizeL]
  rcases hm with hm|hm
  ·have:=kids_ltT t n nd hm k hk
   exact ⟨this.1,by omega⟩
  ·have:=kids_ltL r (n+t.size) nd hm k hk
   exact ⟨this.1,by omega⟩
end
def lastS (l:List Nd) (nd:Nd) (k:Nat):Int:=if k=0 then nd.at_ else (l.getD (nd.kids.getD (k - 1) 0).toNat nd0).at_
theorem jmu (l:List Nd) (nd:Nd) (k:Nat):lastS l nd (k+1)=(l.getD (nd.kids.getD k 0).toNat nd0).at_:=by
 unfold lastS
 rw [za (by omega),Nat.add_sub_cancel]
structure KidOk (n:Nat) (l:List Nd) (nd:Nd) (k:Nat):Prop where
 ge:0≤nd.kids.getD k 0
 lt:nd.kids.getD k 0<l.length
 le:lastS l nd k≤(l.getD (nd.kids.getD k 0).toNat nd0).at_
 ne:0<k→lastS l nd k<(l.getD (nd.kids.getD k 0).toNat nd0).at_
 top:(l.getD (nd.kids.getD k 0).toNat nd0).at_≤n
theorem jmv (s:List UInt8) (i:Nat) (hi:i<(jr s).1.length) (k:Nat) (hk:k<((jr s).1.getD i nd0).kids.length):KidOk s.length (jr s).1 ((jr s).1.getD i nd0) k:=by
 have hm:=qoe hi
 obtain ⟨h1,h2⟩:=jmq s _ hm
 have hr:∀ k∈((jr s).1.getD i nd0).kids,0≤k∧k<((jr s).1.length:Int):=by
  rcases jam s with e|⟨t,e,_⟩
  ·rw [e] at hi
   exact absurd hi (xq _)
  ·intro k hk
   rw [e] at hm hk ⊢
   have:=kids_ltT t 0 _ hm k hk
   rw [lay_lenT]
   exact ⟨this.1,by omega⟩
 generalize (jr s).1.getD i nd0=nd at h1 h2 hr hk
 generalize (jr s).1=l at h1 h2 hr
 have e:∀ j (hj:j<nd.kids.length),nd.kids.getD j 0=nd.kids[j]:=fun j hj=>by rw [List.getD_eq_getElem?_getD,ze hj];rfl
 have hx:=h2 (l.getD (nd.kids.getD k 0).toNat nd0).at_ (List.mem_map.2 ⟨nd.kids.getD k 0,by rw [e k hk];exact xa _,rfl⟩)
 have hn:0<k→lastS l nd k<(l.getD (nd.kids.getD k 0).toNat nd0).at_:=fun h0=>by
  have:=List.pairwise_iff_getElem.1 h1 (k - 1) k (by rw [zr];omega) (by rw [zr];omega) (by omega)
  rw [List.getElem_map,List.getElem_map] at this
  unfold lastS
  rw [za (by omega),e k hk,e (k - 1) (by omega)]
  exact this
 have hg:=hr (nd.kids.getD k 0) (by rw [e k hk];exact xa _)
 refine ⟨hg.1,hg.2,?_,hn,hx.2⟩
 by_cases h0:k=0
 ·subst h0
  exact hx.1
 ·have:=hn (by omega)
  omega
end Go.Proofs.Ythfaleaojlnnoaa
end
section
namespace Go.Proofs.Ythfaleaojlnnoaa
namespace Pa
open Go Go.Sx
def lexF:Nat→List UInt8→Nat→Except Nat (List Lx.Tok)
 | 0,_,p=>.error p
 | _+1,[],p=>.ok [⟨3,[],p⟩]
 | n+1,b::r,p=>if Lx.blankB b then lexF n r (p+1) else if Lx.slash2 (b::r) then lexF n (r.drop (Lx.lineN r)) (p+1+Lx.lineN r) else if Lx.firstN (b::r)=0 then .error p
  else (lexF n (r.drop (Lx.firstN (b::r) - 1)) (p+Lx.firstN (b::r))).map (⟨Lx.firstK (b::r),(b::r).take (Lx.firstN (b::r)),p⟩::·)
theorem qpo:∀ (n:Nat) (l:List UInt8) (p:Nat),l.length<n→lexF n l p=Lx.lexR l p
 | 0,_,_,h=>absurd h (xq _)
 | n+1,[],p,_=>by rw [Lx.lexR_nil];rfl
 | n+1,b::r,p,h=>by
  have hr:r.length<n:=by simpa using h
  rw [Lx.lexR_cons,lexF,qpo n r _ hr,qpo n (r.drop (Lx.lineN r)) _ (by rw [zp];omega),qpo n (r.drop (Lx.firstN (b::r) - 1)) _ (by rw [zp];omega)]
def qpp (s:List UInt8):List Nd × (Int × Int):=
 match lexF (s.length+1) s 0 with
 | .ok ts=>qfz ts
 | .error p=>([],(10,p))
theorem jao {s:List UInt8} {r:List Nd × (Int × Int)} (h:qpp s=r) (hs:s.length≤4000):jr s=r:=by
 unfold qpp at h
 rw [qpo _ _ _ (Nat.lt_succ_self _)] at h
 have hn:¬ 4000<s.length:=by omega
 unfold jr Lx.lexAll
 split at h
 ·rename_i ts hts
  rw [hts,za hn]
  exact h
 ·rename_i p hp
  rw [hp,za hn]
  exact h
end Pa
end Go.Proofs.Ythfaleaojlnnoaa
end
section
namespace Go.Proofs.Ythfaleaojlnnoaa
open Go Go.Sx Go.RowKit Go.St Pa
set_option maxRecDepth 100000
set_option maxHeartbeats 8000000

def qtu:List Nd:=[⟨0,[],[],[1],0⟩,⟨4,[],[],[2],0⟩,⟨22,[],[3],[3,4],5⟩,⟨18,[[120]],[],[],5⟩,⟨17,[],[1],[],9⟩]
noncomputable def D9:CE:=⟨Try.prog,tab Try.prog,fun _=>{ lit:=true }⟩
theorem qkq:Con Try.prog 15 [qgx qtu] (.bool true):=
 jfr (D:=D9) (fun _=>rfl) (by kernel_rfl) (n:=100000) (by kernel_rfl)
set_option maxHeartbeats 4000000
def qtv:List UInt8:=[115,97,102,101,32,120,32,60,32,49,59]
def qtw:List UInt8:=[115,97,102,101,32,120,32,60,32,49,32,60,32,50,59]
theorem px9:qpp qtv=(qtu,(0,0)):=by kernel_rfl
theorem px9b:qpp qtw=([],(11,11)):=by kernel_rfl
theorem qkr:Con Try.prog 11 [.str qtv] (.tup [qgx qtu,flt 0 0]):=by
 have h:=qtq qtv (by decide)
 rw [jao px9 (by decide)] at h
 exact h
theorem qks:Con Try.prog 11 [.str qtw] (.tup [qgx [],flt 11 11]):=by
 have h:=qtq qtw (by decide)
 rw [jao px9b (by decide)] at h
 exact h
theorem qeb:Con Try.prog 10 [] (.bool true):=by
 refine zK {} 300 Try.func10 (fun c0 rdb=>?_)
 (repeat' ((conv=>whnf);first|refine zA ?_|refine zO ?_|refine Ob.auto ?_|refine zC 300 (qkr) ?_|refine zG 300 (fun hg=>qkr) ?_|(refine CallY.con (qkr) (by rfl) leA ?_)|(refine CallZ.con (fun hg=>qkr) qz (by rfl) ?_)|refine zC 300 (qks) ?_|refine zG 300 (fun hg=>qks) ?_|(refine CallY.con (qks) (by rfl) leA ?_)|(refine CallZ.con (fun hg=>qks) qz (by rfl) ?_)|refine zC 300 (qkq) ?_|refine zG 300 (fun hg=>qkq) ?_|(refine CallY.con (qkq) (by rfl) leA ?_)|(refine CallZ.con (fun hg=>qkq) qz (by rfl) ?_)|(refine qq (fun _=>rfl) 300 (qkr) qc (by (repeat' (first|exact trivial|exact Le.refl _|(refine And.intro ?_ ?_))) <;> fail) (by rfl) (by kernel_rfl) ?_)|(refine ja (fun _=>rfl) 300 (fun hg=>qkr) (fun hg=>qc) (fun hg=>(by (repeat' (first|exact trivial|exact Le.refl _|exact Le.cnd hg|(refine And.intro ?_ ?_))) <;> fail)) (by rfl) (by kernel_rfl) ?_)|(refine qq (fun _=>rfl) 300 (qks) qc (by (repeat' (first|exact trivial|exact Le.refl _|(refine And.intro ?_ ?_))) <;> fail) (by rfl) (by kernel_rfl) ?_)|(refine ja (fun _=>rfl) 300 (fun hg=>qks) (fun hg=>qc) (fun hg=>(by (repeat' (first|exact trivial|exact Le.refl _|exact Le.cnd hg|(refine And.intro ?_ ?_))) <;> fail)) (by rfl) (by kernel_rfl) ?_)|(refine qq (fun _=>rfl) 300 (qkq) qc (by (repeat' (first|exact trivial|exact Le.refl _|(refine And.intro ?_ ?_))) <;> fail) (by rfl) (by kernel_rfl) ?_)|(refine ja (fun _=>rfl) 300 (fun hg=>qkq) (fun hg=>qc) (fun hg=>(by (repeat' (first|exact trivial|exact Le.refl _|exact Le.cnd hg|(refine And.intro ?_ ?_))) <;> fail)) (by rfl) (by kernel_rfl) ?_)|refine zD 300 ?_|(apply zB <;> intro hb <;> (try simp [-List.getD_eq_getElem?_getD] at hb) <;> try (exfalso;omega))|refine Ob.intro ?_ ?_))
 exact Le.refl _
end Go.Proofs.Ythfaleaojlnnoaa
end
