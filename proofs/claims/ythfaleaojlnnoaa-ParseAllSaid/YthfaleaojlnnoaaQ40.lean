/- Some texts of the library, one behind the other. -/
import Derived.Test.YthfaleaojlnnoaaQPgQ
import Derived.Test.YthfaleaojlnnoaaQ16
import Derived.Test.YthfaleaojlnnoaaQ17
import Derived.Test.YthfaleaojlnnoaaQPcR
import Derived.Test.YthfaleaojlnnoaaQPa0
import Derived.Test.YthfaleaojlnnoaaQPaL
import Derived.Test.YthfaleaojlnnoaaQPaB
import Derived.Test.YthfaleaojlnnoaaQLexQ2
import Derived.Test.YthfaleaojlnnoaaProg
import Derived.Test.YthfaleaojlnnoaaQ10
import Derived.Test.YthfaleaojlnnoaaQ3
import Derived.Test.YthfaleaojlnnoaaQ1
import Derived.KernelRfl
import Derived.Test.YthfaleaojlnnoaaQ2
set_option linter.unusedSimpArgs false
set_option linter.unusedVariables false
section
namespace Go.Proofs.Ythfaleaojlnnoaa
namespace Pa
open Go Go.Sx Go.St
def spQ (N:Int) (u:Tr):Prop:=(u.l.map Tr.at_).Pairwise (· < ·)∧∀ x∈u.l.map Tr.at_,u.at_≤x∧x≤N
section
variable {ts:List Lx.Tok} {N:Int}
theorem jco (hp:ts.Pairwise (fun a b=>a.pos<b.pos)) {i j:Int} (h0:0≤i) (hij:i<j) (hj:j<ts.length):posT ts i<posT ts j:=by
 have:=List.pairwise_iff_getElem.1 hp i.toNat j.toNat (by omega) (by omega) (by omega)
 unfold posT
 rw [List.getD_eq_getElem?_getD,ze (by omega),List.getD_eq_getElem?_getD,ze (by omega)]
 exact this
theorem jcp (hp:ts.Pairwise (fun a b=>a.pos<b.pos)):∀ (l:List Tr) (i j:Int),SpL ts l i j→0≤i→j≤ts.length→
  (∀ x∈l.map Tr.at_,∃ m,i≤m∧m<j∧x=posT ts m)∧(l.map Tr.at_).Pairwise (· < ·)
 | [],_,_,_,_,_=>⟨fun x hx=>by simp at hx,List.Pairwise.nil⟩
 | t::r,i,j,h,h0,hj=>by
  obtain ⟨e,h1,h2⟩:=spL_cons.1 h
  have h3:=qlr h1
  have h4:=qlt _ _ _ h2
  obtain ⟨m,m1,m2,m3,_⟩:=qvh h1
  obtain ⟨k1,k2⟩:=jcp hp r e j h2 (by omega) hj
  rw [xm]
  refine ⟨fun x hx=>?_,List.pairwise_cons.2 ⟨fun x hx=>?_,k2⟩⟩
  ·rcases List.mem_cons.1 hx with rfl|hx
   ·exact ⟨m,m1,by omega,m3⟩
   ·obtain ⟨n,n1,n2,n3⟩:=k1 x hx
    exact ⟨n,by omega,n2,n3⟩
  ·obtain ⟨n,n1,n2,n3⟩:=k1 x hx
   rw [m3,n3]
   exact jco hp (by omega) (by omega) (by omega)
mutual
theorem spT_Q (hp:ts.Pairwise (fun a b=>a.pos<b.pos)) (hN:∀ t∈ts,t.pos≤N):∀ (t:Tr) (i j:Int),SpT ts t i j→0≤i→j≤ts.length→t.allT (spQ N)
 | .mk k w n a l,i,j,h,h0,hj=>by
  obtain ⟨m,h1,h2,h3,h4⟩:=spT_mk.1 h
  obtain ⟨k1,k2⟩:=jcp hp l m j h4 (by omega) hj
  refine qcg ⟨k2,fun x hx=>?_⟩ (spL_Q hp hN l m j h4 (by omega) hj)
  obtain ⟨q,q1,q2,q3⟩:=k1 x hx
  obtain ⟨t,ht,e⟩:=qny (ts:=ts) (i:=q) (by omega) (by omega)
  have h5:=hN t ht
  refine ⟨?_,by omega⟩
  show a≤x
  rw [h3,q3]
  by_cases hmq:m=q
  ·rw [hmq];exact zm _
  ·exact Int.le_of_lt (jco hp (by omega) (by omega) (by omega))
theorem spL_Q (hp:ts.Pairwise (fun a b=>a.pos<b.pos)) (hN:∀ t∈ts,t.pos≤N):∀ (l:List Tr) (i j:Int),SpL ts l i j→0≤i→j≤ts.length→Tr.allL (spQ N) l
 | [],_,_,_,_,_=>qdd
 | t::r,i,j,h,h0,hj=>by
  obtain ⟨e,h1,h2⟩:=spL_cons.1 h
  have h3:=qlr h1
  have h4:=qlt _ _ _ h2
  exact qdj (spT_Q hp hN t i e h1 h0 (by omega)) (spL_Q hp hN r e j h2 (by omega) hj)
end
end
end Pa
end Go.Proofs.Ythfaleaojlnnoaa
end
section
namespace Go.Proofs.Ythfaleaojlnnoaa
namespace Pa
open Go Go.Sx
def zP (p:Ps):Ps:={ p with fat:=0 }
mutual
def zT:Tr→Tr
 | .mk k w n _ l=>.mk k w n 0 (zL l)
def zL:List Tr→List Tr
 | []=>[]
 | t::r=>zT t::zL r
end
def zR (r:Tr × Ps):Tr × Ps:=(zT r.1,zP r.2)
theorem qvl (k:Int) (w:List (List UInt8)) (n:List Int) (a:Int) (l:List Tr):zT (.mk k w n a l)=.mk k w n 0 (zL l):=by rw [zT]
theorem qrc:zL []=[]:=by rw [zL]
theorem qrd (t:Tr) (r:List Tr):zL (t::r)=zT t::zL r:=by rw [zL]
section
variable (ts:List Lx.Tok)
section
variable {part part':Ps→Tr × Ps} (hp:∀ p,part' (zP p)=zR (part p))
include hp
end
end
end Pa
end Go.Proofs.Ythfaleaojlnnoaa
end
section
namespace Go.Proofs.Ythfaleaojlnnoaa
namespace Pa
open Go Go.Sx
section
variable (ts:List Lx.Tok)
end
end Pa
end Go.Proofs.Ythfaleaojlnnoaa
end
section
namespace Go.Proofs.Ythfaleaojlnnoaa
namespace Pa
open Go Go.Sx
def zN (n:Nd):Nd:={ n with at_:=0 }
mutual
theorem z_size:∀ t:Tr,(zT t).size=t.size
 | .mk k w n a l=>by rw [qvl,Tr.size,Tr.size,z_sizeL l]
theorem z_sizeL:∀ l:List Tr,Tr.sizeL (zL l)=Tr.sizeL l
 | []=>by rw [qrc]
 | t::r=>by rw [qrd,Tr.sizeL,Tr.sizeL,z_size t,z_sizeL r]
end
theorem jcq:∀ (n:Nat) (l:List Tr),qm n (zL l)=qm n l
 | n,[]=>by rw [qrc]
 | n,t::r=>by rw [qrd,qm,qm,z_size,jcq _ r]
mutual
theorem z_lay:∀ (n:Nat) (t:Tr),layT n (zT t)=(layT n t).map zN
 | n,.mk k w ns a l=>by rw [qvl,layT,layT,xm,jcq,z_layL (n+1) l];rfl
theorem z_layL:∀ (n:Nat) (l:List Tr),layL n (zL l)=(layL n l).map zN
 | n,[]=>by rw [qrc,layL];rfl
 | n,t::r=>by rw [qrd,layL,layL,List.map_append,z_size,z_lay n t,z_layL _ r]
end
mutual
theorem z_deep:∀ (t:Tr) (n:Int),t.allT (fun u=>0≤u.at_)→(0≤deepT (zT t) n↔0≤deepT t n)
 | .mk k w ns a l,n,h=>by
  rw [Tr.allT] at h
  have h1:0≤a:=h.1
  rw [qvl,deepT,deepT]
  split
  ·exact ⟨fun _=>h1,fun _=>zm _⟩
  ·exact z_deepL l n h.2
theorem z_deepL:∀ (l:List Tr) (n:Int),Tr.allL (fun u=>0≤u.at_) l→(0≤deepL (zL l) n↔0≤deepL l n)
 | [],n,_=>by rw [qrc]
 | t::r,n,h=>by
  rw [Tr.allL] at h
  have h1:=z_deep t (n+1) h.1
  have h2:=z_deepL r n h.2
  rw [qrd,deepL,deepL]
  by_cases h3:0≤deepT t (n+1)
  ·rw [zb (h1.2 h3),zb h3];exact h1
  ·rw [za (fun h=>h3 (h1.1 h)),za h3];exact h2
end
end Pa
end Go.Proofs.Ythfaleaojlnnoaa
end
section
namespace Go.Proofs.Ythfaleaojlnnoaa
namespace Pa
open Go Go.Sx
end Pa
end Go.Proofs.Ythfaleaojlnnoaa
end
section
namespace Go.Proofs.Ythfaleaojlnnoaa
namespace Pa
open Go Go.Sx
end Pa
end Go.Proofs.Ythfaleaojlnnoaa
end
section
namespace Go.Proofs.Ythfaleaojlnnoaa
namespace Pa
open Go Go.Sx
end Pa
end Go.Proofs.Ythfaleaojlnnoaa
end
section
namespace Go.Proofs.Ythfaleaojlnnoaa
open Go Go.Sx Go.RowKit Go.St Pa
set_option maxRecDepth 100000
set_option maxHeartbeats 4000000
theorem jpo (s:List UInt8):(qbk s).1=[]∨∃ t:Tr,(qbk s).1=layT 0 t∧t.size≤800:=by
 unfold qbk
 split
 ·exact .inl rfl
 unfold qfq
 simp only
 split
 ·exact .inl rfl
 split
 ·exact .inl rfl
 rename_i h8
 split
 ·exact .inl rfl
 rw [lay_lenT] at h8
 exact .inr ⟨_,rfl,by omega⟩
theorem jpp {n:Nd} {c:Int} (h:qo n c=true):(n.words.length:Int)=c:=by
 unfold qo at h
 rw [zf,xq] at h
 exact h.2
theorem jpq {l:List Nd} {n:Nd} (hk:n.kids.length≤800) (h:qbo l n=true):n.words.length≤2∧n.nums.length≤4:=by
 rw [← jla l n hk] at h
 unfold qzy at h
 rw [zf,zf] at h
 have hw:=jpp h.1.1
 have hn:=h.1.2
 unfold qah at hn
 rw [zf,zr] at hn
 have hn:=hn.1
 constructor
 ·unfold cntW at hw
  split at hw
  ·omega
  split at hw <;> omega
 ·unfold bndF at hn
  repeat' (split at hn)
  all_goals (simp only [zq,zao] at hn;omega)
theorem jcr (s:List UInt8):(qbk s).1.length≤800∧∀ nd∈(qbk s).1,nd.words.length≤2∧nd.nums.length≤4∧nd.kids.length≤800:=by
 by_cases h:(qbk s).2.1=0
 ·have hr:=jph h
  have ha:(qbk s).1.all (qbo (qbk s).1)=true:=by
   unfold qun at hr
   rw [zf] at hr
   exact hr.2
  rcases jpo s with e|⟨t,e,ht⟩
  ·rw [e]
   exact ⟨xe _,fun nd hm=>absurd hm List.not_mem_nil⟩
  ·refine ⟨by rw [e,lay_lenT];omega,fun nd hm=>?_⟩
   have hk8:nd.kids.length≤800:=?_
   ·obtain ⟨h1,h2⟩:=jpq hk8 (List.all_eq_true.1 ha nd hm)
    exact ⟨h1,h2,hk8⟩
   rw [e] at hm
   obtain ⟨j,hj,rfl⟩:=List.getElem_of_mem hm
   rw [lay_lenT] at hj
   have:=kids_lenT 0 t j hj
   rw [List.getD_eq_getElem?_getD,ze (by rw [lay_lenT];exact hj)] at this
   exact zw this ht
 ·rw [jpi h]
  exact ⟨xe _,fun nd hm=>absurd hm List.not_mem_nil⟩
theorem qpq {l:List Nd} {i:Nat} (hi:i<l.length):l.getD i nd0∈l:=by
 rw [List.getD_eq_getElem?_getD,ze hi]
 exact xg hi
theorem jpr (s:List UInt8):Con Try.prog 13 [qdl (qbk s).1,qdl (qbk s).1] (.bool true):=by
 obtain ⟨h1,h2⟩:=jcr s
 refine jks _ _ rfl (by omega) (fun i hi=>?_)
 obtain ⟨a,b,c⟩:=h2 _ (qpq hi)
 exact ⟨rfl,rfl,rfl,rfl,by omega,by omega,by omega⟩
end Go.Proofs.Ythfaleaojlnnoaa
end
section
namespace Go.Proofs.Ythfaleaojlnnoaa
namespace Pa
open Go Go.Sx
def lexF:Nat→List UInt8→Nat→Except Nat (List Lx.Tok)
 | 0,_,p=>.error p
 | _+1,[],p=>.ok [⟨3,[],p⟩]
 | n+1,b::r,p=>if Lx.blankB b then lexF n r (p+1) else if Lx.slash2 (b::r) then lexF n (r.drop (Lx.lineN r)) (p+1+Lx.lineN r) else if Lx.firstN (b::r)=0 then .error p
  else (lexF n (r.drop (Lx.firstN (b::r) - 1)) (p+Lx.firstN (b::r))).map (⟨Lx.firstK (b::r),(b::r).take (Lx.firstN (b::r)),p⟩::·)
theorem qre:∀ (n:Nat) (l:List UInt8) (p:Nat),l.length<n→lexF n l p=Lx.lexR l p
 | 0,_,_,h=>absurd h (xb _)
 | n+1,[],p,_=>by rw [Lx.lexR_nil];rfl
 | n+1,b::r,p,h=>by
  have hr:r.length<n:=by simpa using h
  rw [Lx.lexR_cons,lexF,qre n r _ hr,qre n (r.drop (Lx.lineN r)) _ (by rw [zn];omega),qre n (r.drop (Lx.firstN (b::r) - 1)) _ (by rw [zn];omega)]
def qrf (s:List UInt8):List Nd × (Int × Int):=
 match lexF (s.length+1) s 0 with
 | .ok ts=>qfq ts
 | .error p=>([],(10,p))
theorem jcs {s:List UInt8} {r:List Nd × (Int × Int)} (h:qrf s=r) (hs:s.length≤4000):qbk s=r:=by
 unfold qrf at h
 rw [qre _ _ _ (zaj _)] at h
 have hn:¬ 4000<s.length:=by omega
 unfold qbk Lx.lexAll
 split at h
 ·rename_i ts hts
  rw [hts,za hn]
  exact h
 ·rename_i p hp
  rw [hp,za hn]
  exact h
end Pa
end Go.Proofs.Ythfaleaojlnnoaa
end
section
namespace Go.Proofs.Ythfaleaojlnnoaa
open List renaming getD_eq_getElem?_getD → zd
open Go Go.Sx Go.RowKit Go.St Pa
set_option maxRecDepth 100000
set_option maxHeartbeats 8000000
theorem jps (s:List UInt8) (hs:s.length≤1000000):Con Try.prog 12 [.str s] (qps (qbk s)):=by
 refine zK {} 300 Try.func12 (fun c0 rdb=>?_)
 (repeat' ((conv=>whnf);first|refine zO ?_|refine Ob.auto ?_|refine zC 300 (jju s hs) ?_|refine zD 300 ?_|(apply zB <;> intro hb <;> (try simp [-zd] at hb) <;> try (exfalso;omega))))
 ·have he:(Lx.lexAll s).2.1≠0:=by assumption
  have e:qbk s=([],(Lx.lexAll s).2):=zb he
  rw [e]
  exact Le.tup ⟨Le.nils _ _,Le.refl _,trivial⟩
 have he:(Lx.lexAll s).2.1=0:=by assumption
 obtain ⟨ht,h0⟩:=qqj he
 have e:qbk s=qfq (Lx.lexAll s).1:=za (by rw [he];decide)
 rw [e]
 generalize hts:(Lx.lexAll s).1=ts at ht h0 ⊢
 have hP:Pre ts ts.length ⟨0,0,0,0⟩:=⟨⟨zm _,by simp only;omega⟩,by simp,by simp⟩
 ((conv=>whnf);refine zT 300 [2] (jkm ht hP) qa ?_)
 (repeat' ((conv=>whnf);first|refine zO ?_|refine Ob.auto ?_|refine zD 300 ?_|(apply zB <;> intro hb <;> (try simp [-zd] at hb) <;> try (exfalso;omega))))
 ·have hn:(jl ts ⟨0,0,0,0⟩).2.err≠0:=by assumption
  have e:qfq ts=([],((jl ts ⟨0,0,0,0⟩).2.err,(jl ts ⟨0,0,0,0⟩).2.fat)):=zb hn
  rw [e]
  exact Le.tup ⟨Le.nils _ _,Le.refl _,trivial⟩
 have hn:(jl ts ⟨0,0,0,0⟩).2.err=0:=by assumption
 have hsz:(jl ts ⟨0,0,0,0⟩).1.size≤100000:=by
  have:=jbq ht hP.at_ hn
  have:=ht.len
  omega
 have e2:qfq ts=if 800<(layT 0 (jl ts ⟨0,0,0,0⟩).1).length then ([],(12,0)) else if 0≤deepT (jl ts ⟨0,0,0,0⟩).1 1 then ([],(12,deepT (jl ts ⟨0,0,0,0⟩).1 1)) else (layT 0 (jl ts ⟨0,0,0,0⟩).1,(0,0)):=za (fun h=>h hn)
 rw [e2]
 generalize (jl ts ⟨0,0,0,0⟩).1=t at hsz ⊢
 (conv=>whnf)
 refine qgk (fun _=>rfl) 300 [] (jkr t hsz) (by kernel_rfl) leA trivial (by exact qb rfl) (rowsM _) (by kernel_rfl) ?_
 (repeat' ((conv=>whnf);first|refine Ob.auto ?_|refine zC 300 (jko _ t 1 (zi _) hsz (by decide) (by decide)) ?_|(apply zB <;> intro hb <;> (try simp [-zd] at hb) <;> try (exfalso;omega))|refine Ob.intro ?_ ?_|fail))
 ·have hb8:800<(layT 0 t).length:=by omega
  rw [zb hb8]
  exact Le.tup ⟨Le.nils _ _,Le.refl _,trivial⟩
 ·have hb8:¬ 800<(layT 0 t).length:=by omega
  rw [za hb8,zb (by assumption)]
  exact Le.tup ⟨Le.nils _ _,Le.refl _,trivial⟩
 ·exact ⟨⟨trivial,⟨rfl,rfl⟩,fun k hk=>⟨trivial,trivial,trivial,⟨hk,⟨rfl,rfl⟩,trivial⟩,trivial,trivial⟩⟩,⟨trivial,trivial,trivial⟩,trivial⟩
 ·have hb8:¬ 800<(layT 0 t).length:=by omega
  rw [za hb8,za (by omega)]
  refine Le.tup ⟨Le.slcL rfl (fun k hk=>?_),Le.refl _,trivial⟩
  exact ⟨Le.refl _,Le.refl _,Le.refl _,Le.refl _,Le.refl _,trivial⟩
end Go.Proofs.Ythfaleaojlnnoaa
end
section
namespace Go.Proofs.Ythfaleaojlnnoaa
open Go Go.Sx Go.RowKit Go.St Pa
set_option maxRecDepth 100000
def qvm:List Nd:=[⟨0,[],[],[1],0⟩,⟨4,[],[],[2],0⟩,⟨22,[],[3],[3,4],5⟩,⟨18,[[120]],[],[],5⟩,⟨17,[],[1],[],9⟩]
noncomputable def D9:CE:=⟨Try.prog,tab Try.prog,fun _=>{ lit:=true }⟩
theorem qlx:Con Try.prog 15 [qdl qvm] (.bool true):=
 jhv (D:=D9) (fun _=>rfl) (by kernel_rfl) (n:=100000) (by kernel_rfl)
set_option maxHeartbeats 4000000
def qvn:List UInt8:=[115,97,102,101,32,120,32,60,32,49,59]
def qvo:List UInt8:=[115,97,102,101,32,120,32,60,32,49,32,60,32,50,59]
theorem px9:qrf qvn=(qvm,(0,0)):=by kernel_rfl
theorem px9b:qrf qvo=([],(11,11)):=by kernel_rfl
theorem qly:Con Try.prog 11 [.str qvn] (.tup [qdl qvm,flt 0 0]):=by
 have h:=qvk qvn (by decide)
 rw [jcs px9 (by decide)] at h
 exact h
theorem qlz:Con Try.prog 11 [.str qvo] (.tup [qdl [],flt 11 11]):=by
 have h:=qvk qvo (by decide)
 rw [jcs px9b (by decide)] at h
 exact h
theorem qfc:Con Try.prog 10 [] (.bool true):=by
 refine zK {} 300 Try.func10 (fun c0 rdb=>?_)
 (repeat' ((conv=>whnf);first|refine zA ?_|refine zO ?_|refine Ob.auto ?_|refine zC 300 (qly) ?_|refine zG 300 (fun hg=>qly) ?_|(refine CallY.con (qly) (by rfl) leA ?_)|(refine CallZ.con (fun hg=>qly) je (by rfl) ?_)|refine zC 300 (qlz) ?_|refine zG 300 (fun hg=>qlz) ?_|(refine CallY.con (qlz) (by rfl) leA ?_)|(refine CallZ.con (fun hg=>qlz) je (by rfl) ?_)|refine zC 300 (qlx) ?_|refine zG 300 (fun hg=>qlx) ?_|(refine CallY.con (qlx) (by rfl) leA ?_)|(refine CallZ.con (fun hg=>qlx) je (by rfl) ?_)|(refine ql (fun _=>rfl) 300 (qly) qd (by (repeat' (first|exact trivial|exact Le.refl _|(refine And.intro ?_ ?_))) <;> fail) (by rfl) (by kernel_rfl) ?_)|(refine qz (fun _=>rfl) 300 (fun hg=>qly) (fun hg=>qd) (fun hg=>(by (repeat' (first|exact trivial|exact Le.refl _|exact Le.cnd hg|(refine And.intro ?_ ?_))) <;> fail)) (by rfl) (by kernel_rfl) ?_)|(refine ql (fun _=>rfl) 300 (qlz) qd (by (repeat' (first|exact trivial|exact Le.refl _|(refine And.intro ?_ ?_))) <;> fail) (by rfl) (by kernel_rfl) ?_)|(refine qz (fun _=>rfl) 300 (fun hg=>qlz) (fun hg=>qd) (fun hg=>(by (repeat' (first|exact trivial|exact Le.refl _|exact Le.cnd hg|(refine And.intro ?_ ?_))) <;> fail)) (by rfl) (by kernel_rfl) ?_)|(refine ql (fun _=>rfl) 300 (qlx) qd (by (repeat' (first|exact trivial|exact Le.refl _|(refine And.intro ?_ ?_))) <;> fail) (by rfl) (by kernel_rfl) ?_)|(refine qz (fun _=>rfl) 300 (fun hg=>qlx) (fun hg=>qd) (fun hg=>(by (repeat' (first|exact trivial|exact Le.refl _|exact Le.cnd hg|(refine And.intro ?_ ?_))) <;> fail)) (by rfl) (by kernel_rfl) ?_)|refine zD 300 ?_|(apply zB <;> intro hb <;> (try simp [-List.getD_eq_getElem?_getD] at hb) <;> try (exfalso;omega))|refine Ob.intro ?_ ?_))
 exact Le.refl _
end Go.Proofs.Ythfaleaojlnnoaa
end
section
namespace Go.Proofs.Ythfaleaojlnnoaa
open List renaming getD_eq_getElem?_getD → zd
open Go Go.Sx Go.RowKit Go.St Pa
set_option maxRecDepth 100000
set_option maxHeartbeats 4000000
theorem jpt (s:List UInt8):Con Try.prog 3 [.str s] (.bool true):=by
 by_cases hs:s.length≤2500
 ·have h1:=qvk s (by omega)
  have h2:=jps s (by omega)
  have h3:=jpr s
  have hsz:=(jcr s).1
  generalize qbk s=R at h1 h2 h3 hsz
  obtain ⟨l,e,at_⟩:=R
  simp only at hsz
  refine zK {} 300 Try.func3 (fun c0 rdb=>?_)
  (repeat' ((conv=>whnf);first|refine zA ?_|refine zO ?_|refine Ob.auto ?_|refine zC 300 (qfc) ?_|refine zG 300 (fun hg=>qfc) ?_|(refine CallY.con (qfc) (by rfl) leA ?_)|(refine CallZ.con (fun hg=>qfc) je (by rfl) ?_)|refine zC 300 (h1) ?_|refine zG 300 (fun hg=>h1) ?_|(refine CallY.con (h1) (by rfl) leA ?_)|(refine CallZ.con (fun hg=>h1) je (by rfl) ?_)|refine zC 300 (h2) ?_|refine zG 300 (fun hg=>h2) ?_|(refine CallY.con (h2) (by rfl) leA ?_)|(refine CallZ.con (fun hg=>h2) je (by rfl) ?_)|refine zC 300 (h3) ?_|refine zG 300 (fun hg=>h3) ?_|(refine CallY.con (h3) (by rfl) leA ?_)|(refine CallZ.con (fun hg=>h3) je (by rfl) ?_)|(refine ql (fun _=>rfl) 300 (qfc) qd (by (repeat' (first|exact trivial|exact Le.refl _|(refine And.intro ?_ ?_))) <;> fail) (by rfl) (by kernel_rfl) ?_)|(refine qz (fun _=>rfl) 300 (fun hg=>qfc) (fun hg=>qd) (fun hg=>(by (repeat' (first|exact trivial|exact Le.refl _|exact Le.cnd hg|(refine And.intro ?_ ?_))) <;> fail)) (by rfl) (by kernel_rfl) ?_)|(refine ql (fun _=>rfl) 300 (h1) qd (by (repeat' (first|exact trivial|exact Le.refl _|(refine And.intro ?_ ?_))) <;> fail) (by rfl) (by kernel_rfl) ?_)|(refine qz (fun _=>rfl) 300 (fun hg=>h1) (fun hg=>qd) (fun hg=>(by (repeat' (first|exact trivial|exact Le.refl _|exact Le.cnd hg|(refine And.intro ?_ ?_))) <;> fail)) (by rfl) (by kernel_rfl) ?_)|(refine ql (fun _=>rfl) 300 (h2) qd (by (repeat' (first|exact trivial|exact Le.refl _|(refine And.intro ?_ ?_))) <;> fail) (by rfl) (by kernel_rfl) ?_)|(refine qz (fun _=>rfl) 300 (fun hg=>h2) (fun hg=>qd) (fun hg=>(by (repeat' (first|exact trivial|exact Le.refl _|exact Le.cnd hg|(refine And.intro ?_ ?_))) <;> fail)) (by rfl) (by kernel_rfl) ?_)|(refine ql (fun _=>rfl) 300 (h3) qd (by (repeat' (first|exact trivial|exact Le.refl _|(refine And.intro ?_ ?_))) <;> fail) (by rfl) (by kernel_rfl) ?_)|(refine qz (fun _=>rfl) 300 (fun hg=>h3) (fun hg=>qd) (fun hg=>(by (repeat' (first|exact trivial|exact Le.refl _|exact Le.cnd hg|(refine And.intro ?_ ?_))) <;> fail)) (by rfl) (by kernel_rfl) ?_)|refine zD 300 ?_|(apply zB <;> intro hb <;> (try simp [-zd] at hb) <;> try (exfalso;omega))|refine Ob.intro ?_ ?_))
  ((conv=>whnf);refine qas (fun _=>rfl) 300 1 (fun i:Nat=>[(7,iv i)]) (fun _=>[]) (fun i=>i≤l.length) (fun i=>l.length - i) (0) (xe _) qa qa (fun _=>rfl) (by kernel_rfl) ?_;(conv=>whnf))
  intro i hi
  by_cases hil:i<l.length
  ·(repeat' ((conv=>whnf);first|refine zA ?_|refine zO ?_|refine Ob.auto ?_|refine zI ?_|refine zD 300 ?_|(apply zB <;> intro hb <;> (try simp [-zd] at hb) <;> (try (exfalso;omega)) <;> (try contradiction))|refine Ob.intro ?_ ?_))
   ((conv=>whnf);refine ⟨i+1,hil,⟨qa,qa⟩,⟨qa,qa⟩,?_⟩;(first|omega|(dsimp only;omega)|skip))
  ·(repeat' ((conv=>whnf);first|refine zA ?_|refine zO ?_|refine Ob.auto ?_|refine zI ?_|refine zD 300 ?_|(apply zB <;> intro hb <;> (try simp [-zd] at hb) <;> try (exfalso;omega))|refine Ob.intro ?_ ?_))
   exact Le.refl _
 ·refine zK {} 300 Try.func3 (fun c0 rdb=>?_)
  (repeat' ((conv=>whnf);first|refine zA ?_|refine zO ?_|refine Ob.auto ?_|refine zC 300 (qfc) ?_|refine zG 300 (fun hg=>qfc) ?_|(refine CallY.con (qfc) (by rfl) leA ?_)|(refine CallZ.con (fun hg=>qfc) je (by rfl) ?_)|(refine ql (fun _=>rfl) 300 (qfc) qd (by (repeat' (first|exact trivial|exact Le.refl _|(refine And.intro ?_ ?_))) <;> fail) (by rfl) (by kernel_rfl) ?_)|(refine qz (fun _=>rfl) 300 (fun hg=>qfc) (fun hg=>qd) (fun hg=>(by (repeat' (first|exact trivial|exact Le.refl _|exact Le.cnd hg|(refine And.intro ?_ ?_))) <;> fail)) (by rfl) (by kernel_rfl) ?_)|refine zD 300 ?_|(apply zB <;> intro hb <;> (try simp [-zd] at hb) <;> try (exfalso;omega))|refine Ob.intro ?_ ?_))
  all_goals exact Le.refl _
end Go.Proofs.Ythfaleaojlnnoaa
end
