/- Some texts of the library, one behind the other. -/
import Derived.Test.YthfaleaojlnnoaaY238
import Derived.Test.YthfaleaojlnnoaaY216
import Derived.Test.YthfaleaojlnnoaaY217
import Derived.Test.YthfaleaojlnnoaaY2PcR
import Derived.Test.YthfaleaojlnnoaaY2Pa0
import Derived.Test.YthfaleaojlnnoaaY2PaL
import Derived.Test.YthfaleaojlnnoaaY2PaB
import Derived.Test.YthfaleaojlnnoaaY2LexQ2
import Derived.Test.YthfaleaojlnnoaaProg
import Derived.Test.YthfaleaojlnnoaaY210
import Derived.Test.YthfaleaojlnnoaaY23
import Derived.Test.YthfaleaojlnnoaaY21
import Derived.KernelRfl
import Derived.Test.YthfaleaojlnnoaaY22
set_option linter.unusedSimpArgs false
set_option linter.unusedVariables false
section
namespace Go.Proofs.Ythfaleaojlnnoaa
namespace Pa
open Go Go.Sx Go.St
def spQ (N:Int) (u:Tr):Prop:=(u.l.map Tr.at_).Pairwise (· < ·)∧∀ x∈u.l.map Tr.at_,u.at_≤x∧x≤N
section
variable {ts:List Lx.Tok} {N:Int}
theorem jcq (hp:ts.Pairwise (fun a b=>a.pos<b.pos)) {i j:Int} (h0:0≤i) (hij:i<j) (hj:j<ts.length):posT ts i<posT ts j:=by
 have:=List.pairwise_iff_getElem.1 hp i.toNat j.toNat (by omega) (by omega) (by omega)
 unfold posT
 rw [List.getD_eq_getElem?_getD,zf (by omega),List.getD_eq_getElem?_getD,zf (by omega)]
 exact this
theorem jcr (hp:ts.Pairwise (fun a b=>a.pos<b.pos)):∀ (l:List Tr) (i j:Int),SpL ts l i j→0≤i→j≤ts.length→
  (∀ x∈l.map Tr.at_,∃ m,i≤m∧m<j∧x=posT ts m)∧(l.map Tr.at_).Pairwise (· < ·)
 | [],_,_,_,_,_=>⟨fun x hx=>by simp at hx,List.Pairwise.nil⟩
 | t::r,i,j,h,h0,hj=>by
  obtain ⟨e,h1,h2⟩:=spL_cons.1 h
  have h3:=qls h1
  have h4:=qlu _ _ _ h2
  obtain ⟨m,m1,m2,m3,_⟩:=qvh h1
  obtain ⟨k1,k2⟩:=jcr hp r e j h2 (by omega) hj
  rw [xm]
  refine ⟨fun x hx=>?_,List.pairwise_cons.2 ⟨fun x hx=>?_,k2⟩⟩
  ·rcases List.mem_cons.1 hx with rfl|hx
   ·exact ⟨m,m1,by omega,m3⟩
   ·obtain ⟨n,n1,n2,n3⟩:=k1 x hx
    exact ⟨n,by omega,n2,n3⟩
  ·obtain ⟨n,n1,n2,n3⟩:=k1 x hx
   rw [m3,n3]
   exact jcq hp (by omega) (by omega) (by omega)
mutual
theorem spT_Q (hp:ts.Pairwise (fun a b=>a.pos<b.pos)) (hN:∀ t∈ts,t.pos≤N):∀ (t:Tr) (i j:Int),SpT ts t i j→0≤i→j≤ts.length→t.allT (spQ N)
 | .mk k w n a l,i,j,h,h0,hj=>by
  obtain ⟨m,h1,h2,h3,h4⟩:=spT_mk.1 h
  obtain ⟨k1,k2⟩:=jcr hp l m j h4 (by omega) hj
  refine qcg ⟨k2,fun x hx=>?_⟩ (spL_Q hp hN l m j h4 (by omega) hj)
  obtain ⟨q,q1,q2,q3⟩:=k1 x hx
  obtain ⟨t,ht,e⟩:=qnz (ts:=ts) (i:=q) (by omega) (by omega)
  have h5:=hN t ht
  refine ⟨?_,by omega⟩
  show a≤x
  rw [h3,q3]
  by_cases hmq:m=q
  ·rw [hmq];exact zn _
  ·exact Int.le_of_lt (jcq hp (by omega) (by omega) (by omega))
theorem spL_Q (hp:ts.Pairwise (fun a b=>a.pos<b.pos)) (hN:∀ t∈ts,t.pos≤N):∀ (l:List Tr) (i j:Int),SpL ts l i j→0≤i→j≤ts.length→Tr.allL (spQ N) l
 | [],_,_,_,_,_=>qdd
 | t::r,i,j,h,h0,hj=>by
  obtain ⟨e,h1,h2⟩:=spL_cons.1 h
  have h3:=qls h1
  have h4:=qlu _ _ _ h2
  exact qdj (spT_Q hp hN t i e h1 h0 (by omega)) (spL_Q hp hN r e j h2 (by omega) hj)
end
end
end Pa
end Go.Proofs.Ythfaleaojlnnoaa
end
section
namespace Go.Proofs.Ythfaleaojlnnoaa
namespace Pa
open Go Go.Sx
def zP (p:Ps):Ps:={ p with fat:=0 }
mutual
def zT:Tr→Tr
 | .mk k w n _ l=>.mk k w n 0 (zL l)
def zL:List Tr→List Tr
 | []=>[]
 | t::r=>zT t::zL r
end
def zR (r:Tr × Ps):Tr × Ps:=(zT r.1,zP r.2)
theorem qvn (k:Int) (w:List (List UInt8)) (n:List Int) (a:Int) (l:List Tr):zT (.mk k w n a l)=.mk k w n 0 (zL l):=by rw [zT]
theorem qrc:zL []=[]:=by rw [zL]
theorem qrd (t:Tr) (r:List Tr):zL (t::r)=zT t::zL r:=by rw [zL]
section
variable (ts:List Lx.Tok)
section
variable {part part':Ps→Tr × Ps} (hp:∀ p,part' (zP p)=zR (part p))
include hp
end
end
end Pa
end Go.Proofs.Ythfaleaojlnnoaa
end
section
namespace Go.Proofs.Ythfaleaojlnnoaa
namespace Pa
open Go Go.Sx
section
variable (ts:List Lx.Tok)
end
end Pa
end Go.Proofs.Ythfaleaojlnnoaa
end
section
namespace Go.Proofs.Ythfaleaojlnnoaa
namespace Pa
open Go Go.Sx
def zN (n:Nd):Nd:={ n with at_:=0 }
mutual
theorem z_size:∀ t:Tr,(zT t).size=t.size
 | .mk k w n a l=>by rw [qvn,Tr.size,Tr.size,z_sizeL l]
theorem z_sizeL:∀ l:List Tr,Tr.sizeL (zL l)=Tr.sizeL l
 | []=>by rw [qrc]
 | t::r=>by rw [qrd,Tr.sizeL,Tr.sizeL,z_size t,z_sizeL r]
end
theorem jcs:∀ (n:Nat) (l:List Tr),qm n (zL l)=qm n l
 | n,[]=>by rw [qrc]
 | n,t::r=>by rw [qrd,qm,qm,z_size,jcs _ r]
mutual
theorem z_lay:∀ (n:Nat) (t:Tr),layT n (zT t)=(layT n t).map zN
 | n,.mk k w ns a l=>by rw [qvn,layT,layT,xm,jcs,z_layL (n+1) l];rfl
theorem z_layL:∀ (n:Nat) (l:List Tr),layL n (zL l)=(layL n l).map zN
 | n,[]=>by rw [qrc,layL];rfl
 | n,t::r=>by rw [qrd,layL,layL,List.map_append,z_size,z_lay n t,z_layL _ r]
end
mutual
theorem z_deep:∀ (t:Tr) (n:Int),t.allT (fun u=>0≤u.at_)→(0≤deepT (zT t) n↔0≤deepT t n)
 | .mk k w ns a l,n,h=>by
  rw [Tr.allT] at h
  have h1:0≤a:=h.1
  rw [qvn,deepT,deepT]
  split
  ·exact ⟨fun _=>h1,fun _=>zn _⟩
  ·exact z_deepL l n h.2
theorem z_deepL:∀ (l:List Tr) (n:Int),Tr.allL (fun u=>0≤u.at_) l→(0≤deepL (zL l) n↔0≤deepL l n)
 | [],n,_=>by rw [qrc]
 | t::r,n,h=>by
  rw [Tr.allL] at h
  have h1:=z_deep t (n+1) h.1
  have h2:=z_deepL r n h.2
  rw [qrd,deepL,deepL]
  by_cases h3:0≤deepT t (n+1)
  ·rw [zb (h1.2 h3),zb h3];exact h1
  ·rw [za (fun h=>h3 (h1.1 h)),za h3];exact h2
end
end Pa
end Go.Proofs.Ythfaleaojlnnoaa
end
section
namespace Go.Proofs.Ythfaleaojlnnoaa
namespace Pa
open Go Go.Sx
end Pa
end Go.Proofs.Ythfaleaojlnnoaa
end
section
namespace Go.Proofs.Ythfaleaojlnnoaa
namespace Pa
open Go Go.Sx
end Pa
end Go.Proofs.Ythfaleaojlnnoaa
end
section
namespace Go.Proofs.Ythfaleaojlnnoaa
namespace Pa
open Go Go.Sx
end Pa
end Go.Proofs.Ythfaleaojlnnoaa
end
section
namespace Go.Proofs.Ythfaleaojlnnoaa
open Go Go.Sx Go.RowKit Go.St Pa
set_option maxRecDepth 100000
set_option maxHeartbeats 4000000
theorem jpr (s:List UInt8):(qbb s).1=[]∨∃ t:Tr,(qbb s).1=layT 0 t∧t.size≤800:=by
 unfold qbb
 split
 ·exact .inl rfl
 unfold qez
 simp only
 split
 ·exact .inl rfl
 split
 ·exact .inl rfl
 rename_i h8
 split
 ·exact .inl rfl
 rw [lay_lenT] at h8
 exact .inr ⟨_,rfl,by omega⟩
theorem jps {n:Nd} {c:Int} (h:qo n c=true):(n.words.length:Int)=c:=by
 unfold qo at h
 rw [ze,xq] at h
 exact h.2
theorem jpt {l:List Nd} {n:Nd} (hk:n.kids.length≤800) (h:qbo l n=true):n.words.length≤2∧n.nums.length≤4:=by
 rw [← jla l n hk] at h
 unfold jac at h
 rw [ze,ze] at h
 have hw:=jps h.1.1
 have hn:=h.1.2
 unfold qah at hn
 rw [ze,zr] at hn
 have hn:=hn.1
 constructor
 ·unfold cntW at hw
  split at hw
  ·omega
  split at hw <;> omega
 ·unfold bndF at hn
  repeat' (split at hn)
  all_goals (simp only [zo,zap] at hn;omega)
theorem jpu (s:List UInt8):(qbb s).1.length≤800∧∀ nd∈(qbb s).1,nd.words.length≤2∧nd.nums.length≤4∧nd.kids.length≤800:=by
 by_cases h:(qbb s).2.1=0
 ·have hr:=jpk h
  have ha:(qbb s).1.all (qbo (qbb s).1)=true:=by
   unfold qun at hr
   rw [ze] at hr
   exact hr.2
  rcases jpr s with e|⟨t,e,ht⟩
  ·rw [e]
   exact ⟨xi _,fun nd hm=>absurd hm List.not_mem_nil⟩
  ·refine ⟨by rw [e,lay_lenT];omega,fun nd hm=>?_⟩
   have hk8:nd.kids.length≤800:=?_
   ·obtain ⟨h1,h2⟩:=jpt hk8 (List.all_eq_true.1 ha nd hm)
    exact ⟨h1,h2,hk8⟩
   rw [e] at hm
   obtain ⟨j,hj,rfl⟩:=List.getElem_of_mem hm
   rw [lay_lenT] at hj
   have:=kids_lenT 0 t j hj
   rw [List.getD_eq_getElem?_getD,zf (by rw [lay_lenT];exact hj)] at this
   exact zw this ht
 ·rw [jpl h]
  exact ⟨xi _,fun nd hm=>absurd hm List.not_mem_nil⟩
theorem qpr {l:List Nd} {i:Nat} (hi:i<l.length):l.getD i nd0∈l:=by
 rw [List.getD_eq_getElem?_getD,zf hi]
 exact xf hi
theorem jpv (s:List UInt8):Con Try.prog 13 [qdl (qbb s).1,qdl (qbb s).1] (.bool true):=by
 obtain ⟨h1,h2⟩:=jpu s
 refine jks _ _ rfl (by omega) (fun i hi=>?_)
 obtain ⟨a,b,c⟩:=h2 _ (qpr hi)
 exact ⟨rfl,rfl,rfl,rfl,by omega,by omega,by omega⟩
end Go.Proofs.Ythfaleaojlnnoaa
end
section
namespace Go.Proofs.Ythfaleaojlnnoaa
namespace Pa
open Go Go.Sx
def lexF:Nat→List UInt8→Nat→Except Nat (List Lx.Tok)
 | 0,_,p=>.error p
 | _+1,[],p=>.ok [⟨3,[],p⟩]
 | n+1,b::r,p=>if Lx.blankB b then lexF n r (p+1) else if Lx.slash2 (b::r) then lexF n (r.drop (Lx.lineN r)) (p+1+Lx.lineN r) else if Lx.firstN (b::r)=0 then .error p
  else (lexF n (r.drop (Lx.firstN (b::r) - 1)) (p+Lx.firstN (b::r))).map (⟨Lx.firstK (b::r),(b::r).take (Lx.firstN (b::r)),p⟩::·)
theorem qre:∀ (n:Nat) (l:List UInt8) (p:Nat),l.length<n→lexF n l p=Lx.lexR l p
 | 0,_,_,h=>absurd h (xb _)
 | n+1,[],p,_=>by rw [Lx.lexR_nil];rfl
 | n+1,b::r,p,h=>by
  have hr:r.length<n:=by simpa using h
  rw [Lx.lexR_cons,lexF,qre n r _ hr,qre n (r.drop (Lx.lineN r)) _ (by rw [zm];omega),qre n (r.drop (Lx.firstN (b::r) - 1)) _ (by rw [zm];omega)]
def qrf (s:List UInt8):List Nd × (Int × Int):=
 match lexF (s.length+1) s 0 with
 | .ok ts=>qez ts
 | .error p=>([],(10,p))
theorem jct {s:List UInt8} {r:List Nd × (Int × Int)} (h:qrf s=r) (hs:s.length≤4000):qbb s=r:=by
 unfold qrf at h
 rw [qre _ _ _ (zak _)] at h
 have hn:¬ 4000<s.length:=by omega
 unfold qbb Lx.lexAll
 split at h
 ·rename_i ts hts
  rw [hts,za hn]
  exact h
 ·rename_i p hp
  rw [hp,za hn]
  exact h
end Pa
end Go.Proofs.Ythfaleaojlnnoaa
end
section
namespace Go.Proofs.Ythfaleaojlnnoaa
open List renaming getD_eq_getElem?_getD → zd
open Go Go.Sx Go.RowKit Go.St Pa
set_option maxRecDepth 100000
set_option maxHeartbeats 8000000
theorem jpw (s:List UInt8) (hs:s.length≤1000000):Con Try.prog 12 [.str s] (qpt (qbb s)):=by
 refine zK {} 300 Try.func12 (fun c0 rdb=>?_)
 (repeat' ((conv=>whnf);first|refine zO ?_|refine Ob.auto ?_|refine zC 300 (jju s hs) ?_|refine zD 300 ?_|(apply zB <;> intro hb <;> (try simp [-zd] at hb) <;> try (exfalso;omega))))
 ·have he:(Lx.lexAll s).2.1≠0:=by assumption
  have e:qbb s=([],(Lx.lexAll s).2):=zb he
  rw [e]
  exact Le.tup ⟨Le.nils _ _,Le.refl _,trivial⟩
 have he:(Lx.lexAll s).2.1=0:=by assumption
 obtain ⟨ht,h0⟩:=qnt he
 have e:qbb s=qez (Lx.lexAll s).1:=za (by rw [he];decide)
 rw [e]
 generalize hts:(Lx.lexAll s).1=ts at ht h0 ⊢
 have hP:Pre ts ts.length ⟨0,0,0,0⟩:=⟨⟨zn _,by simp only;omega⟩,by simp,by simp⟩
 ((conv=>whnf);refine zT 300 [2] (jkm ht hP) qa ?_)
 (repeat' ((conv=>whnf);first|refine zO ?_|refine Ob.auto ?_|refine zD 300 ?_|(apply zB <;> intro hb <;> (try simp [-zd] at hb) <;> try (exfalso;omega))))
 ·have hn:(jk ts ⟨0,0,0,0⟩).2.err≠0:=by assumption
  have e:qez ts=([],((jk ts ⟨0,0,0,0⟩).2.err,(jk ts ⟨0,0,0,0⟩).2.fat)):=zb hn
  rw [e]
  exact Le.tup ⟨Le.nils _ _,Le.refl _,trivial⟩
 have hn:(jk ts ⟨0,0,0,0⟩).2.err=0:=by assumption
 have hsz:(jk ts ⟨0,0,0,0⟩).1.size≤100000:=by
  have:=jbu ht hP.at_ hn
  have:=ht.len
  omega
 have e2:qez ts=if 800<(layT 0 (jk ts ⟨0,0,0,0⟩).1).length then ([],(12,0)) else if 0≤deepT (jk ts ⟨0,0,0,0⟩).1 1 then ([],(12,deepT (jk ts ⟨0,0,0,0⟩).1 1)) else (layT 0 (jk ts ⟨0,0,0,0⟩).1,(0,0)):=za (fun h=>h hn)
 rw [e2]
 generalize (jk ts ⟨0,0,0,0⟩).1=t at hsz ⊢
 (conv=>whnf)
 refine qgk (fun _=>rfl) 300 [] (jkr t hsz) (by kernel_rfl) leA trivial (by exact qb rfl) (rowsM _) (by kernel_rfl) ?_
 (repeat' ((conv=>whnf);first|refine Ob.auto ?_|refine zC 300 (jko _ t 1 (zi _) hsz (by decide) (by decide)) ?_|(apply zB <;> intro hb <;> (try simp [-zd] at hb) <;> try (exfalso;omega))|refine Ob.intro ?_ ?_|fail))
 ·have hb8:800<(layT 0 t).length:=by omega
  rw [zb hb8]
  exact Le.tup ⟨Le.nils _ _,Le.refl _,trivial⟩
 ·have hb8:¬ 800<(layT 0 t).length:=by omega
  rw [za hb8,zb (by assumption)]
  exact Le.tup ⟨Le.nils _ _,Le.refl _,trivial⟩
 ·exact ⟨⟨trivial,⟨rfl,rfl⟩,fun k hk=>⟨trivial,trivial,trivial,⟨hk,⟨rfl,rfl⟩,trivial⟩,trivial,trivial⟩⟩,⟨trivial,trivial,trivial⟩,trivial⟩
 ·have hb8:¬ 800<(layT 0 t).length:=by omega
  rw [za hb8,za (by omega)]
  refine Le.tup ⟨Le.slcL rfl (fun k hk=>?_),Le.refl _,trivial⟩
  exact ⟨Le.refl _,Le.refl _,Le.refl _,Le.refl _,Le.refl _,trivial⟩
end Go.Proofs.Ythfaleaojlnnoaa
end
section
namespace Go.Proofs.Ythfaleaojlnnoaa
open Go Go.Sx Go.RowKit Go.St Pa
set_option maxRecDepth 100000
def qvo:List Nd:=[⟨0,[],[],[1],0⟩,⟨4,[],[],[2],0⟩,⟨22,[],[3],[3,4],5⟩,⟨18,[[120]],[],[],5⟩,⟨17,[],[1],[],9⟩]
noncomputable def D9:CE:=⟨Try.prog,tab Try.prog,fun _=>{ lit:=true }⟩
theorem qly:Con Try.prog 15 [qdl qvo] (.bool true):=
 jhv (D:=D9) (fun _=>rfl) (by kernel_rfl) (n:=100000) (by kernel_rfl)
set_option maxHeartbeats 4000000
def qvp:List UInt8:=[115,97,102,101,32,120,32,60,32,49,59]
def qvq:List UInt8:=[115,97,102,101,32,120,32,60,32,49,32,60,32,50,59]
theorem px9:qrf qvp=(qvo,(0,0)):=by kernel_rfl
theorem px9b:qrf qvq=([],(11,11)):=by kernel_rfl
theorem qlz:Con Try.prog 11 [.str qvp] (.tup [qdl qvo,flt 0 0]):=by
 have h:=qvm qvp (by decide)
 rw [jct px9 (by decide)] at h
 exact h
theorem qma:Con Try.prog 11 [.str qvq] (.tup [qdl [],flt 11 11]):=by
 have h:=qvm qvq (by decide)
 rw [jct px9b (by decide)] at h
 exact h
theorem qfd:Con Try.prog 10 [] (.bool true):=by
 refine zK {} 300 Try.func10 (fun c0 rdb=>?_)
 (repeat' ((conv=>whnf);first|refine zA ?_|refine zO ?_|refine Ob.auto ?_|refine zC 300 (qlz) ?_|refine zG 300 (fun hg=>qlz) ?_|(refine CallY.con (qlz) (by rfl) leA ?_)|(refine CallZ.con (fun hg=>qlz) je (by rfl) ?_)|refine zC 300 (qma) ?_|refine zG 300 (fun hg=>qma) ?_|(refine CallY.con (qma) (by rfl) leA ?_)|(refine CallZ.con (fun hg=>qma) je (by rfl) ?_)|refine zC 300 (qly) ?_|refine zG 300 (fun hg=>qly) ?_|(refine CallY.con (qly) (by rfl) leA ?_)|(refine CallZ.con (fun hg=>qly) je (by rfl) ?_)|(refine ql (fun _=>rfl) 300 (qlz) qd (by (repeat' (first|exact trivial|exact Le.refl _|(refine And.intro ?_ ?_))) <;> fail) (by rfl) (by kernel_rfl) ?_)|(refine qz (fun _=>rfl) 300 (fun hg=>qlz) (fun hg=>qd) (fun hg=>(by (repeat' (first|exact trivial|exact Le.refl _|exact Le.cnd hg|(refine And.intro ?_ ?_))) <;> fail)) (by rfl) (by kernel_rfl) ?_)|(refine ql (fun _=>rfl) 300 (qma) qd (by (repeat' (first|exact trivial|exact Le.refl _|(refine And.intro ?_ ?_))) <;> fail) (by rfl) (by kernel_rfl) ?_)|(refine qz (fun _=>rfl) 300 (fun hg=>qma) (fun hg=>qd) (fun hg=>(by (repeat' (first|exact trivial|exact Le.refl _|exact Le.cnd hg|(refine And.intro ?_ ?_))) <;> fail)) (by rfl) (by kernel_rfl) ?_)|(refine ql (fun _=>rfl) 300 (qly) qd (by (repeat' (first|exact trivial|exact Le.refl _|(refine And.intro ?_ ?_))) <;> fail) (by rfl) (by kernel_rfl) ?_)|(refine qz (fun _=>rfl) 300 (fun hg=>qly) (fun hg=>qd) (fun hg=>(by (repeat' (first|exact trivial|exact Le.refl _|exact Le.cnd hg|(refine And.intro ?_ ?_))) <;> fail)) (by rfl) (by kernel_rfl) ?_)|refine zD 300 ?_|(apply zB <;> intro hb <;> (try simp [-List.getD_eq_getElem?_getD] at hb) <;> try (exfalso;omega))|refine Ob.intro ?_ ?_))
 exact Le.refl _
theorem jpx (s:List UInt8) (a:Int) (ha:0≤a∧a<65536):Con Try.prog 7 [.str s,.int .u16 a] (.bool true):=by
 by_cases hs:s.length≤1500
 ·have hk1:0≤a.tmod (s.length+1):=Int.tmod_nonneg _ ha.1
  have hk2:a.tmod (s.length+1)<s.length+1:=Int.tmod_lt_of_pos _ (by omega)
  have hl:(s.take (a.tmod (s.length+1)).toNat).length=(a.tmod (s.length+1)).toNat:=by rw [xd];omega
  have h1:=qvm (s.take (a.tmod (s.length+1)).toNat) (by omega)
  have h2:=jpw (s.take (a.tmod (s.length+1)).toNat) (by omega)
  have h3:=jpv (s.take (a.tmod (s.length+1)).toNat)
  have hf:=jou (s.take (a.tmod (s.length+1)).toNat)
  rw [hl,Int.toNat_of_nonneg hk1] at hf
  generalize qbb (s.take (a.tmod (s.length+1)).toNat)=R at h1 h2 h3 hf
  obtain ⟨l,e,at_⟩:=R
  refine zK {} 300 Try.func7 (fun c0 rdb=>?_)
  (repeat' ((conv=>whnf);first|refine zA ?_|refine zO ?_|refine Ob.auto ?_|refine zI ?_|refine zC 300 (qfd) ?_|refine zG 300 (fun hg=>qfd) ?_|(refine CallY.con (qfd) (by rfl) leA ?_)|(refine CallZ.con (fun hg=>qfd) je (by rfl) ?_)|refine zC 300 (h1) ?_|refine zG 300 (fun hg=>h1) ?_|(refine CallY.con (h1) (by rfl) leA ?_)|(refine CallZ.con (fun hg=>h1) je (by rfl) ?_)|refine zC 300 (h2) ?_|refine zG 300 (fun hg=>h2) ?_|(refine CallY.con (h2) (by rfl) leA ?_)|(refine CallZ.con (fun hg=>h2) je (by rfl) ?_)|refine zC 300 (h3) ?_|refine zG 300 (fun hg=>h3) ?_|(refine CallY.con (h3) (by rfl) leA ?_)|(refine CallZ.con (fun hg=>h3) je (by rfl) ?_)|(refine ql (fun _=>rfl) 300 (qfd) qd (by (repeat' (first|exact trivial|exact Le.refl _|(refine And.intro ?_ ?_))) <;> fail) (by rfl) (by kernel_rfl) ?_)|(refine qz (fun _=>rfl) 300 (fun hg=>qfd) (fun hg=>qd) (fun hg=>(by (repeat' (first|exact trivial|exact Le.refl _|exact Le.cnd hg|(refine And.intro ?_ ?_))) <;> fail)) (by rfl) (by kernel_rfl) ?_)|(refine ql (fun _=>rfl) 300 (h1) qd (by (repeat' (first|exact trivial|exact Le.refl _|(refine And.intro ?_ ?_))) <;> fail) (by rfl) (by kernel_rfl) ?_)|(refine qz (fun _=>rfl) 300 (fun hg=>h1) (fun hg=>qd) (fun hg=>(by (repeat' (first|exact trivial|exact Le.refl _|exact Le.cnd hg|(refine And.intro ?_ ?_))) <;> fail)) (by rfl) (by kernel_rfl) ?_)|(refine ql (fun _=>rfl) 300 (h2) qd (by (repeat' (first|exact trivial|exact Le.refl _|(refine And.intro ?_ ?_))) <;> fail) (by rfl) (by kernel_rfl) ?_)|(refine qz (fun _=>rfl) 300 (fun hg=>h2) (fun hg=>qd) (fun hg=>(by (repeat' (first|exact trivial|exact Le.refl _|exact Le.cnd hg|(refine And.intro ?_ ?_))) <;> fail)) (by rfl) (by kernel_rfl) ?_)|(refine ql (fun _=>rfl) 300 (h3) qd (by (repeat' (first|exact trivial|exact Le.refl _|(refine And.intro ?_ ?_))) <;> fail) (by rfl) (by kernel_rfl) ?_)|(refine qz (fun _=>rfl) 300 (fun hg=>h3) (fun hg=>qd) (fun hg=>(by (repeat' (first|exact trivial|exact Le.refl _|exact Le.cnd hg|(refine And.intro ?_ ?_))) <;> fail)) (by rfl) (by kernel_rfl) ?_)|refine zD 300 ?_|(apply zB <;> intro hb <;> (try simp [-List.getD_eq_getElem?_getD] at hb) <;> try (exfalso;omega))|refine Ob.intro ?_ ?_))
  exact Le.of_eq (congrArg AV.bool (by simpa using hf))
 ·refine zK {} 300 Try.func7 (fun c0 rdb=>?_)
  (repeat' ((conv=>whnf);first|refine zA ?_|refine zO ?_|refine Ob.auto ?_|refine zC 300 (qfd) ?_|refine zG 300 (fun hg=>qfd) ?_|(refine CallY.con (qfd) (by rfl) leA ?_)|(refine CallZ.con (fun hg=>qfd) je (by rfl) ?_)|(refine ql (fun _=>rfl) 300 (qfd) qd (by (repeat' (first|exact trivial|exact Le.refl _|(refine And.intro ?_ ?_))) <;> fail) (by rfl) (by kernel_rfl) ?_)|(refine qz (fun _=>rfl) 300 (fun hg=>qfd) (fun hg=>qd) (fun hg=>(by (repeat' (first|exact trivial|exact Le.refl _|exact Le.cnd hg|(refine And.intro ?_ ?_))) <;> fail)) (by rfl) (by kernel_rfl) ?_)|refine zD 300 ?_|(apply zB <;> intro hb <;> (try simp [-List.getD_eq_getElem?_getD] at hb) <;> try (exfalso;omega))|refine Ob.intro ?_ ?_))
  all_goals exact Le.refl _
end Go.Proofs.Ythfaleaojlnnoaa
end
