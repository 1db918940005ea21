/- Some texts of the library, one behind the other. -/
import Derived.Test.YthfaleaojlnnoaaY6PgQ
import Derived.Test.YthfaleaojlnnoaaY616
import Derived.Test.YthfaleaojlnnoaaY617
import Derived.Test.YthfaleaojlnnoaaY6PcR
import Derived.Test.YthfaleaojlnnoaaY6Pa0
import Derived.Test.YthfaleaojlnnoaaY6PaL
import Derived.Test.YthfaleaojlnnoaaY6PaB
import Derived.Test.YthfaleaojlnnoaaY6LexQ2
import Derived.Test.YthfaleaojlnnoaaProg
import Derived.Test.YthfaleaojlnnoaaY610
import Derived.Test.YthfaleaojlnnoaaY63
import Derived.Test.YthfaleaojlnnoaaY61
import Derived.KernelRfl
import Derived.Test.YthfaleaojlnnoaaY62
set_option linter.unusedSimpArgs false
set_option linter.unusedVariables false
section
namespace Go.Proofs.Ythfaleaojlnnoaa
namespace Pa
open Go Go.Sx Go.St
def spQ (N:Int) (u:Tr):Prop:=(u.l.map Tr.at_).Pairwise (· < ·)∧∀ x∈u.l.map Tr.at_,u.at_≤x∧x≤N
section
variable {ts:List Lx.Tok} {N:Int}
theorem jdf (hp:ts.Pairwise (fun a b=>a.pos<b.pos)) {i j:Int} (h0:0≤i) (hij:i<j) (hj:j<ts.length):posT ts i<posT ts j:=by
 have:=List.pairwise_iff_getElem.1 hp i.toNat j.toNat (by omega) (by omega) (by omega)
 unfold posT
 rw [List.getD_eq_getElem?_getD,zf (by omega),List.getD_eq_getElem?_getD,zf (by omega)]
 exact this
theorem jdg (hp:ts.Pairwise (fun a b=>a.pos<b.pos)):∀ (l:List Tr) (i j:Int),SpL ts l i j→0≤i→j≤ts.length→
  (∀ x∈l.map Tr.at_,∃ m,i≤m∧m<j∧x=posT ts m)∧(l.map Tr.at_).Pairwise (· < ·)
 | [],_,_,_,_,_=>⟨fun x hx=>by simp at hx,List.Pairwise.nil⟩
 | t::r,i,j,h,h0,hj=>by
  obtain ⟨e,h1,h2⟩:=spL_cons.1 h
  have h3:=qma h1
  have h4:=qmc _ _ _ h2
  obtain ⟨m,m1,m2,m3,_⟩:=qvs h1
  obtain ⟨k1,k2⟩:=jdg hp r e j h2 (by omega) hj
  rw [xn]
  refine ⟨fun x hx=>?_,List.pairwise_cons.2 ⟨fun x hx=>?_,k2⟩⟩
  ·rcases List.mem_cons.1 hx with rfl|hx
   ·exact ⟨m,m1,by omega,m3⟩
   ·obtain ⟨n,n1,n2,n3⟩:=k1 x hx
    exact ⟨n,by omega,n2,n3⟩
  ·obtain ⟨n,n1,n2,n3⟩:=k1 x hx
   rw [m3,n3]
   exact jdf hp (by omega) (by omega) (by omega)
mutual
theorem spT_Q (hp:ts.Pairwise (fun a b=>a.pos<b.pos)) (hN:∀ t∈ts,t.pos≤N):∀ (t:Tr) (i j:Int),SpT ts t i j→0≤i→j≤ts.length→t.allT (spQ N)
 | .mk k w n a l,i,j,h,h0,hj=>by
  obtain ⟨m,h1,h2,h3,h4⟩:=spT_mk.1 h
  obtain ⟨k1,k2⟩:=jdg hp l m j h4 (by omega) hj
  refine qcf ⟨k2,fun x hx=>?_⟩ (spL_Q hp hN l m j h4 (by omega) hj)
  obtain ⟨q,q1,q2,q3⟩:=k1 x hx
  obtain ⟨t,ht,e⟩:=qog (ts:=ts) (i:=q) (by omega) (by omega)
  have h5:=hN t ht
  refine ⟨?_,by omega⟩
  show a≤x
  rw [h3,q3]
  by_cases hmq:m=q
  ·rw [hmq];exact zm _
  ·exact Int.le_of_lt (jdf hp (by omega) (by omega) (by omega))
theorem spL_Q (hp:ts.Pairwise (fun a b=>a.pos<b.pos)) (hN:∀ t∈ts,t.pos≤N):∀ (l:List Tr) (i j:Int),SpL ts l i j→0≤i→j≤ts.length→Tr.allL (spQ N) l
 | [],_,_,_,_,_=>qdd
 | t::r,i,j,h,h0,hj=>by
  obtain ⟨e,h1,h2⟩:=spL_cons.1 h
  have h3:=qma h1
  have h4:=qmc _ _ _ h2
  exact qdj (spT_Q hp hN t i e h1 h0 (by omega)) (spL_Q hp hN r e j h2 (by omega) hj)
end
end
end Pa
end Go.Proofs.Ythfaleaojlnnoaa
end
section
namespace Go.Proofs.Ythfaleaojlnnoaa
namespace Pa
open Go Go.Sx
def zP (p:Ps):Ps:={ p with fat:=0 }
mutual
def zT:Tr→Tr
 | .mk k w n _ l=>.mk k w n 0 (zL l)
def zL:List Tr→List Tr
 | []=>[]
 | t::r=>zT t::zL r
end
def zR (r:Tr × Ps):Tr × Ps:=(zT r.1,zP r.2)
theorem qvv (k:Int) (w:List (List UInt8)) (n:List Int) (a:Int) (l:List Tr):zT (.mk k w n a l)=.mk k w n 0 (zL l):=by rw [zT]
theorem qrl:zL []=[]:=by rw [zL]
theorem qrm (t:Tr) (r:List Tr):zL (t::r)=zT t::zL r:=by rw [zL]
section
variable (ts:List Lx.Tok)
section
variable {part part':Ps→Tr × Ps} (hp:∀ p,part' (zP p)=zR (part p))
include hp
end
end
end Pa
end Go.Proofs.Ythfaleaojlnnoaa
end
section
namespace Go.Proofs.Ythfaleaojlnnoaa
namespace Pa
open Go Go.Sx
section
variable (ts:List Lx.Tok)
end
end Pa
end Go.Proofs.Ythfaleaojlnnoaa
end
section
namespace Go.Proofs.Ythfaleaojlnnoaa
namespace Pa
open Go Go.Sx
def zN (n:Nd):Nd:={ n with at_:=0 }
mutual
theorem z_size:∀ t:Tr,(zT t).size=t.size
 | .mk k w n a l=>by rw [qvv,Tr.size,Tr.size,z_sizeL l]
theorem z_sizeL:∀ l:List Tr,Tr.sizeL (zL l)=Tr.sizeL l
 | []=>by rw [qrl]
 | t::r=>by rw [qrm,Tr.sizeL,Tr.sizeL,z_size t,z_sizeL r]
end
theorem jdh:∀ (n:Nat) (l:List Tr),ql n (zL l)=ql n l
 | n,[]=>by rw [qrl]
 | n,t::r=>by rw [qrm,ql,ql,z_size,jdh _ r]
mutual
theorem z_lay:∀ (n:Nat) (t:Tr),layT n (zT t)=(layT n t).map zN
 | n,.mk k w ns a l=>by rw [qvv,layT,layT,xn,jdh,z_layL (n+1) l];rfl
theorem z_layL:∀ (n:Nat) (l:List Tr),layL n (zL l)=(layL n l).map zN
 | n,[]=>by rw [qrl,layL];rfl
 | n,t::r=>by rw [qrm,layL,layL,List.map_append,z_size,z_lay n t,z_layL _ r]
end
mutual
theorem z_deep:∀ (t:Tr) (n:Int),t.allT (fun u=>0≤u.at_)→(0≤deepT (zT t) n↔0≤deepT t n)
 | .mk k w ns a l,n,h=>by
  rw [Tr.allT] at h
  have h1:0≤a:=h.1
  rw [qvv,deepT,deepT]
  split
  ·exact ⟨fun _=>h1,fun _=>zm _⟩
  ·exact z_deepL l n h.2
theorem z_deepL:∀ (l:List Tr) (n:Int),Tr.allL (fun u=>0≤u.at_) l→(0≤deepL (zL l) n↔0≤deepL l n)
 | [],n,_=>by rw [qrl]
 | t::r,n,h=>by
  rw [Tr.allL] at h
  have h1:=z_deep t (n+1) h.1
  have h2:=z_deepL r n h.2
  rw [qrm,deepL,deepL]
  by_cases h3:0≤deepT t (n+1)
  ·rw [zb (h1.2 h3),zb h3];exact h1
  ·rw [za (fun h=>h3 (h1.1 h)),za h3];exact h2
end
end Pa
end Go.Proofs.Ythfaleaojlnnoaa
end
section
namespace Go.Proofs.Ythfaleaojlnnoaa
namespace Pa
open Go Go.Sx
end Pa
end Go.Proofs.Ythfaleaojlnnoaa
end
section
namespace Go.Proofs.Ythfaleaojlnnoaa
namespace Pa
open Go Go.Sx
end Pa
end Go.Proofs.Ythfaleaojlnnoaa
end
section
namespace Go.Proofs.Ythfaleaojlnnoaa
namespace Pa
open Go Go.Sx
end Pa
end Go.Proofs.Ythfaleaojlnnoaa
end
section
namespace Go.Proofs.Ythfaleaojlnnoaa
open Go Go.Sx Go.RowKit Go.St Pa
set_option maxRecDepth 100000
set_option maxHeartbeats 4000000
theorem jqi (s:List UInt8):(qan s).1=[]∨∃ t:Tr,(qan s).1=layT 0 t∧t.size≤800:=by
 unfold qan
 split
 ·exact .inl rfl
 unfold qeq
 simp only
 split
 ·exact .inl rfl
 split
 ·exact .inl rfl
 rename_i h8
 split
 ·exact .inl rfl
 rw [lay_lenT] at h8
 exact .inr ⟨_,rfl,by omega⟩
theorem jqj {n:Nd} {c:Int} (h:qn n c=true):(n.words.length:Int)=c:=by
 unfold qn at h
 rw [ze,xr] at h
 exact h.2
theorem jqk {l:List Nd} {n:Nd} (hk:n.kids.length≤800) (h:qbo l n=true):n.words.length≤2∧n.nums.length≤4:=by
 rw [← jlu l n hk] at h
 unfold jap at h
 rw [ze,ze] at h
 have hw:=jqj h.1.1
 have hn:=h.1.2
 unfold qah at hn
 rw [ze,zr] at hn
 have hn:=hn.1
 constructor
 ·unfold cntW at hw
  split at hw
  ·omega
  split at hw <;> omega
 ·unfold bndF at hn
  repeat' (split at hn)
  all_goals (simp only [zn,zaq] at hn;omega)
theorem jql (s:List UInt8):(qan s).1.length≤800∧∀ nd∈(qan s).1,nd.words.length≤2∧nd.nums.length≤4∧nd.kids.length≤800:=by
 by_cases h:(qan s).2.1=0
 ·have hr:=jqb h
  have ha:(qan s).1.all (qbo (qan s).1)=true:=by
   unfold quz at hr
   rw [ze] at hr
   exact hr.2
  rcases jqi s with e|⟨t,e,ht⟩
  ·rw [e]
   exact ⟨xa _,fun nd hm=>absurd hm List.not_mem_nil⟩
  ·refine ⟨by rw [e,lay_lenT];omega,fun nd hm=>?_⟩
   have hk8:nd.kids.length≤800:=?_
   ·obtain ⟨h1,h2⟩:=jqk hk8 (List.all_eq_true.1 ha nd hm)
    exact ⟨h1,h2,hk8⟩
   rw [e] at hm
   obtain ⟨j,hj,rfl⟩:=List.getElem_of_mem hm
   rw [lay_lenT] at hj
   have:=kids_lenT 0 t j hj
   rw [List.getD_eq_getElem?_getD,zf (by rw [lay_lenT];exact hj)] at this
   exact zx this ht
 ·rw [jqc h]
  exact ⟨xa _,fun nd hm=>absurd hm List.not_mem_nil⟩
theorem jqm {l:List Nd} {i:Nat} (hi:i<l.length):l.getD i nd0∈l:=by
 rw [List.getD_eq_getElem?_getD,zf hi]
 exact xh hi
theorem qvw (s:List UInt8):Con Try.prog 13 [qdm (qan s).1,qdm (qan s).1] (.bool true):=by
 obtain ⟨h1,h2⟩:=jql s
 refine jlm _ _ rfl (by omega) (fun i hi=>?_)
 obtain ⟨a,b,c⟩:=h2 _ (jqm hi)
 exact ⟨rfl,rfl,rfl,rfl,by omega,by omega,by omega⟩
end Go.Proofs.Ythfaleaojlnnoaa
end
section
namespace Go.Proofs.Ythfaleaojlnnoaa
namespace Pa
open Go Go.Sx
def lexF:Nat→List UInt8→Nat→Except Nat (List Lx.Tok)
 | 0,_,p=>.error p
 | _+1,[],p=>.ok [⟨3,[],p⟩]
 | n+1,b::r,p=>if Lx.blankB b then lexF n r (p+1) else if Lx.slash2 (b::r) then lexF n (r.drop (Lx.lineN r)) (p+1+Lx.lineN r) else if Lx.firstN (b::r)=0 then .error p
  else (lexF n (r.drop (Lx.firstN (b::r) - 1)) (p+Lx.firstN (b::r))).map (⟨Lx.firstK (b::r),(b::r).take (Lx.firstN (b::r)),p⟩::·)
theorem qrn:∀ (n:Nat) (l:List UInt8) (p:Nat),l.length<n→lexF n l p=Lx.lexR l p
 | 0,_,_,h=>absurd h (xc _)
 | n+1,[],p,_=>by rw [Lx.lexR_nil];rfl
 | n+1,b::r,p,h=>by
  have hr:r.length<n:=by simpa using h
  rw [Lx.lexR_cons,lexF,qrn n r _ hr,qrn n (r.drop (Lx.lineN r)) _ (by rw [zp];omega),qrn n (r.drop (Lx.firstN (b::r) - 1)) _ (by rw [zp];omega)]
def qro (s:List UInt8):List Nd × (Int × Int):=
 match lexF (s.length+1) s 0 with
 | .ok ts=>qeq ts
 | .error p=>([],(10,p))
theorem jdi {s:List UInt8} {r:List Nd × (Int × Int)} (h:qro s=r) (hs:s.length≤4000):qan s=r:=by
 unfold qro at h
 rw [qrn _ _ _ (zam _)] at h
 have hn:¬ 4000<s.length:=by omega
 unfold qan Lx.lexAll
 split at h
 ·rename_i ts hts
  rw [hts,za hn]
  exact h
 ·rename_i p hp
  rw [hp,za hn]
  exact h
end Pa
end Go.Proofs.Ythfaleaojlnnoaa
end
section
namespace Go.Proofs.Ythfaleaojlnnoaa
open List renaming getD_eq_getElem?_getD → zd
open Go Go.Sx Go.RowKit Go.St Pa
set_option maxRecDepth 100000
set_option maxHeartbeats 8000000
theorem qvx (s:List UInt8) (hs:s.length≤1000000):Con Try.prog 12 [.str s] (qqb (qan s)):=by
 refine zK {} 300 Try.func12 (fun c0 rdb=>?_)
 (repeat' ((conv=>whnf);first|refine zO ?_|refine Ob.auto ?_|refine zC 300 (jko s hs) ?_|refine zD 300 ?_|(apply zB <;> intro hb <;> (try simp [-zd] at hb) <;> try (exfalso;omega))))
 ·have he:(Lx.lexAll s).2.1≠0:=by assumption
  have e:qan s=([],(Lx.lexAll s).2):=zb he
  rw [e]
  exact Le.tup ⟨Le.nils _ _,Le.refl _,trivial⟩
 have he:(Lx.lexAll s).2.1=0:=by assumption
 obtain ⟨ht,h0⟩:=qqs he
 have e:qan s=qeq (Lx.lexAll s).1:=za (by rw [he];decide)
 rw [e]
 generalize hts:(Lx.lexAll s).1=ts at ht h0 ⊢
 have hP:Pre ts ts.length ⟨0,0,0,0⟩:=⟨⟨zm _,by simp only;omega⟩,by simp,by simp⟩
 ((conv=>whnf);refine zT 300 [2] (jlg ht hP) qa ?_)
 (repeat' ((conv=>whnf);first|refine zO ?_|refine Ob.auto ?_|refine zD 300 ?_|(apply zB <;> intro hb <;> (try simp [-zd] at hb) <;> try (exfalso;omega))))
 ·have hn:(jk ts ⟨0,0,0,0⟩).2.err≠0:=by assumption
  have e:qeq ts=([],((jk ts ⟨0,0,0,0⟩).2.err,(jk ts ⟨0,0,0,0⟩).2.fat)):=zb hn
  rw [e]
  exact Le.tup ⟨Le.nils _ _,Le.refl _,trivial⟩
 have hn:(jk ts ⟨0,0,0,0⟩).2.err=0:=by assumption
 have hsz:(jk ts ⟨0,0,0,0⟩).1.size≤100000:=by
  have:=jch ht hP.at_ hn
  have:=ht.len
  omega
 have e2:qeq ts=if 800<(layT 0 (jk ts ⟨0,0,0,0⟩).1).length then ([],(12,0)) else if 0≤deepT (jk ts ⟨0,0,0,0⟩).1 1 then ([],(12,deepT (jk ts ⟨0,0,0,0⟩).1 1)) else (layT 0 (jk ts ⟨0,0,0,0⟩).1,(0,0)):=za (fun h=>h hn)
 rw [e2]
 generalize (jk ts ⟨0,0,0,0⟩).1=t at hsz ⊢
 (conv=>whnf)
 refine qgk (fun _=>rfl) 300 [] (jll t hsz) (by kernel_rfl) leA trivial (by exact qb rfl) (rowsM _) (by kernel_rfl) ?_
 (repeat' ((conv=>whnf);first|refine Ob.auto ?_|refine zC 300 (jli _ t 1 (zh _) hsz (by decide) (by decide)) ?_|(apply zB <;> intro hb <;> (try simp [-zd] at hb) <;> try (exfalso;omega))|refine Ob.intro ?_ ?_|fail))
 ·have hb8:800<(layT 0 t).length:=by omega
  rw [zb hb8]
  exact Le.tup ⟨Le.nils _ _,Le.refl _,trivial⟩
 ·have hb8:¬ 800<(layT 0 t).length:=by omega
  rw [za hb8,zb (by assumption)]
  exact Le.tup ⟨Le.nils _ _,Le.refl _,trivial⟩
 ·exact ⟨⟨trivial,⟨rfl,rfl⟩,fun k hk=>⟨trivial,trivial,trivial,⟨hk,⟨rfl,rfl⟩,trivial⟩,trivial,trivial⟩⟩,⟨trivial,trivial,trivial⟩,trivial⟩
 ·have hb8:¬ 800<(layT 0 t).length:=by omega
  rw [za hb8,za (by omega)]
  refine Le.tup ⟨Le.slcL rfl (fun k hk=>?_),Le.refl _,trivial⟩
  exact ⟨Le.refl _,Le.refl _,Le.refl _,Le.refl _,Le.refl _,trivial⟩
end Go.Proofs.Ythfaleaojlnnoaa
end
section
namespace Go.Proofs.Ythfaleaojlnnoaa
open Go Go.Sx Go.RowKit Go.St Pa
set_option maxRecDepth 100000
def qvy:List Nd:=[⟨0,[],[],[1],0⟩,⟨4,[],[],[2],0⟩,⟨22,[],[3],[3,4],5⟩,⟨18,[[120]],[],[],5⟩,⟨17,[],[1],[],9⟩]
noncomputable def D9:CE:=⟨Try.prog,tab Try.prog,fun _=>{ lit:=true }⟩
theorem qmg:Con Try.prog 15 [qdm qvy] (.bool true):=
 jip (D:=D9) (fun _=>rfl) (by kernel_rfl) (n:=100000) (by kernel_rfl)
set_option maxHeartbeats 4000000
def qvz:List UInt8:=[115,97,102,101,32,120,32,60,32,49,59]
def qwa:List UInt8:=[115,97,102,101,32,120,32,60,32,49,32,60,32,50,59]
theorem px9:qro qvz=(qvy,(0,0)):=by kernel_rfl
theorem px9b:qro qwa=([],(11,11)):=by kernel_rfl
theorem qmh:Con Try.prog 11 [.str qvz] (.tup [qdm qvy,flt 0 0]):=by
 have h:=qoi qvz (by decide)
 rw [jdi px9 (by decide)] at h
 exact h
theorem qmi:Con Try.prog 11 [.str qwa] (.tup [qdm [],flt 11 11]):=by
 have h:=qoi qwa (by decide)
 rw [jdi px9b (by decide)] at h
 exact h
theorem qdk:Con Try.prog 10 [] (.bool true):=by
 refine zK {} 300 Try.func10 (fun c0 rdb=>?_)
 (repeat' ((conv=>whnf);first|refine zA ?_|refine zO ?_|refine Ob.auto ?_|refine zC 300 (qmh) ?_|refine zG 300 (fun hg=>qmh) ?_|(refine CallY.con (qmh) (by rfl) leA ?_)|(refine CallZ.con (fun hg=>qmh) qz (by rfl) ?_)|refine zC 300 (qmi) ?_|refine zG 300 (fun hg=>qmi) ?_|(refine CallY.con (qmi) (by rfl) leA ?_)|(refine CallZ.con (fun hg=>qmi) qz (by rfl) ?_)|refine zC 300 (qmg) ?_|refine zG 300 (fun hg=>qmg) ?_|(refine CallY.con (qmg) (by rfl) leA ?_)|(refine CallZ.con (fun hg=>qmg) qz (by rfl) ?_)|(refine qj (fun _=>rfl) 300 (qmh) qc (by (repeat' (first|exact trivial|exact Le.refl _|(refine And.intro ?_ ?_))) <;> fail) (by rfl) (by kernel_rfl) ?_)|(refine qv (fun _=>rfl) 300 (fun hg=>qmh) (fun hg=>qc) (fun hg=>(by (repeat' (first|exact trivial|exact Le.refl _|exact Le.cnd hg|(refine And.intro ?_ ?_))) <;> fail)) (by rfl) (by kernel_rfl) ?_)|(refine qj (fun _=>rfl) 300 (qmi) qc (by (repeat' (first|exact trivial|exact Le.refl _|(refine And.intro ?_ ?_))) <;> fail) (by rfl) (by kernel_rfl) ?_)|(refine qv (fun _=>rfl) 300 (fun hg=>qmi) (fun hg=>qc) (fun hg=>(by (repeat' (first|exact trivial|exact Le.refl _|exact Le.cnd hg|(refine And.intro ?_ ?_))) <;> fail)) (by rfl) (by kernel_rfl) ?_)|(refine qj (fun _=>rfl) 300 (qmg) qc (by (repeat' (first|exact trivial|exact Le.refl _|(refine And.intro ?_ ?_))) <;> fail) (by rfl) (by kernel_rfl) ?_)|(refine qv (fun _=>rfl) 300 (fun hg=>qmg) (fun hg=>qc) (fun hg=>(by (repeat' (first|exact trivial|exact Le.refl _|exact Le.cnd hg|(refine And.intro ?_ ?_))) <;> fail)) (by rfl) (by kernel_rfl) ?_)|refine zD 300 ?_|(apply zB <;> intro hb <;> (try simp [-List.getD_eq_getElem?_getD] at hb) <;> try (exfalso;omega))|refine Ob.intro ?_ ?_))
 exact Le.refl _
end Go.Proofs.Ythfaleaojlnnoaa
end
