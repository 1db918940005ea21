/- Some texts of the library, one behind the other. -/
import Derived.Test.YthfaleaojlnnoaaY7PgQ
import Derived.Test.YthfaleaojlnnoaaY79
import Derived.Test.YthfaleaojlnnoaaY7RgQ
import Derived.Test.YthfaleaojlnnoaaY7PcR
import Derived.Test.YthfaleaojlnnoaaY7Pa0
import Derived.Test.YthfaleaojlnnoaaY7PaB
import Derived.Test.YthfaleaojlnnoaaY712
import Derived.Test.YthfaleaojlnnoaaY77
import Derived.Test.YthfaleaojlnnoaaProg
import Derived.Test.YthfaleaojlnnoaaY78
import Derived.Test.YthfaleaojlnnoaaY73
import Derived.Test.YthfaleaojlnnoaaY71
import Derived.KernelRfl
import Derived.Test.YthfaleaojlnnoaaY72
set_option linter.unusedSimpArgs false
set_option linter.unusedVariables false
section
namespace Go.Proofs.Ythfaleaojlnnoaa
namespace Pa
open Go Go.Sx Go.St
def spQ (N:Int) (u:Tr):Prop:=(u.l.map Tr.at_).Pairwise (· < ·)∧∀ x∈u.l.map Tr.at_,u.at_≤x∧x≤N
section
variable {ts:List Lx.Tok} {N:Int}
theorem jcj (hp:ts.Pairwise (fun a b=>a.pos<b.pos)) {i j:Int} (h0:0≤i) (hij:i<j) (hj:j<ts.length):posT ts i<posT ts j:=by
 have:=List.pairwise_iff_getElem.1 hp i.toNat j.toNat (by omega) (by omega) (by omega)
 unfold posT
 rw [List.getD_eq_getElem?_getD,ze (by omega),List.getD_eq_getElem?_getD,ze (by omega)]
 exact this
theorem jck (hp:ts.Pairwise (fun a b=>a.pos<b.pos)):∀ (l:List Tr) (i j:Int),SpL ts l i j→0≤i→j≤ts.length→
  (∀ x∈l.map Tr.at_,∃ m,i≤m∧m<j∧x=posT ts m)∧(l.map Tr.at_).Pairwise (· < ·)
 | [],_,_,_,_,_=>⟨fun x hx=>by simp at hx,List.Pairwise.nil⟩
 | t::r,i,j,h,h0,hj=>by
  obtain ⟨e,h1,h2⟩:=spL_cons.1 h
  have h3:=qlh h1
  have h4:=qlj _ _ _ h2
  obtain ⟨m,m1,m2,m3,_⟩:=qux h1
  obtain ⟨k1,k2⟩:=jck hp r e j h2 (by omega) hj
  rw [xp]
  refine ⟨fun x hx=>?_,List.pairwise_cons.2 ⟨fun x hx=>?_,k2⟩⟩
  ·rcases List.mem_cons.1 hx with rfl|hx
   ·exact ⟨m,m1,by omega,m3⟩
   ·obtain ⟨n,n1,n2,n3⟩:=k1 x hx
    exact ⟨n,by omega,n2,n3⟩
  ·obtain ⟨n,n1,n2,n3⟩:=k1 x hx
   rw [m3,n3]
   exact jcj hp (by omega) (by omega) (by omega)
mutual
theorem spT_Q (hp:ts.Pairwise (fun a b=>a.pos<b.pos)) (hN:∀ t∈ts,t.pos≤N):∀ (t:Tr) (i j:Int),SpT ts t i j→0≤i→j≤ts.length→t.allT (spQ N)
 | .mk k w n a l,i,j,h,h0,hj=>by
  obtain ⟨m,h1,h2,h3,h4⟩:=spT_mk.1 h
  obtain ⟨k1,k2⟩:=jck hp l m j h4 (by omega) hj
  refine qbm ⟨k2,fun x hx=>?_⟩ (spL_Q hp hN l m j h4 (by omega) hj)
  obtain ⟨q,q1,q2,q3⟩:=k1 x hx
  obtain ⟨t,ht,e⟩:=qnp (ts:=ts) (i:=q) (by omega) (by omega)
  have h5:=hN t ht
  refine ⟨?_,by omega⟩
  show a≤x
  rw [h3,q3]
  by_cases hmq:m=q
  ·rw [hmq];exact zk _
  ·exact Int.le_of_lt (jcj hp (by omega) (by omega) (by omega))
theorem spL_Q (hp:ts.Pairwise (fun a b=>a.pos<b.pos)) (hN:∀ t∈ts,t.pos≤N):∀ (l:List Tr) (i j:Int),SpL ts l i j→0≤i→j≤ts.length→Tr.allL (spQ N) l
 | [],_,_,_,_,_=>qcr
 | t::r,i,j,h,h0,hj=>by
  obtain ⟨e,h1,h2⟩:=spL_cons.1 h
  have h3:=qlh h1
  have h4:=qlj _ _ _ h2
  exact qcy (spT_Q hp hN t i e h1 h0 (by omega)) (spL_Q hp hN r e j h2 (by omega) hj)
end
end
end Pa
end Go.Proofs.Ythfaleaojlnnoaa
end
section
namespace Go.Proofs.Ythfaleaojlnnoaa
namespace Pa
open Go Go.Sx
def zP (p:Ps):Ps:={ p with fat:=0 }
mutual
def zT:Tr→Tr
 | .mk k w n _ l=>.mk k w n 0 (zL l)
def zL:List Tr→List Tr
 | []=>[]
 | t::r=>zT t::zL r
end
def zR (r:Tr × Ps):Tr × Ps:=(zT r.1,zP r.2)
theorem qvd (k:Int) (w:List (List UInt8)) (n:List Int) (a:Int) (l:List Tr):zT (.mk k w n a l)=.mk k w n 0 (zL l):=by rw [zT]
theorem qqp:zL []=[]:=by rw [zL]
theorem qqq (t:Tr) (r:List Tr):zL (t::r)=zT t::zL r:=by rw [zL]
section
variable (ts:List Lx.Tok)
section
variable {part part':Ps→Tr × Ps} (hp:∀ p,part' (zP p)=zR (part p))
include hp
end
end
end Pa
end Go.Proofs.Ythfaleaojlnnoaa
end
section
namespace Go.Proofs.Ythfaleaojlnnoaa
namespace Pa
open Go Go.Sx
section
variable (ts:List Lx.Tok)
end
end Pa
end Go.Proofs.Ythfaleaojlnnoaa
end
section
namespace Go.Proofs.Ythfaleaojlnnoaa
namespace Pa
open Go Go.Sx
def zN (n:Nd):Nd:={ n with at_:=0 }
mutual
theorem z_size:∀ t:Tr,(zT t).size=t.size
 | .mk k w n a l=>by rw [qvd,Tr.size,Tr.size,z_sizeL l]
theorem z_sizeL:∀ l:List Tr,Tr.sizeL (zL l)=Tr.sizeL l
 | []=>by rw [qqp]
 | t::r=>by rw [qqq,Tr.sizeL,Tr.sizeL,z_size t,z_sizeL r]
end
theorem jcl:∀ (n:Nat) (l:List Tr),qx n (zL l)=qx n l
 | n,[]=>by rw [qqp]
 | n,t::r=>by rw [qqq,qx,qx,z_size,jcl _ r]
mutual
theorem z_lay:∀ (n:Nat) (t:Tr),layT n (zT t)=(layT n t).map zN
 | n,.mk k w ns a l=>by rw [qvd,layT,layT,xp,jcl,z_layL (n+1) l];rfl
theorem z_layL:∀ (n:Nat) (l:List Tr),layL n (zL l)=(layL n l).map zN
 | n,[]=>by rw [qqp,layL];rfl
 | n,t::r=>by rw [qqq,layL,layL,List.map_append,z_size,z_lay n t,z_layL _ r]
end
mutual
theorem z_deep:∀ (t:Tr) (n:Int),t.allT (fun u=>0≤u.at_)→(0≤deepT (zT t) n↔0≤deepT t n)
 | .mk k w ns a l,n,h=>by
  rw [Tr.allT] at h
  have h1:0≤a:=h.1
  rw [qvd,deepT,deepT]
  split
  ·exact ⟨fun _=>h1,fun _=>zk _⟩
  ·exact z_deepL l n h.2
theorem z_deepL:∀ (l:List Tr) (n:Int),Tr.allL (fun u=>0≤u.at_) l→(0≤deepL (zL l) n↔0≤deepL l n)
 | [],n,_=>by rw [qqp]
 | t::r,n,h=>by
  rw [Tr.allL] at h
  have h1:=z_deep t (n+1) h.1
  have h2:=z_deepL r n h.2
  rw [qqq,deepL,deepL]
  by_cases h3:0≤deepT t (n+1)
  ·rw [zb (h1.2 h3),zb h3];exact h1
  ·rw [za (fun h=>h3 (h1.1 h)),za h3];exact h2
end
end Pa
end Go.Proofs.Ythfaleaojlnnoaa
end
section
namespace Go.Proofs.Ythfaleaojlnnoaa
namespace Pa
open Go Go.Sx
end Pa
end Go.Proofs.Ythfaleaojlnnoaa
end
section
namespace Go.Proofs.Ythfaleaojlnnoaa
namespace Pa
open Go Go.Sx
end Pa
end Go.Proofs.Ythfaleaojlnnoaa
end
section
namespace Go.Proofs.Ythfaleaojlnnoaa
namespace Pa
open Go Go.Sx
end Pa
end Go.Proofs.Ythfaleaojlnnoaa
end
section
namespace Go.Proofs.Ythfaleaojlnnoaa
open Go Go.Sx Go.RowKit Go.St Pa
set_option maxRecDepth 100000
set_option maxHeartbeats 4000000
theorem jpe (s:List UInt8):(qar s).1=[]∨∃ t:Tr,(qar s).1=layT 0 t∧t.size≤800:=by
 unfold qar
 split
 ·exact .inl rfl
 unfold qhq
 simp only
 split
 ·exact .inl rfl
 split
 ·exact .inl rfl
 rename_i h8
 split
 ·exact .inl rfl
 rw [lay_lenT] at h8
 exact .inr ⟨_,rfl,by omega⟩
theorem jpf {n:Nd} {c:Int} (h:qg n c=true):(n.words.length:Int)=c:=by
 unfold qg at h
 rw [zf,xn] at h
 exact h.2
theorem jpg {l:List Nd} {n:Nd} (hk:n.kids.length≤800) (h:qaa l n=true):n.words.length≤2∧n.nums.length≤4:=by
 rw [← qpx l n hk] at h
 unfold qni at h
 rw [zf,zf] at h
 have hw:=jpf h.1.1
 have hn:=h.1.2
 unfold jo at hn
 rw [zf,zo] at hn
 have hn:=hn.1
 constructor
 ·unfold cntW at hw
  split at hw
  ·omega
  split at hw <;> omega
 ·unfold bndF at hn
  repeat' (split at hn)
  all_goals (simp only [zq,List.length_nil] at hn;omega)
theorem jcm (s:List UInt8):(qar s).1.length≤800∧∀ nd∈(qar s).1,nd.words.length≤2∧nd.nums.length≤4∧nd.kids.length≤800:=by
 by_cases h:(qar s).2.1=0
 ·have hr:=qva h
  have ha:(qar s).1.all (qaa (qar s).1)=true:=by
   unfold qdm at hr
   rw [zf] at hr
   exact hr.2
  rcases jpe s with e|⟨t,e,ht⟩
  ·rw [e]
   exact ⟨xv _,fun nd hm=>absurd hm List.not_mem_nil⟩
  ·refine ⟨by rw [e,lay_lenT];omega,fun nd hm=>?_⟩
   have hk8:nd.kids.length≤800:=?_
   ·obtain ⟨h1,h2⟩:=jpg hk8 (List.all_eq_true.1 ha nd hm)
    exact ⟨h1,h2,hk8⟩
   rw [e] at hm
   obtain ⟨j,hj,rfl⟩:=List.getElem_of_mem hm
   rw [lay_lenT] at hj
   have:=kids_lenT 0 t j hj
   rw [List.getD_eq_getElem?_getD,ze (by rw [lay_lenT];exact hj)] at this
   exact xb this ht
 ·rw [qvb h]
  exact ⟨xv _,fun nd hm=>absurd hm List.not_mem_nil⟩
end Go.Proofs.Ythfaleaojlnnoaa
end
section
namespace Go.Proofs.Ythfaleaojlnnoaa
namespace Pa
open Go Go.Sx
def lexF:Nat→List UInt8→Nat→Except Nat (List Lx.Tok)
 | 0,_,p=>.error p
 | _+1,[],p=>.ok [⟨3,[],p⟩]
 | n+1,b::r,p=>if Lx.blankB b then lexF n r (p+1) else if Lx.slash2 (b::r) then lexF n (r.drop (Lx.lineN r)) (p+1+Lx.lineN r) else if Lx.firstN (b::r)=0 then .error p
  else (lexF n (r.drop (Lx.firstN (b::r) - 1)) (p+Lx.firstN (b::r))).map (⟨Lx.firstK (b::r),(b::r).take (Lx.firstN (b::r)),p⟩::·)
theorem qqr:∀ (n:Nat) (l:List UInt8) (p:Nat),l.length<n→lexF n l p=Lx.lexR l p
 | 0,_,_,h=>absurd h (zv _)
 | n+1,[],p,_=>by rw [Lx.lexR_nil];rfl
 | n+1,b::r,p,h=>by
  have hr:r.length<n:=by simpa using h
  rw [Lx.lexR_cons,lexF,qqr n r _ hr,qqr n (r.drop (Lx.lineN r)) _ (by rw [zr];omega),qqr n (r.drop (Lx.firstN (b::r) - 1)) _ (by rw [zr];omega)]
def qqs (s:List UInt8):List Nd × (Int × Int):=
 match lexF (s.length+1) s 0 with
 | .ok ts=>qhq ts
 | .error p=>([],(10,p))
theorem jcn {s:List UInt8} {r:List Nd × (Int × Int)} (h:qqs s=r) (hs:s.length≤4000):qar s=r:=by
 unfold qqs at h
 rw [qqr _ _ _ (Nat.lt_succ_self _)] at h
 have hn:¬ 4000<s.length:=by omega
 unfold qar Lx.lexAll
 split at h
 ·rename_i ts hts
  rw [hts,za hn]
  exact h
 ·rename_i p hp
  rw [hp,za hn]
  exact h
end Pa
end Go.Proofs.Ythfaleaojlnnoaa
end
section
namespace Go.Proofs.Ythfaleaojlnnoaa
open Go Go.Sx Go.RowKit Go.St Pa
set_option maxRecDepth 100000
set_option maxHeartbeats 8000000

def qve:List Nd:=[⟨0,[],[],[1],0⟩,⟨4,[],[],[2],0⟩,⟨22,[],[3],[3,4],5⟩,⟨18,[[120]],[],[],5⟩,⟨17,[],[1],[],9⟩]
noncomputable def D9:CE:=⟨Try.prog,tab Try.prog,fun _=>{ lit:=true }⟩
theorem qln:Con Try.prog 15 [qcv qve] (.bool true):=
 jhx (D:=D9) (fun _=>rfl) (by kernel_rfl) (n:=100000) (by kernel_rfl)
set_option maxHeartbeats 4000000
def qvf:List UInt8:=[115,97,102,101,32,120,32,60,32,49,59]
def qvg:List UInt8:=[115,97,102,101,32,120,32,60,32,49,32,60,32,50,59]
theorem px9:qqs qvf=(qve,(0,0)):=by kernel_rfl
theorem px9b:qqs qvg=([],(11,11)):=by kernel_rfl
theorem qlo:Con Try.prog 11 [.str qvf] (.tup [qcv qve,flt 0 0]):=by
 have h:=qvc qvf (by decide)
 rw [jcn px9 (by decide)] at h
 exact h
theorem qlp:Con Try.prog 11 [.str qvg] (.tup [qcv [],flt 11 11]):=by
 have h:=qvc qvg (by decide)
 rw [jcn px9b (by decide)] at h
 exact h
theorem qel:Con Try.prog 10 [] (.bool true):=by
 refine zK {} 300 Try.func10 (fun c0 rdb=>?_)
 (repeat' ((conv=>whnf);first|refine zA ?_|refine zO ?_|refine Ob.auto ?_|refine zC 300 (qlo) ?_|refine zG 300 (fun hg=>qlo) ?_|(refine CallY.con (qlo) (by rfl) leA ?_)|(refine CallZ.con (fun hg=>qlo) qn (by rfl) ?_)|refine zC 300 (qlp) ?_|refine zG 300 (fun hg=>qlp) ?_|(refine CallY.con (qlp) (by rfl) leA ?_)|(refine CallZ.con (fun hg=>qlp) qn (by rfl) ?_)|refine zC 300 (qln) ?_|refine zG 300 (fun hg=>qln) ?_|(refine CallY.con (qln) (by rfl) leA ?_)|(refine CallZ.con (fun hg=>qln) qn (by rfl) ?_)|(refine ql (fun _=>rfl) 300 (qlo) qc (by (repeat' (first|exact trivial|exact Le.refl _|(refine And.intro ?_ ?_))) <;> fail) (by rfl) (by kernel_rfl) ?_)|(refine qp (fun _=>rfl) 300 (fun hg=>qlo) (fun hg=>qc) (fun hg=>(by (repeat' (first|exact trivial|exact Le.refl _|exact Le.cnd hg|(refine And.intro ?_ ?_))) <;> fail)) (by rfl) (by kernel_rfl) ?_)|(refine ql (fun _=>rfl) 300 (qlp) qc (by (repeat' (first|exact trivial|exact Le.refl _|(refine And.intro ?_ ?_))) <;> fail) (by rfl) (by kernel_rfl) ?_)|(refine qp (fun _=>rfl) 300 (fun hg=>qlp) (fun hg=>qc) (fun hg=>(by (repeat' (first|exact trivial|exact Le.refl _|exact Le.cnd hg|(refine And.intro ?_ ?_))) <;> fail)) (by rfl) (by kernel_rfl) ?_)|(refine ql (fun _=>rfl) 300 (qln) qc (by (repeat' (first|exact trivial|exact Le.refl _|(refine And.intro ?_ ?_))) <;> fail) (by rfl) (by kernel_rfl) ?_)|(refine qp (fun _=>rfl) 300 (fun hg=>qln) (fun hg=>qc) (fun hg=>(by (repeat' (first|exact trivial|exact Le.refl _|exact Le.cnd hg|(refine And.intro ?_ ?_))) <;> fail)) (by rfl) (by kernel_rfl) ?_)|refine zD 300 ?_|(apply zB <;> intro hb <;> (try simp [-List.getD_eq_getElem?_getD] at hb) <;> try (exfalso;omega))|refine Ob.intro ?_ ?_))
 exact Le.refl _
end Go.Proofs.Ythfaleaojlnnoaa
end
