/- Some texts of the library, one behind the other. -/
import Derived.Test.YthfaleaojlnnoaaY1PgQ
import Derived.Test.YthfaleaojlnnoaaY18
import Derived.Test.YthfaleaojlnnoaaY1RgQ
import Derived.Test.YthfaleaojlnnoaaY1PcR
import Derived.Test.YthfaleaojlnnoaaY12
set_option linter.unusedSimpArgs false
set_option linter.unusedVariables false
section
namespace Go.Proofs.Ythfaleaojlnnoaa
namespace Pa
open Go Go.Sx Go.St
def spQ (N:Int) (u:Tr):Prop:=(u.l.map Tr.at_).Pairwise (· < ·)∧∀ x∈u.l.map Tr.at_,u.at_≤x∧x≤N
section
variable {ts:List Lx.Tok} {N:Int}
theorem qtr (hp:ts.Pairwise (fun a b=>a.pos<b.pos)) {i j:Int} (h0:0≤i) (hij:i<j) (hj:j<ts.length):posT ts i<posT ts j:=by
 have:=List.pairwise_iff_getElem.1 hp i.toNat j.toNat (by omega) (by omega) (by omega)
 unfold posT
 rw [List.getD_eq_getElem?_getD,ze (by omega),List.getD_eq_getElem?_getD,ze (by omega)]
 exact this
theorem qts (hp:ts.Pairwise (fun a b=>a.pos<b.pos)):∀ (l:List Tr) (i j:Int),SpL ts l i j→0≤i→j≤ts.length→
  (∀ x∈l.map Tr.at_,∃ m,i≤m∧m<j∧x=posT ts m)∧(l.map Tr.at_).Pairwise (· < ·)
 | [],_,_,_,_,_=>⟨fun x hx=>by simp at hx,List.Pairwise.nil⟩
 | t::r,i,j,h,h0,hj=>by
  obtain ⟨e,h1,h2⟩:=spL_cons.1 h
  have h3:=qki h1
  have h4:=qkk _ _ _ h2
  obtain ⟨m,m1,m2,m3,_⟩:=qtl h1
  obtain ⟨k1,k2⟩:=qts hp r e j h2 (by omega) hj
  rw [xi]
  refine ⟨fun x hx=>?_,List.pairwise_cons.2 ⟨fun x hx=>?_,k2⟩⟩
  ·rcases List.mem_cons.1 hx with rfl|hx
   ·exact ⟨m,m1,by omega,m3⟩
   ·obtain ⟨n,n1,n2,n3⟩:=k1 x hx
    exact ⟨n,by omega,n2,n3⟩
  ·obtain ⟨n,n1,n2,n3⟩:=k1 x hx
   rw [m3,n3]
   exact qtr hp (by omega) (by omega) (by omega)
mutual
theorem spT_Q (hp:ts.Pairwise (fun a b=>a.pos<b.pos)) (hN:∀ t∈ts,t.pos≤N):∀ (t:Tr) (i j:Int),SpT ts t i j→0≤i→j≤ts.length→t.allT (spQ N)
 | .mk k w n a l,i,j,h,h0,hj=>by
  obtain ⟨m,h1,h2,h3,h4⟩:=spT_mk.1 h
  obtain ⟨k1,k2⟩:=qts hp l m j h4 (by omega) hj
  refine qbd ⟨k2,fun x hx=>?_⟩ (spL_Q hp hN l m j h4 (by omega) hj)
  obtain ⟨q,q1,q2,q3⟩:=k1 x hx
  obtain ⟨t,ht,e⟩:=qkm (ts:=ts) (i:=q) (by omega) (by omega)
  have h5:=hN t ht
  refine ⟨?_,by omega⟩
  show a≤x
  rw [h3,q3]
  by_cases hmq:m=q
  ·rw [hmq];exact zm _
  ·exact Int.le_of_lt (qtr hp (by omega) (by omega) (by omega))
theorem spL_Q (hp:ts.Pairwise (fun a b=>a.pos<b.pos)) (hN:∀ t∈ts,t.pos≤N):∀ (l:List Tr) (i j:Int),SpL ts l i j→0≤i→j≤ts.length→Tr.allL (spQ N) l
 | [],_,_,_,_,_=>qck
 | t::r,i,j,h,h0,hj=>by
  obtain ⟨e,h1,h2⟩:=spL_cons.1 h
  have h3:=qki h1
  have h4:=qkk _ _ _ h2
  exact qco (spT_Q hp hN t i e h1 h0 (by omega)) (spL_Q hp hN r e j h2 (by omega) hj)
end
end
theorem jmq (s:List UInt8):∀ nd∈(jr s).1,(nd.kids.map (fun k=>((jr s).1.getD k.toNat nd0).at_)).Pairwise (· < ·) ∧
  ∀ x∈nd.kids.map (fun k=>((jr s).1.getD k.toNat nd0).at_),nd.at_≤x∧x≤s.length:=by
 by_cases h:(jr s).2.1=0
 ·intro nd hm
  have key:∃ t:Tr,(jr s).1=layT 0 t∧t.allT (spQ s.length):=by
   unfold jr at h ⊢
   split at h
   ·rename_i hn
    exact absurd h hn
   rename_i hn
   rw [za hn]
   have he:(Lx.lexAll s).2.1=0:=Classical.byContradiction hn
   have hp:=qto he
   obtain ⟨ht,h0⟩:=qot he
   generalize (Lx.lexAll s).1=ts at hp ht h0 h ⊢
   have hA:AtOk ts ⟨0,0,0,0⟩:=⟨zm _,by simp only;omega⟩
   unfold qfz at h ⊢
   simp only at h ⊢
   split at h
   ·rename_i hx
    exact absurd h hx
   rename_i hx
   rw [za hx]
   have hx:(qad ts ⟨0,0,0,0⟩).2.err=0:=Classical.byContradiction hx
   split at h
   ·simp at h
   rename_i h8
   rw [za h8]
   split at h
   ·simp at h
   rename_i hd
   rw [za hd]
   obtain ⟨l,j,e,hs,hj⟩:=qtn ht hA hx
   refine ⟨_,rfl,?_⟩
   rw [e]
   obtain ⟨k1,k2⟩:=qts hp.2 l 0 j hs (zm _) (by omega)
   refine qbd ⟨k2,fun x hx=>?_⟩ (spL_Q hp.2 (fun t hm=>(hp.1 t hm).2) l 0 j hs (zm _) (by omega))
   obtain ⟨q,q1,q2,q3⟩:=k1 x hx
   obtain ⟨t,ht,e2⟩:=qkm (ts:=ts) (i:=q) (by omega) (by omega)
   have h5:=(hp.1 t ht).2
   refine ⟨?_,by omega⟩
   show posT ts 0≤x
   rw [q3]
   by_cases hmq:q=0
   ·rw [hmq];exact zm _
   ·exact Int.le_of_lt (qtr hp.2 (by omega) (by omega) (by omega))
  obtain ⟨t,e,ha⟩:=key
  rw [e] at hm ⊢
  obtain ⟨u,hu,ho⟩:=layT_of (layT 0 t) t 0 [] [] (by simp) rfl ha nd hm
  have hk:=congrArg (List.map Prod.snd) ho.kids
  rw [List.map_map,List.map_map] at hk
  have hk:nd.kids.map (fun k=>((layT 0 t).getD k.toNat nd0).at_)=u.l.map Tr.at_:=hk
  rw [hk,ho.at_]
  exact hu
 ·rw [jai h]
  intro nd hm
  simp at hm
end Pa
end Go.Proofs.Ythfaleaojlnnoaa
end
section
namespace Go.Proofs.Ythfaleaojlnnoaa
namespace Pa
open Go Go.Sx
def zP (p:Ps):Ps:={ p with fat:=0 }
mutual
def zT:Tr→Tr
 | .mk k w n _ l=>.mk k w n 0 (zL l)
def zL:List Tr→List Tr
 | []=>[]
 | t::r=>zT t::zL r
end
def zR (r:Tr × Ps):Tr × Ps:=(zT r.1,zP r.2)
theorem qtt (k:Int) (w:List (List UInt8)) (n:List Int) (a:Int) (l:List Tr):zT (.mk k w n a l)=.mk k w n 0 (zL l):=by rw [zT]
theorem qpm:zL []=[]:=by rw [zL]
theorem qpn (t:Tr) (r:List Tr):zL (t::r)=zT t::zL r:=by rw [zL]
section
variable (ts:List Lx.Tok)
section
variable {part part':Ps→Tr × Ps} (hp:∀ p,part' (zP p)=zR (part p))
include hp
end
end
end Pa
end Go.Proofs.Ythfaleaojlnnoaa
end
section
namespace Go.Proofs.Ythfaleaojlnnoaa
namespace Pa
open Go Go.Sx
section
variable (ts:List Lx.Tok)
end
end Pa
end Go.Proofs.Ythfaleaojlnnoaa
end
section
namespace Go.Proofs.Ythfaleaojlnnoaa
namespace Pa
open Go Go.Sx
def zN (n:Nd):Nd:={ n with at_:=0 }
mutual
theorem z_size:∀ t:Tr,(zT t).size=t.size
 | .mk k w n a l=>by rw [qtt,Tr.size,Tr.size,z_sizeL l]
theorem z_sizeL:∀ l:List Tr,Tr.sizeL (zL l)=Tr.sizeL l
 | []=>by rw [qpm]
 | t::r=>by rw [qpn,Tr.sizeL,Tr.sizeL,z_size t,z_sizeL r]
end
theorem jal:∀ (n:Nat) (l:List Tr),qt n (zL l)=qt n l
 | n,[]=>by rw [qpm]
 | n,t::r=>by rw [qpn,qt,qt,z_size,jal _ r]
mutual
theorem z_lay:∀ (n:Nat) (t:Tr),layT n (zT t)=(layT n t).map zN
 | n,.mk k w ns a l=>by rw [qtt,layT,layT,xi,jal,z_layL (n+1) l];rfl
theorem z_layL:∀ (n:Nat) (l:List Tr),layL n (zL l)=(layL n l).map zN
 | n,[]=>by rw [qpm,layL];rfl
 | n,t::r=>by rw [qpn,layL,layL,List.map_append,z_size,z_lay n t,z_layL _ r]
end
mutual
theorem z_deep:∀ (t:Tr) (n:Int),t.allT (fun u=>0≤u.at_)→(0≤deepT (zT t) n↔0≤deepT t n)
 | .mk k w ns a l,n,h=>by
  rw [Tr.allT] at h
  have h1:0≤a:=h.1
  rw [qtt,deepT,deepT]
  split
  ·exact ⟨fun _=>h1,fun _=>zm _⟩
  ·exact z_deepL l n h.2
theorem z_deepL:∀ (l:List Tr) (n:Int),Tr.allL (fun u=>0≤u.at_) l→(0≤deepL (zL l) n↔0≤deepL l n)
 | [],n,_=>by rw [qpm]
 | t::r,n,h=>by
  rw [Tr.allL] at h
  have h1:=z_deep t (n+1) h.1
  have h2:=z_deepL r n h.2
  rw [qpn,deepL,deepL]
  by_cases h3:0≤deepT t (n+1)
  ·rw [zb (h1.2 h3),zb h3];exact h1
  ·rw [za (fun h=>h3 (h1.1 h)),za h3];exact h2
end
end Pa
end Go.Proofs.Ythfaleaojlnnoaa
end
section
namespace Go.Proofs.Ythfaleaojlnnoaa
namespace Pa
open Go Go.Sx
end Pa
end Go.Proofs.Ythfaleaojlnnoaa
end
section
namespace Go.Proofs.Ythfaleaojlnnoaa
namespace Pa
open Go Go.Sx
end Pa
end Go.Proofs.Ythfaleaojlnnoaa
end
section
namespace Go.Proofs.Ythfaleaojlnnoaa
namespace Pa
open Go Go.Sx
end Pa
end Go.Proofs.Ythfaleaojlnnoaa
end
section
namespace Go.Proofs.Ythfaleaojlnnoaa
open Go Go.Sx Go.RowKit Go.St Pa
set_option maxRecDepth 100000
set_option maxHeartbeats 4000000
theorem jam (s:List UInt8):(jr s).1=[]∨∃ t:Tr,(jr s).1=layT 0 t∧t.size≤800:=by
 unfold jr
 split
 ·exact .inl rfl
 unfold qfz
 simp only
 split
 ·exact .inl rfl
 split
 ·exact .inl rfl
 rename_i h8
 split
 ·exact .inl rfl
 rw [lay_lenT] at h8
 exact .inr ⟨_,rfl,by omega⟩
theorem jmr {n:Nd} {c:Int} (h:qj n c=true):(n.words.length:Int)=c:=by
 unfold qj at h
 rw [zf,xr] at h
 exact h.2
theorem jms {l:List Nd} {n:Nd} (hk:n.kids.length≤800) (h:qaw l n=true):n.words.length≤2∧n.nums.length≤4:=by
 rw [← jic l n hk] at h
 unfold qxx at h
 rw [zf,zf] at h
 have hw:=jmr h.1.1
 have hn:=h.1.2
 unfold jv at hn
 rw [zf,zw] at hn
 have hn:=hn.1
 constructor
 ·unfold cntW at hw
  split at hw
  ·omega
  split at hw <;> omega
 ·unfold bndF at hn
  repeat' (split at hn)
  all_goals (simp only [zo,List.length_nil] at hn;omega)
theorem jmt (s:List UInt8):(jr s).1.length≤800∧∀ nd∈(jr s).1,nd.words.length≤2∧nd.nums.length≤4∧nd.kids.length≤800:=by
 by_cases h:(jr s).2.1=0
 ·have hr:=jmk h
  have ha:(jr s).1.all (qaw (jr s).1)=true:=by
   unfold qss at hr
   rw [zf] at hr
   exact hr.2
  rcases jam s with e|⟨t,e,ht⟩
  ·rw [e]
   exact ⟨xt _,fun nd hm=>absurd hm List.not_mem_nil⟩
  ·refine ⟨by rw [e,lay_lenT];omega,fun nd hm=>?_⟩
   have hk8:nd.kids.length≤800:=?_
   ·obtain ⟨h1,h2⟩:=jms hk8 (List.all_eq_true.1 ha nd hm)
    exact ⟨h1,h2,hk8⟩
   rw [e] at hm
   obtain ⟨j,hj,rfl⟩:=List.getElem_of_mem hm
   rw [lay_lenT] at hj
   have:=kids_lenT 0 t j hj
   rw [List.getD_eq_getElem?_getD,ze (by rw [lay_lenT];exact hj)] at this
   exact zy this ht
 ·rw [jai h]
  exact ⟨xt _,fun nd hm=>absurd hm List.not_mem_nil⟩
theorem qoe {l:List Nd} {i:Nat} (hi:i<l.length):l.getD i nd0∈l:=by
 rw [List.getD_eq_getElem?_getD,ze hi]
 exact xa hi
end Go.Proofs.Ythfaleaojlnnoaa
end
